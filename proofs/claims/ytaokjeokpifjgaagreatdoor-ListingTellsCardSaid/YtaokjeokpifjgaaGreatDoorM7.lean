/-
  Texts of this claim, one behind the other: VrKV VrNV VrRV VrUV VrPV VrDV VrLV VrMV VrWV SeRV RcCV RcDV VrXV LsAV LsBV LsCV LsDV LsNpV LsTV VrYV LsHV LsWV LsRwV LsIV LsPV LsKV LsLV LsFrV LsGV LsTkV LsGwV LsDtV LsDuV LsMV LsPlV LsGxV.
-/
import Derived.Test.YtaokjeokpifjgaaGreatDoorM6
import Derived.Lib.BufferRead
open Go.Proofs.Tryz
set_option maxRecDepth 100000
set_option maxHeartbeats 8000000
namespace Go.Proofs.YtaokjeokpifjgaaGreatDoor
section
open Go.RowKit Go.MapKept
attribute [local go_sem] yo yg
def zE(b item:QB)(id:Nat):QB:=yO 118 [b,item]++xH id
theorem zDa(k:UInt8)(b item:QB):(yO k [b,item]).size=b.size+item.size+3:=by
 rw[vS]
 unfold xI
 simp
 omega
theorem zDt(b item:QB)(id:Nat):(zE b item id).size=b.size+item.size+11:=by
 unfold zE
 rw[ByteArray.size_append,zDa,km]
theorem zEm(b item:QB)(hb:zf b=true∧b.size≤1000)(hi:zf item=true∧item.size≤1000)(k:UInt8)(u:World):Calls prog 107 #[.int .u8 k.toNat,.slice (some ⟨u.heap.size,0,none⟩) 2 2] (u.alloc (.cells #[.string b,.string item] 9)) fun e w'=>e= .returned (.string (yO k [b,item]))∧Below (u.alloc (.cells #[.string b,.string item] 9)).heap.size (u.alloc (.cells #[.string b,.string item] 9)) w':=zBW (w:=u.alloc (.cells #[.string b,.string item] 9)) (b:=u.heap.size) (c:=2) (ps:=[b,item]) (n:=2) rfl (fun j hj=>by match j,hj with|0,_=>exact Qc (qH u _) 0|1,_=>exact Qc (qH u _) 1) (by simp) (fun p hp=>by rcases List.mem_cons.1 hp with e|e;(·rw[e];exact hb);·rw[List.mem_singleton.1 e];exact hi) (by omega) k
theorem zEn(b item:QB)(hb:zK b=true)(hi:zP item=true)(id:Nat)(hid:id<18446744073709551616)(w:World):Calls prog 112 #[.string b,.string item,.int .u64 id] w fun e w'=>e= .returned (.string (zE b item id))∧Below w.heap.size w w':=by
 obtain⟨b0,b1⟩:=yc hb
 obtain⟨i0,i1⟩:=zg hi
 have HB:=Hd (vI b)
 have HI:=Hd (zCj item)
 rw[hb]at HB
 rw[hi]at HI
 have HU:=Hd (fun(u:World)=>show Calls prog 107 #[.int .u8 118,.slice (some ⟨u.heap.size,0,none⟩) 2 2] (u.alloc (.cells #[.string b,.string item] 9)) _ from zEm b item ⟨b0,by omega⟩ ⟨i0,by omega⟩ 118 u)
 have HF:=Hd (zLP id hid)
 have hcat:=fun u=>run_string_add_sum (P:=prog) u (yO 118 [b,item]) (xH id) (by rw[zDa,km];omega)
 have HC:=Hd hcat
 unfold zE
 generalize yO 118 [b,item]=k at*
 generalize xH id=f at*
 clear hb hi b0 b1 i0 i1
 go_enter func112,ntmps112
 go_wp2_with(first|(go_at_call 85;refine(HB.out _).mono ?_;rintro e w1⟨rfl,hb1⟩;have HB1:=Hd hb1;clear hb1)|(go_at_call 101;refine(HI.out _).mono ?_;rintro e w2⟨rfl,rfl⟩)|(go_at_call 107;refine(HU.out _).mono ?_;rintro e w3⟨rfl,hb3⟩;have HB3:=Hd (HB1.out.trans (((qA).trans (hb3.mono (by simp))).mono HB1.out.size));clear hb3)|(go_at_call 178;refine(HF.out _).mono ?_;rintro e w4⟨rfl,hb4⟩;have HB4:=Hd (qT HB3.out hb4);clear hb4))
 go_ret
 exact⟨rfl,HB4.out⟩
def zIJ:QB:=⟨#[98,110,104,104]⟩
def zBH(how born size page:Nat):QB:=packed zIJ [(how,eS),(born,eS),(size,eS),(page,eS)]
theorem zEo{how born size page:Nat}(h1:how<256)(h2:born<18446744073709551616)(h3:size<4294967296)(h4:page<4294967296):Fields zIJ [(how,eS),(born,eS),(size,eS),(page,eS)]:=by
 refine⟨rfl,by show 4≤64;decide,fun i hi=> ?_,fun i hi=> ?_⟩
 ·match i,hi with|0,_=>exact .inl ⟨by decide,rfl,h1⟩|1,_=>exact .inl ⟨by decide,rfl,h2⟩|2,_=>exact .inl ⟨by decide,rfl,h3⟩|3,_=>exact .inl ⟨by decide,rfl,h4⟩
 ·match i,hi with|0,_=>intro e;exact absurd e (by decide)|1,_=>intro e;exact absurd e (by decide)|2,_=>intro e;exact absurd e (by decide)|3,_=>intro e;exact absurd e (by decide)
theorem zFy(w:World):Calls prog 150 #[.string zIJ] w fun e w'=>e= .returned (.bool true)∧Below w.heap.size w w':=vw zIJ zIJ (by decide) (by decide) (by decide) (by decide) w
theorem zLW(how born size page:Nat):(zBH how born size page).size=17:=by
 show(yf zIJ _ 4).toArray.size=17
 rw[List.size_toArray,zU,zU,zU,zU,vF,List.nil_append,Ql,Ql,Ql]
 show(beW 1 how 1).length+(beW 8 born 8).length+(beW 4 size 4).length+(beW 4 page 4).length=17
 rw[zO,zO,zO,zO]
def vC(b item:QB)(id:Nat)(pl mk:Bool)(born size page:Nat):Array Value:= #[.string b,.string item,.int .u64 id,.bool pl,.bool mk,.int .u64 born,.int .i64 size,.int .i64 page]
def vZ:Array Value:= #[.string ⟨#[]⟩,.string ⟨#[]⟩,.int .u64 0,.bool false,.bool false,.int .u64 0,.int .i64 0,.int .i64 0]
def xy(pl mk:Bool):Nat:=(if pl then 1 else 0)+(if mk then 2 else 0)
theorem zAV{w:World}{b T:Nat}{c0 c1 c2 c3 c4 c5 c6 c7:Value}(h:w.heap[b]? =some (.cells #[c0,c1,c2,c3,c4,c5,c6,c7] T (0,0))):(w.cell? ⟨b,0,none⟩=some c0∧w.cell? ⟨b,1,none⟩=some c1∧w.cell? ⟨b,2,none⟩=some c2∧w.cell? ⟨b,3,none⟩=some c3∧w.cell? ⟨b,4,none⟩=some c4∧w.cell? ⟨b,5,none⟩=some c5∧w.cell? ⟨b,6,none⟩=some c6∧w.cell? ⟨b,7,none⟩=some c7)∧(w.frozen? ⟨b,0,none⟩=false∧w.frozen? ⟨b,1,none⟩=false∧w.frozen? ⟨b,2,none⟩=false∧w.frozen? ⟨b,3,none⟩=false∧w.frozen? ⟨b,4,none⟩=false∧w.frozen? ⟨b,5,none⟩=false∧w.frozen? ⟨b,6,none⟩=false∧w.frozen? ⟨b,7,none⟩=false):=⟨⟨Qc h 0,Qc h 1,Qc h 2,Qc h 3,Qc h 4,Qc h 5,Qc h 6,Qc h 7⟩,by simp[World.frozen?,h],by simp[World.frozen?,h],by simp[World.frozen?,h],by simp[World.frozen?,h],by simp[World.frozen?,h],by simp[World.frozen?,h],by simp[World.frozen?,h],by simp[World.frozen?,h]⟩
def zBe(w:World)(b:Nat)(c0 c1 c2 c3 c4 c5 c6 c7:Value):World:=(((((((w.setCell ⟨b,0,none⟩ c0).setCell ⟨b,1,none⟩ c1).setCell ⟨b,2,none⟩ c2).setCell ⟨b,3,none⟩ c3).setCell ⟨b,4,none⟩ c4).setCell ⟨b,5,none⟩ c5).setCell ⟨b,6,none⟩ c6).setCell ⟨b,7,none⟩ c7
theorem yV{w:World}{b T:Nat}{a0 a1 a2 a3 a4 a5 a6 a7:Value}(h:w.heap[b]? =some (.cells #[a0,a1,a2,a3,a4,a5,a6,a7] T (0,0)))(c0 c1 c2 c3 c4 c5 c6 c7:Value):(zBe w b c0 c1 c2 c3 c4 c5 c6 c7).heap[b]? =some (.cells #[c0,c1,c2,c3,c4,c5,c6,c7] T (0,0)):=by
 exact zTn
theorem xO(w:World)(b:Nat)(c0 c1 c2 c3 c4 c5 c6 c7:Value):Keep (fun k=>k=b) w (zBe w b c0 c1 c2 c3 c4 c5 c6 c7):=((((((((Keep.refl (fun k=>k=b) w).setCell (p:=⟨b,0,none⟩) (fun _=>rfl) _).setCell (p:=⟨b,1,none⟩) (fun _=>rfl) _).setCell (p:=⟨b,2,none⟩) (fun _=>rfl) _).setCell (p:=⟨b,3,none⟩) (fun _=>rfl) _).setCell (p:=⟨b,4,none⟩) (fun _=>rfl) _).setCell (p:=⟨b,5,none⟩) (fun _=>rfl) _).setCell (p:=⟨b,6,none⟩) (fun _=>rfl) _).setCell (p:=⟨b,7,none⟩) (fun _=>rfl) _
theorem zAs{w0 w:World}{b B:Nat}(h:Below B w0 w)(hb:B≤b)(c0 c1 c2 c3 c4 c5 c6 c7:Value):Below B w0 (zBe w b c0 c1 c2 c3 c4 c5 c6 c7):=(((((((h.setCell (p:=⟨b,0,none⟩) hb _).setCell (p:=⟨b,1,none⟩) hb _).setCell (p:=⟨b,2,none⟩) hb _).setCell (p:=⟨b,3,none⟩) hb _).setCell (p:=⟨b,4,none⟩) hb _).setCell (p:=⟨b,5,none⟩) hb _).setCell (p:=⟨b,6,none⟩) hb _).setCell (p:=⟨b,7,none⟩) hb _
theorem zFz(br:Nat)(w:World):Calls prog 108 #[.pointer (some ⟨br,0,none⟩)] w fun e w'=>e= .returned (.pointer (some ⟨w.heap.size,0,none⟩))∧w'=w.alloc (.cells #[.pointer (some ⟨br,0,none⟩),.int .i64 4] 242):=by
 have HT:=Hd (show∀u:World,Calls prog 83 #[.pointer (some ⟨br,0,none⟩),.int .i64 4] u fun e w'=>e= .returned (.pointer (some ⟨u.heap.size,0,none⟩))∧u.alloc (.cells #[.pointer (some ⟨br,0,none⟩),.int .i64 4] 242)=w' from fun u=>(kN br 4 u).mono fun e w'⟨a,b⟩=>⟨a,b.symm⟩)
 go_enter func108,ntmps108
 exact zTf
section
variable {w : World} {sb : Nat} {s : Sto} {D : Dict} {nz : Nat} {b item : QB}
theorem zTo{p:Prop}(h:p:=by clear hwx;obtain⟨xb,hxb⟩:=qN w.heap.size;have HXb:=Hd hxb;rw[hxb]at HX0⊢;clear hxb;have HXl:=Hd (show xb<wx.heap.size from(Gl HX0.out));refine(HW1.out wx).mono ?_;rintro e w4⟨rfl,hb4⟩;have HB4:=Hd (show Below wx.heap.size wx w4 from(qA).trans (hb4.mono (by simp)));clear hb4;have HB5:=Hd (qT HB0.out HB4.out);have HX5:=Hd ((HB4.out.block xb HXl.out).trans HX0.out);(have hnx:¬s.foot xb:=fun e=>by exact zQx);have HNx:=Hd hnx;clear hnx;go_wp2_with(fail);obtain⟨S,HS⟩:=mkS (Keep (fun g=>s.foot g) (w4));have FR:=Hd (fun u(hu:S u)=>have hu:=(HS.out u).1 hu;have o09:=zAV (hu.at HX5.out HNx.out);o09);refine rgw 12 [tR 0,tR 2,tR 3,tR 4,tR 5,tR 6,tR 7,tR 9,tD 1,tD 8,tD 10,tR 11] HS (Keep.refl _ _).drew ?_;(iterate 8 refine rd1 ?_);refine doH ?_;intro K hK;go_simp;go_at_call 108;refine(HM.out _).mono ?_;rintro e w6⟨rfl,hw6⟩;(have hb6:Below w4.heap.size w4 w6:=by exact zTm);have HT6:=Hd (show w6.heap[w4.heap.size]? =some (.cells #[.pointer (some ⟨s.br,0,none⟩),.int .i64 4] 242 (0,0))by rw[hw6];exact qH w4.drew _);have HB6:=Hd hb6;refine hK _ _ ((HS.out _).2 (Keep.ofBelow hb6)) ?_;clear hK K hw6 hb6;refine doH ?_;intro K hK;go_simp;go_at_call 112;refine(HK.out _).mono ?_;rintro e w7⟨rfl,hb7⟩;have hb7':=qT HB6.out hb7;have HT7:=Hd (qB hb7 HT6.out);have HB7:=Hd hb7';refine hK _ _ ((HS.out _).2 (Keep.ofBelow hb7')) ?_;clear hK K hb7 hb7';refine doH ?_;intro K hK;go_simp;go_at_call 92;have hb8:=qT HB5.out HB7.out;refine(HP.out w7 w4.heap.size (HSt.out.still hb8) ⟨HT7.out⟩ (fun e=>by have:=HAh.out.2.2.2 _ e;have:=HB5.out.size;omega)).mono ?_;rintro e w8⟨rfl,s',hx,hk1,hk2,hk3⟩;have HX8:=Hd (hx.after hb8);have HK8:=Hd (And.intro hk1 (And.intro hk2 hk3));refine hK _ _ ((HS.out _).2 ((Keep.ofBelow HB7.out).trans hx.step.keep (fun _ _ e=>e))) ?_;clear hK K hb8 hx hk1 hk2 hk3;refine rd1 ?_;refine zl ?_;clear FR;clear S HS;go_wp2;go_ret;exact⟨rfl,s',HX8.out,HK8.out⟩):p:=h
theorem zNK(h:StAt w sb s D nz)(hn:nz≤1900∧8*nz+300≤s.R.pages)(hb:zK b=true)(hi:zP item=true)(mk:Bool){id born size page:Nat}(h0:id<18446744073709551616)(h2:born<18446744073709551616)(h3:size<4294967296)(h4:page<4294967296):Calls prog 106 #[.pointer (some ⟨s.br,0,none⟩),.agg (vC b item id false mk born size page)] w fun e w'=>e= .returned (.int .i64 0)∧∃s',XStep w s D sb (nz+1) w' s'∧s'.X.kvM=ins s.X.kvM (zE b item id) (zBH (xy false mk) born size page)∧s'.X.vb=s.X.vb∧s'.X.next=s.X.next:=by
 have hks:=zDt b item id
 have hns:=(yc hb).2
 have his:=(zg hi).2
 unfold vC
 have hb0:Below w.heap.size w (w.alloc (.cells #[.string b,.string item,.int .u64 id,.bool false,.bool mk,.int .u64 born,.int .i64 size,.int .i64 page] 38)):=qA
 have hx0:=qH w (.cells #[.string b,.string item,.int .u64 id,.bool false,.bool mk,.int .u64 born,.int .i64 size,.int .i64 page] 38)
 have HB0:=Hd hb0
 have HX0:=Hd hx0
 have hhow:xy false mk<256:=by unfold xy;cases mk<;>decide
 have HWr:=Hd (fun(u:World)fb c hfs=>vG (zEo hhow h2 h3 h4) zFy (w:=u) (fb:=fb) (c:=c) hfs)
 have hv:packed zIJ [(xy false mk,eS),(born,eS),(size,eS),(page,eS)]=zBH (xy false mk) born size page:=rfl
 rw[hv]at HWr
 have HK:=Hd (zEn b item hb hi id h0)
 have HM:=Hd (zFz s.br)
 have HP:=Hd (fun(u:World)tb(hu:StAt u sb s D nz)(ht:TreeAt u tb s.br 4)(hf:¬s.foot tb)=>hu.meta_put hn ht hf (key:=zE b item id) (val:=zBH (xy false mk) born size page) (by omega) (by rw[zLW];decide))
 have HSt:=Hd h
 have HAh:=Hd h.ahead
 have p3:IntKind.u64.wrap (size:Int)=(size:Int):=by rw[IntKind.wrap_u64];omega
 have p4:IntKind.u64.wrap (page:Int)=(page:Int):=by rw[IntKind.wrap_u64];omega
 have o1:bits .or .i64 0 1=1:=by decide
 have o2:bits .or .i64 0 2=2:=by decide
 have o3:bits .or .i64 1 2=3:=by decide
 have HN:=Hd hn
 clear h hb0 hx0 hv hks hns his hb hi hhow hn
 obtain⟨bk,hbk⟩:=qN (zE b item id)
 obtain⟨bt,hbt⟩:=qN (zBH (xy false mk) born size page)
 rw[hbk]at HK HP⊢
 rw[hbt]at HWr HP⊢
 clear hbk hbt
 have hw1:∀u:World,FldsAt (u.alloc (.cells #[.int .u64 (xy false mk:Nat),.string ⟨#[]⟩,.int .u64 born,.string ⟨#[]⟩,.int .u64 size,.string ⟨#[]⟩,.int .u64 page,.string ⟨#[]⟩] 182)) u.heap.size [(xy false mk,eS),(born,eS),(size,eS),(page,eS)]:=fun u=>⟨by simp,fun j hj=>by match j,hj with|0,_=>exact⟨Qc (qH u _) 0,Qc (qH u _) 1⟩|1,_=>exact⟨Qc (qH u _) 2,Qc (qH u _) 3⟩|2,_=>exact⟨Qc (qH u _) 4,Qc (qH u _) 5⟩|3,_=>exact⟨Qc (qH u _) 6,Qc (qH u _) 7⟩⟩
 have HW1:=Hd (fun u:World=>show Calls prog 90 #[.string ⟨#[98,110,104,104]⟩,.slice (some ⟨u.heap.size,0,none⟩) 4 4] (u.alloc (.cells #[.int .u64 (xy false mk:Nat),.string ⟨#[]⟩,.int .u64 born,.string ⟨#[]⟩,.int .u64 size,.string ⟨#[]⟩,.int .u64 page,.string ⟨#[]⟩] 182)) _ from HWr.out _ u.heap.size 4 (hw1 u))
 clear HWr hw1
 obtain⟨z,hz⟩:∃z:Int,((xy false mk:Nat):Int)=z:=⟨_,rfl⟩
 rw[hz]at HW1
 cases mk with|true=>simp[xy]at hz;subst hz;go_enter func106,ntmps106;go_wp2_with(fail);have hzx:=World.size_alloc w (.cells #[.string b,.string item,.int .u64 id,.bool false,.bool true,.int .u64 born,.int .i64 size,.int .i64 page] 38);rw[←hzx];clear hzx;generalize hwx:w.alloc (.cells #[.string b,.string item,.int .u64 id,.bool false,.bool true,.int .u64 born,.int .i64 size,.int .i64 page] 38)=wx at*;exact zTo|false=>simp[xy]at hz;subst hz;go_enter func106,ntmps106;go_wp2_with(fail);have hzx:=World.size_alloc w (.cells #[.string b,.string item,.int .u64 id,.bool false,.bool false,.int .u64 born,.int .i64 size,.int .i64 page] 38);rw[←hzx];clear hzx;generalize hwx:w.alloc (.cells #[.string b,.string item,.int .u64 id,.bool false,.bool false,.int .u64 born,.int .i64 size,.int .i64 page] 38)=wx at*;exact zTo
end
def vB:QB:=⟨#[118]⟩
theorem zBn(b item:QB)(id:Nat):zE b item id=vB++(b++zB++(item++zB++xH id)):=by
 apply ByteArray.ext
 apply Array.toList_inj.1
 unfold zE yO xI vB zB
 simp
theorem zTp{p:Prop}(h:p:=by rw[ByteArray.data_extract,Array.toList_extract,List.extract_eq_take_drop,hd,h2];simp[Qk]):p:=h
theorem zNL(r:QB):(vB++r).extract 1 (vB++r).size=r∧(vB++r).size=1+r.size∧Lib.hasPrefix (vB++r).data.toList vB.data.toList=true:=by
 have hs:(vB++r).size=1+r.size:=by rw[ByteArray.size_append];rfl
 have hd:(vB++r).data.toList=118::r.data.toList:=by unfold vB;simp
 refine⟨?_,hs,?_⟩
 ·apply ByteArray.ext;apply Array.toList_inj.1;(have h2:(vB++r).size-1=r.data.toList.length:=by rw[hs];simp);exact zTp
 ·rw[hd];unfold Lib.hasPrefix vB;simp
theorem zJh{s r:QB}(h1:s.extract 1 s.size=r)(h2:1≤s.size)(h3:Lib.hasPrefix s.data.toList vB.data.toList=true)(w:World):Calls prog 263 #[.string s,.string ⟨#[118]⟩] w fun e w'=>e= .returned (.tuple #[.string r,.bool true])∧w=w':=by
 have HP:=Hd (show∀w:World,Calls prog 284 #[.string s,.string ⟨#[118]⟩] w fun e w'=>e= .returned (.bool (Lib.hasPrefix s.data.toList vB.data.toList))∧w'=w from Tryz.stringslite_HasPrefix s vB)
 rw[h3]at HP
 have g1:(1:Int)≤(s.size:Int):=by omega
 clear h3
 go_enter func263,ntmps263
 go_wp2_with(go_at_call 284;refine(HP.out _).mono ?_;rintro e w1⟨rfl,rfl⟩)
 go_ret2
 exact⟨rfl,rfl⟩
theorem zIK{s r:QB}(h1:s.extract 1 s.size=r)(h2:1≤s.size)(h3:Lib.hasPrefix s.data.toList vB.data.toList=true)(w:World):Calls prog 229 #[.string s,.string ⟨#[118]⟩] w fun e w'=>e= .returned (.tuple #[.string r,.bool true])∧w=w':=by
 have HP:=Hd (zJh h1 h2 h3)
 clear h1 h2 h3
 go_enter func229,ntmps229
 go_wp2_with(go_at_call 263;refine(HP.out _).mono ?_;rintro e w1⟨rfl,rfl⟩)
 go_ret2
 exact⟨rfl,rfl⟩
theorem zCl{fn:Func}{t u v x:Tmp}(h:fn.results= #[.tmp t,.tmp u,.tmp v,.tmp x])(tmps:Array Value)(P:Program)(w:World):(results fn tmps).run P w= .ok (.tuple #[tmps.getD t undef,tmps.getD u undef,tmps.getD v undef,tmps.getD x undef]) w:=by
 simp[results,h]
theorem zQy{b item f:QB}(hb:zK b=true)(hi:zP item=true)(hf:f.size=8)(w:World):Calls prog 185 #[.string ⟨#[118]⟩,.string (vB++(b++zB++(item++zB++f)))] w fun e w'=>e= .returned (.tuple #[.string b,.string item,.string f,.bool true])∧Below w.heap.size w w':=by
 obtain⟨b0,b1⟩:=yc hb
 obtain⟨i0,i1⟩:=zg hi
 have hz1:(item++zB++f).size=item.size+9:=by rw[ByteArray.size_append,ByteArray.size_append,hf];rfl
 obtain⟨h1,h2,h3⟩:=zNL (b++zB++(item++zB++f))
 have HP:=Hd (zIK h1 (by omega) h3)
 have HC1:=Hd (zKL b0 (r:=item++zB++f) (by omega))
 have HC2:=Hd (zKL i0 (r:=f) (by omega))
 have HB:=Hd (vI b)
 have HI:=Hd (zCj item)
 rw[hb]at HB
 rw[hi]at HI
 have e1:((f.size:Int)==8)=true:=by rw[hf];rfl
 have e2:(f.size:Int)=8:=by rw[hf];rfl
 generalize vB++(b++zB++(item++zB++f))=s at*
 generalize b++zB++(item++zB++f)=s1 at*
 generalize item++zB++f=s2 at*
 clear hb hi hf b0 b1 i0 i1 hz1 h1 h2 h3
 go_enter func185,ntmps185
 go_wp2_with(first|(go_at_call 229;refine(HP.out _).mono ?_;rintro e w1⟨rfl,rfl⟩)|(go_at_call 230;(with_reducible refine(HC1.out _).mono ?_;rintro e w2⟨rfl,hb2⟩);have HB2:=Hd hb2;clear hb2)|(go_at_call 230;(with_reducible refine(HC2.out _).mono ?_;rintro e w3⟨rfl,hb3⟩);have HB3:=Hd (qT HB2.out hb3);clear hb3)|(go_at_call 85;refine(HB.out _).mono ?_;rintro e w4⟨rfl,hb4⟩;have HB4:=Hd (qT HB3.out hb4);clear hb4)|(go_at_call 101;refine(HI.out _).mono ?_;rintro e w5⟨rfl,rfl⟩))
 refine bodyPost_ret (zCl rfl _ _ _) rfl ?_
 exact⟨rfl,HB4.out⟩
theorem zIL(id:Nat)(h:id<18446744073709551616):18446744073709551615-beN (xH id).data.toList=id:=by
 show 18446744073709551615-beN (beW 8 (18446744073709551615-id) 8)=id
 rw[zBE (w:=8) (by omega)]
 omega
theorem zA2{b item:QB}(hb:zK b=true)(hi:zP item=true){id:Nat}(hid:id<18446744073709551616)(w:World):Calls prog 127 #[.string (zE b item id)] w fun e w'=>e= .returned (.tuple #[.string b,.string item,.int .u64 id,.bool true])∧Below w.heap.size w w':=by
 have HR:=Hd (zQy hb hi (km id))
 have HF:=Hd (zNB (xH id) (km id))
 rw[zIL id hid]at HF
 rw[zBn]
 generalize vB++(b++zB++(item++zB++xH id))=s at*
 generalize xH id=f at*
 clear hb hi hid
 go_enter func127,ntmps127
 go_wp2_with(first|(go_at_call 185;refine(HR.out _).mono ?_;rintro e w1⟨rfl,hb1⟩;have HB1:=Hd hb1;clear hb1)|(go_at_call 186;refine(HF.out _).mono ?_;rintro e w2⟨rfl,hb2⟩;have HB2:=Hd (qT HB1.out hb2);clear hb2))
 refine bodyPost_ret (zCl rfl _ _ _) rfl ?_
 exact⟨rfl,HB2.out⟩
theorem zEp(t:QB)(x:UInt8):(t++⟨#[x]⟩:QB).extract 0 t.size=t∧(t++⟨#[x]⟩:QB).size=t.size+1∧zG (t++⟨#[x]⟩) t.size=x.toNat:=by
 have hs:(t++⟨#[x]⟩:QB).size=t.size+1:=by rw[ByteArray.size_append];rfl
 have hd:(t++⟨#[x]⟩:QB).data.toList=t.data.toList++[x]:=by simp
 have hpl:t.data.toList.length=t.size:=by simp
 refine⟨?_,hs,?_⟩
 ·exact zTZ
 ·unfold zG;rw[hd,List.getD_eq_getElem?_getD,←hpl,List.getElem?_append_right (Qn _)];simp
theorem zTq{p:Prop}(h:p:=by refine zl ?_;clear FR;clear S HS;go_wp2;go_ret;exact⟨rfl,HKa.out.below (Qn _) (fun _ _ e=>e.elim)⟩):p:=h
theorem zTr{p:Prop}(h:p:=by have e1:(⟨#[UInt8.ofNat (xv+1)]⟩:QB).size=1:=rfl;(obtain rfl:i=0:=by omega);rw[Qc hk (0+0)];show some (Value.int IntKind.u8 ((xv:Int)+1))=some (Value.int IntKind.u8 (((UInt8.ofNat (xv+1)).toNat:Nat):Int));simp;omega):p:=h
theorem zJi(t:QB)(ht:t.size≤1000)(x:UInt8)(hx:x.toNat<255)(w:World):Calls prog 110 #[.string (t++⟨#[x]⟩)] w fun e w'=>e= .returned (.string (t++⟨#[UInt8.ofNat (x.toNat+1)]⟩))∧Below w.heap.size w w':=by
 obtain⟨h1,h2,h3⟩:=zEp t x
 obtain⟨s,hs⟩:=qN ((t++⟨#[x]⟩:QB))
 rw[hs]at h1 h2 h3⊢
 obtain⟨n,hn⟩:=qN t.size
 rw[hn]at h1 h2 h3 ht
 have hkx:=zL s n (by omega)
 rw[h3]at hkx
 obtain⟨xv,hxv⟩:=qN x.toNat
 rw[hxv]at hkx hx⊢
 obtain⟨kb,hkb⟩:∃kb:QB,(⟨#[UInt8.ofNat (xv+1)]⟩:QB)=kb:=⟨_,rfl⟩
 have hcat:=fun u=>run_string_add_sum (P:=prog) u t (⟨#[UInt8.ofNat (xv+1)]⟩:QB) (by show t.size+1≤_;omega)
 have hby:∀u:World,∀k,u.heap[k]? =some (.cells #[.int .u8 ((xv:Int)+1)] 5 (0,0))→Lib.Bytes u k 0 ⟨#[UInt8.ofNat (xv+1)]⟩:=fun u k hk i hi=>by exact zTr
 have hl1:∀(u:World)(k:Nat),u.heap[k]? =some (.cells #[.int .u8 ((xv:Int)+1)] 5 (0,0))→∀c,(convert 121 9 (.slice (some ⟨k,0,none⟩) 1 c)).run prog u= .ok (.string ⟨#[UInt8.ofNat (xv+1)]⟩) u:=fun u k hk c=>Lib.run_convert_whole (P:=prog) _ 121 5 9 underlying121 underlying5 underlying9 k 0 ⟨#[UInt8.ofNat (xv+1)]⟩ (hby u k hk) c
 rw[hkb]at hcat hl1⊢
 have HL1:=Hd hl1
 have HCat:=Hd hcat
 have hsz:s.size=n+1:=h2
 have i1:IntKind.i64.wrap ((n:Int)+1-1)=(n:Int):=by rw[IntKind.wrap_i64];omega
 have i2:(n:Int)+1-1=(n:Int):=by omega
 have i3:IntKind.i64.wrap (n:Int)=(n:Int):=by rw[IntKind.wrap_i64];omega
 have g0:(0:Int)<(n:Int)+1:=by omega
 have g1:(n:Int)≤(n:Int)+1:=by omega
 have g2:(n:Int)<(n:Int)+1:=by omega
 have g3:n<s.size:=by omega
 have u1:IntKind.u8.wrap ((xv:Int)+1)=(xv:Int)+1:=by rw[IntKind.wrap_u8];omega
 have q1:((xv:Int)==255)=false:=by simp;omega
 clear hby hs h3 hkb hl1 hcat hxv
 go_enter func110,ntmps110
 go_wp2
 refine wp_loop_rounds 1 ?_
 rw[rounds_succ]
 go_wp2
 obtain⟨S,HS⟩:=mkS (Keep (fun _=>False) (w))
 have FR:=Hd (fun u(hu:S u)=>have hu:=(HS.out u).1 hu;have hcat:=HCat.out u;hcat)
 refine rgw 13 [tR 0,tR 1,tR 2,tR 3,tR 4,tR 5,tR 6,tR 7,tR 8,tD 9,tD 10,tR 11,tR 12] HS (Keep.refl _ _).drew ?_
 iterate 9 refine rd1 ?_
 refine doH ?_
 intro K hK
 go_simp
 have ka:Keep (fun _=>False) w (w.alloc (.cells #[.int .u8 ((xv:Int)+1)] 5)).drew:=((Keep.refl _ w).alloc _).drew
 have HKa:=Hd ka
 have HL2:=Hd (HL1.out (w.alloc (.cells #[.int .u8 ((xv:Int)+1)] 5)).drew w.heap.size (qH w _))
 refine hK _ _ ((HS.out _).2 ka) ?_
 clear hK K ka
 refine doH ?_
 intro K hK
 have l1:=HL2.out
 go_simp
 refine hK _ _ ((HS.out _).2 HKa.out) ?_
 clear hK K l1
 iterate 2 refine rd1 ?_
 exact zTq
theorem zTs{p:Prop}(h:p:=by refine rgo 30 [tR 0,tR 1,tR 2,tR 3,tR 4,tR 5,tR 6,tR 7,tR 8,tR 9,tR 10,tR 11,tR 12,tR 13,tR 14,tR 15,tR 16,tR 17,tR 18,tR 19,tR 20,tR 21,tR 22,tR 23,tR 24,tR 25,tR 26,tR 27,tR 28,tR 29] HS (Keep.refl _ _).drew ?_;(iterate 30 refine rd1 ?_);refine zl ?_;clear FR;clear S HS;have hx7:w3.drew.heap[wb]? =some (.cells #[.string ⟨#[]⟩,.string ⟨#[]⟩,.int .u64 0,.bool false,.bool false,.int .u64 0,.int .i64 0,.int .i64 0] 38 (0,0)):=HVX3.out;generalize hw7:w3.drew=w7 at*;have HB7:=Hd (show Below w.heap.size w w7 by rw[←hw7];exact HB3.out.trans ⟨rfl,rfl,rfl,Qn _,fun _ _=>rfl⟩);clear hw7;obtain⟨⟨d0,d1,d2,d3,d4,d5,d6,d7⟩,y0,y1,y2,y3,y4,y5,y6,y7⟩:=zAV hx7;have HX7:=Hd hx7;clear hx7;go_wp2;refine bodyPost_ret (zx rfl _ _ wb _ _ _ _ rfl (yV HX7.out _ _ _ _ _ _ _ _) underlying38 rfl (by kernel_rfl)) rfl ?_;exact⟨rfl,zAs HB7.out (by have:=HWb.out;omega) _ _ _ _ _ _ _ _⟩):p:=h
theorem zTt{p:Prop}(h:p:=by rw[hu.cell (p:=⟨g,6,none⟩) HGl.out (fun e=>e)];exact HC.out.2.2.2):p:=h
theorem zLX{b item:QB}(hb:zK b=true)(hi:zP item=true)(mk:Bool){id born size page:Nat}(h0:id<18446744073709551616)(h2:born<18446744073709551616)(h3:size<4294967296)(h4:page<4294967296)(w:World):Calls prog 111 #[.agg #[.string (zE b item id),.string (zBH (xy false mk) born size page)]] w fun e w'=>e= .returned (.tuple #[.agg (vC b item id false mk born size page),.int .i64 0])∧Below w.heap.size w w':=by
 have HRv:=Hd (zA2 hb hi h0)
 have hhow:xy false mk<256:=by unfold xy;cases mk<;>decide
 have HRd:=Hd (fun u=>zBS (zEo hhow h2 h3 h4) zFy u)
 have hv:packed zIJ [(xy false mk,eS),(born,eS),(size,eS),(page,eS)]=zBH (xy false mk) born size page:=rfl
 rw[hv]at HRd
 obtain⟨key,hkey⟩:=qN (zE b item id)
 obtain⟨val,hval⟩:=qN (zBH (xy false mk) born size page)
 rw[hkey]at HRv⊢
 rw[hval]at HRd⊢
 unfold vC
 have o1:bits .and .u64 0 1=0:=by decide
 have o2:bits .and .u64 0 2=0:=by decide
 have o3:bits .and .u64 2 1=0:=by decide
 have o4:bits .and .u64 2 2=2:=by decide
 have p3:IntKind.i64.wrap (size:Int)=(size:Int):=zv (by omega) (by omega)
 have p4:IntKind.i64.wrap (page:Int)=(page:Int):=zv (by omega) (by omega)
 obtain⟨z,hz⟩:∃z:Int,((xy false mk:Nat):Int)=z:=⟨_,rfl⟩
 have HZ:=Hd hz
 clear hb hi hv hkey hval hhow hz
 have hbk0:Below w.heap.size w (w.alloc (.cells #[.string key,.string val] 202)):=qA
 have hpx0:=qH w (.cells #[.string key,.string val] 202)
 obtain⟨wp,hwp⟩:=qN (w.alloc (.cells #[.string key,.string val] 202))
 have hps:=World.size_alloc w (.cells #[.string key,.string val] 202)
 rw[hwp]at hbk0 hpx0 hps
 have hbv0:Below w.heap.size w (wp.alloc (.cells #[.string ⟨#[]⟩,.string ⟨#[]⟩,.int .u64 0,.bool false,.bool false,.int .u64 0,.int .i64 0,.int .i64 0] 38)):=hbk0.alloc hbk0.size _
 have hvx0:=qH wp (.cells #[.string ⟨#[]⟩,.string ⟨#[]⟩,.int .u64 0,.bool false,.bool false,.int .u64 0,.int .i64 0,.int .i64 0] 38)
 have hpx1:(wp.alloc (.cells #[.string ⟨#[]⟩,.string ⟨#[]⟩,.int .u64 0,.bool false,.bool false,.int .u64 0,.int .i64 0,.int .i64 0] 38)).heap[w.heap.size]? =some (.cells #[.string key,.string val] 202 (0,0)):=by rw[Below.heap_alloc _ _ _ (by omega)];exact hpx0
 rw[←hwp]at hbv0 hvx0 hpx1 hps
 rw[hps]at hvx0
 have HBV:=Hd hbv0
 have HVX:=Hd hvx0
 have HPX:=Hd hpx1
 clear hbk0 hpx0 hwp hps hbv0 hvx0 hpx1
 cases mk with|true=>(have hz:z=2:=by rw[←HZ.out];rfl);go_enter func111,ntmps111;go_wp2_with(fail);generalize(w.alloc (.cells #[.string key,.string val] 202)).alloc (.cells #[.string ⟨#[]⟩,.string ⟨#[]⟩,.int .u64 0,.bool false,.bool false,.int .u64 0,.int .i64 0,.int .i64 0] 38)=w1 at*;refine(HRv.out _).mono ?_;rintro e w2⟨rfl,hb2⟩;have hpx2:=qB hb2 HPX.out;have hvx2:=qB hb2 HVX.out;have d1:w2.cell? ⟨w.heap.size,1,none⟩=some (.string val):=Qc hpx2 1;have HVX2:=Hd hvx2;have HB2:=Hd (qT HBV.out hb2);clear hb2 hpx2 hvx2;go_wp2_with(fail);refine(HRd.out _).mono ?_;rintro e w3⟨v,rfl,hrow,hb3⟩;obtain⟨g,c,rfl,hc1,hc2,hgB⟩:=zH hrow (by show 0<4;decide);have HRow:=Hd hrow;have HVX3:=Hd (qB hb3 HVX2.out);have HB3:=Hd (qT HB2.out hb3);have HGl:=Hd (show g<w3.heap.size from(hrow.lt g rfl).2);(have hc0:w3.cell? ⟨g,0,none⟩=some (.int .u64 z):=by rw[←HZ.out];exact zC hrow 0 _ rfl);rw[hz]at hc0;have HC:=Hd (show w3.cell? ⟨g,0,none⟩=some (.int .u64 2)∧w3.cell? ⟨g,2,none⟩=some (.int .u64 born)∧w3.cell? ⟨g,4,none⟩=some (.int .u64 size)∧w3.cell? ⟨g,6,none⟩=some (.int .u64 page)from⟨hc0,zC HRow.out 2 _ rfl,zC HRow.out 4 _ rfl,zC HRow.out 6 _ rfl⟩);clear hrow hb3 d1 hz hc0;obtain⟨wb,hwb⟩:=qN (w.heap.size+1);rw[hwb]at HVX3;have HWb:=Hd hwb;go_wp2_with(fail);(try rw[hwb]);clear hwb;obtain⟨S,HS⟩:=mkS (Keep (fun _=>False) (w3));have FR:=Hd (fun u(hu:S u)=>have hu:=(HS.out u).1 hu;have hr0:u.cell? ⟨g,0,none⟩=some (.int .u64 2):=(by exact zQt);have hr1:u.cell? ⟨g,2,none⟩=some (.int .u64 born):=(by exact zQu);have hr2:u.cell? ⟨g,4,none⟩=some (.int .u64 size):=(by exact zQv);have hr3:u.cell? ⟨g,6,none⟩=some (.int .u64 page):=(by exact zTt);And.intro hr0 (And.intro hr1 (And.intro hr2 hr3)));exact zTs|false=>(have hz:z=0:=by rw[←HZ.out];rfl);go_enter func111,ntmps111;go_wp2_with(fail);generalize(w.alloc (.cells #[.string key,.string val] 202)).alloc (.cells #[.string ⟨#[]⟩,.string ⟨#[]⟩,.int .u64 0,.bool false,.bool false,.int .u64 0,.int .i64 0,.int .i64 0] 38)=w1 at*;refine(HRv.out _).mono ?_;rintro e w2⟨rfl,hb2⟩;have hpx2:=qB hb2 HPX.out;have hvx2:=qB hb2 HVX.out;have d1:w2.cell? ⟨w.heap.size,1,none⟩=some (.string val):=Qc hpx2 1;have HVX2:=Hd hvx2;have HB2:=Hd (qT HBV.out hb2);clear hb2 hpx2 hvx2;go_wp2_with(fail);refine(HRd.out _).mono ?_;rintro e w3⟨v,rfl,hrow,hb3⟩;obtain⟨g,c,rfl,hc1,hc2,hgB⟩:=zH hrow (by show 0<4;decide);have HRow:=Hd hrow;have HVX3:=Hd (qB hb3 HVX2.out);have HB3:=Hd (qT HB2.out hb3);have HGl:=Hd (show g<w3.heap.size from(hrow.lt g rfl).2);(have hc0:w3.cell? ⟨g,0,none⟩=some (.int .u64 z):=by rw[←HZ.out];exact zC hrow 0 _ rfl);rw[hz]at hc0;have HC:=Hd (show w3.cell? ⟨g,0,none⟩=some (.int .u64 0)∧w3.cell? ⟨g,2,none⟩=some (.int .u64 born)∧w3.cell? ⟨g,4,none⟩=some (.int .u64 size)∧w3.cell? ⟨g,6,none⟩=some (.int .u64 page)from⟨hc0,zC HRow.out 2 _ rfl,zC HRow.out 4 _ rfl,zC HRow.out 6 _ rfl⟩);clear hrow hb3 d1 hz hc0;obtain⟨wb,hwb⟩:=qN (w.heap.size+1);rw[hwb]at HVX3;have HWb:=Hd hwb;go_wp2_with(fail);(try rw[hwb]);clear hwb;obtain⟨S,HS⟩:=mkS (Keep (fun _=>False) (w3));have FR:=Hd (fun u(hu:S u)=>have hu:=(HS.out u).1 hu;have hr0:u.cell? ⟨g,0,none⟩=some (.int .u64 0):=(by exact zQt);have hr1:u.cell? ⟨g,2,none⟩=some (.int .u64 born):=(by exact zQu);have hr2:u.cell? ⟨g,4,none⟩=some (.int .u64 size):=(by exact zQv);have hr3:u.cell? ⟨g,6,none⟩=some (.int .u64 page):=(by exact zTt);And.intro hr0 (And.intro hr1 (And.intro hr2 hr3)));exact zTs
section
variable {w : World} {sb : Nat} {s : Sto} {D : Dict} {nz : Nat} {b item : QB}
theorem XStep.trans{w0 w1 w2:World}{s0 s1 s2:Sto}{n1 n2:Nat}(h:XStep w0 s0 D sb n1 w1 s1)(k:XStep w1 s1 D sb n2 w2 s2):XStep w0 s0 D sb n2 w2 s2:=⟨k.st,h.step.trans k.step,k.kv.trans h.kv⟩
theorem XStep.aside{w0 w' w'':World}{s':Sto}{nz' rb:Nat}(h:XStep w0 s D sb nz' w' s')(hs:StAt w0 sb s D nz)(hk:Keep (fun k=>k=rb) w' w'')(h0:w0.heap.size≤rb)(hnf:¬s'.foot rb):XStep w0 s D sb nz' w'' s':=by
 have ha:=hs.ahead
 have h1:=h.step.ib
 have h2:=h.step.lb
 exact⟨h.st.keep hk (by omega) (by omega) (by omega) (fun k hf e=>hnf (e▸hf)),⟨h.step.keep.trans hk (fun i hi e=>by omega),h.step.foot,h1,h2,h.step.br,h.step.pg⟩,h.kv⟩
theorem XStep.still{u:World}(h:StAt w sb s D nz)(hb:Below w.heap.size w u):XStep w s D sb nz u s:=⟨h.still hb,VStep.still hb,rfl⟩
theorem zDb(h:StAt w sb s D nz)(hn:nz+1≤1900∧8*(nz+1)+300≤s.R.pages)(hb:zK b=true)(hi:zP item=true)(mk:Bool)(hx:s.X.next+1<18446744073709551616){born size page:Nat}(h2:born<18446744073709551616)(h3:size<4294967296)(h4:page<4294967296):Calls prog 46 #[.pointer (some ⟨s.br,0,none⟩),.agg (vC b item 0 false mk born size page)] w fun e w'=>e= .returned (.tuple #[.agg (vC b item (s.X.next+1) false mk born size page),.int .i64 0])∧∃s',XStep w s D sb (nz+2) w' s'∧s'.X.kvM=ins s.X.kvM (zE b item (s.X.next+1)) (zBH (xy false mk) born size page)∧s'.X.vb=s.X.vb∧s'.X.next=s.X.next+1:=by
 have HN:=Hd (fun(u:World)(hu:Below w.heap.size w u)=>zLV (h.still hu) (by omega) hx)
 have HK:=Hd (fun(u:World)(s1:Sto)(hu:StAt u sb s1 D (nz+1))(hp:s1.R.pages=s.R.pages)=>zNK hu (by omega) hb hi mk (id:=s.X.next+1) hx h2 h3 h4)
 have HSt:=Hd h
 have HAh:=Hd h.ahead
 obtain⟨y,hy⟩:=qN (s.X.next+1)
 rw[hy]at HN HK⊢
 have HY:=Hd hy
 unfold vC at*
 clear h hb hi hx hy
 have hb1:Below w.heap.size w (w.alloc (.cells #[.string b,.string item,.int .u64 0,.bool false,.bool mk,.int .u64 born,.int .i64 size,.int .i64 page] 38)):=qA
 have hx1:=qH w (.cells #[.string b,.string item,.int .u64 0,.bool false,.bool mk,.int .u64 born,.int .i64 size,.int .i64 page] 38)
 have hs1:=World.size_alloc w (.cells #[.string b,.string item,.int .u64 0,.bool false,.bool mk,.int .u64 born,.int .i64 size,.int .i64 page] 38)
 have HB1:=Hd hb1
 have HX1:=Hd hx1
 have HS1:=Hd hs1
 clear hb1 hx1 hs1
 go_enter func46,ntmps46
 go_wp2_with(fail)
 obtain⟨w1,hw1⟩:=qN (w.alloc (.cells #[.string b,.string item,.int .u64 0,.bool false,.bool mk,.int .u64 born,.int .i64 size,.int .i64 page] 38))
 rw[hw1]at HB1 HX1 HS1⊢
 have hb2:=HB1.out.alloc HB1.out.size (.cells #[.string ⟨#[]⟩,.string ⟨#[]⟩,.int .u64 0,.bool false,.bool false,.int .u64 0,.int .i64 0,.int .i64 0] 38)
 have hx2:=qH w1 (.cells #[.string ⟨#[]⟩,.string ⟨#[]⟩,.int .u64 0,.bool false,.bool false,.int .u64 0,.int .i64 0,.int .i64 0] 38)
 rw[HS1.out]at hx2
 have hxv2:(w1.alloc (.cells #[.string ⟨#[]⟩,.string ⟨#[]⟩,.int .u64 0,.bool false,.bool false,.int .u64 0,.int .i64 0,.int .i64 0] 38)).heap[w.heap.size]? =_:=(Below.heap_alloc _ _ _ (by have:=HS1.out;omega)).trans HX1.out
 obtain⟨w2,hw2⟩:=qN (w1.alloc (.cells #[.string ⟨#[]⟩,.string ⟨#[]⟩,.int .u64 0,.bool false,.bool false,.int .u64 0,.int .i64 0,.int .i64 0] 38))
 rw[hw2]at hb2 hx2 hxv2⊢
 have HB2:=Hd hb2
 have HX2:=Hd hx2
 have HV2:=Hd hxv2
 clear hw1 hw2 hb2 hx2 hxv2
 refine(HN.out _ HB2.out).mono ?_
 rintro e w3⟨rfl,s1,hx3,hk31,hk32,hk33⟩
 obtain⟨xb,hxb⟩:=qN w.heap.size
 have HXb:=Hd hxb
 rw[hxb]at HX2 HV2⊢
 clear hxb
 have hl2:xb+1<w2.heap.size:=(Gl HX2.out)
 have hnf0:∀k,xb≤k→¬s.foot k:=fun k hk e=>by exact zQx
 have hnf1:∀k,xb≤k→k<w2.heap.size→¬s1.foot k:=fun k hk hk2 e=>(hx3.step.foot k e).elim (hnf0 k hk) (fun e2=>by omega)
 have hx3b:=hx3.step.keep.at HX2.out (hnf0 _ (by omega))
 have hx3v:=hx3.step.keep.at HV2.out (hnf0 _ (Qn _))
 obtain⟨⟨d0,d1,d2,d3,d4,d5,d6,d7⟩,y0,y1,y2,y3,y4,y5,y6,y7⟩:=zAV hx3v
 have hX3:=hx3.after HB2.out
 have HX3:=Hd hX3
 have HX3b:=Hd hx3b
 have HX3v:=Hd hx3v
 have HK3:=Hd (And.intro hk31 (And.intro hk32 hk33))
 have HNf1:=Hd hnf1
 have HL2:=Hd hl2
 have HPg:=Hd hx3.step.pg
 have HBr:=Hd hx3.step.br
 clear hx3 hk31 hk32 hk33 hnf0 hnf1 hx3b hx3v hX3 hl2
 go_wp2_with(fail)
 clear d0 d1 d2 d3 d4 d5 d6 d7 y0 y1 y2 y3 y4 y5 y6 y7
 have hk4:Keep (fun k=>k=xb) w3 (w3.setCell ⟨xb,2,none⟩ (.int .u64 y)):=(Keep.refl (fun k=>k=xb) w3).setCell (p:=⟨xb,2,none⟩) (fun _=>rfl) _
 have hX4:=HX3.out.aside HSt.out hk4 (by have:=HXb.out;omega) (HNf1.out xb (Qn _) (by have:=HL2.out;omega))
 have hv4:(w3.setCell ⟨xb,2,none⟩ (.int .u64 y)).heap[xb]? =some (.cells #[.string b,.string item,.int .u64 y,.bool false,.bool mk,.int .u64 born,.int .i64 size,.int .i64 page] 38 (0,0)):=heap_setCell_same _ xb 2 _ _ _ HX3v.out
 have hr4:=hk4.at HX3b.out (fun e=>by omega)
 obtain⟨w4,hw4⟩:=qN (w3.setCell ⟨xb,2,none⟩ (.int .u64 y))
 rw[hw4]at hX4 hv4 hr4⊢
 have hdr:Below w4.heap.size w4 w4.drew:=⟨rfl,rfl,rfl,Qn _,fun _ _=>rfl⟩
 have HDr:=Hd hdr
 have HK4:=Hd (HK.out w4.drew s1 (hX4.st.still hdr) HPg.out)
 rw[HBr.out]at HK4
 have HX4:=Hd hX4
 have HV4:=Hd hv4
 have HR4:=Hd hr4
 have HVl:=Hd (show xb<w4.heap.size from(Gl hv4))
 have HRl:=Hd (show xb+1<w4.heap.size from(Gl hr4))
 clear hk4 hX4 hv4 hr4 hw4 hdr
 obtain⟨S,HS⟩:=mkS (Keep (fun g=>s1.foot g) (w4))
 have FR:=Hd (fun u(hu:S u)=>have hu:=(HS.out u).1 hu;have o09:=zAV (hu.at HV4.out (HNf1.out xb (Qn _) (by have:=HL2.out;omega)));o09)
 refine rgo 4 [tR 0,tR 1,tR 2,tD 3] HS (Keep.refl _ _).drew ?_
 iterate 3 refine rd1 ?_
 refine doH ?_
 intro K hK
 go_simp
 go_at_call 106
 refine(HK4.out).mono ?_
 rintro e w5⟨rfl,s2,hx5,k1,k2,k3⟩
 have hn1:¬s1.foot (xb+1):=HNf1.out (xb+1) (by omega) HL2.out
 have HR5:=Hd (hx5.step.keep.at (show w4.drew.heap[xb+1]? =_ from HR4.out) hn1)
 have HN2:=Hd (show¬s2.foot (xb+1)from fun e=>(hx5.step.foot _ e).elim hn1 (fun e2=>by have h9:w4.drew.heap.size=w4.heap.size:=rfl;have:=HRl.out;omega))
 have HX5:=Hd (HX4.out.trans (hx5.after HDr.out))
 have HK5:=Hd (And.intro k1 (And.intro k2 k3))
 refine hK _ _ ((HS.out _).2 ((Keep.ofBelow HDr.out).trans hx5.step.keep (fun _ _ e=>e))) ?_
 clear hK K hx5 k1 k2 k3 hn1
 refine zl ?_
 clear FR
 clear S HS
 obtain⟨⟨d0,d1,d2,d3,d4,d5,d6,d7⟩,y0,y1,y2,y3,y4,y5,y6,y7⟩:=zAV HR5.out
 go_wp2
 refine bodyPost_ret (zx rfl _ _ (xb+1) _ _ _ _ rfl (yV HR5.out _ _ _ _ _ _ _ _) underlying38 rfl (by kernel_rfl)) rfl ?_
 refine⟨rfl,s2,HX5.out.aside HSt.out (xO _ _ _ _ _ _ _ _ _ _) (by have:=HXb.out;omega) HN2.out,?_⟩
 obtain⟨a1,a2,a3⟩:=HK3.out
 obtain⟨b1,b2,b3⟩:=HK5.out
 exact⟨by rw[b1,a1],b2.trans a2,b3.trans a3⟩
end
theorem zEq(br:Nat)(mark:Int)(q:Addr)(w:World)(he:w.cell? q=some (.int .i64 0))(u:FrameMode):CallsD prog 39 #[.pointer (some ⟨br,0,none⟩),.int .i64 mark,.pointer (some q)] u w fun e u' w'=>u'=u∧(e= .returned (.tuple #[])∧w'=w):=by
 go_enter_d func39,ntmps39
 go_wp2
 go_end0
 exact⟨rfl,rfl⟩
theorem zLY(l:xV)(h:l.all ym=true):0≤tot l∧tot l≤128*l.length:=by
 induction l with|nil=>exact⟨Int.le_refl _,Int.le_refl _⟩|cons a t ih=>rw[List.all_cons,Bool.and_eq_true]at h;have h1:=(zAU a).1 h.1;have h2:=ih h.2;unfold tot;rw[List.length_cons];omega
section
variable {w : World} {sb : Nat} {s : Sto} {D : Dict} {nz : Nat} {b item : QB}
theorem zLZ{p:Prop}(h:p:=by have:=HVb.out;show w.heap.size≤vb+1;omega):p:=h
theorem zTu{p:Prop}(h:p:=by simp[asAddr,l1,Result.andThen];simp[go_sem,e99]):p:=h
theorem zPG(h:StAt w sb s D nz)(hb:zK b=true){bo:Nat}(hlb:look s.X.kvM (zD b)=some (zT 1 bo))(hbo:bo<18446744073709551616)(hi:zP item=true){B:Nat}{v:Value}{l:xV}(hrow:w.ownsRow B 98 2 v l.length (zDB l))(hl:l.length≤100)(hok:l.all ym=true)(hn:nz+zc (wrS l).size+3≤1900∧8*(nz+zc (wrS l).size+3)+300≤s.R.pages)(hx:s.X.next+1<18446744073709551616){now:Nat}(hnow:now<18446744073709551616):Calls prog 13 #[.pointer (some ⟨s.br,0,none⟩),.pointer (some ⟨sb,0,none⟩),.string b,.string item,v,.int .u64 now] w fun e w'=>∃(size page:Nat)(ps:List Nat)(s':Sto),e= .returned (.tuple #[.agg (vC b item (s.X.next+1) false false now size page),.int .i64 0])∧XStep w s D sb (nz+zc (wrS l).size+2) w' s'∧s'.X.kvM=ins s.X.kvM (zE b item (s.X.next+1)) (zBH (xy false false) now size page)∧s'.X.vb=s.X.vb++[(wrS l,ps)]∧s'.X.next=s.X.next+1∧ps.getD 0 0=page∧page<65536∧(size:Int)=tot l:=by
 have HM:=Hd (fun(u:World)(hu:Below w.heap.size w u)=>xN (h.still hu).room)
 have HT:=Hd (fun(u:World)(hu:Below w.heap.size w u)=>zCk (h.still hu) (by omega) hb hlb (by decide) hbo hi)
 have HW:=Hd (fun(u:World)(hu:Below w.heap.size w u)=>zJg ((Keep.still hu).ownsRow hrow (fun _ _ e=>e)) hl hok)
 have HSz:=Hd (fun(u:World)(hu:Below w.heap.size w u)=>zLT ((Keep.still hu).ownsRow hrow (fun _ _ e=>e)) hl hok)
 have hz:=zIG l hok
 have HPut:=Hd (fun(u:World)(hu:Below w.heap.size w u)=>(h.still hu).vblob_put (wrS l) (by omega) (by omega))
 obtain⟨t0,t1⟩:=zLY l hok
 obtain⟨size,hsize⟩:=Int.eq_ofNat_of_zero_le t0
 have hsz2:size≤12800:=by omega
 rw[hsize]at HSz⊢
 have HN:=Hd (fun(u:World)(s1:Sto)(n1:Nat)(hu:StAt u sb s1 D n1)(hp:s1.R.pages=s.R.pages)(hn1:n1=nz+zc (wrS l).size)(hx1:s1.X.next=s.X.next)(born size page:Nat)(h2:born<18446744073709551616)(h3:size<4294967296)(h4:page<4294967296)=>zDb hu (by omega) hb hi false (by omega) h2 h3 h4)
 obtain⟨sa,sc,hv⟩:=zA hrow
 subst hv
 have HSt:=Hd h
 have HAh:=Hd h.ahead
 generalize wrS l=text at*
 obtain⟨mk,hmk⟩:=qN s.R.T.puts.length
 rw[hmk]at HM
 unfold bkC at HT
 unfold vC at HN⊢
 clear h hrow hb hlb hi hz hmk t0 t1 hsize
 go_enter_defers func13,ntmps13
 go_wp2_with(fail)
 have hv2:=qH w (.cells #[.string ⟨#[]⟩,.string ⟨#[]⟩,.int .u64 0,.bool false,.bool false,.int .u64 0,.int .i64 0,.int .i64 0] 38)
 have hb1:Below w.heap.size w (w.alloc (.cells #[.string ⟨#[]⟩,.string ⟨#[]⟩,.int .u64 0,.bool false,.bool false,.int .u64 0,.int .i64 0,.int .i64 0] 38)):=qA
 have hs1:=World.size_alloc w (.cells #[.string ⟨#[]⟩,.string ⟨#[]⟩,.int .u64 0,.bool false,.bool false,.int .u64 0,.int .i64 0,.int .i64 0] 38)
 obtain⟨w1,hw1⟩:=qN (w.alloc (.cells #[.string ⟨#[]⟩,.string ⟨#[]⟩,.int .u64 0,.bool false,.bool false,.int .u64 0,.int .i64 0,.int .i64 0] 38))
 rw[hw1]at hv2 hb1 hs1⊢
 have hb2:=hb1.alloc hb1.size (.cells #[.int .i64 0] 29)
 have he2:=qH w1 (.cells #[.int .i64 0] 29)
 rw[hs1]at he2
 have hv3:(w1.alloc (.cells #[.int .i64 0] 29)).heap[w.heap.size]? =_:=(Below.heap_alloc _ _ _ (by omega)).trans hv2
 obtain⟨w2,hw2⟩:=qN (w1.alloc (.cells #[.int .i64 0] 29))
 rw[hw2]at hb2 he2 hv3⊢
 have HB2:=Hd hb2
 have HE2:=Hd he2
 have HV2:=Hd hv3
 clear hv2 hb1 hs1 hw1 hb2 he2 hv3 hw2
 obtain⟨vb,hvb⟩:=qN w.heap.size
 have HVb:=Hd hvb
 rw[hvb]at HE2 HV2⊢
 clear hvb
 refine(HM.out _ HB2.out).mono ?_
 rintro e _⟨rfl,rfl⟩
 go_wp2_with(fail)
 refine(HT.out _ HB2.out).mono ?_
 rintro e w3⟨rfl,hb3⟩
 have hb3':=qT HB2.out hb3
 have he3:=qB hb3 HE2.out
 have hv3:=qB hb3 HV2.out
 have hbk:Below w3.heap.size w3 (w3.alloc (.cells #[.string b,.int .i64 1,.int .u64 bo,.bool false,.string ⟨#[]⟩,.int .u64 0] 89)):=qA
 have hk4:=qH w3 (.cells #[.string b,.int .i64 1,.int .u64 bo,.bool false,.string ⟨#[]⟩,.int .u64 0] 89)
 have he4:=qB hbk he3
 have hv4:=qB hbk hv3
 have hb4:=qT hb3' hbk
 have hl3:vb+1<w3.heap.size:=(Gl he3)
 have ez4:(w3.alloc (.cells #[.string b,.int .i64 1,.int .u64 bo,.bool false,.string ⟨#[]⟩,.int .u64 0] 89)).cell? ⟨vb+1,0,none⟩=some (.int .i64 0):=Qc he4 0
 have yz4:(w3.alloc (.cells #[.string b,.int .i64 1,.int .u64 bo,.bool false,.string ⟨#[]⟩,.int .u64 0] 89)).frozen? ⟨vb+1,0,none⟩=false:=zM he4
 have e5:((w3.alloc (.cells #[.string b,.int .i64 1,.int .u64 bo,.bool false,.string ⟨#[]⟩,.int .u64 0] 89)).setCell ⟨vb+1,0,none⟩ (.int .i64 0)).cell? ⟨vb+1,0,none⟩=some (.int .i64 0):=World.cell?_setCell_same _ _ _ ez4
 have hk5:Keep (fun k=>k=vb+1) (w3.alloc (.cells #[.string b,.int .i64 1,.int .u64 bo,.bool false,.string ⟨#[]⟩,.int .u64 0] 89)) ((w3.alloc (.cells #[.string b,.int .i64 1,.int .u64 bo,.bool false,.string ⟨#[]⟩,.int .u64 0] 89)).setCell ⟨vb+1,0,none⟩ (.int .i64 0)):=(Keep.refl (fun k=>k=vb+1) _).setCell (p:=⟨vb+1,0,none⟩) (fun _=>rfl) _
 have HE5:=Hd (heap_setCell_same _ (vb+1) 0 _ _ (.int .i64 0) he4)
 have HV5:=Hd (hk5.at hv4 (fun e=>by omega))
 have HK5:=Hd (hk5.at hk4 (fun e=>by omega))
 have HB5:=Hd (hb4.setCell (p:=⟨vb+1,0,none⟩) (by exact zLZ) (.int .i64 0))
 have HL3:=Hd hl3
 clear hb3 hb3' he3 hv3 hbk hk4 he4 hv4 hb4 hl3 hk5
 go_wp2_with(fail)
 clear e5 ez4 yz4
 obtain⟨w5,hw5⟩:=qN ((w3.alloc (.cells #[.string b,.int .i64 1,.int .u64 bo,.bool false,.string ⟨#[]⟩,.int .u64 0] 89)).setCell ⟨vb+1,0,none⟩ (.int .i64 0))
 obtain⟨kb,hkb⟩:=qN w3.heap.size
 rw[hw5]at HE5 HV5 HK5 HB5⊢
 rw[hkb]at HK5 HL3⊢
 clear hw5 hkb
 refine(HW.out _ HB5.out).mono ?_
 rintro e w6⟨rfl,hb6⟩
 have HB6:=Hd (qT HB5.out hb6)
 have HE6:=Hd (qB hb6 HE5.out)
 have HV6:=Hd (qB hb6 HV5.out)
 have HK6:=Hd (qB hb6 HK5.out)
 clear hb6
 go_wp2_with(fail)
 obtain⟨S,HS⟩:=mkS (Keep (fun _=>False) (w6))
 have FR:=Hd (fun u(hu:S u)=>have hu:=(HS.out u).1 hu;have o09:=yl (hu.at HK6.out (fun e=>e));o09)
 refine rgo 9 [tR 0,tR 1,tR 2,tR 3,tR 4,tR 5,tR 6,tD 7,tR 8] HS (Keep.refl _ _).drew ?_
 iterate 7 refine rd1 ?_
 refine doH ?_
 intro K hK
 go_simp
 go_at_call 43
 have hdr:Below w6.heap.size w6 w6.drew:=⟨rfl,rfl,rfl,Qn _,fun _ _=>rfl⟩
 refine(HSz.out _ (qT HB6.out hdr)).mono ?_
 rintro e w7⟨rfl,hb7⟩
 have hb7':Below w6.heap.size w6 w7:=hdr.trans hb7
 have HB7:=Hd (qT HB6.out hb7')
 have HE7:=Hd (qB hb7' HE6.out)
 have HV7:=Hd (qB hb7' HV6.out)
 refine hK _ _ ((HS.out _).2 (Keep.ofBelow hb7')) ?_
 clear hK K hb7 hb7' hdr
 refine rd1 ?_
 refine zl ?_
 clear FR
 clear S HS
 have ez7:w7.cell? ⟨vb+1,0,none⟩=some (.int .i64 0):=Qc HE7.out 0
 obtain⟨⟨d0,d1,d2,d3,d4,d5,d6,d7⟩,y0,y1,y2,y3,y4,y5,y6,y7⟩:=zAV HV7.out
 go_wp2_with(fail)
 clear ez7 d0 d1 d2 d3 d4 d5 d6 d7 y0 y1 y2 y3 y4 y5 y6 y7
 have hk8:=xO w7 vb (.string b) (.string item) (.int .u64 0) (.bool false) (.bool false) (.int .u64 now) (.int .i64 size) (.int .i64 0)
 have hv8:=yV HV7.out (.string b) (.string item) (.int .u64 0) (.bool false) (.bool false) (.int .u64 now) (.int .i64 size) (.int .i64 0)
 have hb8:=zAs HB7.out (b:=vb) (by have:=HVb.out;omega) (.string b) (.string item) (.int .u64 0) (.bool false) (.bool false) (.int .u64 now) (.int .i64 size) (.int .i64 0)
 obtain⟨w8,hw8⟩:=qN (zBe w7 vb (.string b) (.string item) (.int .u64 0) (.bool false) (.bool false) (.int .u64 now) (.int .i64 size) (.int .i64 0))
 rw[hw8]at hk8 hv8 hb8
 unfold zBe at hw8
 rw[hw8]
 have HB8:=Hd hb8
 have HV8:=Hd hv8
 have HE8:=Hd (hk8.at HE7.out (fun e=>by omega))
 clear hw8 hk8 hv8 hb8
 refine(HPut.out _ HB8.out).mono ?_
 rintro e w9⟨p,ps,s1,rfl,hx9,k1,k2,k3,hp,hp6⟩
 have hnf0:∀k,vb≤k→¬s.foot k:=fun k hk e=>by have:=HAh.out.2.2.2 _ e;have:=HVb.out;omega
 have hl8:vb+1<w8.heap.size:=(Gl HE8.out)
 have HNf1:=Hd (show∀k,vb≤k→k≤vb+1→¬s1.foot k from fun k hk hk2 e=>(hx9.step.foot k e).elim (hnf0 k hk) (fun e2=>by omega))
 have HE9:=Hd (hx9.step.keep.at HE8.out (hnf0 _ (by omega)))
 have HV9:=Hd (hx9.step.keep.at HV8.out (hnf0 _ (Qn _)))
 have HX9:=Hd (hx9.after HB8.out)
 have HP9:=Hd (And.intro k1 (And.intro k2 (And.intro k3 (And.intro hp hp6))))
 have ez9:w9.cell? ⟨vb+1,0,none⟩=some (.int .i64 0):=Qc HE9.out 0
 have yz9:w9.frozen? ⟨vb+1,0,none⟩=false:=zM HE9.out
 obtain⟨⟨d0,d1,d2,d3,d4,d5,d6,d7⟩,y0,y1,y2,y3,y4,y5,y6,y7⟩:=zAV HV9.out
 clear hx9 k1 k2 k3 hp hnf0 hl8
 go_wp2_with(fail)
 clear ez9 yz9 d0 d1 d2 d3 d4 d5 d6 d7 y0 y1 y2 y3 y4 y5 y6 y7
 have hk10:Keep (fun k=>k=vb) w9 (w9.setCell ⟨vb,7,none⟩ (.int .i64 p)):=(Keep.refl (fun k=>k=vb) w9).setCell (p:=⟨vb,7,none⟩) (fun _=>rfl) _
 have hk11:Keep (fun k=>k=vb+1) (w9.setCell ⟨vb,7,none⟩ (.int .i64 p)) ((w9.setCell ⟨vb,7,none⟩ (.int .i64 p)).setCell ⟨vb+1,0,none⟩ (.int .i64 0)):=(Keep.refl (fun k=>k=vb+1) _).setCell (p:=⟨vb+1,0,none⟩) (fun _=>rfl) _
 have hv10:(w9.setCell ⟨vb,7,none⟩ (.int .i64 p)).heap[vb]? =some (.cells #[.string b,.string item,.int .u64 0,.bool false,.bool false,.int .u64 now,.int .i64 size,.int .i64 p] 38 (0,0)):=heap_setCell_same _ vb 7 _ _ _ HV9.out
 have he10:=hk10.at HE9.out (fun e=>by omega)
 have he11:=heap_setCell_same _ (vb+1) 0 _ _ (.int .i64 0) he10
 have hv11:=hk11.at hv10 (fun e=>by omega)
 have hX10:=HX9.out.aside HSt.out hk10 (by have:=HVb.out;omega) (HNf1.out vb (Qn _) (by omega))
 have hX11:=hX10.aside HSt.out hk11 (by have:=HVb.out;omega) (HNf1.out (vb+1) (by omega) (Qn _))
 obtain⟨w10,hw10⟩:=qN ((w9.setCell ⟨vb,7,none⟩ (.int .i64 p)).setCell ⟨vb+1,0,none⟩ (.int .i64 0))
 rw[hw10]at he11 hv11 hX11⊢
 have HE10:=Hd he11
 have HV10:=Hd hv11
 have HX10:=Hd hX11
 clear hw10 hk10 hk11 hv10 he10 he11 hv11 hX10 hX11
 have hbr:=HX10.out.step.br
 have hn10:=HN.out w10 s1 _ HX10.out.st HX10.out.step.pg rfl HP9.out.2.2.1 now size p hnow (by omega) (by omega)
 rw[hbr]at hn10
 rw[HP9.out.2.2.1]at hn10
 obtain⟨y,hy⟩:=qN (s.X.next+1)
 rw[hy]at hn10
 have HY:=Hd hy
 have HN10:=Hd (show Calls prog 46 #[.pointer (some ⟨s.br,0,none⟩),.agg #[.string b,.string item,.int .u64 0,.bool false,.bool false,.int .u64 now,.int .i64 size,.int .i64 p]] w10 _ from hn10)
 clear hbr hn10 hy
 refine(HN10.out).mono ?_
 rintro e w11⟨rfl,s2,hx11,m1,m2,m3⟩
 have hl10:vb+1<w10.heap.size:=(Gl HE10.out)
 have HNf2:=Hd (show∀k,vb≤k→k≤vb+1→¬s2.foot k from fun k hk hk2 e=>(hx11.step.foot k e).elim (HNf1.out k hk hk2) (fun e2=>by omega))
 have HE11:=Hd (hx11.step.keep.at HE10.out (HNf1.out _ (by omega) (Qn _)))
 have HV11:=Hd (hx11.step.keep.at HV10.out (HNf1.out _ (Qn _) (by omega)))
 have HX11:=Hd (HX10.out.trans hx11)
 have HM11:=Hd (And.intro m1 (And.intro m2 m3))
 have ez11:w11.cell? ⟨vb+1,0,none⟩=some (.int .i64 0):=Qc HE11.out 0
 have yz11:w11.frozen? ⟨vb+1,0,none⟩=false:=zM HE11.out
 obtain⟨⟨d0,d1,d2,d3,d4,d5,d6,d7⟩,y0,y1,y2,y3,y4,y5,y6,y7⟩:=zAV HV11.out
 clear hx11 m1 m2 m3 hl10
 go_wp2_with(fail)
 clear ez11 yz11 d0 d1 d2 d3 d4 d5 d6 d7 y0 y1 y2 y3 y4 y5 y6 y7
 have hv12:=yV HV11.out (.string b) (.string item) (.int .u64 y) (.bool false) (.bool false) (.int .u64 now) (.int .i64 size) (.int .i64 p)
 have hk12:=xO w11 vb (.string b) (.string item) (.int .u64 y) (.bool false) (.bool false) (.int .u64 now) (.int .i64 size) (.int .i64 p)
 have he12:=hk12.at HE11.out (fun e=>by omega)
 have hX12:=HX11.out.aside HSt.out hk12 (by have:=HVb.out;omega) (HNf2.out vb (Qn _) (by omega))
 obtain⟨w12,hw12⟩:=qN (zBe w11 vb (.string b) (.string item) (.int .u64 y) (.bool false) (.bool false) (.int .u64 now) (.int .i64 size) (.int .i64 p))
 rw[hw12]at hv12 he12 hX12
 unfold zBe at hw12
 rw[hw12]
 have hk13:Keep (fun k=>k=vb+1) w12 (w12.setCell ⟨vb+1,0,none⟩ (.int .i64 0)):=(Keep.refl (fun k=>k=vb+1) _).setCell (p:=⟨vb+1,0,none⟩) (fun _=>rfl) _
 have he13:=heap_setCell_same _ (vb+1) 0 _ _ (.int .i64 0) he12
 have hv13:=hk13.at hv12 (fun e=>by omega)
 have hX13:=hX12.aside HSt.out hk13 (by have:=HVb.out;omega) (HNf2.out (vb+1) (by omega) (Qn _))
 obtain⟨w13,hw13⟩:=qN (w12.setCell ⟨vb+1,0,none⟩ (.int .i64 0))
 rw[hw13]at he13 hv13 hX13⊢
 clear hw12 hk12 he12 hX12 hv12 hk13 hw13
 have hv14:=yV hv13 (.string b) (.string item) (.int .u64 y) (.bool false) (.bool false) (.int .u64 now) (.int .i64 size) (.int .i64 p)
 have hk14:=xO w13 vb (.string b) (.string item) (.int .u64 y) (.bool false) (.bool false) (.int .u64 now) (.int .i64 size) (.int .i64 p)
 have he14:=hk14.at he13 (fun e=>by omega)
 have hX14:=hX13.aside HSt.out hk14 (by have:=HVb.out;omega) (HNf2.out vb (Qn _) (by omega))
 obtain⟨w14,hw14⟩:=qN (zBe w13 vb (.string b) (.string item) (.int .u64 y) (.bool false) (.bool false) (.int .u64 now) (.int .i64 size) (.int .i64 p))
 rw[hw14]at hv14 he14 hX14
 unfold zBe at hw14
 rw[hw14]
 have hk15:Keep (fun k=>k=vb+1) w14 (w14.setCell ⟨vb+1,0,none⟩ (.int .i64 0)):=(Keep.refl (fun k=>k=vb+1) _).setCell (p:=⟨vb+1,0,none⟩) (fun _=>rfl) _
 have he15:=heap_setCell_same _ (vb+1) 0 _ _ (.int .i64 0) he14
 have hv15:=hk15.at hv14 (fun e=>by omega)
 have hX15:=hX14.aside HSt.out hk15 (by have:=HVb.out;omega) (HNf2.out (vb+1) (by omega) (Qn _))
 obtain⟨w15,hw15⟩:=qN (w14.setCell ⟨vb+1,0,none⟩ (.int .i64 0))
 rw[hw15]at he15 hv15 hX15⊢
 have e15:w15.cell? ⟨vb+1,0,none⟩=some (.int .i64 0):=Qc he15 0
 clear hw14 hk14 he14 hX14 hv14 hk15 hw15 he13 hv13 hX13
 refine leaves_cons (f:=39) (args:= #[.pointer (some ⟨s.br,0,none⟩),.int .i64 mk,.pointer (some ⟨vb+1,0,none⟩)]) (by simp) (by simp[go_sem]) ?_
 refine(zEq _ _ _ _ e15 _).mono ?_
 rintro e u' w''⟨rfl,rfl,rfl⟩
 have e99:=e15
 have l1:=run_loadVar_row w'' vb 38 38 _ (0,0) _ hv15 underlying38 rfl (by kernel_rfl)
 simp[Leaves,settle,results,results13]
 obtain⟨a1,a2,a3,a4,a5⟩:=HP9.out
 obtain⟨c1,c2,c3⟩:=HM11.out
 refine⟨.tuple #[.agg #[.string b,.string item,.int .u64 y,.bool false,.bool false,.int .u64 now,.int .i64 size,.int .i64 p],.int .i64 0],?_,size,p,by rw[←HY.out];simp,ps,s2,hX15,?_,by rw[c2,a2],by rw[c3,HY.out],by simpa using a4,a5,rfl⟩
 ·exact zTu
 ·rw[c1,a1,HY.out]
end
section
variable {w : World} {sb : Nat} {s : Sto} {D : Dict} {nz : Nat} {b item : QB}
theorem zPH(h:StAt w sb s D nz)(hb:zK b=true){bo:Nat}(hlb:look s.X.kvM (zD b)=some (zT 1 bo))(hbo:bo<18446744073709551616)(hi:zP item=true)(hn:nz+3≤1900∧8*(nz+3)+300≤s.R.pages)(hx:s.X.next+1<18446744073709551616){now:Nat}(hnow:now<18446744073709551616):Calls prog 14 #[.pointer (some ⟨s.br,0,none⟩),.pointer (some ⟨sb,0,none⟩),.string b,.string item,.int .u64 now] w fun e w'=>∃s':Sto,e= .returned (.tuple #[.agg (vC b item (s.X.next+1) false true now 0 0),.int .i64 0])∧XStep w s D sb (nz+2) w' s'∧s'.X.kvM=ins s.X.kvM (zE b item (s.X.next+1)) (zBH (xy false true) now 0 0)∧s'.X.vb=s.X.vb∧s'.X.next=s.X.next+1:=by
 have HM:=Hd (fun(u:World)(hu:Below w.heap.size w u)=>xN (h.still hu).room)
 have HT:=Hd (fun(u:World)(hu:Below w.heap.size w u)=>zCk (h.still hu) (by omega) hb hlb (by decide) hbo hi)
 have HN:=Hd (fun(u:World)(hu:Below w.heap.size w u)=>zDb (h.still hu) (by omega) hb hi true hx hnow (size:=0) (page:=0) (by decide) (by decide))
 have HSt:=Hd h
 have HAh:=Hd h.ahead
 obtain⟨mk,hmk⟩:=qN s.R.T.puts.length
 rw[hmk]at HM
 unfold bkC at HT
 unfold vC at HN⊢
 clear hb hlb hi hmk h
 go_enter_defers func14,ntmps14
 go_wp2_with(fail)
 have hv2:=qH w (.cells #[.string ⟨#[]⟩,.string ⟨#[]⟩,.int .u64 0,.bool false,.bool false,.int .u64 0,.int .i64 0,.int .i64 0] 38)
 have hb1:Below w.heap.size w (w.alloc (.cells #[.string ⟨#[]⟩,.string ⟨#[]⟩,.int .u64 0,.bool false,.bool false,.int .u64 0,.int .i64 0,.int .i64 0] 38)):=qA
 have hs1:=World.size_alloc w (.cells #[.string ⟨#[]⟩,.string ⟨#[]⟩,.int .u64 0,.bool false,.bool false,.int .u64 0,.int .i64 0,.int .i64 0] 38)
 obtain⟨w1,hw1⟩:=qN (w.alloc (.cells #[.string ⟨#[]⟩,.string ⟨#[]⟩,.int .u64 0,.bool false,.bool false,.int .u64 0,.int .i64 0,.int .i64 0] 38))
 rw[hw1]at hv2 hb1 hs1⊢
 have hb2:=hb1.alloc hb1.size (.cells #[.int .i64 0] 29)
 have he2:=qH w1 (.cells #[.int .i64 0] 29)
 rw[hs1]at he2
 have hv3:(w1.alloc (.cells #[.int .i64 0] 29)).heap[w.heap.size]? =_:=(Below.heap_alloc _ _ _ (by omega)).trans hv2
 obtain⟨w2,hw2⟩:=qN (w1.alloc (.cells #[.int .i64 0] 29))
 rw[hw2]at hb2 he2 hv3⊢
 have HB2:=Hd hb2
 have HE2:=Hd he2
 have HV2:=Hd hv3
 clear hv2 hb1 hs1 hw1 hb2 he2 hv3 hw2
 obtain⟨vb,hvb⟩:=qN w.heap.size
 have HVb:=Hd hvb
 rw[hvb]at HE2 HV2⊢
 clear hvb
 refine(HM.out _ HB2.out).mono ?_
 rintro e _⟨rfl,rfl⟩
 go_wp2_with(fail)
 refine(HT.out _ HB2.out).mono ?_
 rintro e w3⟨rfl,hb3⟩
 have hb3':=qT HB2.out hb3
 have he3:=qB hb3 HE2.out
 have hv3:=qB hb3 HV2.out
 have hbk:Below w3.heap.size w3 (w3.alloc (.cells #[.string b,.int .i64 1,.int .u64 bo,.bool false,.string ⟨#[]⟩,.int .u64 0] 89)):=qA
 have hk4:=qH w3 (.cells #[.string b,.int .i64 1,.int .u64 bo,.bool false,.string ⟨#[]⟩,.int .u64 0] 89)
 have he4:=qB hbk he3
 have hv4:=qB hbk hv3
 have hb4:=qT hb3' hbk
 have hl3:vb+1<w3.heap.size:=(Gl he3)
 have ez4:(w3.alloc (.cells #[.string b,.int .i64 1,.int .u64 bo,.bool false,.string ⟨#[]⟩,.int .u64 0] 89)).cell? ⟨vb+1,0,none⟩=some (.int .i64 0):=Qc he4 0
 have yz4:(w3.alloc (.cells #[.string b,.int .i64 1,.int .u64 bo,.bool false,.string ⟨#[]⟩,.int .u64 0] 89)).frozen? ⟨vb+1,0,none⟩=false:=zM he4
 have e5:((w3.alloc (.cells #[.string b,.int .i64 1,.int .u64 bo,.bool false,.string ⟨#[]⟩,.int .u64 0] 89)).setCell ⟨vb+1,0,none⟩ (.int .i64 0)).cell? ⟨vb+1,0,none⟩=some (.int .i64 0):=World.cell?_setCell_same _ _ _ ez4
 have hk5:Keep (fun k=>k=vb+1) (w3.alloc (.cells #[.string b,.int .i64 1,.int .u64 bo,.bool false,.string ⟨#[]⟩,.int .u64 0] 89)) ((w3.alloc (.cells #[.string b,.int .i64 1,.int .u64 bo,.bool false,.string ⟨#[]⟩,.int .u64 0] 89)).setCell ⟨vb+1,0,none⟩ (.int .i64 0)):=(Keep.refl (fun k=>k=vb+1) _).setCell (p:=⟨vb+1,0,none⟩) (fun _=>rfl) _
 have HE5:=Hd (heap_setCell_same _ (vb+1) 0 _ _ (.int .i64 0) he4)
 have HV5:=Hd (hk5.at hv4 (fun e=>by omega))
 have HB5:=Hd (hb4.setCell (p:=⟨vb+1,0,none⟩) (by exact zLZ) (.int .i64 0))
 have k5c:((w3.alloc (.cells #[.string b,.int .i64 1,.int .u64 bo,.bool false,.string ⟨#[]⟩,.int .u64 0] 89)).setCell ⟨vb+1,0,none⟩ (.int .i64 0)).cell? ⟨w3.heap.size,1,none⟩=some (.int .i64 1):=Qc (hk5.at hk4 (fun e=>by omega)) 1
 clear hb3 hb3' he3 hv3 hbk hk4 he4 hv4 hb4 hl3 hk5
 go_wp2_with(fail)
 clear e5 ez4 yz4 k5c
 obtain⟨w10,hw10⟩:=qN ((w3.alloc (.cells #[.string b,.int .i64 1,.int .u64 bo,.bool false,.string ⟨#[]⟩,.int .u64 0] 89)).setCell ⟨vb+1,0,none⟩ (.int .i64 0))
 rw[hw10]at HE5 HV5 HB5⊢
 clear hw10
 have hn10:=HN.out w10 HB5.out
 obtain⟨y,hy⟩:=qN (s.X.next+1)
 rw[hy]at hn10
 have HY:=Hd hy
 have HN10:=Hd (show Calls prog 46 #[.pointer (some ⟨s.br,0,none⟩),.agg #[.string b,.string item,.int .u64 0,.bool false,.bool true,.int .u64 now,.int .i64 0,.int .i64 0]] w10 _ from hn10)
 clear hn10 hy
 have HE10:=Hd HE5.out
 have HV10:=Hd HV5.out
 have HX10:=Hd (XStep.still HSt.out HB5.out)
 have HNf1:=Hd (show∀k,vb≤k→k≤vb+1→¬s.foot k from fun k hk _ e=>by have:=HAh.out.2.2.2 _ e;have:=HVb.out;omega)
 refine(HN10.out).mono ?_
 rintro e w11⟨rfl,s2,hx11,m1,m2,m3⟩
 have hl10:vb+1<w10.heap.size:=(Gl HE10.out)
 have HNf2:=Hd (show∀k,vb≤k→k≤vb+1→¬s2.foot k from fun k hk hk2 e=>(hx11.step.foot k e).elim (HNf1.out k hk hk2) (fun e2=>by omega))
 have HE11:=Hd (hx11.step.keep.at HE10.out (HNf1.out _ (by omega) (Qn _)))
 have HV11:=Hd (hx11.step.keep.at HV10.out (HNf1.out _ (Qn _) (by omega)))
 have HX11:=Hd (HX10.out.trans hx11)
 have HM11:=Hd (And.intro m1 (And.intro m2 m3))
 have ez11:w11.cell? ⟨vb+1,0,none⟩=some (.int .i64 0):=Qc HE11.out 0
 have yz11:w11.frozen? ⟨vb+1,0,none⟩=false:=zM HE11.out
 obtain⟨⟨d0,d1,d2,d3,d4,d5,d6,d7⟩,y0,y1,y2,y3,y4,y5,y6,y7⟩:=zAV HV11.out
 clear hx11 m1 m2 m3 hl10
 go_wp2_with(fail)
 clear ez11 yz11 d0 d1 d2 d3 d4 d5 d6 d7 y0 y1 y2 y3 y4 y5 y6 y7
 have hv12:=yV HV11.out (.string b) (.string item) (.int .u64 y) (.bool false) (.bool true) (.int .u64 now) (.int .i64 0) (.int .i64 0)
 have hk12:=xO w11 vb (.string b) (.string item) (.int .u64 y) (.bool false) (.bool true) (.int .u64 now) (.int .i64 0) (.int .i64 0)
 have he12:=hk12.at HE11.out (fun e=>by omega)
 have hX12:=HX11.out.aside HSt.out hk12 (by have:=HVb.out;omega) (HNf2.out vb (Qn _) (by omega))
 obtain⟨w12,hw12⟩:=qN (zBe w11 vb (.string b) (.string item) (.int .u64 y) (.bool false) (.bool true) (.int .u64 now) (.int .i64 0) (.int .i64 0))
 rw[hw12]at hv12 he12 hX12
 unfold zBe at hw12
 rw[hw12]
 have hk13:Keep (fun k=>k=vb+1) w12 (w12.setCell ⟨vb+1,0,none⟩ (.int .i64 0)):=(Keep.refl (fun k=>k=vb+1) _).setCell (p:=⟨vb+1,0,none⟩) (fun _=>rfl) _
 have he13:=heap_setCell_same _ (vb+1) 0 _ _ (.int .i64 0) he12
 have hv13:=hk13.at hv12 (fun e=>by omega)
 have hX13:=hX12.aside HSt.out hk13 (by have:=HVb.out;omega) (HNf2.out (vb+1) (by omega) (Qn _))
 obtain⟨w13,hw13⟩:=qN (w12.setCell ⟨vb+1,0,none⟩ (.int .i64 0))
 rw[hw13]at he13 hv13 hX13⊢
 clear hw12 hk12 he12 hX12 hv12 hk13 hw13
 have hv14:=yV hv13 (.string b) (.string item) (.int .u64 y) (.bool false) (.bool true) (.int .u64 now) (.int .i64 0) (.int .i64 0)
 have hk14:=xO w13 vb (.string b) (.string item) (.int .u64 y) (.bool false) (.bool true) (.int .u64 now) (.int .i64 0) (.int .i64 0)
 have he14:=hk14.at he13 (fun e=>by omega)
 have hX14:=hX13.aside HSt.out hk14 (by have:=HVb.out;omega) (HNf2.out vb (Qn _) (by omega))
 obtain⟨w14,hw14⟩:=qN (zBe w13 vb (.string b) (.string item) (.int .u64 y) (.bool false) (.bool true) (.int .u64 now) (.int .i64 0) (.int .i64 0))
 rw[hw14]at hv14 he14 hX14
 unfold zBe at hw14
 rw[hw14]
 have hk15:Keep (fun k=>k=vb+1) w14 (w14.setCell ⟨vb+1,0,none⟩ (.int .i64 0)):=(Keep.refl (fun k=>k=vb+1) _).setCell (p:=⟨vb+1,0,none⟩) (fun _=>rfl) _
 have he15:=heap_setCell_same _ (vb+1) 0 _ _ (.int .i64 0) he14
 have hv15:=hk15.at hv14 (fun e=>by omega)
 have hX15:=hX14.aside HSt.out hk15 (by have:=HVb.out;omega) (HNf2.out (vb+1) (by omega) (Qn _))
 obtain⟨w15,hw15⟩:=qN (w14.setCell ⟨vb+1,0,none⟩ (.int .i64 0))
 rw[hw15]at he15 hv15 hX15⊢
 have e15:w15.cell? ⟨vb+1,0,none⟩=some (.int .i64 0):=Qc he15 0
 clear hw14 hk14 he14 hX14 hv14 hk15 hw15 he13 hv13 hX13
 refine leaves_cons (f:=39) (args:= #[.pointer (some ⟨s.br,0,none⟩),.int .i64 mk,.pointer (some ⟨vb+1,0,none⟩)]) (by simp) (by simp[go_sem]) ?_
 refine(zEq _ _ _ _ e15 _).mono ?_
 rintro e u' w''⟨rfl,rfl,rfl⟩
 have e99:=e15
 have l1:=run_loadVar_row w'' vb 38 38 _ (0,0) _ hv15 underlying38 rfl (by kernel_rfl)
 simp[Leaves,settle,results,results14]
 obtain⟨c1,c2,c3⟩:=HM11.out
 refine⟨.tuple #[.agg #[.string b,.string item,.int .u64 y,.bool false,.bool true,.int .u64 now,.int .i64 0,.int .i64 0],.int .i64 0],?_,by rw[←HY.out];simp,s2,hX15,?_,c2,by rw[c3,HY.out]⟩
 ·exact zTu
 ·rw[c1,HY.out]
end
structure Vr where
 id:Nat
 gone:Bool
 born:Nat
 size:Nat
 page:Nat
def Vr.ok(x:Vr):Prop:=x.id<18446744073709551616∧x.born<18446744073709551616∧x.size<4294967296∧x.page<4294967296
def Vr.kv(b item:QB)(x:Vr):QB×QB:=(zE b item x.id,zBH (xy false x.gone) x.born x.size x.page)
def Vr.cells(b item:QB)(x:Vr):List Value:=[.string b,.string item,.int .u64 x.id,.bool false,.bool x.gone,.int .u64 x.born,.int .i64 x.size,.int .i64 x.page]
def vrV(b item:QB)(l:List Vr):List Value:=l.flatMap (Vr.cells b item)
theorem zNM(b item:QB)(l:List Vr)(x:Vr):vrV b item (l++[x])=vrV b item l++x.cells b item:=by
 unfold vrV
 rw[List.flatMap_append]
 simp
theorem zPI:(prog.info? 38).map (fun i=>(i.zero,i.size,i.bytes))=some (some (.agg #[.string ⟨#[]⟩,.string ⟨#[]⟩,.int .u64 0,.bool false,.bool false,.int .u64 0,.int .i64 0,.int .i64 0]),8,72):=by
 kernel_rfl
def xz(b item:QB):QB:=yO 118 [b,item]
def x8(b item:QB):QB:=vB++(b++zB++item)++⟨#[1]⟩
theorem zF0(b item:QB):xz b item=vB++(b++zB++item)++⟨#[0]⟩:=by
 apply ByteArray.ext
 apply Array.toList_inj.1
 unfold xz yO xI vB zB
 simp
section
variable {w : World} {sb : Nat} {s : Sto} {D : Dict} {nz : Nat} {b item : QB}
theorem zIM(h:StAt w sb s D nz)(hn:nz≤1900)(hb:zK b=true)(hi:zP item=true)(limit:Int){Vs:List Vr}(hok:∀x∈Vs,x.ok)(hL:xw (xz b item) (x8 b item) limit s.X.kvM=Vs.map (Vr.kv b item)):Calls prog 47 #[.pointer (some ⟨s.br,0,none⟩),.string b,.string item,.int .i64 limit] w fun e w'=>∃v B,e= .returned (.tuple #[v,.int .i64 0])∧w'.ownsRow B 38 8 v Vs.length (vrV b item Vs)∧w.heap.size≤B∧Below w.heap.size w w':=by
 obtain⟨b0,b1⟩:=yc hb
 obtain⟨i0',i1⟩:=zg hi
 have HU:=Hd (fun(u:World)=>show Calls prog 107 #[.int .u8 118,.slice (some ⟨u.heap.size,0,none⟩) 2 2] (u.alloc (.cells #[.string b,.string item] 9)) fun e w'=>e= .returned (.string (xz b item))∧Below (u.alloc (.cells #[.string b,.string item] 9)).heap.size (u.alloc (.cells #[.string b,.string item] 9)) w' from zEm b item ⟨b0,by omega⟩ ⟨i0',by omega⟩ 118 u)
 have HBe:=Hd (zJi (vB++(b++zB++item)) (by rw[ByteArray.size_append,ByteArray.size_append,ByteArray.size_append];show 1+(b.size+1+item.size)≤1000;omega) 0 (by decide))
 rw[←zF0]at HBe
 rw[show vB++(b++zB++item)++(⟨#[UInt8.ofNat ((0:UInt8).toNat+1)]⟩:QB)=x8 b item from rfl]at HBe
 have HM:=Hd (zFz s.br)
 have HSc:=Hd (fun(u:World)tb(hu:Below w.heap.size w u)(ht:TreeAt u tb s.br 4)=>zEc (from_:=xz b item) (to_:=x8 b item) (limit:=limit) ht (h.room.still hu) h.sized.pages (by decide) h.cont.out.tm (by have:=h.sized.m;omega))
 rw[hL]at HSc
 have hfew:Vs.length≤2000:=by have h1:=(zB2 (xz b item) (x8 b item) limit s.X.kvM).2;rw[hL,List.length_map]at h1;have:=h.sized.m;omega
 have HRd:=Hd (fun(x:Vr)(hx:x.ok)=>zLX hb hi x.gone hx.1 hx.2.1 hx.2.2.1 hx.2.2.2)
 have HOk:=Hd hok
 obtain⟨i0,hi0,hz0,hz1,hz2⟩:=info_parts zPI
 have HI:=Hd hi0
 have Hz0:=Hd hz0
 have Hz1:=Hd hz1
 have Hz2:=Hd hz2
 obtain⟨uv,huv⟩:=qN (xz b item)
 obtain⟨bv,hbv⟩:=qN (x8 b item)
 rw[huv]at HU HBe HSc
 rw[hbv]at HBe HSc
 obtain⟨n,hnn⟩:=qN Vs.length
 have HN:=Hd hnn
 rw[hnn]at hfew⊢
 unfold vC at HRd
 clear h hb hi b0 b1 i0' i1 hok hL hi0 hz0 hz1 hz2 huv hbv hnn
 go_enter func47,ntmps47
 go_wp2_with(first|(go_at_call 107;refine(HU.out _).mono ?_;rintro e w1⟨rfl,hb1⟩;have HB1:=Hd (show Below w.heap.size w w1 from(qA).trans (hb1.mono (by simp)));clear hb1)|(go_at_call 108;refine(HM.out _).mono ?_;rintro e w2⟨rfl,hw2⟩;(have hb2:Below w1.heap.size w1 w2:=by rw[hw2];exact zOj);have HT2:=Hd (show w2.heap[w1.heap.size]? =some (.cells #[.pointer (some ⟨s.br,0,none⟩),.int .i64 4] 242 (0,0))by rw[hw2];exact qH w1 _);have HB2:=Hd (qT HB1.out hb2);clear hb2 hw2)|(go_at_call 110;refine(HBe.out _).mono ?_;rintro e w3⟨rfl,hb3⟩;have HT3:=Hd (qB hb3 HT2.out);have HB3:=Hd (qT HB2.out hb3);clear hb3)|(go_at_call 109;refine(HSc.out _ _ HB3.out ⟨HT3.out⟩).mono ?_;rintro e w4⟨v,rfl,hrow,hown,hb4⟩;obtain⟨sa,sc,rfl⟩:=zA hrow;have HRow:=Hd hrow;have HB4:=Hd (qT HB3.out hb4);clear hrow hown hb4))
 rw[List.length_map,HN.out]at HRow
 try rw[HN.out]
 go_loopw [13,15,16,17,37](fun o _ _ _ i wr=>∃k,k≤n∧i= .int .i64 k∧wr.ownsRow w4.heap.size 38 8 o k (vrV b item (Vs.take k))∧Below w4.heap.size w4 wr)(fun _ _ _ _ i _=>n-(intOf i).toNat)
 case atStart=>exact⟨0,by omega,rfl,qO,Below.refl _ _⟩
 case round=>obtain⟨k,hk,rfl,hro,hbel⟩:=hrel;have HRo:=Hd hro;have HB:=Hd hbel;obtain⟨oa,oc,hov⟩:=zA hro;subst hov;clear hro;by_cases hlt:k<n;(·(have g1:decide ((k:Int)<(n:Int))=true:=by simp;omega);(have g1':decide (k<n)=true:=by simpa using hlt);obtain⟨gs,cs,hs,hc1,hc2,hgB⟩:=zH HRow.out (by omega);obtain⟨e1,e2,e3⟩:=Value.slice.inj hs;subst e1;(have hkl:k<Vs.length:=by rw[HN.out];exact hlt);(have hkl2:k<(Vs.map (Vr.kv b item)).length:=by rw[List.length_map];exact hkl);obtain⟨pa,pb⟩:=zMt hkl2;have hgl:=(HRow.out.lt gs rfl).2;(have q0:wr.cell? ⟨gs,k*2,none⟩=some (.string (Vs[k].kv b item).1):=by rw[hbel.cell (p:=⟨gs,k*2,none⟩) hgl];have:=zC HRow.out _ _ pa;rwa [List.getElem_map]at this);(have q1:wr.cell? ⟨gs,k*2+1,none⟩=some (.string (Vs[k].kv b item).2):=by rw[hbel.cell (p:=⟨gs,k*2+1,none⟩) hgl];have:=zC HRow.out _ _ pb;rwa [List.getElem_map]at this);have hok:=HOk.out _ (List.getElem_mem hkl);have htk:Vs.take (k+1)=Vs.take k++[Vs[k]]:=List.take_succ_eq_append_getElem hkl;obtain⟨x,hx⟩:=qN (Vs[k]);rw[hx]at q0 q1 hok htk;have HR2:=Hd (HRd.out x hok);obtain⟨id,mk,born,size,page⟩:=x;unfold Vr.kv at q0 q1;simp only at q0 q1 HR2;obtain⟨key,hkey⟩:=qN (zE b item id);obtain⟨val,hval⟩:=qN (zBH (xy false mk) born size page);rw[hkey]at q0 HR2;rw[hval]at q1 HR2;have HTk:=Hd htk;(have hk0:(k:Int)<(n:Int):=by omega);(have hnl:(n:Int)≤2000:=by omega);have HGl:=Hd hgl;have HN2:=Hd hfew;clear hs e2 e3 pa pb hok htk hx hkey hval hkl2 hgl;go_wp2_with(first|(go_at_call 111;refine(HR2.out _).mono ?_;rintro e w5⟨rfl,hb5⟩;have hb5':Below wr.heap.size wr w5:=(qA).trans (hb5.mono (by simp));have HB5:=Hd hb5';have HRo5:=Hd ((Keep.ofBelow (S:=fun _=>False) hb5').ownsRow HRo.out (fun _ _ e=>e));have hx5:=qH w5 (.cells #[.string b,.string item,.int .u64 id,.bool false,.bool mk,.int .u64 born,.int .i64 size,.int .i64 page] 38);obtain⟨⟨d0,d1,d2,d3,d4,d5,d6,d7⟩,-⟩:=zAV hx5;have hx6:=qH (w5.alloc (.cells #[.string b,.string item,.int .u64 id,.bool false,.bool mk,.int .u64 born,.int .i64 size,.int .i64 page] 38)) (.cells #[.string b,.string item,.int .u64 id,.bool false,.bool mk,.int .u64 born,.int .i64 size,.int .i64 page] 38);rw[World.size_alloc]at hx6;have HX6:=Hd hx6;clear hb5 hb5' hx5 hx6)|(at_builtin;refine wpList_append_own_at _ (by rfl) _ _ 111 (by rfl) w4.heap.size 38 i0 (.agg #[.string ⟨#[]⟩,.string ⟨#[]⟩,.int .u64 0,.bool false,.bool false,.int .u64 0,.int .i64 0,.int .i64 0]) 8 72 underlying111 HI.out Hz0.out Hz1.out Hz2.out (by rfl) (by decide) (.slice oa k oc) _ _ (by rfl) ((HRo5.out.alloc _).alloc _) ⟨w5.heap.size+1,0,none⟩ 1 1 [.string b,.string item,.int .u64 id,.bool false,.bool mk,.int .u64 born,.int .i64 size,.int .i64 page] (by rfl) (by rfl) (World.news_of_block (cs:= #[.string b,.string item,.int .u64 id,.bool false,.bool mk,.int .u64 born,.int .i64 size,.int .i64 page]) (t:=38) (fr:=(0,0)) HX6.out) (by simp[Value.oneCell']) (by unfold maxLen;omega) (by omega) ?_ ?_;(·have h1:=HB.out.size;have h2:=HB5.out.size;simp;omega);intro v8 w8 hown8 hg8 hnil8 hloc8;have HO8:=Hd hown8;have hk8:=(((Keep.refl (fun q=>(Value.slice oa k oc).ownBlock=some q) w5).alloc (.cells #[.string b,.string item,.int .u64 id,.bool false,.bool mk,.int .u64 born,.int .i64 size,.int .i64 page] 38)).alloc (.cells #[.string b,.string item,.int .u64 id,.bool false,.bool mk,.int .u64 born,.int .i64 size,.int .i64 page] 38)).grown hg8 (fun q _ e=>e);have HB8:=Hd (show Below w4.heap.size w4 w8 from(qT HB.out HB5.out).trans (hk8.below (by have h1:=HB.out.size;have h2:=HB5.out.size;omega) (fun z hz e=>by have:=(HRo.out.lt z e).1;omega)));obtain⟨p8,c8,hv8⟩:=zA hown8;subst hv8;clear hown8 hg8 hnil8 hloc8 hk8));go_roundw;(case rel=>exact⟨k+1,by omega,by go_num,by rw[HTk.out,zNM];exact HO8.out,HB8.out⟩);case measure=>simp[intOf];omega);·(obtain rfl:k=n:=by omega);(have htk:Vs.take k=Vs:=by rw[←HN.out,List.take_length]);rw[htk]at HRo;clear hbel htk;go_wp2;go_ret2;exact⟨_,_,rfl,HRo.out,HB4.out.size,qT HB4.out HB.out⟩
end
section
variable {w : World} {sb : Nat} {s : Sto} {D : Dict} {nz : Nat} {b item : QB}
theorem zTv{p:Prop}(h:p:=by refine bodyPost_ret (zx rfl _ _ w.heap.size _ _ _ _ rfl (yV HX4.out _ _ _ _ _ _ _ _) underlying38 rfl (by kernel_rfl)) rfl ?_;exact⟨rfl,zAs HB4.out (Qn _) _ _ _ _ _ _ _ _⟩):p:=h
theorem zJj(h:StAt w sb s D nz)(hn:nz≤1900)(hb:zK b=true){st bo:Nat}(hlb:look s.X.kvM (zD b)=some (zT st bo))(hst:st<256)(hbo:bo<18446744073709551616)(hi:zP item=true){id born size page:Nat}(hok:Vr.ok ⟨id,true,born,size,page⟩)(hL:xw (xz b item) (x8 b item) 1 s.X.kvM=[Vr.kv b item ⟨id,true,born,size,page⟩]):Calls prog 15 #[.pointer (some ⟨s.br,0,none⟩),.string b,.string item,.int .u64 0] w fun e w'=>e= .returned (.tuple #[.agg vZ,.int .i64 23])∧Below w.heap.size w w':=by
 unfold vZ
 have hb0:Below w.heap.size w (w.alloc (.cells #[.string ⟨#[]⟩,.string ⟨#[]⟩,.int .u64 0,.bool false,.bool false,.int .u64 0,.int .i64 0,.int .i64 0] 38)):=qA
 have hx0:=qH w (.cells #[.string ⟨#[]⟩,.string ⟨#[]⟩,.int .u64 0,.bool false,.bool false,.int .u64 0,.int .i64 0,.int .i64 0] 38)
 have HT:=Hd (zCk (h.still hb0) hn hb hlb hst hbo hi)
 have HG:=Hd (fun(u:World)(hu:Below w.heap.size w u)=>zIM (h.still hu) hn hb hi 1 (Vs:=[⟨id,true,born,size,page⟩]) (fun x hx=>by rw[List.mem_singleton.1 hx];exact hok) hL)
 unfold bkC at*
 have HB0:=Hd hb0
 have HX0:=Hd hx0
 clear h hb hi hL hb0 hx0 hlb
 go_enter func15,ntmps15
 go_wp2_with(first|(go_at_call 41;refine(HT.out).mono ?_;rintro e w1⟨rfl,hb1⟩;have hx1:=(hb1.block w.heap.size (by simp)).trans HX0.out;have hb1':=qT HB0.out hb1;have hb2:Below w1.heap.size w1 (w1.alloc (.cells #[.string b,.int .i64 st,.int .u64 bo,.bool false,.string ⟨#[]⟩,.int .u64 0] 89)):=qA;have HX2:=Hd (qB hb2 hx1);have HB2:=Hd (qT hb1' hb2);clear hb1 hx1 hb1' hb2)|(go_at_call 47;refine(HG.out _ HB2.out).mono ?_;rintro e w4⟨v,B,rfl,hrow,hB,hb4⟩;have hrow1:w4.ownsRow B 38 8 v 1 (vrV b item [⟨id,true,born,size,page⟩]):=hrow;obtain⟨g,c,rfl,hc1,hc2,hgB⟩:=zH hrow1 (by decide);have k4:w4.cell? ⟨g,4,none⟩=some (.bool true):=zC hrow1 4 _ rfl;have hx4:=qB hb4 HX2.out;have HX4:=Hd hx4;have HB4:=Hd (qT HB2.out hb4);obtain⟨⟨d0,d1,d2,d3,d4,d5,d6,d7⟩,y0,y1,y2,y3,y4,y5,y6,y7⟩:=zAV hx4;clear hb4 hx4 hrow hrow1))
 exact zTv
end
theorem zGs(br:Nat)(w:World):Calls prog 31 #[.pointer (some ⟨br,0,none⟩)] w fun e w'=>e= .returned (.pointer (some ⟨w.heap.size+2,0,none⟩))∧w'=((w.alloc (.cells #[.pointer (some ⟨br,0,none⟩),.int .i64 0] 242)).alloc (.cells #[.pointer (some ⟨br,0,none⟩),.int .i64 1] 242)).alloc (.cells #[.pointer (some ⟨br,0,none⟩),.pointer (some ⟨w.heap.size,0,none⟩),.pointer (some ⟨w.heap.size+1,0,none⟩)] 173):=by
 have T0:∀u:World,Calls prog 83 #[.pointer (some ⟨br,0,none⟩),.int .i64 0] u fun e w'=>e= .returned (.pointer (some ⟨u.heap.size,0,none⟩))∧u.alloc (.cells #[.pointer (some ⟨br,0,none⟩),.int .i64 0] 242)=w':=fun u=>(kN br 0 u).mono fun e w'⟨a,b⟩=>⟨a,b.symm⟩
 have T1:∀u:World,Calls prog 83 #[.pointer (some ⟨br,0,none⟩),.int .i64 1] u fun e w'=>e= .returned (.pointer (some ⟨u.heap.size,0,none⟩))∧u.alloc (.cells #[.pointer (some ⟨br,0,none⟩),.int .i64 1] 242)=w':=fun u=>(kN br 1 u).mono fun e w'⟨a,b⟩=>⟨a,b.symm⟩
 have HT0:=Hd (T0 w)
 have HT1:=Hd T1
 clear T0 T1
 go_enter func31,ntmps31
 go_wp2_with(fail)
 refine(HT0.out).mono ?_
 rintro e _⟨rfl,rfl⟩
 go_wp2_with(fail)
 refine(HT1.out _).mono ?_
 rintro e _⟨rfl,rfl⟩
 go_wp2
 go_ret
 refine⟨?_,?_⟩
 ·simp
 ·simp
theorem zGt(k i:Nat):xY (yn 512) k i=0:=by
 induction i with|zero=>rfl|succ i ih=>rw[vQ,ih,zA7]
theorem zJk(n:Nat)(hn1:4≤n)(hn2:n≤65335)(w:World):Calls prog 9 #[.int .i64 n] w fun e w'=>∃sb s,e= .returned (.tuple #[.pointer (some ⟨s.br,0,none⟩),.pointer (some ⟨sb,0,none⟩)])∧StAt w' sb s (fun _=>none) 0∧s.X=⟨[],[],[],0⟩∧s.kvI=[]∧s.R.pages=(yI n).toNat∧(∀g,s.foot g→w.heap.size≤g)∧Below w.heap.size w w':=by
 have HW:=Hd (zMR n hn1 hn2 w)
 go_enter func9,ntmps9
 go_wp2_with(first|(go_at_call 28;refine(HW.out).mono ?_;rintro e w1⟨bd,bl,rfl,hv,hb1⟩;have HV:=Hd (zKp hv);have HB1:=Hd hb1;clear hv hb1)|(go_at_call 30;refine(HV.out).mono ?_;rintro e w2⟨bt,T,rfl,hT,hA,hbt,hb2⟩;(have hTn:T.n=n:=by rw[hT];rfl);have HO:=Hd (zQH hA (by omega));have HB2:=Hd (qT HB1.out hb2);have HT:=Hd hT;have HBt:=Hd hbt;have HTn:=Hd hTn;clear hT hA hbt hb2 hTn)|(go_at_call 29;refine(HO.out).mono ?_;rintro e w3⟨br,R,rfl,hR,hRb,hRT,hp,hbr,hb3⟩;have HB3:=Hd (qT HB2.out hb3);have HR:=Hd hR;have HR2:=Hd (And.intro hRb (And.intro hRT (And.intro hp hbr)));clear hR hRb hRT hp hbr hb3)|(go_at_call 31;refine(zGs _ _).mono ?_;rintro e w4⟨rfl,hw4⟩;skip))
 subst hw4
 go_ret2
 have hF:Fresh R n:=⟨by rw[HR2.out.2.1];exact HTn.out,by rw[HR2.out.2.1,HT.out];rfl,fun i=>by rw[HR2.out.2.1,HT.out];rfl,by rw[HR2.out.2.2.1,HTn.out]⟩
 have hp:R.pages=(yI n).toNat:=hF.pages
 have hp2:R.pages≤65536:=by rw[hp];unfold yI;split<;>omega
 have hr:∀k,R.root k=0:=fun k=>by unfold RoomS.root;rw[hF.home];exact zGt k 8
 obtain⟨n1,n2,n3,n4⟩:=SealG.new3 w3 (.cells #[.pointer (some ⟨br,0,none⟩),.int .i64 0] 242) (.cells #[.pointer (some ⟨br,0,none⟩),.int .i64 1] 242) (.cells #[.pointer (some ⟨br,0,none⟩),.pointer (some ⟨w3.heap.size,0,none⟩),.pointer (some ⟨w3.heap.size+1,0,none⟩)] 173)
 have hlt:∀k,R.foot br k→k<w3.heap.size:=fun k hk=>by rcases hk with e|e;(·rw[e];exact(Gl HR.out.cells));·exact HR.out.tx.foot_lt e
 refine⟨_,⟨br,w3.heap.size,w3.heap.size+1,R,[],[],[],[],[],⟨[],[],[],0⟩⟩,rfl,⟨n3,⟨n1⟩,⟨n2⟩,HR.out.still n4,fun e=> ?_,fun e=> ?_,fun e=> ?_,?_,?_⟩,rfl,rfl,hp,fun g hg=> ?_,qT HB3.out n4⟩
 ·exact absurd (hlt _ e) (by omega)
 ·exact absurd (hlt _ e) (Nat.lt_irrefl _)
 ·exact absurd (hlt _ e) (Nat.not_lt.2 (Nat.le_succ _))
 ·exact⟨.inl ⟨hr 0,rfl,rfl⟩,.inl ⟨hr 1,rfl,rfl⟩,List.nodup_nil,fun q _ e=>(by rw[hF.has q]at e;cases e),fun q e=>(by cases e),fun id t e=>(by cases e),fun _ _=>rfl,fun x e=>(by cases e),⟨.inl ⟨hr 4,rfl,rfl⟩,fun b e=>(by cases e),hr 5⟩,fun q e=>(by cases e),List.nodup_nil⟩
 ·exact⟨Qn _,Qn _,Qn _,Qn _,hp2,by show R.T.puts.length≤_;rw[hF.puts];exact Nat.zero_le _,by rw[hr 2];exact Qn _,Qn _,Qn _⟩
 ·rcases hg with e|e;(·rw[e];exact Nat.le_trans HB2.out.size HR2.out.2.2.2);·rw[HR2.out.1,HR2.out.2.1,HT.out]at e;have h1:=HB1.out.size;have h2:=HBt.out;rcases e with e|e|e|e|⟨i,v,e,_⟩;(·omega);(·rw[e];exact h1);(·exact e.1);(·cases e);·cases e
def got(D:Dict)(r:QB×Int):Option QB:=match D r.1 with|some t=>if(t.size:Int)=r.2 then some t else none|none=>none
def texts(D:Dict):xV→Option (List QB)|[]=>some []|r::l=>match got D r with|some t=>(texts D l).map (t::·)|none=>none
def zIN(ts:List QB):List UInt8:=ts.flatMap (fun t=>t.data.toList)
section
variable {w : World} {sb xb bb : Nat} {s : Sto} {D : Dict} {nz : Nat}
end
def zIO(D:Dict)(l:xV):QB×Int:=if l.all ym then(match texts D l with|some ts=>(⟨(zIN ts).toArray⟩,0)|none=>(⟨#[]⟩,6))else(⟨#[]⟩,1)
theorem Met.tail{D:Dict}{r:QB×Int}{l:xV}{p:QB}{ls:List QB}(h:Met D (r::l) (p::ls)):Met D l ls:=⟨by have:=h.len;simpa using this,fun j x y hx hy=>h.one (j+1) x y (by simpa using hx) (by simpa using hy)⟩
theorem zLa{D:Dict}{l:xV}{ls:List QB}(h:Met D l ls):texts D l=some ls:=by
 induction l generalizing ls with|nil=>have:=h.len;(cases ls with|nil=>rfl|cons _ _=>simp at this)|cons r l ih=>cases ls with|nil=>have:=h.len;simp at this|cons p ls=>obtain⟨h1,h2,h3⟩:=h.one 0 r p rfl rfl;rw[texts,show got D r=some p from by unfold got;rw[h3];simp only;rw[if_pos h2.symm],ih h.tail];rfl
theorem zLb{D:Dict}{l:xV}{ls:List QB}(h:Met D l ls)(hp:∀p∈ls,1≤p.size∧p.size≤128):l.all ym=true:=by
 rw[List.all_eq_true]
 intro r hr
 obtain⟨j,hj,e⟩:=List.getElem_of_mem hr
 have hj2:j<ls.length:=by rw[←h.len];exact hj
 obtain⟨h1,h2,h3⟩:=h.one j r ls[j] (by rw[Qg hj,e]) (Qg hj2)
 have:=hp _ (List.getElem_mem hj2)
 rw[zAU]
 exact⟨h1,by omega,by omega⟩
theorem zPJ{D:Dict}{l:xV}{ls:List QB}(h:Met D l ls):tot l=((zIN ls).length:Int):=by
 induction l generalizing ls with|nil=>have:=h.len;(cases ls with|nil=>rfl|cons _ _=>simp at this)|cons r l ih=>cases ls with|nil=>have:=h.len;simp at this|cons p ls=>obtain⟨h1,h2,h3⟩:=h.one 0 r p rfl rfl;have e:zIN (p::ls)=p.data.toList++zIN ls:=rfl;have e3:p.data.toList.length=p.size:=Array.length_toList;rw[tot,ih h.tail,h2,e,Ql,e3];exact(Int.natCast_add _ _).symm
theorem zPK{D:Dict}{l:xV}{ls:List QB}{text:QB}(h:Met D l ls)(hp:PartsOf text ls):l.all ym=true∧16*l.length≤text.size+15∧tot l=(text.size:Int)∧zIO D l=(text,0):=by
 have e1:zIN ls=text.data.toList:=hp.cat
 have hok:=zLb h hp.part
 refine⟨hok,by rw[h.len];exact hp.few,by rw[zPJ h,e1,show text.data.toList.length=text.size from Array.length_toList],?_⟩
 unfold zIO
 rw[if_pos hok,zLa h]
 simp only
 rw[e1]
theorem zJl{n k:Nat}(h:n≤506*k)(hk:1≤k):zc n≤k:=by
 unfold zc
 split<;>omega
def abcB:QB:=⟨#[97,98,99]⟩
theorem yt:zK abcB=true:=by
 kernel_rfl
theorem zr{a b:UInt8}{l m:List UInt8}:a::l<b::m↔a<b∨a=b∧l<m:=List.cons_lt_cons_iff
theorem zEr(p:List UInt8){x y:List UInt8}:p++x<p++y↔x<y:=by
 induction p with|nil=>exact Iff.rfl|cons a p ih=>rw[List.cons_append,List.cons_append,zr,ih];constructor;(·rintro(h|⟨_,h⟩);(·exact absurd h (by rw[vA];omega));·exact h);·exact fun h=>.inr ⟨rfl,h⟩
theorem zNO(x y:List UInt8):x<y∨x=y∨y<x:=by
 by_cases h:x<y
 ·exact .inl h
 ·by_cases k:y<x;(·exact .inr (.inr k));·exact .inr (.inl (List.le_antisymm (List.not_lt.1 k) (List.not_lt.1 h)))
theorem zB5{a:UInt8}{l:List UInt8}:([]:List UInt8)<a::l:=List.nil_lt_cons _ _
theorem zJm{k1 k2:List UInt8}(f g:List UInt8)(h2:nz k2)(h:k1<k2):k1++0::f<k2++0::g:=by
 induction k1 generalizing k2 with|nil=>(cases k2 with|nil=>exact absurd h (List.not_lt_nil _)|cons b t=>exact zr.2 (.inl (zKM (vL h2).1)))|cons a t1 ih=>cases k2 with|nil=>exact absurd h (List.not_lt_nil _)|cons b t=>rcases zr.1 h with e|⟨e,e2⟩;(·exact zr.2 (.inl e));·exact zr.2 (.inr ⟨e,ih (vL h2).2 e2⟩)
theorem zTw{p:Prop}(h:p:=by exact⟨fun h=>absurd h (List.not_lt_nil _),fun h=>absurd h (List.not_lt_nil _)⟩):p:=h
theorem zQz{k s:List UInt8}(f:List UInt8)(hs:nz s):k++0::f<s↔k<s:=by
 induction k generalizing s with|nil=>(cases s with|nil=>exact zTw|cons b t=>exact⟨fun _=>zB5,fun _=>zr.2 (.inl (zKM (vL hs).1))⟩)|cons a k ih=>cases s with|nil=>exact zTw|cons b t=>rw[List.cons_append,zr,zr,ih (vL hs).2]
theorem zPM{k s:List UInt8}(f:List UInt8)(hs:nz s):s<+:k++0::f↔s<+:k:=by
 induction s generalizing k with|nil=>exact⟨fun _=>List.nil_prefix,fun _=>List.nil_prefix⟩|cons b t ih=>cases k with|nil=>constructor;(·intro h;rw[List.nil_append,List.cons_prefix_cons]at h;exact absurd h.1 (vL hs).1);(·intro h;exact absurd (List.prefix_nil.1 h) (by simp))|cons a k=>rw[List.cons_append,List.cons_prefix_cons,List.cons_prefix_cons,ih (vL hs).2]
theorem zPN{k s:List UInt8}(f:List UInt8)(hk:nz k)(hs:nz s):s++[0]<+:k++0::f↔s=k:=by
 induction s generalizing k with|nil=>(cases k with|nil=>exact⟨fun _=>rfl,fun _=>⟨f,rfl⟩⟩|cons a k=>rw[List.nil_append,List.cons_append,List.cons_prefix_cons];exact⟨fun h=>absurd h.1.symm (vL hk).1,fun h=>by cases h⟩)|cons b t ih=>cases k with|nil=>rw[List.nil_append,List.cons_append,List.cons_prefix_cons];exact⟨fun h=>absurd h.1 (vL hs).1,fun h=>by cases h⟩|cons a k=>rw[List.cons_append,List.cons_append,List.cons_prefix_cons,ih (vL hk).2 (vL hs).2];constructor;(·rintro⟨e1,e2⟩;rw[e1,e2]);·intro e;exact⟨(List.cons.inj e).1,(List.cons.inj e).2⟩
theorem zBo{l x:List UInt8}(h:l<+:x):¬x<l:=by
 obtain⟨t,rfl⟩:=h
 induction l with|nil=>exact List.not_lt_nil _|cons a l ih=>rw[List.cons_append,zr];rintro(h|⟨_,h⟩);(·exact absurd h (by rw[vA];omega));·exact ih h
theorem zNP(m:Nat)(x:List UInt8):x<List.replicate m 255∨List.replicate m 255<+:x:=by
 induction m generalizing x with|zero=>exact .inr List.nil_prefix|succ m ih=>rw[List.replicate_succ];cases x with|nil=>exact .inl zB5|cons a t=>by_cases h:a=255;(·subst h;rcases ih t with e|e;(·exact .inl (zr.2 (.inr ⟨rfl,e⟩)));·exact .inr (List.cons_prefix_cons.2 ⟨rfl,e⟩));·refine .inl (zr.2 (.inl ?_));rw[vA];have h1:=a.toNat_lt;have h2:a.toNat≠255:=fun e=>h (UInt8.toNat_inj.1 e);show a.toNat<255;omega
def Beh(l h:List UInt8):Prop:=∃(p:List UInt8)(c:UInt8)(m:Nat),c.toNat<255∧l=p++c::List.replicate m 255∧h=p++[c+1]
theorem zPO{y c:UInt8}(hc:c.toNat<255):y<c+1↔y<c∨y=c:=by
 have e:(c+1).toNat=c.toNat+1:=by rw[UInt8.toNat_add];show(c.toNat+1)%256=_;omega
 rw[vA,vA,e,←UInt8.toNat_inj]
 omega
theorem Beh.lt{l h:List UInt8}(H:Beh l h)(x:List UInt8):x<h↔x<l∨l<+:x:=by
 obtain⟨p,c,m,hc,rfl,rfl⟩:=H
 induction p generalizing x with|nil=>rw[List.nil_append,List.nil_append];(cases x with|nil=>exact⟨fun _=>.inl zB5,fun _=>zB5⟩|cons y t=>rw[zr,zr,List.cons_prefix_cons,zPO hc];constructor;(·rintro((h|h)|⟨_,h⟩);(·exact .inl (.inl h));(·rcases zNP m t with e|e;(·exact .inl (.inr ⟨h,e⟩));·exact .inr ⟨h.symm,e⟩);·exact absurd h (List.not_lt_nil _));·rintro((h|⟨h,_⟩)|⟨h,_⟩);(·exact .inl (.inl h));(·exact .inl (.inr h));·exact .inl (.inr h.symm))|cons a p ih=>rw[List.cons_append,List.cons_append];cases x with|nil=>exact⟨fun _=>.inl zB5,fun _=>zB5⟩|cons y t=>rw[zr,zr,List.cons_prefix_cons,ih];constructor;(·rintro(h|⟨h,h2|h2⟩);(·exact .inl (.inl h));(·exact .inl (.inr ⟨h,h2⟩));·exact .inr ⟨h.symm,h2⟩);·rintro((h|⟨h,h2⟩)|⟨h,h2⟩);(·exact .inl h);(·exact .inr ⟨h,.inl h2⟩);·exact .inr ⟨h.symm,.inr h2⟩
theorem zQ0(c:UInt8)(hc:c.toNat<255)(s:List UInt8):∃h,Beh (c::s) h∧h≠[]∧(∃t,h=c::t∨h=(c+1)::t):=by
 obtain⟨n,hn⟩:=qN s.length
 induction n generalizing s with|zero=>rw[List.length_eq_zero_iff.1 hn];exact⟨[c+1],⟨[],c,0,hc,rfl,rfl⟩,by simp,[],.inr rfl⟩|succ n ih=>obtain⟨s',a,rfl⟩:∃s' a,s=s'++[a]:=⟨s.dropLast,s.getLast (fun e=>by rw[e]at hn;cases hn),(List.dropLast_concat_getLast _).symm⟩;by_cases ha:a=255;(·subst ha;obtain⟨h,⟨p,d,m,h1,h2,h3⟩,h4,h5⟩:=ih s' (by simpa using hn);refine⟨h,⟨p,d,m+1,h1,?_,h3⟩,h4,h5⟩;rw[←List.cons_append,h2,Qa,List.cons_append,List.replicate_succ']);·(have h2:a.toNat<255:=by have h1:=a.toNat_lt;have h2:a.toNat≠255:=fun e=>ha (UInt8.toNat_inj.1 e);omega);exact⟨c::s'++[a+1],⟨c::s',a,0,h2,rfl,rfl⟩,by simp,s'++[a+1],.inl rfl⟩
def zAt(b:QB):List UInt8:=118::(b.data.toList++[0])
theorem zo(b k:QB)(id:Nat):(zE b k id).data.toList=zAt b++(k.data.toList++0::(xH id).data.toList):=by
 rw[zBn]
 unfold zAt vB zB
 simp
theorem zEs(b k:QB)(id:Nat){s:List UInt8}(hs:nz s):(zE b k id).data.toList<zAt b++s↔k.data.toList<s:=by
 rw[zo,zEr,zQz _ hs]
theorem zPP(b k:QB)(id:Nat){s:List UInt8}(hs:nz s):zAt b++s<+:(zE b k id).data.toList↔s<+:k.data.toList:=by
 rw[zo,List.prefix_append_right_inj,zPM _ hs]
theorem zEt(b k:QB)(id:Nat){s:List UInt8}(hk:nz k.data.toList)(hs:nz s):(zE b k id).data.toList<zAt b++(s++[0])↔k.data.toList<s:=by
 rw[zo,zEr]
 constructor
 ·intro h;rcases zNO k.data.toList s with e|e|e;(·exact e);(·rw[e]at h;exact absurd h (zBo ⟨(xH id).data.toList,by simp⟩));·exact absurd h (fun h=>List.lt_irrefl _ (List.lt_trans h (zJm [] (xH id).data.toList hk e)))
 ·exact fun h=>zJm _ [] hs h
theorem zPQ(b k:QB)(id:Nat){s:List UInt8}(hk:nz k.data.toList)(hs:nz s):zAt b++(s++[0])<+:(zE b k id).data.toList↔s=k.data.toList:=by
 rw[zo,List.prefix_append_right_inj,zPN _ hk hs]
def Vd.kv(k:QB)(v:Vd):QB×QB:=(zE abcB k v.id,zBH (xy false v.gone) v.born v.body.size v.page)
def It.kv(it:It):KV:=it.vs.map (Vd.kv it.key)
def xR(L:List It):KV:=L.flatMap It.kv
def vT(L:List It):KV:=(zD abcB,zT 1 0)::xR L
def Vd.ok(v:Vd):Prop:=v.born<1000∧v.body.size≤40∧v.page<65536
structure It.Ok(n:Nat)(it:It):Prop where
 key:zP it.key=true
 ne:it.vs≠[]
 falls:it.vs.Pairwise (fun a b=>b.id<a.id)
 top:∀v∈it.vs,1≤v.id∧v.id≤n
 ok:∀v∈it.vs,v.ok
structure ItsOk(n:Nat)(L:List It):Prop where
 one:∀it∈L,it.Ok n
 rises:L.Pairwise (fun a b=>bLt a.key b.key)
 few:n<1000
theorem vx{L:List It}{n it:It}(h:it∈yE L n):it=n∨it∈L:=by
 induction L with|nil=>exact .inl (by simpa[yE]using h)|cons a t ih=>unfold yE at h;split at h;(·rcases List.mem_cons.1 h with e|e;(·exact .inr (by simp[e]));·exact(ih e).imp id (fun e=>List.mem_cons_of_mem _ e));·split at h;(·exact zRP);·exact zRQ
theorem zAu(L:List It)(n:It):(yE L n).length≤L.length+1:=by
 induction L with|nil=>exact Qn _|cons a t ih=>unfold yE;split;(·simp;omega);·split;(·simp);·simp
theorem zIP{L:List It}{n:It}(h:L.Pairwise (fun a b=>bLt a.key b.key)):(yE L n).Pairwise (fun a b=>bLt a.key b.key):=by
 induction L with|nil=>exact List.pairwise_singleton _ _|cons a t ih=>obtain⟨h1,h2⟩:=List.pairwise_cons.1 h;unfold yE;split;(·rename_i hlt;refine List.pairwise_cons.2 ⟨fun x hx=> ?_,ih h2⟩;rcases vx hx with e|e;(·rw[e];exact hlt);·exact h1 x e);·rename_i hlt;split;(·rename_i heq;exact List.pairwise_cons.2 ⟨fun x hx=>by rw[←heq];exact h1 x hx,h2⟩);·rename_i hne;(have hlt2:bLt n.key a.key:=by rcases xX n.key a.key with e|e|e;(·exact e);(·exact absurd e.symm hne);·exact absurd e hlt);refine List.pairwise_cons.2 ⟨fun x hx=> ?_,h⟩;rcases List.mem_cons.1 hx with e|e;(·rw[e];exact hlt2);·exact zV hlt2 (h1 x e)
theorem zJn{L:List It}{k:QB}(h:∀it∈L,it.key≠k):zZ L k=[]:=by
 induction L with|nil=>rfl|cons a t ih=>rw[zZ,if_neg (h a (by simp)),ih (fun it hi=>h it (by simp[hi]))]
theorem zF1{L:List It}{k:QB}{v:Vd}(h:v∈zZ L k):∃it∈L,it.key=k∧it.vs=zZ L k:=by
 induction L with|nil=>cases h|cons a t ih=>rw[zZ]at h⊢;split at h;(·rename_i e;exact⟨a,by simp,e,by rw[if_pos e]⟩);·rename_i e;rw[if_neg e];obtain⟨it,h1,h2,h3⟩:=ih h;exact⟨it,List.mem_cons_of_mem _ h1,h2,h3⟩
def beR:Nat→Nat→List UInt8|0,_=>[]|k+1,n=>UInt8.ofNat (n/256^k %256)::beR k n
theorem zKN(n:Nat):beW 8 n 8=beR 8 n:=by
 unfold beW
 simp[List.range_succ,beR]
theorem zQ1(k n m:Nat)(h:n %256^k<m %256^k):beR k n<beR k m:=by
 induction k with|zero=>rw[Nat.pow_zero,Nat.mod_one,Nat.mod_one]at h;omega|succ k ih=>rw[Nat.mod_pow_succ,Nat.mod_pow_succ]at h;have hp:0<256^k:=Nat.pow_pos (by decide);have h1:=Nat.mod_lt n hp;have h2:=Nat.mod_lt m hp;have q1:n/256^k %256<256:=Nat.mod_lt _ (by decide);have q2:m/256^k %256<256:=Nat.mod_lt _ (by decide);rw[beR,beR];generalize n/256^k %256=a at*;generalize m/256^k %256=b at*;(have ea:(UInt8.ofNat a).toNat=a:=by rw[UInt8.toNat_ofNat'];omega);(have eb:(UInt8.ofNat b).toNat=b:=by rw[UInt8.toNat_ofNat'];omega);rcases Nat.lt_trichotomy a b with e|e|e;(·exact zr.2 (.inl (by rw[vA,ea,eb];exact e)));(·subst e;exact zr.2 (.inr ⟨rfl,ih (by omega)⟩));·have:=Nat.mul_le_mul_left (256^k) (show b+1≤a by omega);rw[Nat.mul_succ]at this;omega
theorem zLd(k:QB){i j:Nat}(hi:i<j)(hj:j<18446744073709551616):bLt (zE abcB k j) (zE abcB k i):=by
 unfold bLt
 rw[zo,zo,zEr,zEr,zr]
 refine .inr ⟨rfl,?_⟩
 unfold xH
 show beW 8 (18446744073709551615-j) 8<beW 8 (18446744073709551615-i) 8
 rw[zKN,zKN]
 refine zQ1 _ _ _ ?_
 rw[Nat.mod_eq_of_lt (by omega),Nat.mod_eq_of_lt (by omega)]
 omega
theorem zBX{k1 k2:QB}(h2:nz k2.data.toList)(h:bLt k1 k2)(i j:Nat):bLt (zE abcB k1 i) (zE abcB k2 j):=by
 unfold bLt
 rw[zo,zo,zEr]
 exact zJm _ _ h2 h
theorem zWM{p:Prop}(h:p:=by unfold bLt;rw[zo];exact zr.2 (.inl (by decide))):p:=h
theorem zQ2(k:QB)(i:Nat):bLt (zD abcB) (zE abcB k i):=by
 exact zWM
theorem zKO{n:Nat}{L:List It}(h:ItsOk n L){k:QB}(hk:zP k=true)(v:Vd)(hv:v.id=n+1)(val:Value):ins (vT L) (zE abcB k v.id) (zBH (xy false v.gone) v.born v.body.size v.page)=vT (yE L ⟨k,v::zZ L k,val⟩):=by
 have hb:ins (vT L) (zE abcB k v.id) (zBH (xy false v.gone) v.born v.body.size v.page)=(zD abcB,zT 1 0)::ins (xR L) (zE abcB k v.id) (zBH (xy false v.gone) v.born v.body.size v.page):=by show ins ([(zD abcB,zT 1 0)]++xR L) _ _=_;rw[zAF (fun x hx=>by rw[List.mem_singleton.1 hx];exact zQ2 _ _)];rfl
 rw[hb]
 unfold vT
 refine congrArg _ ?_
 have hfew:=h.few
 obtain⟨hkz,-⟩:=zg hk
 rw[yC]at hkz
 obtain⟨h1,h2,-⟩:=h
 clear hb
 induction L with|nil=>rfl|cons a t ih=>obtain⟨p1,p2⟩:=List.pairwise_cons.1 h2;have ha:=h1 a (by simp);obtain⟨haz,-⟩:=zg ha.key;rw[yC]at haz;(have hit:xR (a::t)=a.kv++xR t:=by unfold xR;rw[List.flatMap_cons]);rw[hit,yE,zZ];by_cases hlt:bLt a.key k;(·rw[if_pos hlt,if_neg (fun e=>by rw[e]at hlt;exact zQ _ hlt),zAF (fun x hx=> ?_),ih (fun it hi=>h1 it (by simp[hi])) p2];(·unfold xR;rw[List.flatMap_cons]);·obtain⟨u,_,rfl⟩:=List.mem_map.1 hx;exact zBX hkz hlt _ _);·rw[if_neg hlt];(have hrest:∀x∈xR t,bLt a.key k∨a.key=k∨True→(a.key=k∨bLt k a.key)→bLt (zE abcB k v.id) x.1:=by intro x hx _ hc;obtain⟨it,hi,hm⟩:=List.mem_flatMap.1 hx;obtain⟨u,_,rfl⟩:=List.mem_map.1 hm;obtain⟨hz,-⟩:=zg (h1 it (by simp[hi])).key;rw[yC]at hz;refine zBX hz ?_ _ _;rcases hc with e|e;(·rw[←e];exact p1 it hi);·exact zV e (p1 it hi));by_cases heq:a.key=k;(·rw[if_pos heq,if_pos heq,zCF (fun x hx=>hrest x hx (.inr (.inr trivial)) (.inl heq))];(have e1:xR ((⟨k,v::a.vs,val⟩:It)::t)=(v::a.vs).map (Vd.kv k)++xR t:=by unfold xR;rw[List.flatMap_cons];rfl);rw[e1];refine congrArg (·++xR t) ?_;unfold It.kv;rw[heq];show ins ([]++a.vs.map (Vd.kv k)) _ _=_;rw[zCF (fun x hx=> ?_)];(·rfl);·obtain⟨u,hu,rfl⟩:=List.mem_map.1 hx;have:=(ha.top u hu).2;exact zLd k (by omega) (by omega));·rw[if_neg heq];(have hlt2:bLt k a.key:=by rcases xX k a.key with e|e|e;(·exact e);(·exact absurd e.symm heq);·exact absurd e hlt);have hold:zZ t k=[]:=zJn (fun it hi e=>by have:=p1 it hi;rw[e]at this;exact hlt this);rw[if_neg heq,hold];show ins ([]++(a.kv++xR t)) _ _=_;rw[zCF (fun x hx=> ?_)];(·unfold xR;rw[List.flatMap_cons,List.flatMap_cons];rfl);·rcases List.mem_append.1 hx with e|e;(·obtain⟨u,_,rfl⟩:=List.mem_map.1 e;exact zBX haz hlt2 _ _);·exact hrest x e (.inr (.inr trivial)) (.inr hlt2)
theorem ItsOk.put{n:Nat}{L:List It}(h:ItsOk n L){k:QB}(hk:zP k=true){v:Vd}(hv:v.id=n+1)(hvk:v.ok)(hn:n+1<1000)(val:Value):ItsOk (n+1) (yE L ⟨k,v::zZ L k,val⟩):=by
 refine⟨fun it hi=> ?_,zIP h.rises,hn⟩
 rcases vx hi with e|e
 ·subst e;(have hold:∀u∈zZ L k,∃it∈L,u∈it.vs∧it.vs=zZ L k:=fun u hu=>by obtain⟨it,h1,h2,h3⟩:=zF1 hu;exact⟨it,h1,by rw[h3];exact hu,h3⟩);refine⟨hk,by simp,List.pairwise_cons.2 ⟨fun u hu=> ?_,?_⟩,fun u hu=> ?_,fun u hu=> ?_⟩;(·obtain⟨it,h1,h2,_⟩:=hold u hu;have:=((h.one it h1).top u h2).2;omega);(·cases ho:zZ L k with|nil=>exact List.Pairwise.nil|cons x r=>obtain⟨it,h1,h2,h3⟩:=hold x (by rw[ho];simp);rw[←ho,←h3];exact(h.one it h1).falls);(·rcases List.mem_cons.1 hu with e|e;(·rw[e,hv];exact⟨by omega,Qn _⟩);·obtain⟨it,h1,h2,_⟩:=hold u e;have:=(h.one it h1).top u h2;exact⟨this.1,by omega⟩);·rcases List.mem_cons.1 hu with e|e;(·rw[e];exact hvk);·obtain⟨it,h1,h2,_⟩:=hold u e;exact(h.one it h1).ok u h2
 ·have:=h.one it e;exact⟨this.key,this.ne,this.falls,fun v hv=>⟨(this.top v hv).1,Nat.le_succ_of_le (this.top v hv).2⟩,this.ok⟩
theorem kP(L:List It):look (vT L) (zD abcB)=some (zT 1 0):=by
 unfold vT
 rw[look,if_pos rfl]
def Bnd(f:QB)(lo:QB→Bool):Prop:=∀(k:QB)(i:Nat),nz k.data.toList→(bLt (zE abcB k i) f↔lo k=true)
theorem zLe{from_:QB}{lo:QB→Bool}(h:Bnd from_ lo){n:Nat}{L:List It}(hL:ItsOk n L){to_:QB}(hto:to_≠⟨#[]⟩):(pick from_ to_ 1 [] (xR L)).2=match L.find? (fun it=> !lo it.key)with|none=>[]|some it=>(it.vs.take 1).flatMap (fun v=>if bLt (zE abcB it.key v.id) to_ then[v.kv it.key]else[]):=by
 obtain⟨h1,-,-⟩:=hL
 induction L with|nil=>rfl|cons a t ih=>have ha:=h1 a (by simp);obtain⟨haz,-⟩:=zg ha.key;rw[yC]at haz;(have hit:xR (a::t)=a.kv++xR t:=by unfold xR;rw[List.flatMap_cons]);rw[hit,List.find?_cons];by_cases hlo:lo a.key=true;(·rw[hlo];rw[zAQ _ _ (fun x hx=>by obtain⟨u,_,rfl⟩:=List.mem_map.1 hx;exact(h _ _ haz).2 hlo)];exact ih (fun it hi=>h1 it (by simp[hi])));·(have hlo':lo a.key=false:=by simpa using hlo);rw[hlo'];(obtain⟨v,r,hv⟩:∃v r,a.vs=v::r:=by cases hc:a.vs with|nil=>exact absurd hc ha.ne|cons v r=>exact⟨v,r,rfl⟩);(have hkv:a.kv++xR t=v.kv a.key::(r.map (Vd.kv a.key)++xR t):=by unfold It.kv;rw[hv];rfl);rw[hkv];have hnlt:¬bLt (v.kv a.key).1 from_:=fun e=>hlo ((h _ _ haz).1 e);show(pick from_ to_ 1 [] (v.kv a.key::(r.map (Vd.kv a.key)++xR t))).2=_;simp only[hv,List.take_succ_cons,List.take_zero,List.flatMap_cons,List.flatMap_nil,List.append_nil,Bool.not_false];by_cases ht:bLt (zE abcB a.key v.id) to_;(·rw[if_pos ht,zHx _ _ _ hnlt (by rintro(e|⟨_,e⟩);(·exact absurd e (by decide));·exact e ht)];rw[List.nil_append];(have hone:∀l:KV,(pick from_ to_ 1 [v.kv a.key] l).2=[v.kv a.key]:=by intro l;induction l with|nil=>rfl|cons x l ih2=>by_cases hx:bLt x.1 from_;(·rw[pick,if_pos hx];exact ih2);·exact congrArg Prod.snd (zBT (limit:=1) [v.kv a.key] l x hx (.inl rfl)));exact hone _);·rw[if_neg ht,zBT _ _ _ hnlt (.inr ⟨hto,ht⟩)]
theorem zIQ{from_:QB}{lo:QB→Bool}(h:Bnd from_ lo)(hb:bLt (zD abcB) from_){n:Nat}{L:List It}(hL:ItsOk n L){to_:QB}(hto:to_≠⟨#[]⟩):xw from_ to_ 1 (vT L)=match L.find? (fun it=> !lo it.key)with|none=>[]|some it=>(it.vs.take 1).flatMap (fun v=>if bLt (zE abcB it.key v.id) to_ then[v.kv it.key]else[]):=by
 unfold xw
 rw[if_pos (by decide)]
 show(pick from_ to_ 1 [] ([(zD abcB,zT 1 0)]++xR L)).2=_
 rw[zAQ _ _ (fun x hx=>by rw[List.mem_singleton.1 hx];exact hb),zLe h hL hto]
def yD(s w:QB):Bool:=w.data.toList.isPrefixOf s.data.toList
theorem yR{s w:QB}:yD s w=true↔w.data.toList<+:s.data.toList:=List.isPrefixOf_iff_prefix
def zR(key pre delim:QB):QB:=if delim=⟨#[]⟩then⟨#[]⟩else let i:=Lib.index (key.data.toList.drop pre.size) delim.data.toList;if i<0 then⟨#[]⟩else key.extract 0 (pre.size+i.toNat+delim.size)
def zq(key t:QB):Bool:=if t=⟨#[]⟩then true else let s:=t.extract 1 t.size;decide (bLt s key)&& !(decide (t.data.toList.head? =some 112)&&yD key s)
structure En where
 key:QB
 id:Nat
 size:Nat
 born:Nat
structure LSt where
 told:Nat
 last:QB
 opn:QB
 es:List En
 ps:List QB
structure LOut where
 es:List En
 ps:List QB
 more:Bool
 last:QB
def It.head(it:It):Vd:=it.vs.headD ⟨0,true,0,⟨#[]⟩,0⟩
def yL(pre frm opn:QB)(it:It):Bool:=it.head.gone||(!yD it.key pre||(!zq it.key frm||(!decide (opn=⟨#[]⟩)&&yD it.key opn)))
def kT(k:QB):QB:=⟨#[107]⟩++k
def pT(k:QB):QB:=⟨#[112]⟩++k
def LSt.tell(st:LSt)(pre delim:QB)(it:It):LSt:=let g:=zR it.key pre delim;if g=⟨#[]⟩then⟨st.told+1,kT it.key,⟨#[]⟩,st.es++[⟨it.key,it.head.id,it.head.body.size,it.head.born⟩],st.ps⟩else⟨st.told+1,pT g,g,st.es,st.ps++[g]⟩
def kV(pre delim frm:QB)(limit:Nat):List It→LSt→LOut|[],st=>⟨st.es,st.ps,false,⟨#[]⟩⟩|it::r,st=>if yL pre frm st.opn it then kV pre delim frm limit r st else if st.told=limit then⟨st.es,st.ps,true,st.last⟩else kV pre delim frm limit r (st.tell pre delim it)
def LSt.init:LSt:=⟨0,⟨#[]⟩,⟨#[]⟩,[],[]⟩
theorem zF2{pre delim frm:QB}{limit:Nat}{a r:List It}{st:LSt}(h:∀it∈a,yL pre frm st.opn it=true):kV pre delim frm limit (a++r) st=kV pre delim frm limit r st:=by
 induction a with|nil=>rfl|cons x a ih=>rw[List.cons_append,kV,if_pos (h x (by simp)),ih (fun it hi=>h it (by simp[hi]))]
structure WalkP(pre frm:QB)(L:List It)(lo:QB→Bool)(st:LSt)(a r:List It):Prop where
 cut:L=a++r
 done:∀it∈a,lo it.key=true
 rest:∀it∈r,lo it.key=true↔(bLt it.key pre∨zq it.key frm=false∨(st.opn≠⟨#[]⟩∧yD it.key st.opn=true))
def inn(pre:QB)(k:QB):Bool:=decide (bLt k pre)||yD k pre
def xB(pre:QB)(lo:QB→Bool)(it:It):Bool:= !lo it.key&&(inn pre it.key&& !it.head.gone)
section
variable {pre frm : QB} {n : Nat} {L a r : List It} {lo : QB → Bool} {st : LSt}
theorem zAv{k s:QB}(h:yD k s=true):¬bLt k s:=zBo (yR.1 h)
theorem WalkP.elig_iff(h:WalkP pre frm L lo st a r){it:It}(hi:it∈r):xB pre lo it=true↔yL pre frm st.opn it=false:=by
 have h1:=h.rest it hi
 unfold xB yL inn
 by_cases hg:it.head.gone
 ·simp[hg]
 ·by_cases hl:lo it.key=true;(·rw[hl];rcases h1.1 hl with e|e|⟨e1,e2⟩;(·(have:yD it.key pre=false:=by rw[Bool.eq_false_iff];exact fun e2=>zAv e2 e);simp[this]);(·simp[e]);·simp[e1,e2]);·have hn:=fun e=>hl (h1.2 e);have n1:¬bLt it.key pre:=fun e=>hn (.inl e);(have n2:zq it.key frm=true:=by by_cases e:zq it.key frm=true;(·exact e);·exact absurd (by simpa using e) (fun e=>hn (.inr (.inl e))));have n3:¬(st.opn≠⟨#[]⟩∧yD it.key st.opn=true):=fun e=>hn (.inr (.inr e));(have hl':lo it.key=false:=by simpa using hl);(have hg':it.head.gone=false:=by simpa using hg);rw[hl',n2,hg'];by_cases e1:st.opn=⟨#[]⟩;(·simp[e1,n1]);·(have e2:yD it.key st.opn=false:=by rw[Bool.eq_false_iff];exact fun e=>n3 ⟨e1,e⟩);simp[e2,n1]
theorem zJo(h:WalkP pre frm L lo st a r){delim:QB}{limit:Nat}(hf:L.find? (xB pre lo)=none):kV pre delim frm limit r st=⟨st.es,st.ps,false,⟨#[]⟩⟩:=by
 have:=zF2 (pre:=pre) (delim:=delim) (frm:=frm) (limit:=limit) (a:=r) (r:=[]) (st:=st) (fun it hi=>by have h1:=List.find?_eq_none.1 hf it (by rw[h.cut];exact Qr _ hi);by_cases e:yL pre frm st.opn it=true;(·exact e);·exact absurd ((h.elig_iff hi).2 (by simpa using e)) h1)
 rw[List.append_nil]at this
 rw[this,kV]
theorem zJp(h:WalkP pre frm L lo st a r){it:It}{delim:QB}{limit:Nat}(hf:L.find? (xB pre lo)=some it):∃r1 r2,r=r1++it::r2∧kV pre delim frm limit r st=(if st.told=limit then⟨st.es,st.ps,true,st.last⟩else kV pre delim frm limit r2 (st.tell pre delim it)):=by
 rw[h.cut,List.find?_append]at hf
 have ha:a.find? (xB pre lo)=none:=by rw[List.find?_eq_none];intro x hx;unfold xB;rw[h.done x hx];simp
 rw[ha,Option.none_or]at hf
 obtain⟨h1,r1,r2,h2,h3⟩:=List.find?_eq_some_iff_append.1 hf
 refine⟨r1,r2,h2,?_⟩
 have hmem:it∈r:=by rw[h2];simp
 have hs:=(h.elig_iff hmem).1 h1
 rw[h2,zF2 (fun x hx=>by(have hx2:x∈r:=by rw[h2];exact Qm _ hx);have h4:=h3 x hx;by_cases e:yL pre frm st.opn x=true;(·exact e);·rw[(h.elig_iff hx2).2 (by simpa using e)]at h4;cases h4),kV,if_neg (by rw[hs];simp)]
end
theorem zIR{s x z:List UInt8}(hz:s<+:z)(h1:¬x<s)(h2:¬z<x):s<+:x:=by
 induction s generalizing x z with|nil=>exact List.nil_prefix|cons a s ih=>cases z with|nil=>exact absurd (List.prefix_nil.1 hz) (by simp)|cons b z=>obtain⟨rfl,hz2⟩:=List.cons_prefix_cons.1 hz;cases x with|nil=>exact absurd zB5 h1|cons c x=>rw[zr]at h1 h2;(have e:a=c:=by rcases Nat.lt_trichotomy a.toNat c.toNat with e|e|e;(·exact absurd (.inl (vA.2 e)) h2);(·exact UInt8.toNat_inj.1 e);·exact absurd (.inl (vA.2 e)) h1);subst e;exact List.cons_prefix_cons.2 ⟨rfl,ih hz2 (fun e=>h1 (.inr ⟨rfl,e⟩)) (fun e=>h2 (.inr ⟨rfl,e⟩))⟩
theorem xJ{s x z:QB}(hz:yD z s=true)(h1:¬bLt x s)(h2:¬bLt z x):yD x s=true:=yR.2 (zIR (yR.1 hz) h1 h2)
theorem zB6{k k2 t:QB}(h:zq k t=true)(hlt:bLt k k2):zq k2 t=true:=by
 unfold zq at h⊢
 split
 ·rfl
 ·rename_i ht;rw[if_neg ht]at h;simp only[Bool.and_eq_true,decide_eq_true_eq,Bool.not_eq_true',Bool.and_eq_false_imp]at h⊢;refine⟨zV h.1 hlt,fun hp=> ?_⟩;rw[Bool.eq_false_iff];intro e;have h3:=h.2 hp;rw[xJ e (yB h.1) (yB hlt)]at h3;cases h3
theorem kQ(key pre delim:QB):yD key (zR key pre delim)=true:=by
 unfold zR
 split
 ·exact yR.2 List.nil_prefix
 ·simp only;split;(·exact yR.2 List.nil_prefix);·rw[yR,ByteArray.data_extract,Array.toList_extract,List.extract_eq_take_drop,List.drop_zero];exact List.take_prefix _ _
section
variable {pre frm delim : QB} {n : Nat} {L a r : List It} {lo : QB → Bool} {st : LSt}
def LSt.bound(st':LSt)(it:It)(k:QB):Bool:=if st'.opn=⟨#[]⟩then !decide (bLt it.key k)else decide (bLt k st'.opn)||yD k st'.opn
theorem zCm(it:It):(st.tell pre delim it).opn=zR it.key pre delim:=by
 unfold LSt.tell
 simp only
 split
 ·rename_i h;exact h.symm
 ·rfl
theorem WalkP.next(h:WalkP pre frm L lo st a r)(hs:L.Pairwise (fun a b=>bLt a.key b.key)){it:It}{r1 r2:List It}(hr:r=r1++it::r2)(he:xB pre lo it=true):WalkP pre frm L ((st.tell pre delim it).bound it) (st.tell pre delim it) (a++(r1++[it])) r2:=by
 have hir:it∈r:=by rw[hr];simp
 have hsk:=(h.elig_iff hir).1 he
 have hcut:L=(a++(r1++[it]))++r2:=by rw[h.cut,hr];simp
 rw[hcut]at hs
 obtain⟨hs1,-,hs3⟩:=List.pairwise_append.1 hs
 have hle:∀x∈a++(r1++[it]),¬bLt it.key x.key:=by rw[←Qa]at hs1⊢;intro x hx;rcases List.mem_append.1 hx with e|e;(·exact yB ((List.pairwise_append.1 hs1).2.2 x e it (by simp)));·rw[List.mem_singleton.1 e];exact zQ _
 have hgt:∀x∈r2,bLt it.key x.key:=fun x hx=>hs3 it (by simp) x hx
 unfold yL at hsk
 simp only[Bool.or_eq_false_iff,Bool.not_eq_false',Bool.and_eq_false_imp]at hsk
 obtain⟨-,k1,k2,-⟩:=hsk
 have hbg:=kQ it.key pre delim
 refine⟨hcut,fun x hx=> ?_,fun x hx=> ?_⟩
 ·unfold LSt.bound;rw[zCm];split;(·simpa using hle x hx);·by_cases e:bLt x.key (zR it.key pre delim);(·simp[e]);·rw[xJ hbg e (hle x hx)];simp
 ·have g:=hgt x hx;have n1:¬bLt x.key pre:=fun e=>zAv k1 (zV g e);have n2:=zB6 k2 g;unfold LSt.bound;rw[zCm,n2];split;(·rename_i e;simp[e,g,n1]);·rename_i e;have n3:¬bLt x.key (zR it.key pre delim):=fun e=>zAv hbg (zV g e);simp[e,n1,n3]
theorem zJq(hlo:∀it∈L,lo it.key=true↔(bLt it.key pre∨zq it.key frm=false)):WalkP pre frm L lo LSt.init [] L:=⟨rfl,fun it hi=>(by cases hi),fun it hi=>(hlo it hi).trans ⟨fun e=>e.elim Or.inl (fun e=>Or.inr (Or.inl e)),fun e=>e.elim Or.inl (fun e=>e.elim Or.inr (fun e=>absurd rfl e.1))⟩⟩
end
def zy(s:QB):QB:=⟨(zAt abcB++s.data.toList).toArray⟩
def yT(s:QB):QB:=⟨(zAt abcB++(s.data.toList++[1])).toArray⟩
theorem zKP(s:QB):Beh (zAt abcB++(s.data.toList++[0])) (yT s).data.toList:=⟨zAt abcB++s.data.toList,0,0,by decide,by simp,by unfold yT;simp⟩
theorem zGu(s:QB):∃h:QB,Beh (zy s).data.toList h.data.toList∧h≠⟨#[]⟩∧bLt (zD abcB) h:=by
 obtain⟨h,h1,h2,t,h3⟩:=zQ0 118 (by decide) (abcB.data.toList++[0]++s.data.toList)
 refine⟨⟨h.toArray⟩,?_,?_,?_⟩
 ·(have e:(zy s).data.toList=118::(abcB.data.toList++[0]++s.data.toList):=by unfold zy zAt;simp);rw[e];simpa using h1
 ·intro e;have:=congrArg (fun x=>x.data.toList) e;simp at this;exact h2 this
 ·unfold bLt;show(98::_:List UInt8)<_;rcases h3 with e|e<;>rw[e]<;>exact zr.2 (.inl (by decide))
theorem zGv{s:QB}(hs:zf s=true):Bnd (zy s) (fun k=>decide (bLt k s)):=by
 intro k i _
 rw[yC]at hs
 rw[decide_eq_true_eq]
 unfold bLt zy
 exact zEs abcB k i hs
theorem zD3{s h:QB}(hs:zf s=true)(hb:Beh (zy s).data.toList h.data.toList):Bnd h (inn s):=by
 intro k i _
 rw[yC]at hs
 unfold inn
 rw[Bool.or_eq_true,decide_eq_true_eq,yR]
 unfold bLt
 rw[hb.lt]
 unfold zy
 rw[zEs abcB k i hs,zPP abcB k i hs]
theorem zCn{s:QB}(hs:zf s=true):Bnd (yT s) (fun k=> !decide (bLt s k)):=by
 intro k i hk
 rw[yC]at hs
 have e:(!decide (bLt s k))=true↔¬bLt s k:=by simp
 rw[e]
 unfold bLt
 rw[(zKP s).lt,zEt abcB k i hk hs,zPQ abcB k i hk hs]
 rcases zNO k.data.toList s.data.toList with e|e|e
 ·exact⟨fun _ e2=>List.lt_irrefl _ (List.lt_trans e e2),fun _=>.inl e⟩
 ·exact⟨fun _ e2=>by rw[e]at e2;exact List.lt_irrefl _ e2,fun _=>.inr e.symm⟩
 ·exact⟨fun h=>h.elim (fun e2 _=>List.lt_irrefl _ (List.lt_trans e e2)) (fun e2=>by rw[e2]at e;exact absurd e (List.lt_irrefl _)),fun h=>absurd e h⟩
theorem It.Ok.nz{n:Nat}{it:It}(h:it.Ok n):nz it.key.data.toList:=by
 obtain⟨h1,-⟩:=zg h.key
 rwa [yC]at h1
theorem Bnd.mono{f:QB}{lo:QB→Bool}(h:Bnd f lo){x y:QB}(hx:nz x.data.toList)(hy:nz y.data.toList)(hxy:bLt x y)(hl:lo y=true):lo x=true:=(h x 0 hx).1 (zV (zBX hy hxy 0 0) ((h y 0 hy).2 hl))
def zGw(a b:QB):QB:=if bLt a b then b else a
theorem Bnd.max{a b:QB}{l1 l2:QB→Bool}(ha:Bnd a l1)(hb:Bnd b l2):Bnd (zGw a b) (fun k=>l1 k||l2 k):=by
 intro k i hk
 have h1:=ha k i hk
 have h2:=hb k i hk
 simp only[Bool.or_eq_true]
 rw[←h1,←h2]
 unfold zGw
 split
 ·rename_i h;exact⟨.inr,fun e=>e.elim (fun e=>zV e h) id⟩
 ·rename_i h;refine⟨.inl,fun e=>e.elim id (fun e=> ?_)⟩;rcases xX a b with e2|e2|e2;(·exact absurd e2 h);(·rw[e2];exact e);·exact zV e e2
section
variable {pre f : QB} {n : Nat} {L : List It} {lo : QB → Bool} {it : It}
theorem zEu(hL:ItsOk n L)(hb:Bnd f lo)(hf:L.find? (fun it=> !lo it.key)=some it):∃a r,L=a++it::r∧(∀x∈a,lo x.key=true∧bLt x.key it.key)∧lo it.key=false∧∀x∈r,lo x.key=false∧bLt it.key x.key:=by
 obtain⟨h1,a,r,h2,h3⟩:=List.find?_eq_some_iff_append.1 hf
 have hs:=hL.rises
 have ho:=hL.one
 rw[h2]at hs ho
 obtain⟨s1,s2,s3⟩:=List.pairwise_append.1 hs
 have hl:lo it.key=false:=by simpa using h1
 have hi:=(ho it (by simp)).nz
 refine⟨a,r,h2,fun x hx=>⟨by simpa using h3 x hx,s3 x hx it (by simp)⟩,hl,fun x hx=> ?_⟩
 have hlt:=(List.pairwise_cons.1 s2).1 x hx
 refine⟨?_,hlt⟩
 rw[Bool.eq_false_iff]
 intro e
 have:=hb.mono hi (ho x (by simp[hx])).nz hlt e
 rw[hl]at this
 cases this
theorem zLf(hf:L.find? (fun it=> !lo it.key)=none):L.find? (xB pre lo)=none:=by
 rw[List.find?_eq_none]at hf⊢
 intro x hx e
 unfold xB at e
 simp only[Bool.and_eq_true]at e
 exact hf x hx e.1
theorem zNR{x y:QB}(hxy:bLt x y)(hi:inn pre y=true):inn pre x=true:=by
 unfold inn at hi⊢
 rw[Bool.or_eq_true,decide_eq_true_eq]at hi⊢
 rcases hi with e|e
 ·exact .inl (zV hxy e)
 ·by_cases h:bLt x pre;(·exact .inl h);·exact .inr (xJ e h (yB hxy))
theorem zNS(hL:ItsOk n L)(hb:Bnd f lo)(hf:L.find? (fun it=> !lo it.key)=some it)(hi:inn pre it.key=false):L.find? (xB pre lo)=none:=by
 obtain⟨a,r,h1,h2,h3,h4⟩:=zEu hL hb hf
 rw[List.find?_eq_none]
 intro x hx e
 unfold xB at e
 simp only[Bool.and_eq_true,Bool.not_eq_true']at e
 rw[h1]at hx
 rcases List.mem_append.1 hx with k|k
 ·rw[(h2 x k).1]at e;cases e.1
 ·rcases List.mem_cons.1 k with k|k;(·rw[k,hi]at e;cases e.2.1);·rw[zNR (h4 x k).2 e.2.1]at hi;cases hi
theorem zLg(hL:ItsOk n L)(hb:Bnd f lo)(hf:L.find? (fun it=> !lo it.key)=some it)(hi:inn pre it.key=true)(hg:it.head.gone=false):L.find? (xB pre lo)=some it:=by
 obtain⟨a,r,h1,h2,h3,h4⟩:=zEu hL hb hf
 refine List.find?_eq_some_iff_append.2 ⟨by unfold xB;rw[h3,hi,hg];rfl,a,r,h1,fun x hx=> ?_⟩
 unfold xB
 rw[(h2 x hx).1]
 rfl
def zEv(lo:QB→Bool)(L:List It):Nat:=(L.filter (fun it=> !lo it.key)).length
theorem zLh(hL:ItsOk n L)(hb:Bnd f lo)(hf:L.find? (fun it=> !lo it.key)=some it)(hg:it.head.gone=true):L.find? (xB pre lo)=L.find? (xB pre (fun k=> !decide (bLt it.key k)))∧zEv (fun k=> !decide (bLt it.key k)) L<zEv lo L:=by
 obtain⟨a,r,h1,h2,h3,h4⟩:=zEu hL hb hf
 have ha:∀x∈a,¬bLt it.key x.key:=fun x hx=>yB (h2 x hx).2
 have hir:=zQ it.key
 constructor
 ·rw[h1,List.find?_append,List.find?_append,List.find?_cons,List.find?_cons];(have e1:a.find? (xB pre lo)=none:=by rw[List.find?_eq_none];intro x hx e;unfold xB at e;rw[(h2 x hx).1]at e;simp at e);(have e2:a.find? (xB pre (fun k=> !decide (bLt it.key k)))=none:=by rw[List.find?_eq_none];intro x hx e;unfold xB at e;simp[ha x hx]at e);(have e3:xB pre lo it=false:=by unfold xB;rw[hg];simp);(have e4:xB pre (fun k=> !decide (bLt it.key k)) it=false:=by unfold xB;rw[hg];simp);rw[e1,e2,e3,e4];simp only[Option.none_or];clear h1 hf;induction r with|nil=>rfl|cons x r ih=>(have e:xB pre lo x=xB pre (fun k=> !decide (bLt it.key k)) x:=by unfold xB;rw[(h4 x (by simp)).1];simp[(h4 x (by simp)).2]);rw[List.find?_cons,List.find?_cons,e];cases xB pre (fun k=> !decide (bLt it.key k)) x with|true=>rfl|false=>exact ih (fun y hy=>h4 y (by simp[hy]))
 ·unfold zEv;rw[h1,List.filter_append,List.filter_append,List.filter_cons,List.filter_cons];have e1:a.filter (fun it=> !lo it.key)=[]:=List.filter_eq_nil_iff.2 (fun x hx e=>by rw[(h2 x hx).1]at e;cases e);have e2:a.filter (fun x=> !(!decide (bLt it.key x.key)))=[]:=List.filter_eq_nil_iff.2 (fun x hx e=>by simp[ha x hx]at e);have e3:r.filter (fun it=> !lo it.key)=r:=List.filter_eq_self.2 (fun x hx=>by rw[(h4 x hx).1];rfl);have e4:r.filter (fun x=> !(!decide (bLt it.key x.key)))=r:=List.filter_eq_self.2 (fun x hx=>by simp[(h4 x hx).2]);rw[e1,e2,e3,e4,h3];simp[hir]
theorem zD4(h:it.Ok n):it.head∈it.vs∧∃r,it.vs=it.head::r:=by
 unfold It.head
 cases hv:it.vs with|nil=>exact absurd hv h.ne|cons v r=>exact⟨by simp,r,rfl⟩
theorem zLi(hL:ItsOk n L)(hb:Bnd f lo)(hbk:bLt (zD abcB) f){to_:QB}(hto:Beh (zy pre).data.toList to_.data.toList)(hp:zf pre=true)(hne:to_≠⟨#[]⟩):xw f to_ 1 (vT L)=match L.find? (fun it=> !lo it.key)with|none=>[]|some it=>if inn pre it.key=true then[it.head.kv it.key]else[]:=by
 rw[zIQ hb hbk hL hne]
 cases hf:L.find? (fun it=> !lo it.key)with|none=>rfl|some it=>have hm:it∈L:=List.mem_of_find?_eq_some hf;have ho:=hL.one it hm;obtain⟨_,r,hr⟩:=zD4 ho;simp only;rw[hr,List.take_succ_cons,List.take_zero,List.flatMap_cons,List.flatMap_nil,List.append_nil];have hd:(bLt (zE abcB it.key it.head.id) to_)=(inn pre it.key=true):=propext (zD3 hp hto it.key it.head.id ho.nz);simp only[hd]
end
theorem zEw(k:QB):x8 abcB k=yT k:=by
 apply ByteArray.ext
 apply Array.toList_inj.1
 unfold x8 yT zAt vB zB
 simp
theorem zDc(k:QB):(xz abcB k).data.toList=zAt abcB++(k.data.toList++[0]):=by
 rw[zF0]
 unfold zAt vB zB
 simp
theorem zLj{s:QB}(hs:zf s=true):Bnd (xz abcB s) (fun k=>decide (bLt k s)):=by
 intro k i hk
 rw[yC]at hs
 rw[decide_eq_true_eq]
 unfold bLt
 rw[zDc]
 exact zEt abcB k i hk hs
theorem zLk(s:QB):bLt (zD abcB) (xz abcB s):=by
 unfold bLt
 rw[zDc]
 exact zr.2 (.inl (by decide))
theorem zGx(s:QB):bLt (zD abcB) (zy s):=by
 unfold bLt zy
 exact zr.2 (.inl (by decide))
theorem zGy(s:QB):bLt (zD abcB) (yT s):=by
 unfold bLt yT
 exact zr.2 (.inl (by decide))
theorem zLl(s:QB):yT s≠⟨#[]⟩:=fun e=>by
 have h:=congrArg (fun x:QB=>x.data.toList) e
 unfold yT zAt at h
 simp at h
theorem zLm{n:Nat}{L:List It}{it:It}(hL:ItsOk n L)(hm:it∈L):xw (xz abcB it.key) (x8 abcB it.key) 1 (vT L)=[it.head.kv it.key]:=by
 have ho:=hL.one it hm
 obtain⟨hz,-⟩:=zg ho.key
 obtain⟨_,r,hr⟩:=zD4 ho
 rw[zEw,zIQ (zLj hz) (zLk _) hL (zLl _)]
 have hf:L.find? (fun x=> !decide (bLt x.key it.key))=some it:=by obtain⟨a,t,rfl⟩:=List.append_of_mem hm;refine List.find?_eq_some_iff_append.2 ⟨by simp[zQ],a,t,rfl,fun x hx=> ?_⟩;have:=(List.pairwise_append.1 hL.rises).2.2 x hx it (by simp);simp[this]
 rw[hf]
 simp only
 rw[hr,List.take_succ_cons,List.take_zero,List.flatMap_cons,List.flatMap_nil,List.append_nil]
 have hlt:bLt (zE abcB it.key it.head.id) (yT it.key):=(zCn hz it.key it.head.id ho.nz).2 (by simp[zQ])
 rw[if_pos hlt]
def zEx(n:Nat):UInt8:=UInt8.ofNat (if 9<n then 87+n else 48+n)
def kW:List UInt8→List UInt8|[]=>[]|c::t=>zEx (c.toNat/16)::zEx (c.toNat %16)::kW t
def zAW(c:UInt8):Option Nat:=if 48≤c.toNat∧c.toNat≤57 then some (c.toNat-48)else if 97≤c.toNat∧c.toNat≤102 then some (c.toNat-87)else none
def xZ:List UInt8→Option (List UInt8)|[]=>some []|[_]=>none|a::b::t=>match zAW a,zAW b with|some x,some y=>(xZ t).map (UInt8.ofNat (16*x+y)::·)|_,_=>none
theorem zF3(n:Nat)(h:n<16):zAW (zEx n)=some n:=by
 have:∀n:Fin 16,zAW (zEx n.1)=some n.1:=by decide
 exact this ⟨n,h⟩
theorem zKQ{c:UInt8}{n:Nat}(h:zAW c=some n):n<16:=by
 unfold zAW at h
 split at h
 ·cases h;omega
 ·split at h;(·cases h;omega);·cases h
theorem zPS(l:List UInt8):xZ (kW l)=some l:=by
 induction l with|nil=>rfl|cons c t ih=>have h1:=c.toNat_lt;rw[kW,xZ,zF3 _ (by omega),zF3 _ (by omega),ih];(have e:UInt8.ofNat (16*(c.toNat/16)+c.toNat %16)=c:=by apply UInt8.toNat_inj.1;rw[UInt8.toNat_ofNat'];omega);show some (UInt8.ofNat (16*(c.toNat/16)+c.toNat %16)::t)=_;rw[e]
theorem zDd(a b:List UInt8):kW (a++b)=kW a++kW b:=by
 induction a with|nil=>rfl|cons c t ih=>rw[List.cons_append,kW,kW,ih];rfl
theorem zIS(a:List UInt8):(kW a).length=2*a.length:=by
 induction a with|nil=>rfl|cons c t ih=>rw[kW];simp[ih];omega
def zIT(n:Nat):List UInt8:=beW 4 n 4
theorem zBI(n:Nat):(zIT n).length=4:=zO _ _ _
variable (ck : List UInt8 → Nat)
def zGz(s:List UInt8):List UInt8:=kW (zIT (ck s)++s)
def zIU(t:List UInt8):Option (List UInt8):=match xZ t with|none=>none|some s=>if s.length<4∨zGz ck (s.drop 4)≠t then none else some (s.drop 4)
theorem zNT(s:List UInt8):zIU ck (zGz ck s)=some s:=by
 have e:(zIT (ck s)++s).drop 4=s:=by have:=List.drop_left (l₁:=zIT (ck s)) (l₂:=s);rw[zBI]at this;exact this
 unfold zIU
 rw[zGz,zPS]
 show(if(zIT (ck s)++s).length<4∨zGz ck ((zIT (ck s)++s).drop 4)≠_ then _ else _)=_
 rw[e,if_neg]
 rintro(h|h)
 ·rw[Ql,zBI]at h;omega
 ·exact h rfl
theorem zEy{t s:List UInt8}(h:xZ t=some s):t.length=2*s.length:=by
 obtain⟨n,hn⟩:∃n,t.length≤n:=⟨_,Qn _⟩
 induction n generalizing t s with|zero=>have:=List.length_eq_zero_iff.1 (Nat.le_zero.1 hn);subst this;rw[xZ]at h;cases h;rfl|succ n ih=>cases t with|nil=>rw[xZ]at h;cases h;rfl|cons a t=>cases t with|nil=>rw[xZ]at h;cases h|cons b t=>rw[xZ]at h;cases h1:zAW a with|none=>rw[h1]at h;cases h|some x=>cases h2:zAW b with|none=>rw[h1,h2]at h;cases h|some y=>rw[h1,h2]at h;cases h3:xZ t with|none=>rw[h3]at h;cases h|some u=>rw[h3]at h;have e:UInt8.ofNat (16*x+y)::u=s:=Option.some.inj h;subst e;have:=ih h3 (by simp at hn;omega);simp;omega
structure Held(W0:World)(P br:Nat)(w:World)(sb:Nat)(s:Sto)(D:Dict)(nz:Nat):Prop where
 st:StAt w sb s D nz
 foot:∀g,s.foot g→W0.heap.size≤g
 below:Below W0.heap.size W0 w
 pg:s.R.pages=P
 br_:s.br=br
section
variable {W0 : World} {P br : Nat} {w w' : World} {sb : Nat} {s s' : Sto} {D D' : Dict} {nz nz' : Nat}
theorem Held.v(h:Held W0 P br w sb s D nz)(hs:StAt w' sb s' D' nz')(hv:VStep w s w' s'):Held W0 P br w' sb s' D' nz':=⟨hs,fun g e=>(hv.foot g e).elim (h.foot g) (fun e2=>Nat.le_trans h.below.size e2),h.below.trans (hv.keep.below h.below.size (fun i hi e=>Nat.not_lt.2 (h.foot i e) hi)),hv.pg.trans h.pg,hv.br.trans h.br_⟩
theorem Held.x(h:Held W0 P br w sb s D nz)(hx:XStep w s D sb nz' w' s'):Held W0 P br w' sb s' D nz':=h.v hx.st hx.step
theorem Held.still(h:Held W0 P br w sb s D nz)(hb:Below w.heap.size w w'):Held W0 P br w' sb s D nz:=⟨h.st.still hb,h.foot,qT h.below hb,h.pg,h.br_⟩
structure Beside(w:World)(s:Sto)(g:Nat)(o:Obj):Prop where
 at_:w.heap[g]? =some o
 off:¬s.foot g
theorem Beside.lt{g:Nat}{o:Obj}(h:Beside w s g o):g<w.heap.size:=(Gl h.at_)
theorem Beside.v{g:Nat}{o:Obj}(h:Beside w s g o)(hv:VStep w s w' s'):Beside w' s' g o:=⟨hv.keep.at h.at_ h.off,fun e=>(hv.foot g e).elim h.off (fun e2=>by have:=h.lt;omega)⟩
theorem Beside.still{g:Nat}{o:Obj}(h:Beside w s g o)(hb:Below w.heap.size w w'):Beside w' s g o:=⟨(hb.block _ h.lt).trans h.at_,h.off⟩
theorem Beside.new(h:StAt w sb s D nz)(o:Obj):Beside (w.alloc o) s w.heap.size o:=⟨qH w o,fun e=>Nat.lt_irrefl _ (h.ahead.2.2.2 _ e)⟩
end
theorem zPT(x:QB):look (ins [] (zD abcB) x) (zD abcB)=some x:=by
 kernel_rfl
theorem zIV:(yI (30000:Nat)).toNat=29991:=by
 decide
theorem zT7{p:Prop}(h:p:=by rw[hd];go_enter func187,ntmps187;go_wp2;go_ret;exact⟨rfl,rfl⟩):p:=h
theorem zE0(n:Nat)(hn:n<16)(w:World):Calls prog 187 #[.int .u8 n] w fun e w'=>e= .returned (.int .u8 (zEx n).toNat)∧w=w':=by
 have hd:((zEx n).toNat:Int)=if 9<n then 87+(n:Int)else 48+(n:Int):=by unfold zEx;rw[UInt8.toNat_ofNat'];split<;>omega
 by_cases h:9<n
 ·rw[if_pos h]at hd;(have g1:decide ((9:Int)<(n:Int))=true:=by simp;omega);(have g1':decide (9<n)=true:=by simpa using h);(have e1:IntKind.u8.wrap (97+(n:Int))=97+(n:Int):=by rw[IntKind.wrap_u8];omega);(have e2:IntKind.u8.wrap (97+(n:Int)-10)=87+(n:Int):=by rw[IntKind.wrap_u8];omega);(have e3:(97+(n:Int)-10)%256=87+(n:Int):=by omega);exact zT7
 ·rw[if_neg h]at hd;(have g1:decide ((9:Int)<(n:Int))=false:=by simp;omega);(have g1':decide (9<n)=false:=by simpa using h);(have e1:IntKind.u8.wrap (48+(n:Int))=48+(n:Int):=by rw[IntKind.wrap_u8];omega);exact zT7
theorem zLr{s:QB}{j:Nat}(h:j<s.size):kW (s.data.toList.take (j+1))=kW (s.data.toList.take j)++[zEx (s[j].toNat/16),zEx (s[j].toNat %16)]:=by
 rw[List.take_succ_eq_append_getElem (by rw[Array.length_toList];exact h),zDd]
 rfl
theorem zKS(s:QB)(hs:s.size≤1000000)(w:World):Calls prog 129 #[.string s] w fun e w'=>e= .returned (.string ⟨(kW s.data.toList).toArray⟩)∧Below w.heap.size w w':=by
 obtain⟨i0,hi0,hz0,hz1,hz2⟩:=info_parts zEJ
 have HI:=Hd hi0
 have Hz0:=Hd hz0
 have Hz1:=Hd hz1
 have Hz2:=Hd hz2
 have HD:=Hd zE0
 obtain⟨n,hn⟩:=qN s.size
 have HN:=Hd hn
 obtain⟨w1,l1,hrow,hg⟩:=run_make_own (P:=prog) w w.heap.size 121 5 i0 (.int .u8 0) 1 underlying121 hi0 hz0 hz1 .i64 .i64 (2*n) (by rw[hz2];omega) (by unfold maxLen;omega) (Qn _)
 have em:IntKind.i64.wrap (2*(n:Int))=((2*n:Nat):Int):=by rw[IntKind.wrap_i64];omega
 have hb0:Below w.heap.size w w1:=(Keep.refl (fun _=>False) w).grown hg (fun _ _ e=>by cases e)|>.below (Qn _) (fun _ _ e=>e.elim)
 have HB0:=Hd hb0
 have HRow:=Hd hrow
 have n0:(n:Int)≤1000000:=by omega
 rw[show((2*n:Nat):Int)=2*(n:Int)from by omega]at l1
 clear hi0 hz0 hz1 hz2 hrow hg hb0
 go_enter func129,ntmps129
 go_wp2_with(fail)
 go_loopw [3,4,11](fun out _ i wr=>∃(j:Nat),j≤n∧i= .int .i64 (j:Int)∧wr.ownsRow w.heap.size 5 1 out (2*j) ((kW (s.data.toList.take j)).map (fun b=>Value.int .u8 b.toNat))∧Below w.heap.size w wr)(fun _ _ i _=>n-(intOf i).toNat)
 case atStart=>exact⟨0,by omega,rfl,HRow.out,HB0.out⟩
 case round=>obtain⟨j,hj,rfl,hrow,hb⟩:=hrel;obtain⟨oa,oc,hov⟩:=zA hrow;subst hov;have HO:=Hd hrow;have HB:=Hd hb;clear hrow hb;by_cases hlt:j<n;(·(have g2:decide ((j:Int)<(n:Int))=true:=by simp;omega);(have g2':decide (j<n)=true:=by simpa using hlt);(have hjs:j<s.size:=by rw[HN.out];exact hlt);obtain⟨b,hbv⟩:=qN (s[j]);have HT:=Hd (zLr hjs);rw[hbv]at HT;have hb1:b.toNat<256:=b.toNat_lt;(have g0:(j:Int)<(n:Int):=by omega);have HB1:=Hd (show b.toNat<256 from hb1);(have ww1:IntKind.u8.wrap ((b.toNat:Int)/16)=((b.toNat/16:Nat):Int):=by rw[IntKind.wrap_u8];omega);(have ww2:IntKind.u8.wrap ((b.toNat:Int)%16)=((b.toNat %16:Nat):Int):=by rw[IntKind.wrap_u8];omega);(have ww3:((b.toNat:Int)%16)=((b.toNat %16:Nat):Int):=by omega);obtain⟨x,hx⟩:=qN (zEx (b.toNat/16));obtain⟨y,hy⟩:=qN (zEx (b.toNat %16));have HD1:=Hd (zE0 (b.toNat/16) (by omega));have HD2:=Hd (zE0 (b.toNat %16) (by omega));rw[hx]at HD1 HT;rw[hy]at HD2 HT;go_wp2_with(fail);obtain⟨S,HS⟩:=mkS (Keep (fun q=>Value.ownBlock (.slice oa (2*j) oc)=some q) (wr));have FR:=Hd (fun u(hu:S u)=>have hu:=(HS.out u).1 hu;have dummy:=hu.size;dummy);refine rgo 13 [tR 0,tR 1,tR 2,tR 3,tR 4,tR 6,tR 7,tR 8,tR 9,tD 5,tD 10,tD 11,tD 12] HS (Keep.refl _ _).drew ?_;(iterate 9 refine rd1 ?_);refine doH ?_;intro K hK;go_simp;(try rw[ww1]);go_at_call 187;refine(HD1.out _).mono ?_;rintro e w2⟨rfl,rfl⟩;refine hK _ _ ((HS.out _).2 (Keep.refl _ _).drew) ?_;clear hK K;refine doH ?_;intro K hK;go_simp;(try rw[ww2]);(try rw[ww3]);go_at_call 187;refine(HD2.out _).mono ?_;rintro e w2⟨rfl,rfl⟩;refine hK _ _ ((HS.out _).2 (Keep.refl _ _).drew) ?_;clear hK K;refine doH ?_;intro K hK;go_simp;have ka:Keep (fun q=>Value.ownBlock (.slice oa (2*j) oc)=some q) wr (wr.alloc (.cells #[.int .u8 x.toNat,.int .u8 y.toNat] 5)).drew:=((Keep.refl _ wr).alloc _).drew;have hsw:w.heap.size≤wr.heap.size:=HB.out.size;have HRa:=Hd (show((wr.alloc (.cells #[.int .u8 x.toNat,.int .u8 y.toNat] 5)).drew).ownsRow w.heap.size 5 1 (.slice (some ⟨wr.heap.size,0,none⟩) 2 2) 2 [.int .u8 x.toNat,.int .u8 y.toNat]from⟨rfl,.inr ⟨wr.heap.size,2,_,rfl,hsw,qH wr _,Qn _,by unfold maxLen;omega,rfl,rfl⟩⟩);have HOa:=Hd (show((wr.alloc (.cells #[.int .u8 x.toNat,.int .u8 y.toNat] 5)).drew).ownsRow w.heap.size 5 1 (.slice oa (2*j) oc) (2*j) _ from((Keep.refl (fun _=>False) wr).alloc _).drew.ownsRow HO.out (fun _ _ e=>e));have HKa:=Hd ka;refine hK _ _ ((HS.out _).2 ka) ?_;clear hK K ka;refine doH ?_;intro K hK;refine vM _ _ 121 (by rfl) w.heap.size 5 i0 (.int .u8 0) 1 1 underlying121 HI.out Hz0.out Hz1.out Hz2.out (by rfl) (by decide) (.slice oa (2*j) oc) (2*j) _ (by rfl) HOa.out (.slice (some ⟨wr.heap.size,0,none⟩) 2 2) 2 w.heap.size [.int .u8 x.toNat,.int .u8 y.toNat] (by rfl) HRa.out (by simp[Value.oneCell']) (by unfold maxLen;omega) (by omega) (by have:=HB.out.size;simp;omega) ?_;intro v6 w6 hown6 hg6 hl6;have k6:=HKa.out.grown hg6 (fun q _ e=>e);have HK6:=Hd k6;have HO6:=Hd hown6;refine hK _ _ ((HS.out _).2 k6) ?_;clear hK K k6 hown6 hg6 hl6;refine zl ?_;clear FR;clear S HS;go_wp2;go_roundw;(case rel=>refine⟨j+1,by omega,by go_num,?_,HB.out.trans (HK6.out.below HB.out.size (fun q hq e=>by have:=(World.ownsRow.lt HO.out q e).1;omega))⟩;rw[HT.out,List.map_append];exact HO6.out);case measure=>simp[intOf];omega);·(obtain rfl:j=n:=by omega);(have g2:decide ((j:Int)<(j:Int))=false:=by simp);have htk:s.data.toList.take j=s.data.toList:=Qk (by rw[Array.length_toList];show s.size≤j;rw[HN.out];exact Qn _);have ho:=HO.out;rw[htk]at ho;obtain⟨R,hR⟩:∃R:QB,(⟨(kW s.data.toList).toArray⟩:QB)=R:=⟨_,rfl⟩;(have hl:kW s.data.toList=R.data.toList:=by rw[←hR]);rw[hl]at ho;have HR:=Hd hR;(have hz:R.size=2*j:=by have h9:=ho.1;rw[List.length_map,Array.length_toList]at h9;show R.data.size=_;omega);rcases ho.2 with⟨h1,h2⟩|⟨g,cap,cur,h1,_⟩;(·injection h1 with e1 e2 e3;have hR0:R=⟨#[]⟩:=ByteArray.ext (Array.eq_empty_of_size_eq_zero (show R.size=0 by omega));(have hj0:j=0:=by omega);subst hj0;subst e1;subst e3;have l1:=Lib.run_convert_nil_bytes (P:=prog) wr 121 9 5 0 underlying121 underlying5 underlying9;clear ho hl hR;go_wp2_with(fail);go_ret;exact⟨by rw[HR.out,hR0];rfl,HB.out⟩);·injection h1 with e1 e2 e3;subst e1;(have hby:Lib.Bytes wr g 0 R:=fun i hi=>by have h9:=zC ho i (.int .u8 R[i].toNat) (by rw[List.getElem?_map,Array.getElem?_toList,Array.getElem?_eq_getElem (show i<R.data.size from hi)];rfl);rw[Nat.zero_add];exact h9);have l1:=fun c=>Lib.run_convert_whole (P:=prog) wr 121 5 9 underlying121 underlying5 underlying9 g 0 R hby c;rw[hz]at l1;clear ho hl hR hby;go_wp2_with(fail);go_ret;exact⟨by rw[HR.out];rfl,HB.out⟩
theorem zQ8{p:Prop}(h:p:=by go_enter func235,ntmps235;go_wp2;go_ret2;exact⟨rfl,rfl⟩):p:=h
theorem zT8{p:Prop}(h:p:=by rw[show decide (97≤n)=false from by simp;omega]at z3;go_enter func235,ntmps235;go_wp2;go_ret2;exact⟨rfl,rfl⟩):p:=h
theorem zE1(c:UInt8)(w:World):Calls prog 235 #[.int .u8 c.toNat] w fun e w'=>e= .returned (.tuple #[.int .u8 (((zAW c).getD 0:Nat):Int),.bool (zAW c).isSome])∧w=w':=by
 have h256:=c.toNat_lt
 have hv:zAW c=if 48≤c.toNat∧c.toNat≤57 then some (c.toNat-48)else if 97≤c.toNat∧c.toNat≤102 then some (c.toNat-87)else none:=rfl
 rw[hv]
 generalize c.toNat=n at*
 clear hv
 have z1:decide ((48:Int)≤(n:Int))=decide (48≤n):=by simp;omega
 have z2:decide ((n:Int)≤57)=decide (n≤57):=by simp;omega
 have z3:decide ((97:Int)≤(n:Int))=decide (97≤n):=by simp;omega
 have z4:decide ((n:Int)≤102)=decide (n≤102):=by simp;omega
 by_cases h1:48≤n∧n≤57
 ·rw[if_pos h1];rw[decide_eq_true h1.1]at z1;rw[decide_eq_true h1.2]at z2;(have w1:IntKind.u8.wrap ((n:Int)-48)=((n-48:Nat):Int):=by rw[IntKind.wrap_u8];omega);(have w2:((n:Int)-48)%256=((n-48:Nat):Int):=by omega);exact zQ8
 ·rw[if_neg h1];by_cases h2:97≤n∧n≤102;(·rw[if_pos h2];rw[decide_eq_true h2.1]at z3;rw[decide_eq_true h2.2]at z4;(have y1:decide (n≤57)=false:=by simp;omega);(have y2:decide (48≤n)=true:=by simp;omega);rw[y1]at z2;rw[y2]at z1;(have w1:IntKind.u8.wrap ((n:Int)-97+10)=((n-87:Nat):Int):=by rw[IntKind.wrap_u8];omega);exact zQ8);·rw[if_neg h2];by_cases h3:n<48;(·rw[show decide (48≤n)=false from by simp;omega]at z1;exact zT8);·rw[show decide (48≤n)=true from by simp;omega]at z1;rw[show decide (n≤57)=false from by simp;omega]at z2;by_cases h4:n<97;(·exact zT8);·rw[show decide (97≤n)=true from by simp;omega]at z3;rw[show decide (n≤102)=false from by simp;omega]at z4;exact zQ8
def zDF(t:QB):Option QB:=(xZ t.data.toList).map (fun l=>⟨l.toArray⟩)
theorem zDf{a x:List UInt8}(h:xZ a=some x)(b:List UInt8):xZ (a++b)=(xZ b).map (x++·):=by
 obtain⟨n,hn⟩:∃n,a.length≤n:=⟨_,Qn _⟩
 induction n generalizing a x with|zero=>have:=List.length_eq_zero_iff.1 (Nat.le_zero.1 hn);subst this;rw[xZ]at h;cases h;rw[List.nil_append];cases xZ b<;>rfl|succ n ih=>match a,h,hn with|[],h,_=>rw[xZ]at h;cases h;rw[List.nil_append];cases xZ b<;>rfl|[_],h,_=>rw[xZ]at h;cases h|c::d::t,h,hn=>rw[xZ]at h;rw[List.cons_append,List.cons_append,xZ];cases h1:zAW c with|none=>rw[h1]at h;cases h|some p=>cases h2:zAW d with|none=>rw[h1,h2]at h;cases h|some q=>rw[h1,h2]at h;cases h3:xZ t with|none=>rw[h3]at h;cases h|some u=>rw[h3]at h;have e:UInt8.ofNat (16*p+q)::u=x:=Option.some.inj h;subst e;have:=ih h3 (by simp at hn;omega);simp only[this];cases xZ b<;>rfl
theorem byte_at{s:QB}{j:Nat}(h:j<s.size):s.data.toList[j]? =some s[j]:=by
 rw[Qg (by rw[Array.length_toList];exact h),Array.getElem_toList]
 rfl
theorem zNd{s:QB}{j p q:Nat}(hp:2*j=p)(hq:p+1=q)(h:q<s.size):s.data.toList.take (2*(j+1))=s.data.toList.take p++[s[p],s[q]]:=by
 have e:2*(j+1)=p+1+1:=by omega
 have h1:=byte_at (s:=s) (j:=p) (by omega)
 have h2:=byte_at (s:=s) (j:=q) h
 subst hq
 rw[e,List.take_add_one,List.take_add_one,h1,h2]
 simp
theorem zPe{s:QB}{j p q:Nat}(hp:2*j=p)(hq:p+1=q)(h:q<s.size){l:List UInt8}(hl:xZ (s.data.toList.take p)=some l):(∀x y,zAW s[p]=some x→zAW s[q]=some y→xZ (s.data.toList.take (2*(j+1)))=some (l++[UInt8.ofNat (16*x+y)]))∧((zAW s[p]=none∨zAW s[q]=none)→zDF s=none):=by
 have ht:=zNd hp hq h
 constructor
 ·intro x y hx hy;rw[ht,zDf hl,xZ,hx,hy];rfl
 ·intro hb;(have e:s.data.toList=(s.data.toList.take p++[s[p],s[q]])++s.data.toList.drop (2*(j+1)):=by rw[←ht,List.take_append_drop]);unfold zDF;rw[e,Qa,zDf hl,List.cons_append,List.cons_append,xZ];rcases hb with hb|hb;(·rw[hb];rfl);·rw[hb];cases zAW s[p]<;>rfl
structure RawR(w:World)(B:Nat)(out:Value)(n j:Nat)(l:List UInt8):Prop where
 row:∃xs:List Value,w.ownsRow B 5 1 out n xs∧(∀k,k<n→∃c:Int,xs[k]? =some (.int .u8 c))∧xs.take j=l.map (fun b=>Value.int .u8 b.toNat)
theorem zPf(s:QB)(hs:s.size≤1000000)(w:World):Calls prog 191 #[.string s] w fun e w'=>e= .returned (.tuple #[.string ((zDF s).getD ⟨#[]⟩),.bool (zDF s).isSome])∧Below w.heap.size w w':=by
 obtain⟨z,hz⟩:=qN s.size
 have HZ:=Hd hz
 by_cases hodd:z %2=1
 ·(have hr:zDF s=none:=by unfold zDF;cases h:xZ s.data.toList with|none=>rfl|some l=>have:=zEy h;rw[Array.length_toList]at this;have h2:s.data.size=z:=hz;omega);rw[hr];(have e1:((z:Int)%2==1)=true:=by simp;omega);(have e2:(z:Int)%2=1:=by omega);clear hr;go_enter func191,ntmps191;go_wp2;go_ret2;exact⟨rfl,Below.refl _ _⟩
 obtain⟨n,hn⟩:∃n,z=2*n:=⟨z/2,by omega⟩
 have e1:((z:Int)%2==1)=false:=by simp;omega
 have e2:(z:Int)/2=(n:Int):=by omega
 have e3:(z:Int)%2=0:=by omega
 have e4:IntKind.i64.wrap (n:Int)=(n:Int):=by rw[IntKind.wrap_i64];omega
 have e5:(z:Int).tdiv 2=(n:Int):=by rw[Int.tdiv_eq_ediv_of_nonneg (by omega)];exact e2
 obtain⟨i0,hi0,hz0,hz1,hz2⟩:=info_parts zEJ
 obtain⟨w1,l1,hrow,hg⟩:=run_make_full (P:=prog) (w:=w) w.heap.size 121 5 i0 (.int .u8 0) 1 underlying121 hi0 hz0 hz1 .i64 .i64 n (by rw[hz2];omega) (by unfold maxLen;omega) (Qn _)
 have hb0:Below w.heap.size w w1:=(Keep.refl (fun _=>False) w).grown hg (fun _ _ e=>by cases e)|>.below (Qn _) (fun _ _ e=>e.elim)
 have HB0:=Hd hb0
 have HR0:=Hd (show RawR w1 w.heap.size (.slice (some ⟨w.heap.size,0,none⟩) n n) n 0 []from⟨_,hrow,fun k hk=>⟨0,by simp[madeCells,hk,Value.cells];rw[Nat.mod_one];rfl⟩,rfl⟩)
 have HN:=Hd hn
 have HM:=Hd zE1
 have n0:(n:Int)≤1000000:=by omega
 clear hi0 hz0 hz1 hz2 hrow hg hb0
 go_enter func191,ntmps191
 go_wp2_with(fail)
 go_loopw [5,6,7,8,9,20](fun _ _ _ _ _ i wr=>∃(j:Nat)(l:List UInt8),j≤n∧i= .int .i64 (j:Int)∧xZ (s.data.toList.take (2*j))=some l∧RawR wr w.heap.size (.slice (some ⟨w.heap.size,0,none⟩) n n) n j l∧Below w.heap.size w wr)(fun _ _ _ _ _ i _=>n-(intOf i).toNat)
 case atStart=>exact⟨0,[],by omega,rfl,rfl,HR0.out,HB0.out⟩
 case round=>obtain⟨j,l,hj,rfl,hl,hrow,hb⟩:=hrel;have HO:=Hd hrow;have HB:=Hd hb;have HL:=Hd hl;clear hrow hb hl;by_cases hlt:j<n;(·(have g2:decide ((j:Int)<(n:Int))=true:=by simp;omega);(have g2':decide (j<n)=true:=by simpa using hlt);obtain⟨p,hp⟩:=qN (2*j);obtain⟨q,hq⟩:=qN (p+1);(have hqs:q<s.size:=by omega);(have hps:p<s.size:=by omega);have hl:=HL.out;rw[hp]at hl;have HT:=Hd (zPe hp hq hqs hl);obtain⟨a,ha⟩:=qN (s[p]);obtain⟨b,hb⟩:=qN (s[q]);rw[ha,hb]at HT;(have w1:IntKind.i64.wrap (2*(j:Int))=(p:Int):=by rw[IntKind.wrap_i64];omega);(have w2:IntKind.i64.wrap ((p:Int)+1)=(q:Int):=by rw[IntKind.wrap_i64];omega);have HA:=Hd (zE1 a);have HBb:=Hd (zE1 b);(have g0:(j:Int)<(n:Int):=by omega);(have gp:(p:Int)<(z:Int):=by omega);(have gq:(q:Int)<(z:Int):=by omega);(have gp':p<z:=by omega);(have gq':q<z:=by omega);have hb1:Below wr.heap.size wr wr:=Below.refl _ _;clear hb1 hl;obtain⟨va,hva⟩:=qN (zAW a);obtain⟨vb,hvb⟩:=qN (zAW b);rw[hva]at HA HT;rw[hvb]at HBb HT;have HVa:=Hd hva;have HVb:=Hd hvb;clear hva hvb;match va,vb,HA,HBb,HT,HVa,HVb with|none,vb,HA,HBb,HT,_,_=>have HR:=Hd (HT.out.2 (.inl rfl));go_wp2_with(go_at_call 235;first|(with_reducible refine(HA.out _).mono ?_;rintro e w2⟨rfl,rfl⟩)|(with_reducible refine(HBb.out _).mono ?_;rintro e w2⟨rfl,rfl⟩));go_ret2;exact⟨by rw[HR.out];rfl,HB.out⟩|some x,none,HA,HBb,HT,_,_=>have HR:=Hd (HT.out.2 (.inr rfl));go_wp2_with(go_at_call 235;first|(with_reducible refine(HA.out _).mono ?_;rintro e w2⟨rfl,rfl⟩)|(with_reducible refine(HBb.out _).mono ?_;rintro e w2⟨rfl,rfl⟩));go_ret2;exact⟨by rw[HR.out];rfl,HB.out⟩|some x,some y,HA,HBb,HT,HVa,HVb=>have HT2:=Hd (HT.out.1 x y rfl rfl);have hx:=zKQ HVa.out;have hy:=zKQ HVb.out;have HX:=Hd (And.intro hx hy);simp only[Option.getD_some,Option.isSome_some]at HA HBb;(have v1:IntKind.u8.wrap (16*(x:Int))=16*(x:Int):=by rw[IntKind.wrap_u8];omega);(have v2:IntKind.u8.wrap (16*(x:Int)+(y:Int))=((16*x+y:Nat):Int):=by rw[IntKind.wrap_u8];omega);obtain⟨xs,r1,r2,r3⟩:=HO.out.row;have HR1:=Hd (r1.stored j (.int .u8 ((16*x+y:Nat):Int)));obtain⟨c,hc⟩:=r2 j hlt;have k0:=(r1.cellAt j (by omega)).trans hc;have k1:=r1.frozenAt j;have HR2:=Hd r2;have HR3:=Hd r3;have HLn:=Hd r1.1;clear HT r1 r2 r3 hc hx hy;go_wp2_with(go_at_call 235;first|(with_reducible refine(HA.out _).mono ?_;rintro e w2⟨rfl,rfl⟩)|(with_reducible refine(HBb.out _).mono ?_;rintro e w2⟨rfl,rfl⟩));go_roundw;(case rel=>obtain⟨h1,h2⟩:=HR1.out;refine⟨j+1,l++[UInt8.ofNat (16*x+y)],by omega,by go_num,HT2.out,⟨xs.set j (.int .u8 ((16*x+y:Nat):Int)),h1,fun k hk=> ?_,?_⟩,HB.out.setCell (p:=⟨w.heap.size,j,none⟩) (Qn _) _⟩;(·by_cases e:j=k;(·subst e;exact⟨_,List.getElem?_set_self (by have:=HLn.out;omega)⟩);·rw[List.getElem?_set_ne e];exact HR2.out k hk);·rw[List.take_set,List.take_add_one,HR3.out,List.map_append];(have hl2:(l.map (fun b:UInt8=>Value.int IntKind.u8 (b.toNat:Nat))).length=j:=by rw[←HR3.out,List.length_take];have:=HLn.out;omega);obtain⟨c,hc⟩:=HR2.out j hlt;rw[hc,List.set_append_right _ _ (by omega),hl2,Nat.sub_self];have:=HX.out;simp;omega);case measure=>simp[intOf];omega);·(obtain rfl:j=n:=by omega);(have g2:decide ((j:Int)<(j:Int))=false:=by simp);have hl:=HL.out;(have hsl:s.data.toList.length=2*j:=by rw[Array.length_toList];show s.size=_;omega);rw[Qk (by omega)]at hl;have hlen:=zEy hl;obtain⟨xs,r1,r2,r3⟩:=HO.out.row;(have hxl:xs.length=j:=by have:=r1.1;omega);rw[Qk (by omega)]at r3;subst r3;obtain⟨R,hR⟩:∃R:QB,(⟨l.toArray⟩:QB)=R:=⟨_,rfl⟩;(have hRz:R.size=j:=by rw[←hR];show l.toArray.size=j;rw[List.size_toArray];omega);(have hRl:l=R.data.toList:=by rw[←hR]);(have hr:zDF s=some R:=by unfold zDF;rw[hl,←hR];rfl);have HRr:=Hd hr;(have hby:Lib.Bytes wr w.heap.size 0 R:=fun i hi=>by have h9:=r1.cellAt i (by omega);rw[Nat.zero_add,h9,hRl,List.getElem?_map,Array.getElem?_toList,Array.getElem?_eq_getElem (show i<R.data.size from hi)];rfl);have l1:=fun c=>Lib.run_convert_whole (P:=prog) wr 121 5 9 underlying121 underlying5 underlying9 w.heap.size 0 R hby c;rw[hRz]at l1;clear hl hlen r1 r2 hxl hRl hby hr hR;go_wp2_with(fail);go_ret2;exact⟨by rw[HRr.out];rfl,HB.out⟩
def zB7(t:QB)(x:UInt8)(m:Nat):QB:=⟨(t.data.toList++x::List.replicate m 255).toArray⟩
theorem zF6(t:QB)(x:UInt8):zB7 t x 0=t++⟨#[x]⟩:=by
 apply ByteArray.ext
 apply Array.toList_inj.1
 unfold zB7
 simp
theorem zF7(t:QB)(x:UInt8)(m:Nat):zB7 t x (m+1)=zB7 t x m++⟨#[255]⟩:=by
 apply ByteArray.ext
 apply Array.toList_inj.1
 unfold zB7
 simp[List.replicate_succ']
theorem zF8(t:QB)(x:UInt8)(m:Nat):(zB7 t x m).size=t.size+1+m:=by
 induction m with|zero=>rw[zF6,ByteArray.size_append];rfl|succ m ih=>rw[zF7,ByteArray.size_append,ih];rfl
theorem zIa(t:QB)(x:UInt8)(hx:x.toNat<255)(m0:Nat)(ht:t.size+m0≤1000)(w:World):Calls prog 110 #[.string (zB7 t x m0)] w fun e w'=>e= .returned (.string (t++⟨#[UInt8.ofNat (x.toNat+1)]⟩))∧Below w.heap.size w w':=by
 obtain⟨h1,h2,h3⟩:=zEp t x
 obtain⟨s,hs⟩:=qN ((t++⟨#[x]⟩:QB))
 rw[hs]at h1 h2 h3
 have HS0:=Hd (show zB7 t x 0=s by rw[zF6,hs])
 obtain⟨n,hn⟩:=qN t.size
 have HSz:=Hd (fun m=>zF8 t x m)
 have HSu:=Hd (fun m=>zF7 t x m)
 rw[hn]at h1 h2 h3 ht HSz
 have hkx:=zL s n (by omega)
 rw[h3]at hkx
 obtain⟨xv,hxv⟩:=qN x.toNat
 rw[hxv]at hkx hx⊢
 obtain⟨kb,hkb⟩:∃kb:QB,(⟨#[UInt8.ofNat (xv+1)]⟩:QB)=kb:=⟨_,rfl⟩
 have hcat:=fun u=>run_string_add_sum (P:=prog) u t (⟨#[UInt8.ofNat (xv+1)]⟩:QB) (by show t.size+1≤_;omega)
 have hby:∀u:World,∀k,u.heap[k]? =some (.cells #[.int .u8 ((xv:Int)+1)] 5 (0,0))→Lib.Bytes u k 0 ⟨#[UInt8.ofNat (xv+1)]⟩:=fun u k hk i hi=>by exact zTr
 have hl1:∀(u:World)(k:Nat),u.heap[k]? =some (.cells #[.int .u8 ((xv:Int)+1)] 5 (0,0))→∀c,(convert 121 9 (.slice (some ⟨k,0,none⟩) 1 c)).run prog u= .ok (.string ⟨#[UInt8.ofNat (xv+1)]⟩) u:=fun u k hk c=>Lib.run_convert_whole (P:=prog) _ 121 5 9 underlying121 underlying5 underlying9 k 0 ⟨#[UInt8.ofNat (xv+1)]⟩ (hby u k hk) c
 rw[hkb]at hcat hl1⊢
 have HL1:=Hd hl1
 have HCat:=Hd hcat
 have HSz2:=Hd (show s.size=n+1 from h2)
 have HKx:=Hd hkx
 have HH1:=Hd h1
 have i1:IntKind.i64.wrap ((n:Int)+1-1)=(n:Int):=by rw[IntKind.wrap_i64];omega
 have i2:(n:Int)+1-1=(n:Int):=by omega
 have i3:IntKind.i64.wrap (n:Int)=(n:Int):=by rw[IntKind.wrap_i64];omega
 have u1:IntKind.u8.wrap ((xv:Int)+1)=(xv:Int)+1:=by rw[IntKind.wrap_u8];omega
 have q1:((xv:Int)==255)=false:=by simp;omega
 clear hby hs h3 hkb hl1 hcat hxv h1 hkx
 go_enter func110,ntmps110
 go_wp2
 go_loopw [0](fun v wr=>∃m:Nat,m≤m0∧v= .string (zB7 t x m)∧wr=w)(fun v _=>match v with| .string s=>s.size|_=>0)
 case atStart=>exact⟨m0,Qn _,rfl,rfl⟩
 case round=>obtain⟨m,hm,rfl,rfl⟩:=hrel;cases m with|succ m=>obtain⟨k1,k2,k3⟩:=zEp (zB7 t x m) 255;rw[←HSu.out m]at k1 k2 k3;have hz:=HSz.out m;obtain⟨f,hf⟩:=qN (zB7 t x (m+1));rw[hf]at k1 k2 k3⊢;obtain⟨z,hz0⟩:=qN ((zB7 t x m).size);rw[hz0]at k1 k2 k3 hz;have HZz:=Hd hz;have hkf:=zL f z (by omega);rw[k3]at hkf;(have j1:IntKind.i64.wrap ((z:Int)+1-1)=(z:Int):=by rw[IntKind.wrap_i64];omega);(have j2:(z:Int)+1-1=(z:Int):=by omega);(have j3:IntKind.i64.wrap (z:Int)=(z:Int):=by rw[IntKind.wrap_i64];omega);(have g0:(0:Int)<(z:Int)+1:=by omega);(have g1:(z:Int)≤(z:Int)+1:=by omega);(have g2:(z:Int)<(z:Int)+1:=by omega);(have g3:z<f.size:=by omega);have hfz:f.size=z+1:=k2;have HF:=Hd hf;clear k3 hf hz hz0;go_wp2;go_roundw;(case rel=>exact⟨m,by omega,rfl,trivial⟩);(case measure=>show(zB7 t x m).size<f.size;have:=HSz.out m;have:=HZz.out;omega)|zero=>rw[HS0.out];have hsz:=HSz2.out;have hkx:=HKx.out;have h1:=HH1.out;(have g0:(0:Int)<(n:Int)+1:=by omega);(have g1:(n:Int)≤(n:Int)+1:=by omega);(have g2:(n:Int)<(n:Int)+1:=by omega);(have g3:n<s.size:=by omega);go_wp2;obtain⟨S,HS⟩:=mkS (Keep (fun _=>False) (wr));have FR:=Hd (fun u(hu:S u)=>have hu:=(HS.out u).1 hu;have hcat:=HCat.out u;hcat);refine rgw 13 [tR 0,tR 1,tR 2,tR 3,tR 4,tR 5,tR 6,tR 7,tR 8,tD 9,tD 10,tR 11,tR 12] HS (Keep.refl _ _).drew ?_;(iterate 9 refine rd1 ?_);refine doH ?_;intro K hK;go_simp;have ka:Keep (fun _=>False) wr (wr.alloc (.cells #[.int .u8 ((xv:Int)+1)] 5)).drew:=((Keep.refl _ wr).alloc _).drew;have HKa:=Hd ka;have HL2:=Hd (HL1.out (wr.alloc (.cells #[.int .u8 ((xv:Int)+1)] 5)).drew wr.heap.size (qH wr _));refine hK _ _ ((HS.out _).2 ka) ?_;clear hK K ka;refine doH ?_;intro K hK;have l1:=HL2.out;go_simp;refine hK _ _ ((HS.out _).2 HKa.out) ?_;clear hK K l1;(iterate 2 refine rd1 ?_);exact zTq
theorem zB8{l h:QB}(H:Beh l.data.toList h.data.toList)(hl:l.size≤1000)(w:World):Calls prog 110 #[.string l] w fun e w'=>e= .returned (.string h)∧Below w.heap.size w w':=by
 obtain⟨p,c,m,hc,h1,h2⟩:=H
 have e1:l=zB7 ⟨p.toArray⟩ c m:=by apply ByteArray.ext;apply Array.toList_inj.1;rw[h1];unfold zB7;simp
 have e2:h=(⟨p.toArray⟩:QB)++⟨#[UInt8.ofNat (c.toNat+1)]⟩:=by apply ByteArray.ext;apply Array.toList_inj.1;(have e3:UInt8.ofNat (c.toNat+1)=c+1:=by apply UInt8.toNat_inj.1;rw[UInt8.toNat_ofNat',UInt8.toNat_add];rfl);rw[h2,e3];simp
 rw[e1,e2]
 refine zIa _ _ hc _ ?_ w
 have:=congrArg ByteArray.size e1
 rw[zF8]at this
 omega
def zI(pre delim frm:QB):List It→QB→List (It×QB)|[],_=>[]|it::r,opn=>if yL pre frm opn it then zI pre delim frm r opn else(it,zR it.key pre delim)::zI pre delim frm r (zR it.key pre delim)
def xe(t:It×QB):QB:=if t.2=⟨#[]⟩then kT t.1.key else pT t.2
def zIb(t:It×QB):List En:=if t.2=⟨#[]⟩then[⟨t.1.key,t.1.head.id,t.1.head.body.size,t.1.head.born⟩]else[]
def zIc(t:It×QB):List QB:=if t.2=⟨#[]⟩then[]else[t.2]
def zAB(l:List (It×QB)):List En:=l.flatMap zIb
def zAC(l:List (It×QB)):List QB:=l.flatMap zIc
theorem zCp(st:LSt)(pre delim:QB)(it:It):st.tell pre delim it=⟨st.told+1,xe (it,zR it.key pre delim),zR it.key pre delim,st.es++zIb (it,zR it.key pre delim),st.ps++zIc (it,zR it.key pre delim)⟩:=by
 unfold LSt.tell xe zIb zIc
 by_cases h:zR it.key pre delim=⟨#[]⟩
 ·simp only[h,if_true,List.append_nil]
 ·simp only[h,if_false,List.append_nil]
theorem zE2{pre delim frm:QB}{limit:Nat}(L:List It)(st:LSt)(h:st.told≤limit):kV pre delim frm limit L st=⟨st.es++zAB ((zI pre delim frm L st.opn).take (limit-st.told)),st.ps++zAC ((zI pre delim frm L st.opn).take (limit-st.told)),decide (limit-st.told<(zI pre delim frm L st.opn).length),if limit-st.told<(zI pre delim frm L st.opn).length then(((zI pre delim frm L st.opn).take (limit-st.told)).getLast?.map xe).getD st.last else⟨#[]⟩⟩:=by
 induction L generalizing st with|nil=>simp[kV,zI,zAB,zAC]|cons it r ih=>rw[kV,zI];by_cases hs:yL pre frm st.opn it=true;(·rw[if_pos hs,if_pos hs,ih st h]);·rw[if_neg hs,if_neg hs];by_cases ht:st.told=limit;(·rw[if_pos ht,ht,Nat.sub_self];simp[zAB,zAC]);·rw[if_neg ht,ih _ (by rw[zCp];show st.told+1≤limit;omega),zCp];obtain⟨m,hm⟩:∃m,limit-st.told=m+1:=⟨limit-st.told-1,by omega⟩;(have hm2:limit-(st.told+1)=m:=by omega);simp only[hm,hm2,List.take_succ_cons,List.length_cons,Nat.add_lt_add_iff_right];generalize zI pre delim frm r (zR it.key pre delim)=l;congr 1;(·unfold zAB;exact zQw);(·unfold zAC;exact zQw);·split;(·cases hc:l.take m with|nil=>simp|cons y t=>rw[List.getLast?_cons_cons];cases hd:(y::t).getLast? with|none=>simp at hd|some z=>rfl);·rfl
theorem xK(c:UInt8)(k:QB):((⟨#[c]⟩++k:QB)).extract 1 (⟨#[c]⟩++k:QB).size=k∧(⟨#[c]⟩++k:QB).data.toList=c::k.data.toList∧(⟨#[c]⟩++k:QB)≠⟨#[]⟩:=by
 have hd:(⟨#[c]⟩++k:QB).data.toList=c::k.data.toList:=by simp
 have hs:(⟨#[c]⟩++k:QB).size=1+k.size:=by rw[ByteArray.size_append];rfl
 refine⟨?_,hd,fun e=> ?_⟩
 ·apply ByteArray.ext;apply Array.toList_inj.1;(have h2:(⟨#[c]⟩++k:QB).size-1=k.data.toList.length:=by rw[hs];simp);exact zTp
 ·rw[e]at hs;have:(⟨#[]⟩:QB).size=0:=rfl;omega
theorem zDG(y k:QB):zq y (kT k)=decide (bLt k y):=by
 obtain⟨h1,h2,h3⟩:=xK 107 k
 unfold zq kT
 rw[if_neg h3,h1,h2]
 simp
theorem zBZ(y g:QB):zq y (pT g)=(decide (bLt g y)&& !yD y g):=by
 obtain⟨h1,h2,h3⟩:=xK 112 g
 unfold zq pT
 rw[if_neg h3,h1,h2]
 simp
section
variable {pre delim frm : QB}
end
def wkC(br:Nat)(pre delim fr to_:QB):Array Value:= #[.pointer (some ⟨br,0,none⟩),.string abcB,.string pre,.string delim,.string fr,.string to_]
def WkAt(w:World)(wb br:Nat)(pre delim fr to_:QB):Prop:=w.heap[wb]? =some (.cells (wkC br pre delim fr to_) 147 (0,0))
theorem WkAt.still{w u:World}{wb br:Nat}{pre delim fr to_:QB}(h:WkAt w wb br pre delim fr to_)(hb:Below w.heap.size w u):WkAt u wb br pre delim fr to_:=qB hb h
theorem zF9(t:QB):yO 118 [abcB]++t=zy t:=by
 apply ByteArray.ext
 apply Array.toList_inj.1
 unfold yO xI zy zAt
 simp
theorem zLs(s:QB):(yO 118 [abcB,s]).data.toList=zAt abcB++(s.data.toList++[0]):=by
 unfold yO xI zAt
 simp
theorem zId:zf abcB=true∧abcB.size≤1000:=⟨(yc yt).1,by decide⟩
theorem zQ9{p:Prop}(h:p:=by unfold xI;simp;have:abcB.size=3:=rfl;omega):p:=h
theorem zIe{w:World}{wb br:Nat}{pre delim fr to_:QB}(h:WkAt w wb br pre delim fr to_)(t:QB)(ht:t.size≤1000):Calls prog 126 #[.pointer (some ⟨wb,0,none⟩),.string t] w fun e w'=>e= .returned (.string (zy t))∧Below w.heap.size w w':=by
 obtain⟨⟨c0,c1,c2,c3,c4,c5⟩,-⟩:=yl h
 have HU:=Hd (fun(u:World)=>show Calls prog 107 #[.int .u8 118,.slice (some ⟨u.heap.size,0,none⟩) 1 1] (u.alloc (.cells #[.string abcB] 9)) fun e w'=>e= .returned (.string (yO 118 [abcB]))∧Below (u.alloc (.cells #[.string abcB] 9)).heap.size (u.alloc (.cells #[.string abcB] 9)) w' from zBW (w:=u.alloc (.cells #[.string abcB] 9)) (b:=u.heap.size) (c:=1) (ps:=[abcB]) (n:=1) rfl (fun j hj=>by exact zTe) (by simp) (fun p hp=>by rw[List.mem_singleton.1 hp];exact zId) (by omega) 118)
 have hcat:=fun u=>run_string_add_sum (P:=prog) u (yO 118 [abcB]) t (by rw[vS];exact zQ9)
 rw[zF9]at hcat
 obtain⟨k,hk⟩:=qN (yO 118 [abcB])
 rw[hk]at HU hcat
 have HCat:=Hd hcat
 obtain⟨kp,hkp⟩:=qN (zy t)
 rw[hkp]at hcat⊢
 clear h hk HCat hkp
 go_enter func126,ntmps126
 go_wp2_with(go_at_call 107;refine(HU.out _).mono ?_;rintro e w1⟨rfl,hb1⟩;have HB1:=Hd ((qA).trans (hb1.mono (by simp)));clear hb1 c0 c1 c2 c3 c4 c5)
 go_ret
 exact⟨rfl,HB1.out⟩
def zk(s:QB):Bool:=decide (s.size≤40)&&zf s
theorem zT9{p:Prop}(h:p:=by rw[e3];clear hr;go_enter func76,ntmps76;go_wp2_with(go_at_call 136;refine(HI.out _).mono ?_;rintro e w1⟨rfl,rfl⟩);go_ret;exact⟨rfl,rfl⟩):p:=h
theorem plain_any(s:QB)(w:World):Calls prog 76 #[.string s] w fun e w'=>e= .returned (.bool (zk s))∧w=w':=by
 have HI:=Hd (zJd s)
 by_cases c2:s.size≤40
 ·(have hr:zk s=decide (ix0 s<0):=by unfold zk zf;rw[decide_eq_true c2];rfl);rw[hr];(have e2:decide ((s.size:Int)≤40)=true:=by simp;omega);have e2':decide (s.size≤40)=true:=decide_eq_true c2;generalize ix0 s=ix at*;by_cases c3:ix<0;(·have e3:decide (ix<0)=true:=decide_eq_true c3;exact zT9);·have e3:decide (ix<0)=false:=decide_eq_false c3;exact zT9
 ·(have hr:zk s=false:=by unfold zk;rw[decide_eq_false c2];simp);rw[hr];(have e2:decide ((s.size:Int)≤40)=false:=by simp;omega);have e2':decide (s.size≤40)=false:=decide_eq_false c2;clear hr;go_enter func76,ntmps76;go_wp2;go_ret;exact⟨rfl,rfl⟩
theorem zUA{p:Prop}(h:p:=by have h9:t.data[0]? =some t[0]:=Array.getElem?_eq_getElem (by show 0<t.data.size;exact x7);rw[x5]at h9;exact(Option.some.inj h9).symm):p:=h
theorem zGA{w:World}{wb br:Nat}{pre delim fr to_:QB}(hw:WkAt w wb br pre delim fr to_){g h:QB}(hg:g.size≤800)(H:Beh (zy g).data.toList h.data.toList):Calls prog 66 #[.pointer (some ⟨wb,0,none⟩),.string (pT g)] w fun e w'=>e= .returned (.string h)∧Below w.heap.size w w':=by
 have HK:=Hd (zIe hw g (by omega))
 have hks:(zy g).size≤1000:=by rw[←zF9,ByteArray.size_append,vS];exact zQ9
 have HB:=Hd (fun(u:World)=>zB8 H hks u)
 obtain⟨x1,x2,x3⟩:=xK 112 g
 have x4:(⟨#[112]⟩++g:QB).size=g.size+1:=by rw[ByteArray.size_append];show 1+g.size=_;omega
 have x5:(⟨#[112]⟩++g:QB).data[0]? =some 112:=by rw[←Array.getElem?_toList,x2];rfl
 unfold pT
 obtain⟨t,ht⟩:=qN ((⟨#[112]⟩++g:QB))
 rw[ht]at x1 x4 x5⊢
 rw[x4]at x1
 have x7:0<t.size:=by omega
 have x6:t[0]=(112:UInt8):=by exact zUA
 obtain⟨kp,hkp⟩:=qN (zy g)
 rw[hkp]at HK HB
 clear hw H hks x2 x3 x5 ht hkp
 go_enter func66,ntmps66
 go_wp2_with(first|(go_at_call 126;refine(HK.out).mono ?_;rintro e w1⟨rfl,hb1⟩;have HB1:=Hd hb1;clear hb1)|(go_at_call 110;refine(HB.out _).mono ?_;rintro e w2⟨rfl,hb2⟩;have HB2:=Hd (qT HB1.out hb2);clear hb2))
 go_ret
 exact⟨rfl,HB2.out⟩
theorem zGB{w:World}{wb br:Nat}{pre delim fr to_:QB}(hw:WkAt w wb br pre delim fr to_){k:QB}(hk:k.size≤800)(hz:zf k=true):Calls prog 66 #[.pointer (some ⟨wb,0,none⟩),.string (kT k)] w fun e w'=>e= .returned (.string (yT k))∧Below w.heap.size w w':=by
 have HW:=Hd hw
 have HU:=Hd (fun(u:World)(b:Nat)(hb:u.heap[b]? =some (.cells #[.string abcB,.string k] 9 (0,0)))=>show Calls prog 107 #[.int .u8 118,.slice (some ⟨b,0,none⟩) 2 2] u fun e w'=>e= .returned (.string (yO 118 [abcB,k]))∧Below u.heap.size u w' from zBW (w:=u) (b:=b) (c:=2) (ps:=[abcB,k]) (n:=2) rfl (fun j hj=>by(have:j=0∨j=1:=by simp at hj;omega);rcases this with e|e;(·subst e;exact Qc hb 0);·subst e;exact Qc hb 1) (Gl hb) (fun p hp=>by rcases List.mem_cons.1 hp with e|e;(·rw[e];exact zId);·rw[List.mem_singleton.1 e];exact⟨hz,by omega⟩) (by omega) 118)
 have hks:(yO 118 [abcB,k]).size≤1000:=by rw[vS];exact zQ9
 have HB:=Hd (fun(u:World)=>zB8 (h:=yT k) (by rw[zLs];exact zKP k) hks u)
 obtain⟨x1,x2,x3⟩:=xK 107 k
 have x4:(⟨#[107]⟩++k:QB).size=k.size+1:=by rw[ByteArray.size_append];show 1+k.size=_;omega
 have x5:(⟨#[107]⟩++k:QB).data[0]? =some 107:=by rw[←Array.getElem?_toList,x2];rfl
 unfold kT
 obtain⟨t,ht⟩:=qN ((⟨#[107]⟩++k:QB))
 rw[ht]at x1 x4 x5⊢
 rw[x4]at x1
 have x7:0<t.size:=by omega
 have x6:t[0]=(107:UInt8):=by exact zUA
 obtain⟨us,hus⟩:=qN (yO 118 [abcB,k])
 obtain⟨ks,hks2⟩:=qN (yT k)
 rw[hus]at HU HB
 rw[hks2]at HB⊢
 clear hw hz hks x2 x3 x5 ht hus hks2
 go_enter func66,ntmps66
 go_wp2_with(fail)
 have g1:(1:Int)≤(k.size:Int)+1:=by omega
 obtain⟨S,HS⟩:=mkS (Keep (fun _=>False) (w))
 have FR:=Hd (fun u(hu:S u)=>have hu:=(HS.out u).1 hu;have o09:=yl (hu.at HW.out (fun e=>e));o09)
 refine rgw 10 [tR 0,tR 1,tR 2,tR 3,tR 4,tR 5,tD 6,tD 7,tD 8,tR 9] HS (Keep.refl _ _).drew ?_
 iterate 6 refine rd1 ?_
 refine doH ?_
 intro K hK
 go_simp
 have ka:Keep (fun _=>False) w (w.alloc (.cells #[.string abcB,.string k] 9)).drew:=((Keep.refl _ w).alloc _).drew
 have HKa:=Hd ka
 have HXa:=Hd (show((w.alloc (.cells #[.string abcB,.string k] 9)).drew).heap[w.heap.size]? =some (.cells #[.string abcB,.string k] 9 (0,0))from qH w _)
 refine hK _ _ ((HS.out _).2 ka) ?_
 clear hK K ka
 refine doH ?_
 intro K hK
 go_simp
 go_at_call 107
 refine(HU.out _ _ HXa.out).mono ?_
 rintro e w1⟨rfl,hb1⟩
 have k1:=HKa.out.trans (Keep.ofBelow (S:=fun _=>False) hb1) (fun _ _ e=>e)
 have HK1:=Hd k1
 refine hK _ _ ((HS.out _).2 k1) ?_
 clear hK K hb1 k1
 refine doH ?_
 intro K hK
 go_simp
 go_at_call 110
 refine(HB.out _).mono ?_
 rintro e w2⟨rfl,hb2⟩
 have k2:=HK1.out.trans (Keep.ofBelow (S:=fun _=>False) hb2) (fun _ _ e=>e)
 have HK2:=Hd k2
 refine hK _ _ ((HS.out _).2 k2) ?_
 clear hK K hb2 k2
 refine rd1 ?_
 refine zl ?_
 clear FR
 clear S HS
 go_wp2
 go_ret
 exact⟨rfl,HK2.out.below (Qn _) (fun _ _ e=>e.elim)⟩
def ckL(l:List UInt8):Nat:=crc.check (l.map UInt8.toNat)
def vU(s:QB):QB:=⟨(zGz ckL s.data.toList).toArray⟩
def ko(t:QB):Option QB:=(zIU ckL t.data.toList).map (fun l=>⟨l.toArray⟩)
theorem zLt(s:QB):ko (vU s)=some s:=by
 unfold ko vU
 show(zIU ckL (zGz ckL s.data.toList)).map _=_
 rw[zNT]
 rfl
theorem zIf(s:QB)(k:Nat):(s.extract k s.size).data.toList=s.data.toList.drop k:=by
 rw[ByteArray.data_extract,Array.toList_extract,List.extract_eq_take_drop]
 exact Qk (by rw[List.length_drop];show s.data.size-_≤_;exact Qn _)
theorem zNe(t:QB):ko t=match zDF t with|none=>none|some s=>if s.size<4∨vU (s.extract 4 s.size)≠t then none else some (s.extract 4 s.size):=by
 unfold ko zIU zDF
 cases h:xZ t.data.toList with|none=>rfl|some l=>simp only[Option.map_some];(have e1:(⟨l.toArray⟩:QB).size=l.length:=by show l.toArray.size=_;rw[List.size_toArray]);have e2:((⟨l.toArray⟩:QB).extract 4 (⟨l.toArray⟩:QB).size).data.toList=l.drop 4:=zIf _ 4;have e4:(⟨l.toArray⟩:QB).extract 4 (⟨l.toArray⟩:QB).size=⟨(l.drop 4).toArray⟩:=ByteArray.ext (Array.toList_inj.1 e2);rw[e4,e1];have e5:vU (⟨(l.drop 4).toArray⟩:QB)=⟨(zGz ckL (l.drop 4)).toArray⟩:=rfl;by_cases h1:l.length<4;(·rw[if_pos (.inl h1),if_pos (.inl h1)];rfl);·by_cases h2:zGz ckL (l.drop 4)=t.data.toList;(·rw[if_neg (fun h=>h.elim h1 (fun k=>k h2)),if_neg (fun h=>h.elim h1 (fun k=>k (by rw[e5,h2])))];rfl);·rw[if_pos (.inr h2),if_pos (.inr (fun k=>h2 (by rw[←k,e5])))];rfl
def zAD(s:QB)(c:UInt8):Bool:=decide (s.data.toList.head? =some c)
def yS(t:QB):Option QB:=match ko t with|none=>none|some s=>if(decide (1<s.size)&&(zk (s.extract 1 s.size)&&(zAD s 107||zAD s 112)))=true then some s else none
theorem zGC{s:QB}{c:UInt8}(h:zAD s c=true):s=⟨#[c]⟩++s.extract 1 s.size:=by
 unfold zAD at h
 rw[decide_eq_true_eq]at h
 apply ByteArray.ext
 apply Array.toList_inj.1
 have e:(⟨#[c]⟩++s.extract 1 s.size:QB).data.toList=c::s.data.toList.drop 1:=by rw[ByteArray.data_append,Array.toList_append,zIf];rfl
 rw[e]
 cases hc:s.data.toList with|nil=>rw[hc]at h;cases h|cons a l=>rw[hc]at h;cases h;rfl
theorem zGD{t s:QB}(h:yS t=some s):∃u,(s=kT u∨s=pT u)∧zk u=true∧u≠⟨#[]⟩:=by
 unfold yS at h
 cases hc:ko t with|none=>rw[hc]at h;cases h|some x=>rw[hc]at h;simp only at h;split at h;(·rename_i hx;have e:x=s:=Option.some.inj h;subst e;simp only[Bool.and_eq_true,Bool.or_eq_true,decide_eq_true_eq]at hx;refine⟨x.extract 1 x.size,hx.2.2.imp zGC zGC,hx.2.1,fun e=> ?_⟩;have h1:=congrArg ByteArray.size e;rw[ByteArray.size_extract]at h1;have h0:(⟨#[]⟩:QB).size=0:=rfl;omega);·cases h
theorem zLu{t s:QB}(h:yS t=some s):ko t=some s:=by
 unfold yS at h
 cases hc:ko t with|none=>rw[hc]at h;cases h|some x=>rw[hc]at h;simp only at h;split at h;(·exact h);·cases h
theorem zIg(s:QB):(zy s).size=s.size+5:=by
 unfold zy zAt
 show(List.toArray _).size=_
 rw[List.size_toArray]
 simp
 have:abcB.size=3:=rfl
 omega
theorem zIh(c:UInt8)(u:QB)(d:UInt8):zAD (⟨#[c]⟩++u) d=decide (c=d):=by
 unfold zAD
 rw[(xK c u).2.1]
 simp
theorem zGE{c:UInt8}{u:QB}(hc:c=107∨c=112)(hp:zk u=true)(hu:u≠⟨#[]⟩):yS (vU (⟨#[c]⟩++u))=some (⟨#[c]⟩++u):=by
 unfold yS
 rw[zLt]
 simp only
 rw[(xK c u).1,hp,zIh,zIh]
 have hs:(⟨#[c]⟩++u:QB).size=1+u.size:=by rw[ByteArray.size_append];rfl
 have hz:u.size≠0:=fun e=>hu (ByteArray.ext (Array.eq_empty_of_size_eq_zero e))
 rw[if_pos]
 rw[decide_eq_true (show 1<(⟨#[c]⟩++u:QB).size by omega)]
 rcases hc with e|e<;>rw[e]<;>rfl
theorem zE5{u:QB}(hp:zk u=true)(hu:u≠⟨#[]⟩):yS (vU (kT u))=some (kT u):=zGE (.inl rfl) hp hu
theorem xP{s:QB}:zk s=true↔s.size≤40∧zf s=true:=by
 unfold zk
 rw[Bool.and_eq_true,decide_eq_true_eq]
def zRA(pre frm f:QB):Prop:=(frm=⟨#[]⟩∧f=zy pre)∨(∃u,frm=kT u∧zf u=true∧f=zGw (zy pre) (yT u))∨∃u h,frm=pT u∧zf u=true∧Beh (zy u).data.toList h.data.toList∧bLt (zD abcB) h∧f=zGw (zy pre) h
theorem zE6{k a b:QB}(ha:bLt k a)(hb:bLt k b):bLt k (zGw a b):=by
 unfold zGw
 split
 ·exact hb
 ·exact ha
theorem zLv{pre frm f:QB}(hp:zf pre=true)(h:zRA pre frm f):∃lo,Bnd f lo∧bLt (zD abcB) f∧∀k,lo k=true↔(bLt k pre∨zq k frm=false):=by
 rcases h with⟨rfl,rfl⟩|⟨u,rfl,hu,rfl⟩|⟨u,h,rfl,hu,hh,hbk,rfl⟩
 ·refine⟨_,zGv hp,zGx _,fun k=> ?_⟩;(have:zq k ⟨#[]⟩=true:=by unfold zq;rw[if_pos rfl]);simp[this]
 ·refine⟨_,(zGv hp).max (zCn hu),zE6 (zGx _) (zGy _),fun k=> ?_⟩;rw[zDG];simp
 ·refine⟨_,(zGv hp).max (zD3 hu hh),zE6 (zGx _) hbk,fun k=> ?_⟩;rw[zBZ];unfold inn;simp only[Bool.or_eq_true,decide_eq_true_eq,Bool.and_eq_false_imp,Bool.not_eq_false'];constructor;(·rintro(e|e|e);(·exact .inl e);(·exact .inr (fun e2=>absurd e2 (yB e)));·exact .inr (fun _=>e));·rintro(e|e);(·exact .inl e);·rcases xX k u with e2|e2|e2;(·exact .inr (.inl e2));(·exact .inr (.inr (by rw[e2];exact yR.2 (List.prefix_refl _))));·exact .inr (.inr (e e2))
theorem zRB{s:QB}:s=⟨#[]⟩↔s.data.toList=[]:=⟨fun h=>by rw[h],fun h=>ByteArray.ext (Array.toList_inj.1 h)⟩
theorem xL(s:QB):s.data.toList.length=s.size:=Array.length_toList
theorem index_spec{s d:List UInt8}{i:Nat}(h:Lib.index s d=(i:Int)):d<+:s.drop i∧∀j,j<i→¬d<+:s.drop j:=by
 induction s generalizing i with|nil=>unfold Lib.index at h;split at h;(·rename_i hd;(have:i=0:=by omega);subst this;(have:d=[]:=by simpa using hd);subst this;exact⟨List.nil_prefix,fun j hj=>absurd hj (by omega)⟩);(·omega)|cons b l ih=>unfold Lib.index at h;split at h;(·rename_i hp;(have:i=0:=by omega);subst this;exact⟨List.isPrefixOf_iff_prefix.1 hp,fun j hj=>absurd hj (by omega)⟩);·rename_i hp;split at h;(·omega);·rename_i hq;(have hq2:¬Lib.index l d= -1:=by simpa using hq);have hge:=Lib.index_ge l d;obtain⟨k,rfl⟩:∃k,i=k+1:=⟨i-1,by omega⟩;obtain⟨h1,h2⟩:=ih (i:=k) (by omega);refine⟨h1,fun j hj=> ?_⟩;cases j with|zero=>exact fun e=>hp (List.isPrefixOf_iff_prefix.2 e)|succ j=>exact h2 j (by omega)
section
variable {pre delim : QB}
theorem zIi(key pre:QB):zR key pre ⟨#[]⟩=⟨#[]⟩:=by
 unfold zR
 rw[if_pos rfl]
theorem zG5{key:QB}(hd:delim≠⟨#[]⟩)(hg:zR key pre delim≠⟨#[]⟩):∃i:Nat,Lib.index (key.data.toList.drop pre.size) delim.data.toList=(i:Int)∧(zR key pre delim).data.toList=key.data.toList.take (pre.size+i+delim.size)∧pre.size+i+delim.size≤key.size:=by
 unfold zR at hg⊢
 rw[if_neg hd]at hg⊢
 simp only at hg⊢
 by_cases h:Lib.index (key.data.toList.drop pre.size) delim.data.toList<0
 ·rw[if_pos h]at hg;exact absurd rfl hg
 ·obtain⟨i,hi⟩:=Int.eq_ofNat_of_zero_le (Int.not_lt.1 h);rw[if_neg h,hi];refine⟨i,rfl,?_,?_⟩;(·rw[ByteArray.data_extract,Array.toList_extract,List.extract_eq_take_drop,List.drop_zero,Nat.sub_zero];rfl);·obtain⟨h1,-⟩:=index_spec hi;have h2:=h1.length_le;have hd1:delim.data.toList.length≠0:=fun e=>hd (zRB.2 (List.length_eq_zero_iff.1 e));rw[List.drop_drop,List.length_drop,xL,xL]at h2;rw[xL]at hd1;omega
def It.en(it:It):En:=⟨it.key,it.head.id,it.head.body.size,it.head.born⟩
end
def hK1:QB:=⟨#[104]⟩
theorem zNf{n:Nat}(h:n<4294967296):Fields hK1 [(n,eS)]:=by
 refine⟨rfl,by show 1≤64;decide,fun i hi=> ?_,fun i hi=> ?_⟩
 ·match i,hi with|0,_=>exact .inl ⟨by decide,rfl,h⟩
 ·match i,hi with|0,_=>intro e;exact absurd e (by decide)
theorem zPg(w:World):Calls prog 150 #[.string hK1] w fun e w'=>e= .returned (.bool true)∧Below w.heap.size w w':=vw hK1 hK1 (by decide) (by decide) (by decide) (by decide) w
def zFO(n:Nat):QB:=⟨(zIT n).toArray⟩
theorem zNg(n:Nat):packed hK1 [(n,eS)]=zFO n:=by
 unfold zFO zIT
 show(⟨(yf hK1 _ 1).toArray⟩:QB)=_
 rw[zU,vF,List.nil_append]
 rfl
theorem zDH(n:Nat):(zFO n).size=4:=by
 unfold zFO
 show(List.toArray _).size=4
 rw[List.size_toArray,zBI]
theorem zRC(s:QB):ckL s.data.toList<4294967296:=by
 have h:ckL s.data.toList=crc.check (SealG.bl s):=rfl
 rw[h,SealG.check_done]
 exact Nat.xor_lt_two_pow (n:=32) (SealG.run_take_lt s _) (by decide)
theorem zG6(s:QB):(⟨(kW s.data.toList).toArray⟩:QB).size=2*s.size:=by
 show(List.toArray _).size=_
 rw[List.size_toArray,zIS,xL]
theorem zKT(s:QB):vU s=⟨(kW (zFO (ckL s.data.toList)).data.toList).toArray⟩++⟨(kW s.data.toList).toArray⟩:=by
 apply ByteArray.ext
 apply Array.toList_inj.1
 unfold vU zGz zFO
 rw[zDd]
 simp
theorem zDI(s:QB):(vU s).size=8+2*s.size:=by
 rw[zKT,ByteArray.size_append,zG6,zG6,zDH]
theorem zGF(s:QB)(hs:s.size≤400000)(w:World):Calls prog 64 #[.string s] w fun e w'=>e= .returned (.string (vU s))∧Below w.heap.size w w':=by
 have HCk:=Hd (SealG.check_any s (by unfold maxLen;omega))
 have hck:=zRC s
 rw[show crc.check (SealG.bl s)=ckL s.data.toList from rfl]at HCk
 have htk:=zKT s
 have hsz:=zG6 s
 have hsz2:=zG6 (zFO (ckL s.data.toList))
 rw[zDH]at hsz2
 obtain⟨c,hc⟩:=qN (ckL s.data.toList)
 rw[hc]at HCk hck htk hsz2
 have HWr:=Hd (fun(u:World)fb k hfs=>vG (zNf hck) zPg (w:=u) (fb:=fb) (c:=k) hfs)
 rw[zNg]at HWr
 have HH1:=Hd (zKS (zFO c) (by rw[zDH];decide))
 have HH2:=Hd (zKS s (by omega))
 have hw1:∀u:World,FldsAt (u.alloc (.cells #[.int .u64 c,.string ⟨#[]⟩] 182)) u.heap.size [(c,eS)]:=fun u=>⟨by simp,fun j hj=>by match j,hj with|0,_=>exact⟨Qc (qH u _) 0,Qc (qH u _) 1⟩⟩
 have HW1:=Hd (fun u:World=>show Calls prog 90 #[.string ⟨#[104]⟩,.slice (some ⟨u.heap.size,0,none⟩) 1 1] (u.alloc (.cells #[.int .u64 c,.string ⟨#[]⟩] 182)) fun e w'=>e= .returned (.tuple #[.string (zFO c),.bool true])∧Below (u.alloc (.cells #[.int .u64 c,.string ⟨#[]⟩] 182)).heap.size (u.alloc (.cells #[.int .u64 c,.string ⟨#[]⟩] 182)) w' from HWr.out _ u.heap.size 1 (hw1 u))
 clear HWr hw1
 obtain⟨bc,hbc⟩:=qN (zFO c)
 rw[hbc]at HW1 HH1 htk hsz2
 obtain⟨x1,hx1⟩:∃x:QB,(⟨(kW bc.data.toList).toArray⟩:QB)=x:=⟨_,rfl⟩
 obtain⟨x2,hx2⟩:∃x:QB,(⟨(kW s.data.toList).toArray⟩:QB)=x:=⟨_,rfl⟩
 rw[hx1]at HH1 htk hsz2
 rw[hx2]at HH2 htk hsz
 have hcat:=fun u=>run_string_add_sum (P:=prog) u x1 x2 (by omega)
 rw[←htk]at hcat
 obtain⟨tk,htk2⟩:=qN (vU s)
 rw[htk2]at hcat⊢
 have v1:IntKind.u64.wrap (c:Int)=(c:Int):=by rw[IntKind.wrap_u64];omega
 clear hck htk hsz hsz2 hbc hx1 hx2 htk2 hc
 go_enter func64,ntmps64
 go_wp2_with(first|(go_at_call 128;refine(HCk.out _).mono ?_;rintro e w1⟨rfl,rfl⟩)|(go_at_call 90;refine(HW1.out _).mono ?_;rintro e w2⟨rfl,hb2⟩;have HB2:=Hd (show Below w.heap.size w w2 from(qA).trans (hb2.mono (by simp)));clear hb2)|(go_at_call 129;first|((with_reducible refine(HH1.out _).mono ?_;rintro e w3⟨rfl,hb3⟩);have HB3:=Hd (qT HB2.out hb3);clear hb3)|((with_reducible refine(HH2.out _).mono ?_;rintro e w4⟨rfl,hb4⟩);have HB4:=Hd (qT HB3.out hb4);clear hb4)))
 go_ret
 exact⟨rfl,HB4.out⟩
theorem zWN{p:Prop}(h:p:=by unfold zDF at h;cases hl:xZ t.data.toList with|none=>rw[hl]at h;cases h|some l=>rw[hl]at h;have e:(⟨l.toArray⟩:QB)=s:=Option.some.inj h;have:=zEy hl;rw[xL]at this;rw[←e];show 2*l.toArray.size=_;rw[List.size_toArray];omega):p:=h
theorem zUB{p:Prop}(h:p:=by go_enter func137,ntmps137;go_wp2_with(first|(go_at_call 191;refine(HR.out _).mono ?_;rintro e w1⟨rfl,hb1⟩;have HB1:=Hd hb1;clear hb1)|(go_at_call 64;refine(HT.out _).mono ?_;rintro e w2⟨rfl,hb2⟩;have HB2:=Hd (qT HB1.out hb2);clear hb2));go_ret2;exact⟨rfl,HB2.out⟩):p:=h
theorem zPh(t:QB)(ht:t.size≤400000)(w:World):Calls prog 137 #[.string t] w fun e w'=>e= .returned (.tuple #[.string ((ko t).getD ⟨#[]⟩),.bool (ko t).isSome])∧Below w.heap.size w w':=by
 have HR:=Hd (zPf t (by omega))
 have hrz:∀s,zDF t=some s→2*s.size=t.size:=fun s h=>by exact zWN
 rw[zNe]
 obtain⟨rt,hrt⟩:=qN (zDF t)
 rw[hrt]at HR hrz⊢
 clear hrt
 match rt,HR,hrz with|none,HR,_=>go_enter func137,ntmps137;go_wp2_with(go_at_call 191;refine(HR.out _).mono ?_;rintro e w1⟨rfl,hb1⟩);go_ret2;exact⟨rfl,hb1⟩|some s,HR,hrz=>have hz:=hrz s rfl;simp only[Option.getD_some,Option.isSome_some]at HR;clear hrz;dsimp only;by_cases c1:s.size<4;(·rw[if_pos (.inl c1)];(have d1:decide ((s.size:Int)<4)=true:=by simp;omega);(have d1':decide (s.size<4)=true:=by simpa using c1);go_enter func137,ntmps137;go_wp2_with(go_at_call 191;refine(HR.out _).mono ?_;rintro e w1⟨rfl,hb1⟩);go_ret2;exact⟨rfl,hb1⟩);·(have d1:decide ((s.size:Int)<4)=false:=by simp;omega);(have d1':decide (s.size<4)=false:=by simpa using c1);have HT:=Hd (zGF (s.extract 4 s.size) (by rw[ByteArray.size_extract];omega));obtain⟨r,hr⟩:=qN (s.extract 4 s.size);rw[hr]at HT⊢;obtain⟨tk,htk⟩:=qN (vU r);rw[htk]at HT⊢;(have g4:(4:Int)≤(s.size:Int):=by omega);by_cases c2:tk=t;(·rw[if_neg (by rintro(h|h);exact c1 h;exact h c2)];subst c2;have HR2:=Hd hr;(have c3:(tk.toList==tk.toList)=true:=by simp);exact zUB);·rw[if_pos (.inr c2)];(have c3:(tk.toList==t.toList)=false:=by rw[vo];simpa using c2);exact zUB
section
variable {key pre delim : QB}
def occ(key delim:QB)(i:Nat):Prop:=delim.data.toList<+:key.data.toList.drop i
theorem zUs{i:Nat}:key.extract i (i+delim.size)=delim↔occ key delim i:=by
 unfold occ
 rw[List.prefix_iff_eq_take,xL,show(key.extract i (i+delim.size)=delim↔delim=key.extract i (i+delim.size))from⟨Eq.symm,Eq.symm⟩]
 have e:(key.extract i (i+delim.size)).data.toList=(key.data.toList.drop i).take delim.size:=by rw[ByteArray.data_extract,Array.toList_extract,List.extract_eq_take_drop,Nat.add_sub_cancel_left]
 constructor
 ·intro h1;exact(congrArg (fun s:QB=>s.data.toList) h1).trans e
 ·intro h1;exact ByteArray.ext (Array.toList_inj.1 (h1.trans e.symm))
theorem zVA{j:Nat}(hd:delim≠⟨#[]⟩)(h1:occ key delim (pre.size+j))(h2:∀i,i<j→¬occ key delim (pre.size+i)):Lib.index (key.data.toList.drop pre.size) delim.data.toList=(j:Int):=by
 unfold occ at h1 h2
 have hl:=h1.length_le
 have hd1:delim.data.toList.length≠0:=fun e=>hd (zRB.2 (List.length_eq_zero_iff.1 e))
 rw[List.length_drop]at hl
 refine Lib.index_first ?_ ?_ ?_
 ·rw[List.length_drop];omega
 ·unfold Lib.occAt;rw[List.drop_drop];exact List.isPrefixOf_iff_prefix.2 h1
 ·intro i hi;unfold Lib.occAt;rw[List.drop_drop,Bool.eq_false_iff];exact fun e=>h2 i hi (List.isPrefixOf_iff_prefix.1 e)
theorem zVB{j:Nat}(hd:delim≠⟨#[]⟩)(hj:key.size<pre.size+j+delim.size)(h2:∀i,i<j→¬occ key delim (pre.size+i)):Lib.index (key.data.toList.drop pre.size) delim.data.toList<0:=by
 unfold occ at h2
 by_cases e:Lib.index (key.data.toList.drop pre.size) delim.data.toList<0
 ·exact e
 ·exfalso;obtain⟨i,hi⟩:=Int.eq_ofNat_of_zero_le (Int.not_lt.1 e);obtain⟨h1,-⟩:=index_spec hi;rw[List.drop_drop]at h1;have hl:=h1.length_le;have hd1:delim.data.toList.length≠0:=fun e=>hd (zRB.2 (List.length_eq_zero_iff.1 e));rw[List.length_drop,xL,xL]at hl;rw[xL]at hd1;exact h2 i (by omega) h1
theorem zVu{j:Nat}(hd:delim≠⟨#[]⟩)(h1:occ key delim (pre.size+j))(h2:∀i,i<j→¬occ key delim (pre.size+i)):zR key pre delim=key.extract 0 (pre.size+j+delim.size):=by
 unfold zR
 rw[if_neg hd]
 simp only
 rw[zVA hd h1 h2,if_neg (by omega)]
 rfl
theorem zVv{j:Nat}(hd:delim≠⟨#[]⟩)(hj:key.size<pre.size+j+delim.size)(h2:∀i,i<j→¬occ key delim (pre.size+i)):zR key pre delim=⟨#[]⟩:=by
 unfold zR
 rw[if_neg hd]
 simp only
 rw[if_pos (zVB hd hj h2)]
end
theorem zVr{key pre delim:QB}(w:World)(h1:key.size≤1000000)(h2:pre.size≤1000000)(h3:delim.size≤1000000):Calls prog 74 #[.string key,.string pre,.string delim] w fun e w'=>e= .returned (.string (zR key pre delim))∧w'=w:=by
 obtain⟨N,hN⟩:=qN (key.size+1)
 by_cases hd:delim=⟨#[]⟩
 ·subst hd;rw[zIi];go_enter func74,ntmps74;go_wp2_with(fail);go_ret;exact⟨rfl,rfl⟩
 have HD:=Hd hd
 have e0:delim.toList.isEmpty=false:=by rw[isEmpty_eq,decide_eq_false hd]
 clear hd
 go_enter func74,ntmps74
 go_wp2_with(fail)
 go_loopw [7](fun i wr=>∃j:Nat,i= .int .i64 ((pre.size+j:Nat):Int)∧j≤N∧(∀q,q<j→¬occ key delim (pre.size+q))∧wr=w)(fun i _=>N-((intOf i).toNat-pre.size))
 case atStart=>exact⟨0,rfl,by omega,fun q hq=>absurd hq (Nat.not_lt_zero q),rfl⟩
 case round=>obtain⟨j,rfl,hjN,hno,rfl⟩:=hrel;have HNo:=Hd hno;clear hno;obtain⟨x,hx⟩:=qN (pre.size+j);have HX:=Hd hx;obtain⟨y,hy⟩:=qN (x+delim.size);obtain⟨z,hz⟩:=qN (x+1);have HZ:=Hd hz;(have hw0:(x:Int)+(delim.size:Int)=(y:Int):=by omega);(have hw1:IntKind.i64.wrap ((x:Int)+(delim.size:Int))=(y:Int):=by rw[zv (by omega) (by omega)];omega);(have hw3:IntKind.i64.wrap ((x:Int)+1)=(z:Int):=by rw[zv (by omega) (by omega)];omega);rw[hx];by_cases hle:y≤key.size;(·(have g1:decide ((y:Int)≤(key.size:Int))=true:=by simp;omega);(have g2:decide (y≤key.size)=true:=by simpa using hle);(have s0:(0:Int)≤(x:Int):=by omega);(have s1:(x:Int)≤(y:Int):=by omega);(have s2:(y:Int)≤(key.size:Int):=by omega);(have s3:(0:Int)≤(y:Int):=by omega);by_cases ho:occ key delim x;(·(have he:key.extract x y=delim:=by rw[←hy];exact zUs.2 ho);(have e1:(delim.toList==delim.toList)=true:=by simp);have hgr:=zVu (pre:=pre) (j:=j) HD.out (by rw[hx];exact ho) HNo.out;rw[hx,hy]at hgr;have HG:=Hd hgr;clear hgr ho;go_wp2_with(fail);go_ret;exact⟨by rw[HG.out];rfl,rfl⟩);·have he:key.extract x y≠delim:=fun e=>ho (zUs.1 (by rw[hy];exact e));(have e1:((key.extract x y).toList==delim.toList)=false:=by rw[vo];simpa using he);have HO:=Hd ho;clear ho he;go_wp2_with(fail);go_roundw;(case rel=>exact⟨j+1,by congr 2;have:=HX.out;have:=HZ.out;omega,by have:=HX.out;omega,fun q hq=>by by_cases e:q=j;(·rw[e,HX.out];exact HO.out);·exact HNo.out q (by omega),trivial⟩);case measure=>have:=HX.out;have:=HZ.out;simp[intOf];omega);·(have g1:decide ((y:Int)≤(key.size:Int))=false:=by simp;omega);(have g2:decide (y≤key.size)=false:=by simpa using hle);have hgr:=zVv (pre:=pre) (j:=j) HD.out (by omega) HNo.out;have HG:=Hd hgr;clear hgr;go_wp2_with(fail);go_ret;exact⟨by rw[HG.out];rfl,rfl⟩
def zVl(c:UInt8):Int:=match zAW c with|some n=>n|none=> -1
theorem zWF{p:Prop}(h:p:=by go_enter func189,ntmps189;go_wp2_with(fail);go_ret;exact⟨rfl,rfl⟩):p:=h
theorem zWO{p:Prop}(h:p:=by (have d3:decide ((97:Int)≤(n:Int))=false:=by simp;omega);go_enter func189,ntmps189;go_wp2_with(fail);go_ret;exact⟨rfl,rfl⟩):p:=h
theorem zVU(c:UInt8)(w:World):Calls prog 189 #[.int .u8 c.toNat] w fun e w'=>e= .returned (.int .i64 (zVl c))∧w'=w:=by
 have hc:=c.toNat_lt
 unfold zVl zAW
 obtain⟨n,hn⟩:=qN c.toNat
 rw[hn]at hc⊢
 by_cases h1:48≤n∧n≤57
 ·(have d1:decide ((48:Int)≤(n:Int))=true:=by simp;omega);(have d2:decide ((n:Int)≤57)=true:=by simp;omega);have v1:IntKind.i64.wrap (n:Int)=(n:Int):=zv (by omega) (by omega);(have v2:IntKind.i64.wrap ((n:Int)-48)=((n-48:Nat):Int):=by rw[zv (by omega) (by omega)];omega);rw[if_pos h1];exact zWF
 ·rw[if_neg h1];by_cases h2:97≤n∧n≤102;(·(have d1:decide ((48:Int)≤(n:Int))=true:=by simp;omega);(have d2:decide ((n:Int)≤57)=false:=by simp;omega);(have d3:decide ((97:Int)≤(n:Int))=true:=by simp;omega);(have d4:decide ((n:Int)≤102)=true:=by simp;omega);have v1:IntKind.i64.wrap (n:Int)=(n:Int):=zv (by omega) (by omega);(have v2:IntKind.i64.wrap ((n:Int)-87)=((n-87:Nat):Int):=by rw[zv (by omega) (by omega)];omega);rw[if_pos h2];exact zWF);·rw[if_neg h2];have v1:IntKind.i64.wrap (n:Int)=(n:Int):=zv (by omega) (by omega);rcases Nat.lt_or_ge n 48 with h3|h3;(·(have d1:decide ((48:Int)≤(n:Int))=false:=by simp;omega);exact zWO);·(have d1:decide ((48:Int)≤(n:Int))=true:=by simp;omega);(have d2:decide ((n:Int)≤57)=false:=by simp;omega);rcases Nat.lt_or_ge n 97 with h4|h4;(·exact zWO);·(have d3:decide ((97:Int)≤(n:Int))=true:=by simp;omega);(have d4:decide ((n:Int)≤102)=false:=by simp;omega);exact zWF
def zVe(n:Nat):Nat→List UInt8|0=>[]|j+1=>UInt8.ofNat (n/256^j %256)::zVe n j
theorem zVs(n:Nat):zVe n 4=zIT n:=by
 show[UInt8.ofNat (n/256^3 %256),UInt8.ofNat (n/256^2 %256),UInt8.ofNat (n/256^1 %256),UInt8.ofNat (n/256^0 %256)]=[UInt8.ofNat (n/2^24 %256),UInt8.ofNat (n/2^16 %256),UInt8.ofNat (n/2^8 %256),UInt8.ofNat (n/2^0 %256)]
 rfl
theorem zVw(n:Nat)(j:Nat):(zVe n j).length=j:=by
 induction j with|zero=>rfl|succ j ih=>rw[zVe,List.length_cons,ih]
theorem zVo{k:Nat}(hk:k<256)(w:World):∀c,(convert 121 9 (.slice (some ⟨w.heap.size,0,none⟩) 1 c)).run prog (w.alloc (.cells #[.int .u8 k] 5))= .ok (.string ⟨#[UInt8.ofNat k]⟩) (w.alloc (.cells #[.int .u8 k] 5)):=fun c=>by
 have hby:Lib.Bytes (w.alloc (.cells #[.int .u8 k] 5)) w.heap.size 0 ⟨#[UInt8.ofNat k]⟩:=by exact zWK
 exact Lib.run_convert_whole (P:=prog) _ 121 5 9 underlying121 underlying5 underlying9 w.heap.size 0 ⟨#[UInt8.ofNat k]⟩ hby c
theorem zVg(n:Nat)(hn:n<18446744073709551616)(w:World):Calls prog 134 #[.int .u64 n,.int .i64 4] w fun e w'=>e= .returned (.string (zFO n))∧Below w.heap.size w w':=by
 obtain⟨N4,hN4⟩:∃N4,N4=4:=⟨4,rfl⟩
 go_enter func134,ntmps134
 go_wp2_with(fail)
 go_loopw [0,5,6](fun v s i wr=>∃j:Nat,j≤N4∧i= .int .i64 j∧v= .int .u64 (n/256^j:Nat)∧s= .string ⟨(zVe n j).toArray⟩∧Below w.heap.size w wr)(fun _ _ i _=>N4-(intOf i).toNat)
 case atStart=>exact⟨0,by omega,rfl,by simp,rfl,Below.refl _ _⟩
 case round=>obtain⟨j,hj,rfl,rfl,rfl,hb⟩:=hrel;have HB:=Hd hb;clear hb;obtain⟨x,hx⟩:=qN (n/256^j);obtain⟨s,hs⟩:∃s:QB,(⟨(zVe n j).toArray⟩:QB)=s:=⟨_,rfl⟩;(have hxn:x≤n:=by rw[←hx];exact Nat.div_le_self _ _);(have hsz:s.size=j:=by rw[←hs];show(zVe n j).toArray.size=j;rw[List.size_toArray,zVw]);rw[hx,hs];by_cases hlt:j<N4;(·(have g1:decide ((j:Int)<4)=true:=by simp;omega);(have g1':decide (j<4)=true:=by simp;omega);obtain⟨y,hy⟩:=qN (x %256);obtain⟨z,hz⟩:=qN (x/256);(have hy2:y<256:=by omega);(have v1:IntKind.u8.wrap (x:Int)=(y:Int):=by rw[IntKind.wrap_u8];omega);(have v2:(x:Int).tdiv 256=(z:Int):=by exact zQE);(have v2':(x:Int)/256=(z:Int):=by omega);(have v3:IntKind.u64.wrap (z:Int)=(z:Int):=by rw[IntKind.wrap_u64];omega);have l1:=zVo hy2 wr;obtain⟨kb,hkb⟩:∃kb:QB,(⟨#[UInt8.ofNat y]⟩:QB)=kb:=⟨_,rfl⟩;(have hks:kb.size=1:=by rw[←hkb];rfl);have hcat:=fun u=>run_string_add_sum (P:=prog) u kb s (by omega);(have hls:(⟨(zVe n (j+1)).toArray⟩:QB)=kb++s:=by apply ByteArray.ext;apply Array.toList_inj.1;rw[←hkb,←hs,zVe,hx,hy];rw[ByteArray.data_append,Array.toList_append];rfl);(have hnx:n/256^(j+1)=z:=by rw[Nat.pow_succ,←Nat.div_div_eq_div_mul,hx,hz]);rw[hkb]at l1;obtain⟨j1,hj1⟩:=qN (j+1);(have v4:IntKind.i64.wrap ((j:Int)+1)=(j1:Int):=by rw[zv (by omega) (by omega)];omega);rw[hj1]at hls hnx;have HJ1:=Hd hj1;have HLs:=Hd hls;have HNx:=Hd hnx;have HJ:=Hd hlt;have hb8:Below w.heap.size w (wr.alloc (.cells #[.int .u8 y] 5)):=HB.out.alloc HB.out.size _;have HB8:=Hd hb8;have HN4:=Hd hN4;clear hx hs hxn hsz hy hz hkb hks hls hnx hlt hb8 hN4 hj1;go_wp2_with(fail);go_roundw;(case rel=>exact⟨j1,by have:=HJ.out;have:=HJ1.out;omega,rfl,by rw[HNx.out],by rw[HLs.out],HB8.out⟩);case measure=>have:=HJ.out;have:=HJ1.out;simp[intOf];omega);·(have g1:decide ((j:Int)<4)=false:=by simp;omega);(have g1':decide (j<4)=false:=by simp;omega);(have hfin:s=zFO n:=by rw[←hs,show j=4 by omega,zVs];rfl);have HF:=Hd hfin;clear hx hs hxn hsz hlt hfin hN4;go_wp2_with(fail);go_ret;exact⟨by rw[HF.out];rfl,HB.out⟩
def digB:QB:=⟨#[48,49,50,51,52,53,54,55,56,57,97,98,99,100,101,102]⟩
theorem zVx(a:Nat)(h:a<16):digB.extract a (a+1)=⟨#[zEx a]⟩:=by
 have:∀n:Fin 16,digB.extract n.1 (n.1+1)=⟨#[zEx n.1]⟩:=by decide
 exact this ⟨a,h⟩
def zVT(l:List UInt8):QB:=⟨(kW l).toArray⟩
theorem zVh(s:QB)(hs:s.size≤1000000)(w:World):Calls prog 133 #[.string s] w fun e w'=>e= .returned (.string (zVT s.data.toList))∧Below w.heap.size w w':=by
 obtain⟨N,hN⟩:=qN s.size
 have HN:=Hd hN
 have hN1:N≤1000000:=by omega
 go_enter func133,ntmps133
 go_wp2_with(fail)
 go_loopw [3,4,5,6](fun o i _ _ wr=>∃j:Nat,j≤N∧i= .int .i64 j∧o= .string (zVT (s.data.toList.take j))∧Below w.heap.size w wr)(fun _ i _ _ _=>N-(intOf i).toNat)
 case atStart=>exact⟨0,by omega,rfl,rfl,Below.refl _ _⟩
 case round=>obtain⟨j,hj,rfl,rfl,hb⟩:=hrel;have HB:=Hd hb;clear hb;obtain⟨o,ho⟩:=qN (zVT (s.data.toList.take j));rw[ho];by_cases hlt:j<N;(·(have g1:decide ((j:Int)<(N:Int))=true:=by simp;omega);(have g1':decide (j<N)=true:=by simpa using hlt);(have hjs:j<s.size:=by omega);(have j0:(0:Int)≤(j:Int):=by omega);(have j1:(j:Int)<(N:Int):=by omega);obtain⟨j1,hj1⟩:=qN (j+1);(have v4:IntKind.i64.wrap ((j:Int)+1)=(j1:Int):=by rw[zv (by omega) (by omega)];omega);obtain⟨c,hc⟩:=qN (s[j]);have hch:=zLr hjs;rw[hc]at hch;have hcl:=c.toNat_lt;obtain⟨x,hx⟩:=qN c.toNat;rw[hx]at hch hcl;obtain⟨a,ha⟩:=qN (x/16);obtain⟨b,hb⟩:=qN (x %16);rw[ha,hb]at hch;have ea:=zVx a (by omega);have eb:=zVx b (by omega);unfold digB at ea eb;obtain⟨a1,ha1⟩:=qN (a+1);obtain⟨b1,hb1⟩:=qN (b+1);rw[ha1]at ea;rw[hb1]at eb;(have q1:(x:Int).tdiv 16=(a:Int):=by exact zQE);(have q1':(x:Int)/16=(a:Int):=by omega);(have q2:(x:Int).tmod 16=(b:Int):=by rw[Int.tmod_eq_emod_of_nonneg (by omega)];omega);(have q2':(x:Int)%16=(b:Int):=by omega);(have q3:IntKind.u8.wrap (a:Int)=(a:Int):=by rw[IntKind.wrap_u8];omega);(have q4:IntKind.u8.wrap (b:Int)=(b:Int):=by rw[IntKind.wrap_u8];omega);have q5:IntKind.i64.wrap (a:Int)=(a:Int):=zv (by omega) (by omega);have q6:IntKind.i64.wrap (b:Int)=(b:Int):=zv (by omega) (by omega);(have q7:IntKind.i64.wrap ((a:Int)+1)=(a1:Int):=by rw[zv (by omega) (by omega)];omega);(have q8:IntKind.i64.wrap ((b:Int)+1)=(b1:Int):=by rw[zv (by omega) (by omega)];omega);(have r1:(0:Int)≤(a:Int):=by omega);(have r2:(a:Int)≤(a1:Int):=by omega);(have r3:(a1:Int)≤16:=by omega);(have r4:(0:Int)≤(b:Int):=by omega);(have r5:(b:Int)≤(b1:Int):=by omega);(have r6:(b1:Int)≤16:=by omega);(have hoz:o.size≤2*N:=by rw[←ho];show(kW _).toArray.size≤_;rw[List.size_toArray,zIS,List.length_take];omega);obtain⟨A1,hA1⟩:∃A1:QB,(⟨#[zEx a]⟩:QB)=A1:=⟨_,rfl⟩;obtain⟨B1,hB1⟩:∃B1:QB,(⟨#[zEx b]⟩:QB)=B1:=⟨_,rfl⟩;rw[hA1]at ea;rw[hB1]at eb;(have hAz:A1.size=1:=by rw[←hA1];rfl);(have hBz:B1.size=1:=by rw[←hB1];rfl);obtain⟨o1,ho1⟩:=qN (o++A1);(have ho1z:o1.size=o.size+1:=by rw[←ho1,ByteArray.size_append,hAz]);have c1:=fun u=>run_string_add_sum (P:=prog) u o A1 (by omega);have c2:=fun u=>run_string_add_sum (P:=prog) u o1 B1 (by omega);rw[ho1]at c1;(have hfin:zVT (s.data.toList.take j1)=o1++B1:=by rw[←hj1,←ho1,←ho,←hA1,←hB1];apply ByteArray.ext;apply Array.toList_inj.1;rw[ByteArray.data_append,ByteArray.data_append,Array.toList_append,Array.toList_append];unfold zVT;rw[hch,Qa];rfl);have HF:=Hd hfin;have HJ:=Hd (And.intro hlt hj1);clear hfin hlt hj1 hch ho hcl ha hb ha1 hb1 hoz hA1 hB1 hAz hBz ho1 ho1z;go_wp2_with(fail);go_quiet(fail);go_wp2;go_roundw;(case rel=>exact⟨j1,by have:=HJ.out;omega,rfl,by rw[HF.out],below_drewN HB.out _⟩);case measure=>have:=HJ.out;simp[intOf];omega);·(have g1:decide ((j:Int)<(N:Int))=false:=by simp;omega);(have g1':decide (j<N)=false:=by simpa using hlt);(have hfin:o=zVT s.data.toList:=by rw[←ho,Qk (by rw[xL];omega)]);have HF:=Hd hfin;clear hfin ho hlt;go_wp2_with(fail);go_ret;exact⟨by rw[HF.out];rfl,HB.out⟩
abbrev Thing:=QB×Bool
inductive Made(T:List Thing):Nat→List It→Nat→Prop|zero:Made T 0 [] 0|bad{j:Nat}{L:List It}{n:Nat}{t:Thing}:Made T j L n→T[j]? =some t→zP t.1=false→Made T (j+1) L n|put{j:Nat}{L:List It}{n:Nat}{t:Thing}(pg:Nat)(val:Value):Made T j L n→T[j]? =some t→zP t.1=true→t.2=false→pg<65536→Made T (j+1) (yE L ⟨t.1,⟨n+1,false,j,t.1,pg⟩::zZ L t.1,val⟩) (n+1)|del{j:Nat}{L L1:List It}{n:Nat}{t:Thing}(pg:Nat)(val val2:Value):Made T j L n→T[j]? =some t→zP t.1=true→t.2=true→pg<65536→L1=yE L ⟨t.1,⟨n+1,false,j,t.1,pg⟩::zZ L t.1,val⟩→Made T (j+1) (yE L1 ⟨t.1,⟨n+2,true,j,⟨#[]⟩,0⟩::zZ L1 t.1,val2⟩) (n+2)
theorem zBM{k:QB}(h:zP k=true):k.size≤40:=(zg h).2
theorem Made.ok{T:List Thing}{j n:Nat}{L:List It}(h:Made T j L n)(hj:j≤30):ItsOk n L∧n≤2*j∧L.length≤j∧∀it∈L,∃(i:Nat)(t:Thing),T[i]? =some t∧t.1=it.key:=by
 induction h with|zero=>exact⟨⟨fun it hi=>(by cases hi),List.Pairwise.nil,(by decide)⟩,Qn _,Qn _,fun it hi=>(by cases hi)⟩|bad _ _ _ ih=>obtain⟨h1,h2,h3,h4⟩:=ih (by omega);exact⟨h1,by omega,by omega,h4⟩| @put j L n t pg val _ ht hk _ hpg ih=>obtain⟨h1,h2,h3,h4⟩:=ih (by omega);have hlen:=zAu L ⟨t.1,⟨n+1,false,j,t.1,pg⟩::zZ L t.1,val⟩;refine⟨h1.put (v:=⟨n+1,false,j,t.1,pg⟩) hk rfl ⟨by show j<1000;omega,zBM hk,hpg⟩ (by omega) val,by omega,by omega,fun it hi=> ?_⟩;rcases vx hi with e|e;(·exact⟨j,t,ht,by rw[e]⟩);(·exact h4 it e)| @del j L L1 n t pg val val2 hm ht hk _ hpg hL ih=>obtain⟨h1,h2,h3,h4⟩:=ih (by omega);have hlen:=zAu L ⟨t.1,⟨n+1,false,j,t.1,pg⟩::zZ L t.1,val⟩;have g1:=h1.put (v:=⟨n+1,false,j,t.1,pg⟩) hk rfl ⟨by show j<1000;omega,zBM hk,hpg⟩ (by omega) val;rw[←hL]at g1 hlen;(have hlen2:(yE L1 ⟨t.1,⟨n+2,true,j,⟨#[]⟩,0⟩::zZ L1 t.1,val2⟩).length=L1.length:=by rw[hL];clear g1 hlen hL ih h1 h2 h3 h4 ht hm;generalize(⟨n+1,false,j,t.1,pg⟩:Vd)::zZ L t.1=u;generalize(⟨n+2,true,j,⟨#[]⟩,0⟩:Vd)::zZ _ t.1=u2;induction L with|nil=>simp[yE,zQ]|cons a r ih2=>by_cases hlt:bLt a.key t.1;(·rw[yE,if_pos hlt,yE,if_pos hlt];exact congrArg Nat.succ ih2);·rw[yE,if_neg hlt];by_cases he:a.key=t.1;(·rw[if_pos he,yE,if_neg (zQ _),if_pos rfl];rfl);·rw[if_neg he,yE,if_neg (zQ _),if_pos rfl];rfl);refine⟨g1.put (v:=⟨n+2,true,j,⟨#[]⟩,0⟩) hk rfl ⟨by show j<1000;omega,by show(0:Nat)≤40;omega,by show(0:Nat)<65536;omega⟩ (by omega) val2,by omega,by omega,fun it hi=> ?_⟩;rcases vx hi with e|e;(·exact⟨j,t,ht,by rw[e]⟩);·rw[hL]at e;rcases vx e with e|e;(·exact⟨j,t,ht,by rw[e]⟩);·exact h4 it e
section
variable {pre delim : QB} {L : List It}
theorem zAy(frm:QB)(opn:QB):(zI pre delim frm L opn).length≤L.length:=by
 induction L generalizing opn with|nil=>exact Qn _|cons y r ih=>rw[zI];split;(·exact Nat.le_succ_of_le (ih _));·exact Nat.succ_le_succ (ih _)
theorem zBN(l:List (It×QB)):(zAB l).length+(zAC l).length=l.length:=by
 induction l with|nil=>rfl|cons t l ih=>have e1:zAB (t::l)=zIb t++zAB l:=List.flatMap_cons;have e2:zAC (t::l)=zIc t++zAC l:=List.flatMap_cons;rw[e1,e2,Ql,Ql,List.length_cons];(have:(zIb t).length+(zIc t).length=1:=by unfold zIb zIc;by_cases h:t.2=⟨#[]⟩;(·rw[if_pos h,if_pos h];rfl);·rw[if_neg h,if_neg h];rfl);omega
theorem zDi{key g:QB}(hk:zk key=true)(hg:zR key pre delim=g):zk g=true:=by
 rw[xP]at hk⊢
 have hb:=kQ key pre delim
 rw[hg]at hb
 obtain⟨t,ht⟩:=yR.1 hb
 have hz:=hk.2
 rw[yC,←ht]at hz
 have hl:=congrArg List.length ht
 rw[Ql,xL,xL]at hl
 exact⟨by omega,(yC g).2 (fun c hc=>hz c (Qm _ hc))⟩
end
def kA1:QB:=⟨#[97,47,49]⟩
def kA2:QB:=⟨#[97,47,50]⟩
def kB1:QB:=⟨#[98]⟩
def kC1:QB:=⟨#[99]⟩
def zUO:List Thing:=[(kA1,false),(kA2,false),(kB1,false),(kC1,true)]
def zPr(p1 p2 p3 p4:Nat)(v1 v2 v3 v4:Value):List It:=[⟨kA1,[⟨1,false,0,kA1,p1⟩],v1⟩,⟨kA2,[⟨2,false,1,kA2,p2⟩],v2⟩,⟨kB1,[⟨3,false,2,kB1,p3⟩],v3⟩,⟨kC1,[⟨5,true,3,⟨#[]⟩,0⟩,⟨4,false,3,kC1,p4⟩],v4⟩]
theorem zBc{T:List Thing}{j:Nat}{L:List It}{n:Nat}(h:Made T (j+1) L n){t:Thing}(ht:T[j]? =some t)(hk:zP t.1=true):(t.2=false→∃L0 n0 pg val,Made T j L0 n0∧n=n0+1∧L=yE L0 ⟨t.1,⟨n0+1,false,j,t.1,pg⟩::zZ L0 t.1,val⟩)∧(t.2=true→∃L0 n0 pg val val2,Made T j L0 n0∧n=n0+2∧L=yE (yE L0 ⟨t.1,⟨n0+1,false,j,t.1,pg⟩::zZ L0 t.1,val⟩) ⟨t.1,⟨n0+2,true,j,⟨#[]⟩,0⟩::zZ (yE L0 ⟨t.1,⟨n0+1,false,j,t.1,pg⟩::zZ L0 t.1,val⟩) t.1,val2⟩):=by
 cases h with|bad _ h2 h3=>rw[ht]at h2;cases h2;rw[hk]at h3;cases h3|put pg val h1 h2 h3 h4 h5=>rw[ht]at h2;cases h2;exact⟨fun _=>⟨_,_,pg,val,h1,rfl,rfl⟩,fun e=>absurd (h4.symm.trans e) (by decide)⟩|del pg val val2 h1 h2 h3 h4 h5 h6=>rw[ht]at h2;cases h2;subst h6;exact⟨fun e=>absurd (h4.symm.trans e) (by decide),fun _=>⟨_,_,pg,val,val2,h1,rfl,rfl⟩⟩
theorem zNr{L:List It}{n:Nat}(h:Made zUO 4 L n):∃p1 p2 p3 p4 v1 v2 v3 v4,L=zPr p1 p2 p3 p4 v1 v2 v3 v4:=by
 obtain⟨L3,n3,p4,u4,v4,h3,-,e4⟩:=(zBc h (t:=(kC1,true)) rfl (by decide)).2 rfl
 obtain⟨L2,n2,p3,v3,h2,k3,e3⟩:=(zBc h3 (t:=(kB1,false)) rfl (by decide)).1 rfl
 obtain⟨L1,n1,p2,v2,h1,k2,e2⟩:=(zBc h2 (t:=(kA2,false)) rfl (by decide)).1 rfl
 obtain⟨L0,n0,p1,v1,h0,k1,e1⟩:=(zBc h1 (t:=(kA1,false)) rfl (by decide)).1 rfl
 cases h0
 subst k1
 subst e1
 subst k2
 subst e2
 subst k3
 subst e3
 refine⟨p1,p2,p3,p4,v1,v2,v3,v4,e4.trans ?_⟩
 rfl
section
variable {pre delim : QB} {n : Nat} {L : List It}
theorem zUw{s p:QB}:yD s p=decide (s.extract 0 p.size=p):=by
 rw[Bool.eq_iff_iff,yR,decide_eq_true_eq,List.prefix_iff_eq_take]
 constructor
 ·intro e;apply ByteArray.ext;apply Array.toList_inj.1;rw[ByteArray.data_extract,Array.toList_extract,List.extract_eq_take_drop,List.drop_zero,Nat.sub_zero];rw[xL]at e;exact e.symm
 ·intro e;have h2:=congrArg (fun x:QB=>x.data.toList) e;simp only[ByteArray.data_extract,Array.toList_extract,List.extract_eq_take_drop,List.drop_zero,Nat.sub_zero]at h2;rw[xL];exact h2.symm
theorem zUt{k p:QB}(h:yD k p=true):p.size≤k.size:=by
 have:=(yR.1 h).length_le
 rwa [xL,xL]at this
end
end
end Go.Proofs.YtaokjeokpifjgaaGreatDoor
