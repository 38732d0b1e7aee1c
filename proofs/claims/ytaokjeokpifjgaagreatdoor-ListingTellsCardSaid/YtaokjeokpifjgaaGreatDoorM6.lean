/-
  Texts of this claim, one behind the other: LsZ3V LsZ4V LsMkV Shell OpenS OpenF SealG1 SealG2 Ct1 Ct2 Ct3 Ct4 RcKV RcBV BkFV StXV RcRV RcWV VrBV BkKV BkMV.
-/
import Derived.Test.YtaokjeokpifjgaaGreatDoorM5
import Derived.Test.YtaokjeokpifjgaaGreatDoorRows
import Derived.ProofKit
import Derived.OpenShut
import Derived.Deep.Slices
import Derived.Deep.Fields
import Derived.SizedLaws
import Derived.ChangeSlices
import Derived.Lib.SmallJoins
import Derived.Laws.FloatArith
import Derived.Laws.ComplexArith
import Derived.WalkLawsBesides
import Derived.Handy
import Derived.ScopeJumps
import Derived.Laws.BytesArg
import Derived.WalkMore
open Go.Proofs.Tryz
set_option maxRecDepth 100000
set_option maxHeartbeats 8000000
namespace Go.Proofs.YtaokjeokpifjgaaGreatDoor
section
open Go.RowKit Go.MapKept
attribute [local go_sem] yo yg
theorem zNl{p:Prop}(h:p:=by have hu:=(HS.out u).1 hu;obtain⟨⟨c0,c1⟩,-⟩:=zj (hu.at HX02.out (fun e=>e));obtain⟨d0,d1,d2,d3,d4,d5,d6,d7⟩:=zG0 (hu.ownsRow ((Keep.still HB2.out).ownsRow HRow.out (fun _ _ e=>e)) (fun _ _ e=>e));simp only at d0 d1 d2 d6;clear hu;go_simp;exact⟨rfl,rfl⟩):p:=h
theorem zPk{p:Prop}(h:p:=by have h8:xb<u5.heap.size:=(Gl HX5.out);omega):p:=h
theorem zUF{p:Prop}(h:p:=by have:=((Keep.refl (fun q=>q=w.heap.size+1) u8).setCell (p:=⟨w.heap.size+1,0,none⟩) (fun _=>rfl) (.slice pa7 1 pc7)).setCell (p:=⟨w.heap.size+1,1,none⟩) (fun _=>rfl) (.int .u64 y);exact⟨this.os,this.tape,this.output,this.size,this.block⟩):p:=h
theorem zUG{p:Prop}(h:p:=by have hsz4:w.heap.size+1+1<u4.heap.size:=(Gl HX24.out);obtain⟨⟨m0,m1⟩,-⟩:=zj HX04.out;obtain⟨⟨p0,p1,p2,p3,p4⟩,q0,q1,q2,q3,q4⟩:=zBK HXv.out;go_wp2_with(fail);clear m0 m1 p0 p1 p2 p3 p4 q0 q1 q2 q3 q4;have hx5:=heap_setCell_same _ xb 4 _ _ (.string body) (heap_setCell_same _ xb 3 _ _ (.int .u64 now) (heap_setCell_same _ xb 2 _ _ (.bool false) (heap_setCell_same _ xb 1 _ _ (.bool false) (heap_setCell_same _ xb 0 _ _ (.int .u64 0) HXv.out))));have hk5:Keep (fun q=>q=xb) u4 (((((u4.setCell ⟨xb,0,none⟩ (.int .u64 0)).setCell ⟨xb,1,none⟩ (.bool false)).setCell ⟨xb,2,none⟩ (.bool false)).setCell ⟨xb,3,none⟩ (.int .u64 now)).setCell ⟨xb,4,none⟩ (.string body)):=(((((Keep.refl (fun q=>q=xb) u4).setCell (p:=⟨xb,0,none⟩) (fun _=>rfl) _).setCell (p:=⟨xb,1,none⟩) (fun _=>rfl) _).setCell (p:=⟨xb,2,none⟩) (fun _=>rfl) _).setCell (p:=⟨xb,3,none⟩) (fun _=>rfl) _).setCell (p:=⟨xb,4,none⟩) (fun _=>rfl) _;have hb5:Below w.heap.size w (((((u4.setCell ⟨xb,0,none⟩ (.int .u64 0)).setCell ⟨xb,1,none⟩ (.bool false)).setCell ⟨xb,2,none⟩ (.bool false)).setCell ⟨xb,3,none⟩ (.int .u64 now)).setCell ⟨xb,4,none⟩ (.string body)):=HB4.out.trans (hk5.below HB4.out.size (fun i hi e=>by omega));have h05:=hk5.at HX04.out (by omega);have h15:=hk5.at HX14.out (by omega);have h25:=hk5.at HX24.out (by omega);obtain⟨u5,hu5⟩:=qN (((((u4.setCell ⟨xb,0,none⟩ (.int .u64 0)).setCell ⟨xb,1,none⟩ (.bool false)).setCell ⟨xb,2,none⟩ (.bool false)).setCell ⟨xb,3,none⟩ (.int .u64 now)).setCell ⟨xb,4,none⟩ (.string body));rw[hu5]at hx5 hb5 h05 h15 h25⊢;have HX5:=Hd hx5;have HB5:=Hd hb5;have H05:=Hd h05;have H15:=Hd h15;have H25:=Hd h25;clear hk5 hu5 hx5 hb5 h05 h15 h25;refine(HAdd.out _ HB5.out).mono ?_;rintro e w6⟨v7,its7,val7,rfl,hbk,hit,hni7,hnv7,hnew,hb6⟩;obtain⟨pa7,pc7,hv7⟩:=zA (show w6.ownsRow 0 153 8 v7 1 _ from hbk);subst hv7;have hb6':=qT HB5.out hb6;have h06:=qB hb6 H05.out;have h16:=qB hb6 H15.out;have h26:=qB hb6 H25.out;have hx6:=qB hb6 HX5.out;obtain⟨y,hy⟩:=qN (nx+1);rw[hy];have HK6:=Hd hbk;have HI6:=Hd hit;have HNi6:=Hd (fun g e=>Nat.le_trans HB5.out.size (hni7 g e));have HNv6:=Hd (fun g e=>Nat.le_trans HB5.out.size (hnv7 g e));have HN6:=Hd (fun g e=>Nat.le_trans HB5.out.size (hnew g e));have hs6:xb<w6.heap.size:=(Gl hx6);have H06:=Hd h06;have H16:=Hd h16;have H26:=Hd h26;have HX6:=Hd hx6;have HB6:=Hd hb6';obtain⟨⟨m0,m1⟩,-⟩:=zj (alloc_old (o:=.cells #[.slice pa7 1 pc7,.int .u64 y] 53) h06);obtain⟨⟨p0,p1,p2,p3,p4⟩,q0,q1,q2,q3,q4⟩:=zBK (alloc_old (o:=.cells #[.slice pa7 1 pc7,.int .u64 y] 53) hx6);obtain⟨⟨n0,n1⟩,-⟩:=zj h06;obtain⟨⟨o0,o1,o2,o3,o4⟩,o5,o6,o7,o8,o9⟩:=zBK hx6;(have hnv:val7.ownBlock≠some xb:=fun e=>by have h9:=hnv7 xb e;exact zPk);have HNv:=Hd hnv;have HNo:=Hd (show val7.ownBlock≠some (w.heap.size+1+1)from fun e=>by have h9:=hnv7 _ e;exact zPk);clear hbk hit hni7 hnv7 hnew hb6 hb6' h06 h16 h26 hx6 hnv;go_wp2_with(fail);clear m0 m1 p0 p1 p2 p3 p4 q0 q1 q2 q3 q4 n0 n1 o0 o1 o2 o3 o4 o5 o6 o7 o8 o9;have hx7:=heap_setCell_same _ xb 0 _ _ (.int .u64 nx) HX6.out;have hk7:Keep (fun q=>q=xb) w6 (w6.setCell ⟨xb,0,none⟩ (.int .u64 nx)):=(Keep.refl (fun q=>q=xb) _).setCell (p:=⟨xb,0,none⟩) (fun _=>rfl) _;have hb7:=HB6.out.setCell (p:=⟨xb,0,none⟩) (by show w.heap.size≤xb;omega) (.int .u64 nx);have h17:=hk7.at H16.out (by omega);have h27:=hk7.at H26.out (by omega);have hi7:=HI6.out.apart (w0:=w) HVs.out HX6.out (by omega) HNv.out hk7;have hc7:=BksAt.aside HK6.out HX6.out (by decide) hk7;have HY7:=Hd (show((w6.setCell ⟨xb,0,none⟩ (.int .u64 nx)).alloc (.cells #[.slice pa7 1 pc7,.int .u64 y] 53)).heap[w6.heap.size]? =some (.cells #[.slice pa7 1 pc7,.int .u64 y] 53 (0,0))from zN (by simp));obtain⟨u7,hu7⟩:=qN (w6.setCell ⟨xb,0,none⟩ (.int .u64 nx));rw[hu7]at hx7 hb7 h17 h27 hi7 hc7 HY7⊢;have HX8:=Hd (alloc_old (o:=.cells #[.slice pa7 1 pc7,.int .u64 y] 53) hx7);have H18:=Hd (alloc_old (o:=.cells #[.slice pa7 1 pc7,.int .u64 y] 53) h17);have H28:=Hd (alloc_old (o:=.cells #[.slice pa7 1 pc7,.int .u64 y] 53) h27);have hb8a:Below u7.heap.size u7 (u7.alloc (.cells #[.slice pa7 1 pc7,.int .u64 y] 53)):=(Below.refl u7.heap.size u7).alloc (Qn _) _;have HI8:=Hd (hi7.still hb8a);have HC8:=Hd (BksAt.still hc7 hb8a);have HB8:=Hd (hb7.alloc hb7.size (.cells #[.slice pa7 1 pc7,.int .u64 y] 53));clear hx7 hk7 hb7 h17 h27 hi7 hc7 hb8a;obtain⟨u8,hu8⟩:=qN (u7.alloc (.cells #[.slice pa7 1 pc7,.int .u64 y] 53));rw[hu8]at HX8 H18 H28 HI8 HC8 HB8 HY7⊢;clear hu7 hu8;have h6b:xb<w6.heap.size:=hs6;obtain⟨S,HS⟩:=mkS (Keep (fun q=>q=w.heap.size+1) (u8));have FR:=Hd (fun u(hu:S u)=>have hu:=(HS.out u).1 hu;have o09:=zj (hu.at HY7.out (fun e=>by omega));have o19:=zBK (hu.at HX8.out (fun e=>by omega));And.intro o09 o19);refine rgo 3 [tR 0,tR 1,tD 2] HS (Keep.refl _ _).drew ?_;(iterate 2 refine rd1 ?_);refine doH ?_;intro K hK;obtain⟨⟨r0,r1⟩,r2,r3⟩:=zj H18.out;go_simp;(have ka:Keep (fun q=>q=w.heap.size+1) u8 ((u8.setCell ⟨w.heap.size+1,0,none⟩ (.slice pa7 1 pc7)).setCell ⟨w.heap.size+1,1,none⟩ (.int .u64 y)).drew:=by exact zUF);refine hK _ _ ((HS.out _).2 ka) ?_;clear hK K r0 r1 r2 r3;refine zl ?_;clear FR;clear S HS;have hr9:(((u8.setCell ⟨w.heap.size+1,0,none⟩ (.slice pa7 1 pc7)).setCell ⟨w.heap.size+1,1,none⟩ (.int .u64 y)).drew).heap[w.heap.size+1]? =some (.cells #[.slice pa7 1 pc7,.int .u64 y] 53 (0,0)):=heap_setCell_same _ (w.heap.size+1) 1 _ _ (.int .u64 y) (heap_setCell_same _ (w.heap.size+1) 0 _ _ (.slice pa7 1 pc7) H18.out);have ho9:=ka.at H28.out (by omega);have hi9:=HI8.out.aside H18.out (by decide) (by decide) ka;have hc9:=BksAt.aside HC8.out H18.out (by decide) ka;have hb9:=HB8.out.trans (ka.below (B:=w.heap.size) HB8.out.size (fun i hi e=>by omega));obtain⟨u9,hu9⟩:=qN (((u8.setCell ⟨w.heap.size+1,0,none⟩ (.slice pa7 1 pc7)).setCell ⟨w.heap.size+1,1,none⟩ (.int .u64 y)).drew);rw[hu9]at hr9 ho9 hi9 hc9 hb9⊢;have HR9:=Hd hr9;have HO9:=Hd ho9;have HI9:=Hd hi9;have HC9:=Hd hc9;have HB9:=Hd hb9;obtain⟨⟨p0,p1,p2,p3,p4⟩,q0,q1,q2,q3,q4⟩:=zBK ho9;clear ka hr9 ho9 hi9 hc9 hb9 hu9;go_wp2_with(fail);clear p0 p1 p2 p3 p4 q0 q1 q2 q3 q4;have f2:=heap_setCell_same _ (w.heap.size+1+1) 4 _ _ (.string body) (heap_setCell_same _ (w.heap.size+1+1) 3 _ _ (.int .u64 now) (heap_setCell_same _ (w.heap.size+1+1) 2 _ _ (.bool false) (heap_setCell_same _ (w.heap.size+1+1) 1 _ _ (.bool false) (heap_setCell_same _ (w.heap.size+1+1) 0 _ _ (.int .u64 nx) HO9.out))));have kf:Keep (fun q=>q=w.heap.size+1+1) u9 (((((u9.setCell ⟨w.heap.size+1+1,0,none⟩ (.int .u64 nx)).setCell ⟨w.heap.size+1+1,1,none⟩ (.bool false)).setCell ⟨w.heap.size+1+1,2,none⟩ (.bool false)).setCell ⟨w.heap.size+1+1,3,none⟩ (.int .u64 now)).setCell ⟨w.heap.size+1+1,4,none⟩ (.string body)):=(((((Keep.refl (fun q=>q=w.heap.size+1+1) u9).setCell (p:=⟨w.heap.size+1+1,0,none⟩) (fun _=>rfl) _).setCell (p:=⟨w.heap.size+1+1,1,none⟩) (fun _=>rfl) _).setCell (p:=⟨w.heap.size+1+1,2,none⟩) (fun _=>rfl) _).setCell (p:=⟨w.heap.size+1+1,3,none⟩) (fun _=>rfl) _).setCell (p:=⟨w.heap.size+1+1,4,none⟩) (fun _=>rfl) _;have f1:=kf.at HR9.out (by omega);have f3:=HI9.out.apart (w0:=w) HVs.out HO9.out (by omega) HNo.out kf;have f4:=BksAt.aside HC9.out HO9.out (by decide) kf;have f5:=HB9.out.trans (kf.below (B:=w.heap.size) HB9.out.size (fun i hi e=>by omega));refine bodyPost_ret (zAA rfl _ _ (w.heap.size+1) (w.heap.size+1+1) _ _ _ _ _ _ _ _ rfl f1 rfl f2 underlying53 rfl (by kernel_rfl) underlying135 rfl (by kernel_rfl)) rfl ?_;exact⟨_,its7,val7,by rw[hy];rfl,f4,f3,HNi6.out,HNv6.out,HN6.out,f5⟩):p:=h
theorem zPl{w:World}{v:Value}{b0:Bk}{L:List It}(h:BksAt w v [b0])(hb:zK b0.name=true)(hst:b0.state=1)(hi:ItsAt w b0.its L)(hl:L.length≤1000){nx:Nat}(hnx:nx+1<18446744073709551616){item:QB}(hs:item.size≤1000000)(hok:zP item=true)(body:QB)(now page:Nat)(hvs:(zZ L item).length≤1000):Calls prog 60 #[.agg #[v,.int .u64 nx],.string b0.name,.string item,.string body,.int .u64 now] w fun e w'=>∃v' its' val,e= .returned (.tuple #[.agg #[v',.int .u64 (nx+1:Nat)],.agg #[.int .u64 nx,.bool false,.bool false,.int .u64 now,.string body],.int .i64 0])∧BksAt w' v' [⟨b0.name,b0.state,b0.born,its'⟩]∧ItsAt w' its' (goL ⟨item,⟨nx,false,now,body,page⟩::zZ L item,val⟩ false L)∧(∀g,its'.ownBlock=some g→w.heap.size≤g)∧(∀g,val.ownBlock=some g→w.heap.size≤g)∧(∀g,v'.ownBlock=some g→w.heap.size≤g)∧Below w.heap.size w w':=by
 have HE:=Hd (fun(u:World)(hu:Below w.heap.size w u)=>zCo (h.still hu) hb nx item hs)
 rw[hok]at HE
 have HAt:=Hd (fun(u:World)(hu:Below w.heap.size w u)=>zAw (h.still hu) (by simp) nx b0.name)
 have e1:atF b0.name [b0] 0=0:=by simp[atF]
 rw[e1]at HAt
 have HVs:=Hd hi.vs
 have HAdd:=Hd (fun(u:World)(hu:Below w.heap.size w u)=>zIZ (h.still hu) (hi.still hu) hl hnx item 0 false now body page hvs)
 obtain⟨gs,cs,hv,hc1,hc2,hgB⟩:=zH (show w.ownsRow 0 153 8 v 1 (bkR b0)from h) (by decide)
 subst hv
 have HRow:=Hd (show w.ownsRow 0 153 8 (.slice (some ⟨gs,0,none⟩) 1 cs) 1 (bkR b0)from h)
 have hb1:Below w.heap.size w (((w.alloc (.cells #[.slice (some ⟨gs,0,none⟩) 1 cs,.int .u64 nx] 53)).alloc (.cells #[.slice none 0 0,.int .u64 0] 53)).alloc (.cells #[.int .u64 0,.bool false,.bool false,.int .u64 0,.string ⟨#[]⟩] 135)):=((qA).alloc (by simp) _).alloc (by simp;omega) _
 have hx0:(((w.alloc (.cells #[.slice (some ⟨gs,0,none⟩) 1 cs,.int .u64 nx] 53)).alloc (.cells #[.slice none 0 0,.int .u64 0] 53)).alloc (.cells #[.int .u64 0,.bool false,.bool false,.int .u64 0,.string ⟨#[]⟩] 135)).heap[w.heap.size]? =some (.cells #[.slice (some ⟨gs,0,none⟩) 1 cs,.int .u64 nx] 53 (0,0)):=alloc_old (alloc_old (zN rfl))
 have hx1:(((w.alloc (.cells #[.slice (some ⟨gs,0,none⟩) 1 cs,.int .u64 nx] 53)).alloc (.cells #[.slice none 0 0,.int .u64 0] 53)).alloc (.cells #[.int .u64 0,.bool false,.bool false,.int .u64 0,.string ⟨#[]⟩] 135)).heap[w.heap.size+1]? =some (.cells #[.slice none 0 0,.int .u64 0] 53 (0,0)):=alloc_old (zN (by simp))
 have hx2:(((w.alloc (.cells #[.slice (some ⟨gs,0,none⟩) 1 cs,.int .u64 nx] 53)).alloc (.cells #[.slice none 0 0,.int .u64 0] 53)).alloc (.cells #[.int .u64 0,.bool false,.bool false,.int .u64 0,.string ⟨#[]⟩] 135)).heap[w.heap.size+1+1]? =some (.cells #[.int .u64 0,.bool false,.bool false,.int .u64 0,.string ⟨#[]⟩] 135 (0,0)):=zN (by simp)
 have HB1:=Hd hb1
 have HX0:=Hd hx0
 have HX1:=Hd hx1
 have HX2:=Hd hx2
 obtain⟨⟨m0,m1⟩,-⟩:=zj hx0
 obtain⟨bn,bst,bo,its⟩:=b0
 obtain rfl:bst=1:=hst
 simp only at HE HAt HAdd
 clear h hb hi hs hok e1 hb1 hx0 hx1 hx2
 go_enter func60,ntmps60
 go_wp2_with(go_at_call 121;refine(HE.out _ HB1.out).mono ?_;rintro e w2⟨rfl,hb2⟩;have hb2':=qT HB1.out hb2;have HX02:=Hd (qB hb2 HX0.out);have HX12:=Hd (qB hb2 HX1.out);have HX22:=Hd (qB hb2 HX2.out);have HB2:=Hd hb2';clear hb2 hb2')
 clear m0 m1
 obtain⟨S,hS⟩:∃S:World→Prop,∀u,S u↔Keep (fun _=>False) w2 u:=⟨fun u=>Keep (fun _=>False) w2 u,fun _=>Iff.rfl⟩
 have HS:=Hd hS
 clear hS
 refine xT 14 (.read 0 (.read 1 (.read 2 (.read 3 (.read 10 (.read 11 (.two 4 (.read 5 (.read 6 (.read 7 (.read 8 (.read 9 (.read 12 (.one 13 .fin))))))) 13 (.one 4 (.read 5 (.read 6 (.read 7 (.read 8 (.read 9 (.read 12 .fin)))))))))))))) S (by kernel_rfl) (by kernel_rfl) ((HS.out _).2 (Keep.refl _ _).drew) ?_
 iterate 6 first|(refine wpW_passed rfl (by rfl) (fun K hK=> ?_);go_simp;refine hK _ ?_;clear hK K)|(refine yQ rfl (by rfl) (fun K hK=> ?_);apply Exists.intro;refine⟨fun u hu=> ?_,?_⟩;(·exact zNl);go_simp;refine hK _ ?_;clear hK K)
 refine zCX ?_ ?_
 ·refine zi rfl (by rfl) (fun K hK=> ?_);go_simp;go_at_call 70;have hdr:Below w2.heap.size w2 w2.drew:=⟨rfl,rfl,rfl,Qn _,fun _ _=>rfl⟩;refine(HAt.out _ (qT HB2.out hdr)).mono ?_;rintro e w3⟨rfl,hb3⟩;have hb3':Below w2.heap.size w2 w3:=hdr.trans hb3;have HB3:=Hd hb3';refine hK _ _ ((HS.out _).2 (Keep.ofBelow hb3')) ?_;clear hK K hb3 hb3' hdr;(iterate 6 first|(refine wpW_passed rfl (by rfl) (fun K hK=> ?_);go_simp;refine hK _ ?_;clear hK K)|(refine yQ rfl (by rfl) (fun K hK=> ?_);apply Exists.intro;refine⟨fun u hu=> ?_,?_⟩;(·exact zNl);go_simp;refine hK _ ?_;clear hK K));refine yX ?_;refine zi rfl (by rfl) (fun K hK=> ?_);go_simp;have hb4:=HB3.out.alloc HB3.out.size (.cells #[.int .u64 0,.bool false,.bool false,.int .u64 0,.string ⟨#[]⟩] 135);have HXv:=Hd (qH w3 (.cells #[.int .u64 0,.bool false,.bool false,.int .u64 0,.string ⟨#[]⟩] 135));have HX04:=Hd (alloc_old (o:=.cells #[.int .u64 0,.bool false,.bool false,.int .u64 0,.string ⟨#[]⟩] 135) (qB HB3.out HX02.out));have HX14:=Hd (alloc_old (o:=.cells #[.int .u64 0,.bool false,.bool false,.int .u64 0,.string ⟨#[]⟩] 135) (qB HB3.out HX12.out));have HX24:=Hd (alloc_old (o:=.cells #[.int .u64 0,.bool false,.bool false,.int .u64 0,.string ⟨#[]⟩] 135) (qB HB3.out HX22.out));have HB4:=Hd (qT HB2.out hb4);refine hK _ _ ((HS.out _).2 (Keep.ofBelow hb4)) ?_;clear hK K hb4;refine zAj ?_;simp only[List.drop_succ_cons,List.drop_zero];obtain⟨xb,hxb⟩:=qN w3.heap.size;obtain⟨u4,hu4⟩:=qN (w3.alloc (.cells #[.int .u64 0,.bool false,.bool false,.int .u64 0,.string ⟨#[]⟩] 135));rw[hxb]at HXv;rw[hu4]at HXv HX04 HX14 HX24 HB4;(have hlt2:w.heap.size+1+1<xb:=by rw[←hxb];exact(Array.getElem?_eq_some_iff.1 (qB HB3.out HX22.out)).1);(try rw[hxb]);(try rw[hu4]);clear hxb hu4 S HS;exact zUG
 ·refine zi rfl (by rfl) (fun K hK=> ?_);go_simp;(have hb3:Below w2.heap.size w2 (w2.alloc (.cells #[.int .u64 0,.bool false,.bool false,.int .u64 0,.string ⟨#[]⟩] 135)).drew:=by have:=(Below.refl w2.heap.size w2).alloc (Qn _) (.cells #[.int .u64 0,.bool false,.bool false,.int .u64 0,.string ⟨#[]⟩] 135);exact zTy);have hx3:((w2.alloc (.cells #[.int .u64 0,.bool false,.bool false,.int .u64 0,.string ⟨#[]⟩] 135)).drew).heap[w2.heap.size]? =_:=qH w2 (.cells #[.int .u64 0,.bool false,.bool false,.int .u64 0,.string ⟨#[]⟩] 135);have HB3:=Hd hb3;have HX3:=Hd hx3;refine hK _ _ ((HS.out _).2 (Keep.ofBelow hb3)) ?_;clear hK K hb3 hx3;refine yX ?_;refine zi rfl (by rfl) (fun K hK=> ?_);go_simp;go_at_call 70;refine(HAt.out _ (qT HB2.out HB3.out)).mono ?_;rintro e u4⟨rfl,hb4⟩;have hb4':=qT HB3.out hb4;have HXv:=Hd (qB hb4 HX3.out);have HX04:=Hd (qB hb4' HX02.out);have HX14:=Hd (qB hb4' HX12.out);have HX24:=Hd (qB hb4' HX22.out);have HB4:=Hd (qT HB2.out hb4');refine hK _ _ ((HS.out _).2 (Keep.ofBelow hb4')) ?_;clear hK K hb4 hb4';(iterate 6 first|(refine wpW_passed rfl (by rfl) (fun K hK=> ?_);go_simp;refine hK _ ?_;clear hK K)|(refine yQ rfl (by rfl) (fun K hK=> ?_);apply Exists.intro;refine⟨fun u hu=> ?_,?_⟩;(·exact zNl);go_simp;refine hK _ ?_;clear hK K));refine zAj ?_;simp only[List.drop_succ_cons,List.drop_zero];obtain⟨xb,hxb⟩:=qN w2.heap.size;rw[hxb]at HXv;(have hlt2:w.heap.size+1+1<xb:=by rw[←hxb];exact(Gl HX22.out));(try rw[hxb]);clear hxb S HS;exact zUG
theorem zUf{p:Prop}(h:p:=by have f1:=kf.at HR9.out (by omega);have f3:=HI9.out.apart (w0:=w) HVs.out HO9.out (by omega) HNo.out kf;have f4:=BksAt.aside HC9.out HO9.out (by decide) kf;have f5:=HB9.out.trans (kf.below (B:=w.heap.size) HB9.out.size (fun i hi e=>by omega));refine bodyPost_ret (zAA rfl _ _ (w.heap.size+1) (w.heap.size+1+1) _ _ _ _ _ _ _ _ rfl f1 rfl f2 underlying53 rfl (by kernel_rfl) underlying135 rfl (by kernel_rfl)) rfl ?_;exact⟨_,its7,val7,by rw[hy];rfl,f4,f3,HNi6.out,HNv6.out,HN6.out,f5⟩):p:=h
theorem zPm{w:World}{v:Value}{b0:Bk}{L:List It}(h:BksAt w v [b0])(hb:zK b0.name=true)(hst:b0.state=1)(hi:ItsAt w b0.its L)(hl:L.length≤1000){nx:Nat}(hnx:nx+1<18446744073709551616){item:QB}(hs:item.size≤1000000)(hok:zP item=true)(now:Nat)(hvs:(zZ L item).length≤1000):Calls prog 61 #[.agg #[v,.int .u64 nx],.string b0.name,.string item,.int .u64 now] w fun e w'=>∃v' its' val,e= .returned (.tuple #[.agg #[v',.int .u64 (nx+1:Nat)],.agg #[.int .u64 nx,.bool false,.bool true,.int .u64 now,.string ⟨#[]⟩],.int .i64 0])∧BksAt w' v' [⟨b0.name,b0.state,b0.born,its'⟩]∧ItsAt w' its' (goL ⟨item,⟨nx,true,now,⟨#[]⟩,0⟩::zZ L item,val⟩ false L)∧(∀g,its'.ownBlock=some g→w.heap.size≤g)∧(∀g,val.ownBlock=some g→w.heap.size≤g)∧(∀g,v'.ownBlock=some g→w.heap.size≤g)∧Below w.heap.size w w':=by
 have HE:=Hd (fun(u:World)(hu:Below w.heap.size w u)=>zCo (h.still hu) hb nx item hs)
 rw[hok]at HE
 have HAt:=Hd (fun(u:World)(hu:Below w.heap.size w u)=>zAw (h.still hu) (by simp) nx b0.name)
 have e1:atF b0.name [b0] 0=0:=by simp[atF]
 rw[e1]at HAt
 have HVs:=Hd hi.vs
 have HAdd:=Hd (fun(u:World)(hu:Below w.heap.size w u)=>zIZ (h.still hu) (hi.still hu) hl hnx item 0 true now ⟨#[]⟩ 0 hvs)
 obtain⟨gs,cs,hv,hc1,hc2,hgB⟩:=zH (show w.ownsRow 0 153 8 v 1 (bkR b0)from h) (by decide)
 subst hv
 have HRow:=Hd (show w.ownsRow 0 153 8 (.slice (some ⟨gs,0,none⟩) 1 cs) 1 (bkR b0)from h)
 have hb1:Below w.heap.size w (((w.alloc (.cells #[.slice (some ⟨gs,0,none⟩) 1 cs,.int .u64 nx] 53)).alloc (.cells #[.slice none 0 0,.int .u64 0] 53)).alloc (.cells #[.int .u64 0,.bool false,.bool false,.int .u64 0,.string ⟨#[]⟩] 135)):=((qA).alloc (by simp) _).alloc (by simp;omega) _
 have hx0:(((w.alloc (.cells #[.slice (some ⟨gs,0,none⟩) 1 cs,.int .u64 nx] 53)).alloc (.cells #[.slice none 0 0,.int .u64 0] 53)).alloc (.cells #[.int .u64 0,.bool false,.bool false,.int .u64 0,.string ⟨#[]⟩] 135)).heap[w.heap.size]? =some (.cells #[.slice (some ⟨gs,0,none⟩) 1 cs,.int .u64 nx] 53 (0,0)):=alloc_old (alloc_old (zN rfl))
 have hx1:(((w.alloc (.cells #[.slice (some ⟨gs,0,none⟩) 1 cs,.int .u64 nx] 53)).alloc (.cells #[.slice none 0 0,.int .u64 0] 53)).alloc (.cells #[.int .u64 0,.bool false,.bool false,.int .u64 0,.string ⟨#[]⟩] 135)).heap[w.heap.size+1]? =some (.cells #[.slice none 0 0,.int .u64 0] 53 (0,0)):=alloc_old (zN (by simp))
 have hx2:(((w.alloc (.cells #[.slice (some ⟨gs,0,none⟩) 1 cs,.int .u64 nx] 53)).alloc (.cells #[.slice none 0 0,.int .u64 0] 53)).alloc (.cells #[.int .u64 0,.bool false,.bool false,.int .u64 0,.string ⟨#[]⟩] 135)).heap[w.heap.size+1+1]? =some (.cells #[.int .u64 0,.bool false,.bool false,.int .u64 0,.string ⟨#[]⟩] 135 (0,0)):=zN (by simp)
 have HB1:=Hd hb1
 have HX0:=Hd hx0
 have HX1:=Hd hx1
 have HX2:=Hd hx2
 obtain⟨⟨m0,m1⟩,-⟩:=zj hx0
 obtain⟨bn,bst,bo,its⟩:=b0
 obtain rfl:bst=1:=hst
 simp only at HE HAt HAdd
 clear h hb hi hs hok e1 hb1 hx0 hx1 hx2
 go_enter func61,ntmps61
 go_wp2_with(go_at_call 121;refine(HE.out _ HB1.out).mono ?_;rintro e w2⟨rfl,hb2⟩;have hb2':=qT HB1.out hb2;have HX02:=Hd (qB hb2 HX0.out);have HX12:=Hd (qB hb2 HX1.out);have HX22:=Hd (qB hb2 HX2.out);have HB2:=Hd hb2';clear hb2 hb2')
 clear m0 m1
 obtain⟨S,HS⟩:=mkS (Keep (fun _=>False) (w2))
 refine rgo 9 [tR 0,tR 1,tR 2,tR 3,tD 4,tR 5,tR 6,tR 7,tR 8] HS (Keep.refl _ _).drew ?_
 iterate 4 first|(refine wpH_passed rfl (by rfl) (fun K hK=> ?_);go_simp;refine hK _ ?_;clear hK K)|((first|refine kD rfl rfl (fun K hK=> ?_)|refine wpH_readw rfl (by rfl) (fun K hK=> ?_));apply Exists.intro;refine⟨fun u hu=> ?_,?_⟩;(·exact zNl);go_simp;refine hK _ ?_;clear hK K)
 refine doH ?_
 intro K hK
 go_simp
 go_at_call 70
 have hdr:Below w2.heap.size w2 w2.drew:=⟨rfl,rfl,rfl,Qn _,fun _ _=>rfl⟩
 refine(HAt.out _ (qT HB2.out hdr)).mono ?_
 rintro e w3⟨rfl,hb3⟩
 have hb3':Below w2.heap.size w2 w3:=hdr.trans hb3
 have HB3:=Hd hb3'
 refine hK _ _ ((HS.out _).2 (Keep.ofBelow hb3')) ?_
 clear hK K hb3 hb3' hdr
 iterate 4 first|(refine wpH_passed rfl (by rfl) (fun K hK=> ?_);go_simp;refine hK _ ?_;clear hK K)|((first|refine kD rfl rfl (fun K hK=> ?_)|refine wpH_readw rfl (by rfl) (fun K hK=> ?_));apply Exists.intro;refine⟨fun u hu=> ?_,?_⟩;(·exact zNl);go_simp;refine hK _ ?_;clear hK K)
 refine zl ?_
 clear S HS
 have hlt2:w.heap.size+1+1<w3.heap.size:=(Array.getElem?_eq_some_iff.1 (qB HB3.out HX22.out)).1
 have hx03:=qB HB3.out HX02.out
 have HX04:=Hd (alloc_old (o:=.cells #[.int .u64 0,.bool false,.bool true,.int .u64 now,.string ⟨#[]⟩] 135) hx03)
 have HX14:=Hd (alloc_old (o:=.cells #[.int .u64 0,.bool false,.bool true,.int .u64 now,.string ⟨#[]⟩] 135) (qB HB3.out HX12.out))
 have HX24:=Hd (alloc_old (o:=.cells #[.int .u64 0,.bool false,.bool true,.int .u64 now,.string ⟨#[]⟩] 135) (qB HB3.out HX22.out))
 obtain⟨⟨m0,m1⟩,-⟩:=zj HX04.out
 clear hx03
 go_wp2_with(fail)
 clear m0 m1
 obtain⟨xb,hxb⟩:=qN w3.heap.size
 rw[hxb]at hlt2
 have hx5:(w3.alloc (.cells #[.int .u64 0,.bool false,.bool true,.int .u64 now,.string ⟨#[]⟩] 135)).heap[xb]? =some (.cells #[.int .u64 0,.bool false,.bool true,.int .u64 now,.string ⟨#[]⟩] 135 (0,0)):=zN hxb
 have hb5:Below w.heap.size w (w3.alloc (.cells #[.int .u64 0,.bool false,.bool true,.int .u64 now,.string ⟨#[]⟩] 135)):=HB2.out.trans ((HB3.out.alloc HB3.out.size (.cells #[.int .u64 0,.bool false,.bool true,.int .u64 now,.string ⟨#[]⟩] 135)).mono HB2.out.size)
 have h05:=HX04.out
 have h15:=HX14.out
 have h25:=HX24.out
 obtain⟨u5,hu5⟩:=qN (w3.alloc (.cells #[.int .u64 0,.bool false,.bool true,.int .u64 now,.string ⟨#[]⟩] 135))
 rw[hu5]at hx5 hb5 h05 h15 h25⊢
 try rw[hxb]
 have HX5:=Hd hx5
 have HB5:=Hd hb5
 have H05:=Hd h05
 have H15:=Hd h15
 have H25:=Hd h25
 clear hu5 hxb hx5 hb5 h05 h15 h25
 refine(HAdd.out _ HB5.out).mono ?_
 rintro e w6⟨v7,its7,val7,rfl,hbk,hit,hni7,hnv7,hnew,hb6⟩
 obtain⟨pa7,pc7,hv7⟩:=zA (show w6.ownsRow 0 153 8 v7 1 _ from hbk)
 subst hv7
 have hb6':=qT HB5.out hb6
 have h06:=qB hb6 H05.out
 have h16:=qB hb6 H15.out
 have h26:=qB hb6 H25.out
 have hx6:=qB hb6 HX5.out
 obtain⟨y,hy⟩:=qN (nx+1)
 rw[hy]
 have HK6:=Hd hbk
 have HI6:=Hd hit
 have HNi6:=Hd (fun g e=>Nat.le_trans HB5.out.size (hni7 g e))
 have HNv6:=Hd (fun g e=>Nat.le_trans HB5.out.size (hnv7 g e))
 have HN6:=Hd (fun g e=>Nat.le_trans HB5.out.size (hnew g e))
 have hs6:xb<w6.heap.size:=(Gl hx6)
 have H06:=Hd h06
 have H16:=Hd h16
 have H26:=Hd h26
 have HX6:=Hd hx6
 have HB6:=Hd hb6'
 obtain⟨⟨m0,m1⟩,-⟩:=zj (alloc_old (o:=.cells #[.slice pa7 1 pc7,.int .u64 y] 53) h06)
 obtain⟨⟨p0,p1,p2,p3,p4⟩,q0,q1,q2,q3,q4⟩:=zBK (alloc_old (o:=.cells #[.slice pa7 1 pc7,.int .u64 y] 53) hx6)
 obtain⟨⟨n0,n1⟩,-⟩:=zj h06
 obtain⟨⟨o0,o1,o2,o3,o4⟩,o5,o6,o7,o8,o9⟩:=zBK hx6
 have hnv:val7.ownBlock≠some xb:=fun e=>by have h9:=hnv7 xb e;exact zPk
 have HNv:=Hd hnv
 have HNo:=Hd (show val7.ownBlock≠some (w.heap.size+1+1)from fun e=>by have h9:=hnv7 _ e;exact zPk)
 clear hbk hit hni7 hnv7 hnew hb6 hb6' h06 h16 h26 hx6 hnv
 go_wp2_with(fail)
 clear m0 m1 p0 p1 p2 p3 p4 q0 q1 q2 q3 q4 n0 n1 o0 o1 o2 o3 o4 o5 o6 o7 o8 o9
 have hx7:=heap_setCell_same _ xb 0 _ _ (.int .u64 nx) HX6.out
 have hk7:Keep (fun q=>q=xb) w6 (w6.setCell ⟨xb,0,none⟩ (.int .u64 nx)):=(Keep.refl (fun q=>q=xb) _).setCell (p:=⟨xb,0,none⟩) (fun _=>rfl) _
 have hb7:=HB6.out.setCell (p:=⟨xb,0,none⟩) (by show w.heap.size≤xb;omega) (.int .u64 nx)
 have h17:=hk7.at H16.out (by omega)
 have h27:=hk7.at H26.out (by omega)
 have hi7:=HI6.out.apart (w0:=w) HVs.out HX6.out (by omega) HNv.out hk7
 have hc7:=BksAt.aside HK6.out HX6.out (by decide) hk7
 have HY7:=Hd (show((w6.setCell ⟨xb,0,none⟩ (.int .u64 nx)).alloc (.cells #[.slice pa7 1 pc7,.int .u64 y] 53)).heap[w6.heap.size]? =some (.cells #[.slice pa7 1 pc7,.int .u64 y] 53 (0,0))from zN (by simp))
 obtain⟨u7,hu7⟩:=qN (w6.setCell ⟨xb,0,none⟩ (.int .u64 nx))
 rw[hu7]at hx7 hb7 h17 h27 hi7 hc7 HY7⊢
 have HX8:=Hd (alloc_old (o:=.cells #[.slice pa7 1 pc7,.int .u64 y] 53) hx7)
 have H18:=Hd (alloc_old (o:=.cells #[.slice pa7 1 pc7,.int .u64 y] 53) h17)
 have H28:=Hd (alloc_old (o:=.cells #[.slice pa7 1 pc7,.int .u64 y] 53) h27)
 have hb8a:Below u7.heap.size u7 (u7.alloc (.cells #[.slice pa7 1 pc7,.int .u64 y] 53)):=(Below.refl u7.heap.size u7).alloc (Qn _) _
 have HI8:=Hd (hi7.still hb8a)
 have HC8:=Hd (BksAt.still hc7 hb8a)
 have HB8:=Hd (hb7.alloc hb7.size (.cells #[.slice pa7 1 pc7,.int .u64 y] 53))
 clear hx7 hk7 hb7 h17 h27 hi7 hc7 hb8a
 obtain⟨u8,hu8⟩:=qN (u7.alloc (.cells #[.slice pa7 1 pc7,.int .u64 y] 53))
 rw[hu8]at HX8 H18 H28 HI8 HC8 HB8 HY7⊢
 clear hu7 hu8
 have h6b:xb<w6.heap.size:=hs6
 obtain⟨S,HS⟩:=mkS (Keep (fun q=>q=w.heap.size+1) (u8))
 have FR:=Hd (fun u(hu:S u)=>have hu:=(HS.out u).1 hu;have o09:=zj (hu.at HY7.out (fun e=>by omega));have o19:=zBK (hu.at HX8.out (fun e=>by omega));And.intro o09 o19)
 refine rgo 3 [tR 0,tR 1,tD 2] HS (Keep.refl _ _).drew ?_
 iterate 2 refine rd1 ?_
 refine doH ?_
 intro K hK
 obtain⟨⟨r0,r1⟩,r2,r3⟩:=zj H18.out
 go_simp
 have ka:Keep (fun q=>q=w.heap.size+1) u8 ((u8.setCell ⟨w.heap.size+1,0,none⟩ (.slice pa7 1 pc7)).setCell ⟨w.heap.size+1,1,none⟩ (.int .u64 y)).drew:=by exact zUF
 refine hK _ _ ((HS.out _).2 ka) ?_
 clear hK K r0 r1 r2 r3
 refine zl ?_
 clear FR
 clear S HS
 have hr9:(((u8.setCell ⟨w.heap.size+1,0,none⟩ (.slice pa7 1 pc7)).setCell ⟨w.heap.size+1,1,none⟩ (.int .u64 y)).drew).heap[w.heap.size+1]? =some (.cells #[.slice pa7 1 pc7,.int .u64 y] 53 (0,0)):=heap_setCell_same _ (w.heap.size+1) 1 _ _ (.int .u64 y) (heap_setCell_same _ (w.heap.size+1) 0 _ _ (.slice pa7 1 pc7) H18.out)
 have ho9:=ka.at H28.out (by omega)
 have hi9:=HI8.out.aside H18.out (by decide) (by decide) ka
 have hc9:=BksAt.aside HC8.out H18.out (by decide) ka
 have hb9:=HB8.out.trans (ka.below (B:=w.heap.size) HB8.out.size (fun i hi e=>by omega))
 obtain⟨u9,hu9⟩:=qN (((u8.setCell ⟨w.heap.size+1,0,none⟩ (.slice pa7 1 pc7)).setCell ⟨w.heap.size+1,1,none⟩ (.int .u64 y)).drew)
 rw[hu9]at hr9 ho9 hi9 hc9 hb9⊢
 have HR9:=Hd hr9
 have HO9:=Hd ho9
 have HI9:=Hd hi9
 have HC9:=Hd hc9
 have HB9:=Hd hb9
 obtain⟨⟨p0,p1,p2,p3,p4⟩,q0,q1,q2,q3,q4⟩:=zBK ho9
 clear ka hr9 ho9 hi9 hc9 hb9 hu9
 go_wp2_with(fail)
 clear p0 p1 p2 p3 p4 q0 q1 q2 q3 q4
 have f2:=heap_setCell_same _ (w.heap.size+1+1) 4 _ _ (.string ⟨#[]⟩) (heap_setCell_same _ (w.heap.size+1+1) 3 _ _ (.int .u64 now) (heap_setCell_same _ (w.heap.size+1+1) 2 _ _ (.bool true) (heap_setCell_same _ (w.heap.size+1+1) 1 _ _ (.bool false) (heap_setCell_same _ (w.heap.size+1+1) 0 _ _ (.int .u64 nx) HO9.out))))
 have kf:Keep (fun q=>q=w.heap.size+1+1) u9 (((((u9.setCell ⟨w.heap.size+1+1,0,none⟩ (.int .u64 nx)).setCell ⟨w.heap.size+1+1,1,none⟩ (.bool false)).setCell ⟨w.heap.size+1+1,2,none⟩ (.bool true)).setCell ⟨w.heap.size+1+1,3,none⟩ (.int .u64 now)).setCell ⟨w.heap.size+1+1,4,none⟩ (.string ⟨#[]⟩)):=(((((Keep.refl (fun q=>q=w.heap.size+1+1) u9).setCell (p:=⟨w.heap.size+1+1,0,none⟩) (fun _=>rfl) _).setCell (p:=⟨w.heap.size+1+1,1,none⟩) (fun _=>rfl) _).setCell (p:=⟨w.heap.size+1+1,2,none⟩) (fun _=>rfl) _).setCell (p:=⟨w.heap.size+1+1,3,none⟩) (fun _=>rfl) _).setCell (p:=⟨w.heap.size+1+1,4,none⟩) (fun _=>rfl) _
 exact zUf
theorem zWL{p:Prop}(h:p:=by have h9:u9.heap.size≤w.heap.size+1:=(HO10.out.lt _ e).1;omega):p:=h
theorem zVq{w:World}{v its:Value}{bn name:QB}{bst bo:Nat}(h:BksAt w v [⟨bn,bst,bo,its⟩])(hits:∃a n c,its= .slice a n c)(nx:Nat)(hb:zK name=true)(hlt:bLt bn name)(now:Nat):Calls prog 24 #[.agg #[v,.int .u64 nx],.string name,.int .u64 now] w fun e w'=>∃v',e= .returned (.tuple #[.agg #[v',.int .u64 nx],.int .i64 0])∧BksAt w' v' [⟨bn,bst,bo,its⟩,⟨name,0,now,.slice none 0 0⟩]∧Below w.heap.size w w':=by
 obtain⟨i0,hi0,hz0,hz1,hz2⟩:=info_parts zNU
 have HI:=Hd hi0
 have Hz0:=Hd hz0
 have Hz1:=Hd hz1
 have Hz2:=Hd hz2
 have hn16:name.size≤16:=by exact zQ7
 have HB:=Hd (k8 name (by omega))
 rw[zG3,hb]at HB
 obtain⟨ia,n,ic,rfl⟩:=hits
 have hrow:w.ownsRow 0 153 8 v 1 (bkR ⟨bn,bst,bo,.slice ia n ic⟩):=h
 obtain⟨gs,cs,hv,hc1,hc2,hgB⟩:=zH hrow (by decide)
 subst hv
 have HRow:=Hd hrow
 have HAt:=Hd (fun(u:World)(hu:Below w.heap.size w u)=>zAw (h.still hu) (by simp) nx name)
 have e0:atF name [⟨bn,bst,bo,.slice ia n ic⟩] 0= -1:=by unfold atF;rw[if_neg (fun e=>by have e:bn=name:=e;rw[e]at hlt;exact zQ _ hlt)];rfl
 rw[e0]at HAt
 have e5:Op.bytesLess name.toList bn.toList=false:=by rw[xE];exact decide_eq_false (yB hlt)
 have hx0:((w.alloc (.cells #[.slice (some ⟨gs,0,none⟩) 1 cs,.int .u64 nx] 53)).alloc (.cells #[.slice none 0 0,.int .u64 0] 53)).heap[w.heap.size]? =some (.cells #[.slice (some ⟨gs,0,none⟩) 1 cs,.int .u64 nx] 53 (0,0)):=alloc_old (zN rfl)
 have hx1:((w.alloc (.cells #[.slice (some ⟨gs,0,none⟩) 1 cs,.int .u64 nx] 53)).alloc (.cells #[.slice none 0 0,.int .u64 0] 53)).heap[w.heap.size+1]? =some (.cells #[.slice none 0 0,.int .u64 0] 53 (0,0)):=zN (by simp)
 have hb1:Below w.heap.size w ((w.alloc (.cells #[.slice (some ⟨gs,0,none⟩) 1 cs,.int .u64 nx] 53)).alloc (.cells #[.slice none 0 0,.int .u64 0] 53)):=(qA).alloc (by simp) _
 obtain⟨⟨m0,m1⟩,-⟩:=zj hx0
 have HX0:=Hd hx0
 have HX1:=Hd hx1
 have HB1:=Hd hb1
 clear hi0 hz0 hz1 hz2 hb hn16 e0 hx0 hx1 hb1 h hrow hlt
 go_enter func24,ntmps24
 go_wp2_with(first|(go_at_call 75;refine(HB.out _).mono ?_;rintro e w1⟨rfl,rfl⟩)|(go_at_call 70;refine(HAt.out _ HB1.out).mono ?_;rintro e w2⟨rfl,hb2⟩;have hb2':=qT HB1.out hb2;have HX0':=Hd (qB hb2 HX0.out);have HX1':=Hd (qB hb2 HX1.out);have HB2:=Hd hb2';have hsz:w.heap.size≤w2.heap.size:=hb2'.size;have hlt1:w.heap.size+1<w2.heap.size:=(Gl HX1'.out);clear hb2 hb2'))
 clear m0 m1
 obtain⟨xb,hxb⟩:=qN w2.heap.size
 rw[hxb]at hsz hlt1⊢
 obtain⟨u9,hu9⟩:=qN (w2.alloc (.cells #[.string name,.int .i64 0,.int .u64 now,.bool false,.string ⟨#[]⟩,.int .u64 0,.slice none 0 0,.slice none 0 0] 153))
 have hxs:u9.heap[xb]? =some (.cells #[.string name,.int .i64 0,.int .u64 now,.bool false,.string ⟨#[]⟩,.int .u64 0,.slice none 0 0,.slice none 0 0] 153 (0,0)):=by rw[←hu9];exact zN hxb
 have hbs:Below w.heap.size w u9:=by rw[←hu9];exact HB2.out.alloc HB2.out.size _
 have hx0:u9.heap[w.heap.size]? =some (.cells #[.slice (some ⟨gs,0,none⟩) 1 cs,.int .u64 nx] 53 (0,0)):=by rw[←hu9];exact alloc_old HX0'.out
 have hx1:u9.heap[w.heap.size+1]? =some (.cells #[.slice none 0 0,.int .u64 0] 53 (0,0)):=by rw[←hu9];exact alloc_old HX1'.out
 rw[hu9]
 have HX9:=Hd hxs
 have HM9:=Hd hx0
 have HR9:=Hd hx1
 have HB9:=Hd hbs
 have HXl:=Hd (Gl hxs)
 obtain⟨⟨m0,m1⟩,m2,m3⟩:=zj hx0
 obtain⟨d0,d1,d2,d3,d4,d5,d6,d7⟩:=zG0 ((Keep.still hbs).ownsRow HRow.out (fun _ _ e=>e))
 simp only at d0 d1 d2 d6
 have hge:w.heap.size+1<u9.heap.size:=by have:=HXl.out;omega
 clear hxs hbs hx0 hx1 hu9 hxb HX0' HX1' HB2
 refine wp_loop_rounds 2 ?_
 rw[rounds_succ]
 go_wp2_with(at_builtin;refine wpList_append_own_at _ (by rfl) _ _ 51 (by rfl) u9.heap.size 153 i0 (.agg #[.string ⟨#[]⟩,.int .i64 0,.int .u64 0,.bool false,.string ⟨#[]⟩,.int .u64 0,.slice none 0 0,.slice none 0 0]) 8 112 underlying51 HI.out Hz0.out Hz1.out Hz2.out (by rfl) (by decide) (.slice none 0 0) _ _ (by rfl) ((World.ownsRow_nil u9 _ _ _).alloc _) ⟨u9.heap.size,0,none⟩ 1 1 [.string bn,.int .i64 bst,.int .u64 bo,.bool false,.string ⟨#[]⟩,.int .u64 0,.slice ia n ic,.slice none 0 0] (by rfl) (by rfl) (World.news_of_block (cs:= #[.string bn,.int .i64 bst,.int .u64 bo,.bool false,.string ⟨#[]⟩,.int .u64 0,.slice ia n ic,.slice none 0 0]) (t:=153) (fr:=(0,0)) (qH u9 _)) (by simp[Value.oneCell']) (by unfold maxLen;omega) (by omega) ?_ ?_;(·simp);intro v8 w8 hown8 hg8 hnil8 hloc8;have hk8:=((Keep.refl (fun q=>Value.ownBlock (.slice none 0 0)=some q) u9).alloc (.cells #[.string bn,.int .i64 bst,.int .u64 bo,.bool false,.string ⟨#[]⟩,.int .u64 0,.slice ia n ic,.slice none 0 0] 153)).grown hg8 (fun q _ e=>e);have HB8:=Hd (show Below u9.heap.size u9 w8 from hk8.below (Qn _) (fun z hz e=>by cases e));obtain⟨p8,c8,hv8⟩:=zA hown8;subst hv8;have HO8:=Hd (show w8.ownsRow u9.heap.size 153 8 (.slice p8 1 c8) 1 (bkR ⟨bn,bst,bo,.slice ia n ic⟩)from hown8);have xm:=qB HB8.out HM9.out;have xr:=qB HB8.out HR9.out;have xs:=(HB8.out.block _ HXl.out).trans HX9.out;have HXm:=Hd xm;have HXr:=Hd xr;have HXs:=Hd xs;have hge8:u9.heap.size≤w8.heap.size:=HB8.out.size;clear m0 m1 m2 m3 d0 d1 d2 d3 d4 d5 d6 d7;obtain⟨⟨m0,m1⟩,m2,m3⟩:=zj xm;obtain⟨⟨z0,z1,z2,z3,z4,z5,z6,z7⟩,y0,y1,y2,y3,y4,y5,y6,y7⟩:=zEz xs;clear hown8 hg8 hnil8 hloc8 hk8 xm xr xs)
 rw[rounds_succ]
 go_wp2_with(at_builtin;refine wpList_append_own_at _ (by rfl) _ _ 51 (by rfl) u9.heap.size 153 i0 (.agg #[.string ⟨#[]⟩,.int .i64 0,.int .u64 0,.bool false,.string ⟨#[]⟩,.int .u64 0,.slice none 0 0,.slice none 0 0]) 8 112 underlying51 HI.out Hz0.out Hz1.out Hz2.out (by rfl) (by decide) (.slice p8 1 c8) _ _ (by rfl) (HO8.out.alloc _) ⟨w8.heap.size,0,none⟩ 1 1 [.string name,.int .i64 0,.int .u64 now,.bool false,.string ⟨#[]⟩,.int .u64 0,.slice none 0 0,.slice none 0 0] (by rfl) (by rfl) (World.news_of_block (cs:= #[.string name,.int .i64 0,.int .u64 now,.bool false,.string ⟨#[]⟩,.int .u64 0,.slice none 0 0,.slice none 0 0]) (t:=153) (fr:=(0,0)) (qH w8 _)) (by simp[Value.oneCell']) (by unfold maxLen;omega) (by omega) ?_ ?_;(·simp;omega);intro v10 w10 hown10 hg10 hnil10 hloc10;have hk10:=((Keep.refl (fun q=>(Value.slice p8 1 c8).ownBlock=some q) w8).alloc (.cells #[.string name,.int .i64 0,.int .u64 now,.bool false,.string ⟨#[]⟩,.int .u64 0,.slice none 0 0,.slice none 0 0] 153)).grown hg10 (fun q _ e=>e);have HB10:=Hd (show Below u9.heap.size w8 w10 from hk10.below hge8 (fun z hz e=>by have:=(HO8.out.lt z e).1;omega));obtain⟨p10,c10,hv10⟩:=zA hown10;subst hv10;have HO10:=Hd (show w10.ownsRow u9.heap.size 153 8 (.slice p10 2 c10) 2 (bkV [⟨bn,bst,bo,.slice ia n ic⟩,⟨name,0,now,.slice none 0 0⟩])from hown10);have xm:=(HB10.out.block w.heap.size (by omega)).trans HXm.out;have xr:=(HB10.out.block (w.heap.size+1) (by omega)).trans HXr.out;have HXr10:=Hd xr;clear m0 m1 m2 m3 z0 z1 z2 z3 z4 z5 z6 z7 y0 y1 y2 y3 y4 y5 y6 y7;obtain⟨⟨m0,m1⟩,m2,m3⟩:=zj xm;obtain⟨⟨r0,r1⟩,r2,r3⟩:=zj xr;clear hown10 hg10 hnil10 hloc10 hk10 xm xr)
 have hk1:Keep (fun q=>q=w.heap.size) w10 (w10.setCell ⟨w.heap.size,0,none⟩ (.slice p10 2 c10)):=(Keep.refl (fun q=>q=w.heap.size) w10).setCell (p:=⟨w.heap.size,0,none⟩) (fun _=>rfl) _
 have x1:=hk1.at HXr10.out (by omega)
 have x2:=heap_setCell_same _ (w.heap.size+1) 0 _ _ (.slice p10 2 c10) x1
 have x3:=heap_setCell_same _ (w.heap.size+1) 1 _ _ (.int .u64 nx) x2
 have q1:=ownsRow_setCell_other HO10.out (a:=⟨w.heap.size,0,none⟩) (fun e=>by have h9:u9.heap.size≤w.heap.size:=(HO10.out.lt _ e).1;omega) (.slice p10 2 c10)
 have q2:=ownsRow_setCell_other q1 (a:=⟨w.heap.size+1,0,none⟩) (fun e=>by exact zWL) (.slice p10 2 c10)
 have q3:=ownsRow_setCell_other q2 (a:=⟨w.heap.size+1,1,none⟩) (fun e=>by exact zWL) (.int .u64 nx)
 have hb2:=((((qT HB9.out HB8.out).trans (HB10.out.mono (by omega))).setCell (p:=⟨w.heap.size,0,none⟩) (Qn _) (.slice p10 2 c10)).setCell (p:=⟨w.heap.size+1,0,none⟩) (by show w.heap.size≤w.heap.size+1;omega) (.slice p10 2 c10)).setCell (p:=⟨w.heap.size+1,1,none⟩) (by show w.heap.size≤w.heap.size+1;omega) (.int .u64 nx)
 refine bodyPost_ret (zBp rfl _ _ (w.heap.size+1) _ _ _ _ rfl x3 underlying53 rfl (by kernel_rfl)) rfl ?_
 exact⟨_,rfl,zBJ q3,hb2⟩
end
section
open Go.ChangeShapes Go.WideShapes Go.ChangeAt Go.RowKit
theorem Tryz.own:ownKnob prog.godebug=none:=by
 kernel_rfl
theorem Tryz.laidOut:laidOutB prog=true:=by
 kernel_rfl
theorem zL4{H:Type}{enc:TypeId×Value→H}{f:Func}{s:ChangeSpec}{fresh handsOn:Bool}{W W':World}{t0 t1:TypeId}{v0 v1:Value}{d0 d1:DataW H}{p0 p1:List MemPlace}(hf:f.params= #[t0,t1])(hr:f.resultTypes= #[4])(hvars:s.vars=[])(hs:s.fn H ([d0,d1]++[])={results:=[.lit (.bool true)],args:=[d0,d1]})(hW:DataW.Whole enc prog f.params.toList s.vars false W (#[v0,v1]:Array Value).toList [d0,d1] [] (p0++p1))(h0:DataW.Trod enc prog W 0 (fun _=>true) true t0 v0 d0 p0)(h1:DataW.Trod enc prog W 0 (fun _=>true) true t1 v1 d1 p1)(r0:prog.readableRec t0=true)(z0:t0<prog.types.size)(r1:prog.readableRec t1=true)(z1:t1<prog.types.size)(hb:Below W.heap.size W W'):s.post enc prog f false fresh handsOn false W #[v0,v1] (.bool true) W':=by
 have hlt:=hW.lt
 refine⟨_,_,_,[],p0++p1,[],hW,?_,?_,?_,hb.frame _,fun h=>by cases h⟩
 ·rw[hs,hr];exact trodAll_mk1 (shut_bool underlying4 _)
 ·rw[hs,hf];exact trodAll_mk2 (Below.trod Tryz.laidOut r0 z0 h0 hb (fun x hx=>hlt x (Qm _ hx))) (Below.trod Tryz.laidOut r1 z1 h1 hb (fun x hx=>hlt x (Qr _ hx)))
 ·rw[hs,hvars];rfl
end
section
open Go.ChangeShapes Go.WideShapes Go.ChangeAt Go.RowKit Go.Joins
theorem zIo(b off i:Nat):(⟨b,off,none⟩:Addr).add i=⟨b,off+i,none⟩:=by
 unfold Addr.add
 split<;>simp_all
theorem zGM{H:Type}{enc:TypeId×Value→H}{W:World}{base:Nat}{r:Reach}{t e:TypeId}{v:Value}{d:DataW H}{p:List MemPlace}(C:Nat)(hpos:0<C)(ht:prog.underlying t=some (.slice e))(hC:prog.cellsOf e=C)(hv:Value.okWide prog W r base t v)(h:DataW.Trod enc prog W 0 (fun _=>true) true t v d p):∃(a:Option Addr)(len cap b off:Nat)(cs:Nat→List Value),v= .slice a len cap∧len≤9223372036854775807∧(0<len→a=some ⟨b,off,none⟩∧b<W.heap.size)∧∀k,k<len→(cs k).length=C∧(∀j,j<C→W.cell? ⟨b,off+k*C+j,none⟩=(cs k)[j]?)∧∃n x,DataW.trod enc prog W 0 (fun _=>true) true n e (cs k)=some x:=by
 obtain⟨a0,len,cap,rfl⟩:=okWide_slice ht hv
 obtain⟨fuel,hf⟩:=h
 rcases Go.Deep.open_slice ht hf with⟨hcs,_⟩|⟨a,len',cap',m,n,D,Pl,hcs,_,hl,hm,hmm,_,hi⟩
 ·simp[Value.cells]at hcs;obtain⟨rfl,rfl,rfl⟩:=hcs;exact⟨none,0,0,0,0,fun _=>[],rfl,by omega,fun h=>by omega,fun k h=>by omega⟩
 ·simp[Value.cells]at hcs;obtain⟨rfl,rfl,rfl⟩:=hcs;simp only[if_true]at hmm;rw[hC]at hi;obtain⟨b,off,spot⟩:=a;unfold maxLen at hm;(have hex:∀k,∃cs':List Value,k<len→W.cells? 0 ((⟨b,off,spot⟩:Addr).add (k*C)) C=some cs'∧DataW.trod enc prog W 0 (fun _=>true) true n e cs'=some (D k,Pl k):=fun k=>by by_cases hk:k<len;(·obtain⟨cs',h1,h2⟩:=hi k (by omega);exact⟨cs',fun _=>⟨h1,h2⟩⟩);·exact⟨[],fun h=>absurd h hk⟩);obtain⟨cs,hcs⟩:=Classical.skolem.1 hex;have hcell:∀k,k<len→(cs k).length=C∧∀j,j<C→W.cell? (((⟨b,off,spot⟩:Addr).add (k*C)).add j)=(cs k)[j]? :=fun k hk=>(World.cells?_some (hcs k hk).1).2;(have hspot:0<len→spot=none∧b<W.heap.size:=fun h0=>by obtain⟨h1,h2⟩:=hcell 0 h0;have h3:=h2 0 hpos;rw[Qg (by omega)]at h3;(have hsp:spot=none:=by simpa[Addr.add]using World.cell?_spot h3);subst hsp;have:=World.block_lt_of_cell? _ _ h3;refine⟨rfl,?_⟩;simpa[Addr.add]using this);refine⟨_,len,cap,b,off,cs,rfl,by omega,fun h0=> ?_,fun k hk=>⟨(hcell k hk).1,fun j hj=> ?_,_,_,(hcs k hk).2⟩⟩;(·obtain⟨rfl,hb⟩:=hspot h0;exact⟨rfl,hb⟩);·obtain⟨rfl,hb⟩:=hspot (by omega);rw[←(hcell k hk).2 j hj];rw[zIo,zIo]
def zIp(cs:List Value)(j:Nat):Int:=match cs[j]? with|some (.int _ z)=>z|_=>0
def zHA(cs:List Value)(j:Nat):QB:=match cs[j]? with|some (.string s)=>s|_=>⟨#[]⟩
def zKU(cs:List Value)(j:Nat):Bool:=match cs[j]? with|some (.bool s)=>s|_=>false
theorem zFB{H:Type}{enc:TypeId×Value→H}{W:World}{e:TypeId}{fs:Array Field}(he:prog.underlying e=some (.struct fs))(hone:Go.Deep.oneCellFields prog fs=true){n:Nat}{cs:List Value}{x:DataW H×List MemPlace}(h:DataW.trod enc prog W 0 (fun _=>true) true n e cs=some x)(hl:cs.length=fs.size)(j:Nat)(f:Field)(hj:fs[j]? =some f):∃m u y,cs[j]? =some u∧DataW.trod enc prog W 0 (fun _=>true) true m f.type [u]=some y:=by
 obtain⟨ys,m,_,_,_,hyl,hf⟩:=DataW.trod_struct he h
 obtain⟨ho,hk⟩:=Go.Deep.hone_of hone j f hj
 have hjl:j<fs.size:=(Gl hj)
 have h1:=hf j f hj
 rw[ho,hk,List.drop_eq_getElem_cons (by omega),Qg (by omega)]at h1
 exact⟨m,_,_,Qg (by omega),h1⟩
theorem zL6{H:Type}{enc:TypeId×Value→H}{W:World}{e:TypeId}{fs:Array Field}(he:prog.underlying e=some (.struct fs))(hone:Go.Deep.oneCellFields prog fs=true){n:Nat}{cs:List Value}{x:DataW H×List MemPlace}(h:DataW.trod enc prog W 0 (fun _=>true) true n e cs=some x)(hl:cs.length=fs.size)(j:Nat)(f:Field)(hj:fs[j]? =some f){k:IntKind}(ht:prog.underlying f.type=some (.int k)):cs[j]? =some (.int k (zIp cs j))∧(Lit.int k (zIp cs j)).wf=true:=by
 obtain⟨m,u,y,h1,h2⟩:=zFB he hone h hl j f hj
 obtain⟨z,hz,_,hw⟩:=DataW.trod_int ht h2
 obtain rfl:u= .int k z:=by simpa using hz
 have e1:zIp cs j=z:=by unfold zIp;rw[h1]
 rw[e1]
 exact⟨h1,hw⟩
theorem zAY{H:Type}{enc:TypeId×Value→H}{W:World}{e:TypeId}{fs:Array Field}(he:prog.underlying e=some (.struct fs))(hone:Go.Deep.oneCellFields prog fs=true){n:Nat}{cs:List Value}{x:DataW H×List MemPlace}(h:DataW.trod enc prog W 0 (fun _=>true) true n e cs=some x)(hl:cs.length=fs.size)(j:Nat)(f:Field)(hj:fs[j]? =some f)(ht:prog.underlying f.type=some .string):cs[j]? =some (.string (zHA cs j))∧(zHA cs j).size≤9223372036854775807:=by
 obtain⟨m,u,y,h1,h2⟩:=zFB he hone h hl j f hj
 obtain⟨z,hz,_,hw⟩:=DataW.trod_string ht h2
 obtain rfl:u= .string z:=by simpa using hz
 have e1:zHA cs j=z:=by unfold zHA;rw[h1]
 rw[e1]
 exact⟨h1,hw⟩
theorem zJ7{H:Type}{enc:TypeId×Value→H}{W:World}{e:TypeId}{fs:Array Field}(he:prog.underlying e=some (.struct fs))(hone:Go.Deep.oneCellFields prog fs=true){n:Nat}{cs:List Value}{x:DataW H×List MemPlace}(h:DataW.trod enc prog W 0 (fun _=>true) true n e cs=some x)(hl:cs.length=fs.size)(j:Nat)(f:Field)(hj:fs[j]? =some f)(ht:prog.underlying f.type=some .bool):cs[j]? =some (.bool (zKU cs j)):=by
 obtain⟨m,u,y,h1,h2⟩:=zFB he hone h hl j f hj
 obtain⟨z,hz,_⟩:=DataW.trod_bool ht h2
 obtain rfl:u= .bool z:=by simpa using hz
 have e1:zKU cs j=z:=by unfold zKU;rw[h1]
 rw[e1]
 exact h1
section
variable {H : Type} {enc : TypeId × Value → H} {W : World}
theorem zBq{α:Type}(f:Nat→α)(n k:Nat)(x:α)(h:((List.range n).map f)[k]? =some x):k<n∧x=f k:=by
 rw[List.getElem?_map]at h
 by_cases hk:k<n
 ·rw[List.getElem?_range hk]at h;exact⟨hk,(Option.some.inj h).symm⟩
 ·rw[List.getElem?_eq_none (by simpa using hk)]at h;cases h
end
end
end Go.Proofs.YtaokjeokpifjgaaGreatDoor
namespace Go.Proofs.YtaokjeokpifjgaaGreatDoor.crc
def zUY:Nat:=3988292384
def stp(x:Nat):Nat:=if x %2=1 then x/2^^^zUY else x/2
def it:Nat→Nat→Nat|0,x=>x|n+1,x=>it n (stp x)
theorem zTM:stp 0=0:=rfl
theorem zQk(m n x:Nat):it (m+n) x=it n (it m x):=by
 induction m generalizing x with|zero=>simp[it]|succ m ih=>rw[Nat.succ_add];simp[it,ih]
theorem it_succ(n x:Nat):it (n+1) x=stp (it n x):=zQk n 1 x
theorem zQl(x:Nat)(h:x<4294967296):stp x<4294967296:=by
 unfold stp
 split
 ·exact Nat.xor_lt_two_pow (n:=32) (by omega) (by decide)
 ·omega
theorem it_lt(n x:Nat)(h:x<4294967296):it n x<4294967296:=by
 induction n generalizing x with|zero=>exact h|succ n ih=>exact ih _ (zQl x h)
def upd(s:Nat)(c:Nat):Nat:=it 8 (s^^^c)
def run(s:Nat)(l:List Nat):Nat:=l.foldl upd s
def check(l:List Nat):Nat:=run 4294967295 l^^^4294967295
theorem run_append(s:Nat)(l m:List Nat):run s (l++m)=run (run s l) m:=List.foldl_append ..
theorem zOu{c:Nat}(h:c<256):c<4294967296:=by
 omega
theorem zQm(s c:Nat)(hs:s<4294967296)(hc:c<256):upd s c<4294967296:=it_lt 8 _ (Nat.xor_lt_two_pow (n:=32) hs (zOu hc))
theorem run_lt(s:Nat)(l:List Nat)(hs:s<4294967296)(hl:∀c∈l,c<256):run s l<4294967296:=by
 induction l generalizing s with|nil=>exact hs|cons c l ih=>exact ih _ (zQm s c hs (hl c (by simp))) fun x hx=>hl x (by simp[hx])
end Go.Proofs.YtaokjeokpifjgaaGreatDoor.crc
namespace Go.Proofs.YtaokjeokpifjgaaGreatDoor.flt
open Ieee
open Go.Op (negFloat)
theorem zHz:double.leastPlace= -1074:=by
 decide
theorem zFo:double.binade=4503599627370496:=by
 decide+kernel
theorem zAo:double.infRung=2047*4503599627370496:=by
 decide+kernel
theorem zFp:double.signWeight=9223372036854775808:=by
 decide+kernel
theorem zH0:double.fractionBits=52:=rfl
def B:Nat:=1074
theorem zMw:B=1074:=rfl
def Rep(x:Nat)(n:Int):Prop:=∃s m e,double.read x= .number s m e∧-1074≤e∧signed s m (e+1074).toNat=n*2^B
def Fini(x:Nat):Prop:=∃s m e,double.read x= .number s m e
def Num(x:Nat):Prop:=Fini x∨∃s,double.read x= .infinity s
theorem Rep.fin{x:Nat}{n:Int}(h:Rep x n):Fini x:=let⟨s,m,e,h,_⟩:=h;⟨s,m,e,h⟩
theorem Fini.num{x:Nat}(h:Fini x):Num x:=.inl h
theorem zAS(s:Bool)(r:Nat)(h:r<9223372036854775808):double.read (double.word s r)=if r<4503599627370496 then .number s r (-1074)else if r<2047*4503599627370496 then .number s (4503599627370496+r %4503599627370496) (-1074+(r/4503599627370496-1:Nat))else if r=2047*4503599627370496 then .infinity s else .nan s (r-2047*4503599627370496):=by
 unfold Format.read Format.word
 simp only[zHz,zFo,zAo,zFp]
 cases s
 ·have h1:r/9223372036854775808=0:=Nat.div_eq_of_lt h;have h2:r %9223372036854775808=r:=Nat.mod_eq_of_lt h;simp[h1,h2]
 ·(have h1:(9223372036854775808+r)/9223372036854775808=1:=by omega);(have h2:(9223372036854775808+r)%9223372036854775808=r:=by omega);simp[h1,h2]
theorem zH1(s:Bool)(m:Nat)(e:Int):Num (double.nearest s m e):=by
 unfold Format.nearest
 split
 ·left;rw[Fini,zAS _ _ (by decide)];exact⟨s,0,-1074,rfl⟩
 ·simp only[zAo];generalize((max (e+↑m.log2-↑double.fractionBits) double.leastPlace-double.leastPlace).toNat*double.binade+_)=r;(have hlt:min r (2047*4503599627370496)<9223372036854775808:=by omega);unfold Num Fini;rw[zAS _ _ hlt];by_cases h1:min r (2047*4503599627370496)<4503599627370496;(·rw[if_pos h1];exact .inl ⟨_,_,_,rfl⟩);·rw[if_neg h1];by_cases h2:min r (2047*4503599627370496)<2047*4503599627370496;(·rw[if_pos h2];exact .inl ⟨_,_,_,rfl⟩);·rw[if_neg h2,if_pos (by omega)];exact .inr ⟨_,rfl⟩
theorem zFq(way:Toward)(s:Bool)(k t:Nat):way.cut s (k*2^t) t=k:=by
 unfold Toward.cut
 have h0:0<2^t:=Nat.two_pow_pos t
 by_cases hk:k=0
 ·subst hk;(have hp:0<1<<<min t (Nat.log2 (0*2^t)+2):=by rw[Nat.shiftLeft_eq,Nat.one_mul];exact Nat.two_pow_pos _);cases way<;>simp<;>omega
 ·(have hl:t≤(k*2^t).log2:=by rw[Nat.le_log2 (by exact Nat.mul_ne_zero hk (by omega))];exact Nat.le_mul_of_pos_left _ (by omega));(have hm:min t ((k*2^t).log2+2)=t:=by omega);simp only[hm,Nat.shiftLeft_eq,Nat.one_mul,Nat.mul_mod_left,Nat.mul_div_cancel _ h0];cases way<;>simp<;>omega
theorem log2_two_pow{m:Nat}(hm:m≠0)(p:Nat):(m*2^p).log2=m.log2+p:=by
 induction p with|zero=>simp|succ p ih=>have h:m*2^p≠0:=Nat.mul_ne_zero hm (by have:=Nat.two_pow_pos p;omega);rw[Nat.pow_succ,←Nat.mul_assoc,Nat.mul_comm _ 2,Nat.log2_two_mul h,ih,Nat.add_assoc]
theorem zDU{m p N q:Nat}(hN:N≠0)(h:m*2^p=N*2^q):m≠0∧m.log2+p=N.log2+q:=by
 have hm:m≠0:=by intro hm;subst hm;have:0<N*2^q:=Nat.mul_pos (by omega) (Nat.two_pow_pos _);omega
 refine⟨hm,?_⟩
 have h1:=congrArg Nat.log2 h
 rwa [log2_two_pow hm,log2_two_pow hN]at h1
theorem zAp{a b k:Nat}(h:a*2^k=b*2^k):a=b:=Nat.eq_of_mul_eq_mul_right (Nat.two_pow_pos k) h
theorem zMx(K kept:Nat)(hK:K≤53)(h2:kept<9007199254740992):min ((K+1022)*4503599627370496+kept) (2047*4503599627370496)=(K+1022)*4503599627370496+kept:=Nat.min_eq_left (by omega)
theorem zMy(K kept:Nat)(h1:4503599627370496≤kept)(h2:kept<9007199254740992):4503599627370496+((K+1022)*4503599627370496+kept)%4503599627370496=kept:=by
 omega
theorem zMz(K kept:Nat)(h1:4503599627370496≤kept)(h2:kept<9007199254740992):((K+1022)*4503599627370496+kept)/4503599627370496=K+1023:=by
 omega
theorem zLH(s:Bool)(K kept:Nat)(hK:K≤53)(h1:4503599627370496≤kept)(h2:kept<9007199254740992):double.read (double.word s (min ((K+1022)*double.binade+kept) double.infRung))= .number s kept ((K:Int)-52):=by
 rw[zFo,zAo,zMx K kept hK h2]
 rw[zAS _ _ (by omega),if_neg (by omega),if_pos (by omega),zMy K kept h1 h2,zMz K kept h1 h2]
 rw[show(-1074+((K+1023-1:Nat):Int))=(K:Int)-52 by omega]
theorem zOv{N:Nat}(hN:N≠0)(hN2:N≤9007199254740992):N.log2≤53:=by
 have:N.log2<54:=(Nat.log2_lt hN).2 (Nat.lt_of_le_of_lt hN2 (by decide+kernel))
 omega
theorem zM0{N:Nat}(hN:N≠0)(hN2:N≤9007199254740992)(h:N.log2=53):N=2^53:=by
 have:=Nat.log2_self_le hN
 rw[h]at this
 have e2:(2:Nat)^53=9007199254740992:=by decide+kernel
 omega
theorem zOw{n:Nat}(hn:n≠0)(h:n.log2=52):4503599627370496≤n∧n<9007199254740992:=by
 have h1:=Nat.log2_self_le hn
 have h2:=Nat.lt_log2_self (n:=n)
 rw[h]at h1 h2
 have e1:(2:Nat)^52=4503599627370496:=by decide+kernel
 have e2:(2:Nat)^(52+1)=9007199254740992:=by decide+kernel
 omega
theorem zM1(s:Bool)(m p N K:Nat)(hK:N.log2=K)(hK53:K≤53)(hN3:K=53→N=2^53)(h:m*2^p=N*2^B):∃kept,Toward.even.cut s (m<<<((p:Int)-1074-((K:Int)-52)).toNat) ((K:Int)-52-((p:Int)-1074)).toNat=kept∧kept*2^(K+1022)=N*2^B:=by
 by_cases hc:K+1022≤p
 ·(have e1:((p:Int)-1074-((K:Int)-52)).toNat=p-(K+1022):=by omega);(have e2:((K:Int)-52-((p:Int)-1074)).toNat=0:=by omega);rw[e1,e2];have:=zFq .even s (m<<<(p-(K+1022))) 0;rw[Nat.pow_zero,Nat.mul_one]at this;rw[this];refine⟨_,rfl,?_⟩;rw[Nat.shiftLeft_eq,Nat.mul_assoc,←Nat.pow_add,show p-(K+1022)+(K+1022)=p by omega,h]
 ·(have e1:((p:Int)-1074-((K:Int)-52)).toNat=0:=by omega);obtain⟨t,ht⟩:∃t,K+1022=p+t:=⟨K+1022-p,by omega⟩;(have e2:((K:Int)-52-((p:Int)-1074)).toNat=t:=by omega);rw[e1,e2,Nat.shiftLeft_zero];(obtain⟨k,hk⟩:∃k,m=k*2^t:=by by_cases h52:K≤52;(·refine⟨N*2^(52-K),zAp (k:=p) ?_⟩;(have e:52-K+(t+p)=B:=by have:=zMw;omega);rw[h,Nat.mul_assoc,Nat.mul_assoc,←Nat.pow_add,←Nat.pow_add,e]);·refine⟨2^52,zAp (k:=p) ?_⟩;(have e:53+B=52+(t+p):=by have:=zMw;omega);rw[h,hN3 (by omega),Nat.mul_assoc,←Nat.pow_add,←Nat.pow_add,←Nat.pow_add,e]);rw[hk,zFq];refine⟨_,rfl,?_⟩;rw[ht,Nat.pow_add,Nat.mul_comm (2^p),←Nat.mul_assoc,←hk,h]
theorem zGh(s:Bool)(m:Nat)(e:Int)(N:Nat)(hN:N≠0)(hN2:N≤9007199254740992)(he: -1074≤e)(h:m*2^(e+1074).toNat=N*2^B):∃m' e',double.read (double.nearest s m e)= .number s m' e'∧-1074≤e'∧m'*2^(e'+1074).toNat=N*2^B:=by
 obtain⟨hm,hlog⟩:=zDU hN h
 have hK:=zOv hN hN2
 have h53:=zM0 hN hN2
 obtain⟨p,rfl⟩:∃p:Nat,e=(p:Int)-1074:=⟨(e+1074).toNat,by omega⟩
 have hp:((p:Int)-1074+1074).toNat=p:=by omega
 rw[hp]at h hlog
 unfold Format.nearest
 rw[if_neg hm]
 simp only[zHz,zH0]
 have hlast:max ((p:Int)-1074+(m.log2:Int)-((52:Nat):Int)) (-1074)=(N.log2:Int)-52:=by have:=zMw;omega
 rw[hlast]
 obtain⟨kept,hkept,hk⟩:=zM1 s m p N N.log2 rfl hK h53 h
 rw[hkept]
 obtain⟨hkn,hk0⟩:=zDU hN hk
 obtain⟨hk1,hk2⟩:=zOw hkn (by have:=zMw;omega)
 have e3:((N.log2:Int)-52- -1074).toNat=N.log2+1022:=by omega
 rw[e3,zLH s _ kept hK hk1 hk2]
 refine⟨_,_,rfl,by omega,?_⟩
 have e6:((N.log2:Int)-52+1074).toNat=N.log2+1022:=by omega
 rw[e6,hk]
theorem zw(s:Bool)(m a:Nat):signed s m a=(if s then-1 else 1)*((m*2^a:Nat):Int):=by
 unfold signed
 rw[Nat.shiftLeft_eq]
 cases s<;>simp
theorem zJX(s:Bool)(m a b:Nat):signed s m (a+b)=signed s m a*2^b:=by
 rw[zw,zw,Nat.pow_add,←Nat.mul_assoc,Int.natCast_mul (m*2^a),Int.natCast_pow,Int.mul_assoc]
 rfl
theorem vi(b:Nat):(0:Int)<2^b:=Int.pow_pos (by decide)
theorem zJY(b:Nat):(2:Int)^b≠0:=by
 have:=vi b
 omega
theorem _root_.Go.Proofs.YtaokjeokpifjgaaGreatDoor.djsg{p:Prop}(h:p:=by have h2:=congrArg Int.natAbs h;rw[Int.natAbs_mul,Int.natAbs_mul,Int.natAbs_natCast,Int.natAbs_pow]at h2;cases s<;>simpa using h2):p:=h
theorem zFr(s:Bool)(m:Nat)(e:Int)(n:Int)(hn:n.natAbs≤9007199254740992)(he: -1074≤e)(h:signed s m (e+1074).toNat=n*2^B):Rep (double.write (.number s m e)) n:=by
 show Rep (double.nearest s m e) n
 have hz:∀x:Int,(if s then(-1:Int)else 1)*x=0→x=0:=by intro x hx;cases s<;>simp at hx<;>exact hx
 by_cases h0:n=0
 ·subst h0;(have hm:m=0:=by rw[zw,Int.zero_mul]at h;have h1:=hz _ h;have h2:m*2^(e+1074).toNat=0:=Int.ofNat_eq_zero.1 h1;rcases Nat.mul_eq_zero.1 h2 with h3|h3;(·exact h3);·have:=Nat.two_pow_pos (e+1074).toNat;omega);subst hm;unfold Format.nearest;rw[if_pos rfl];refine⟨s,0,-1074,?_,by omega,?_⟩;(·rw[zAS _ _ (by decide),if_pos (by decide)]);·rw[zw,Nat.zero_mul,Int.zero_mul,Int.natCast_zero,Int.mul_zero]
 ·rw[zw]at h;have hp:=vi B;(have hs:s=decide (n<0):=by cases s;(·simp only[Bool.false_eq_true,if_false,Int.one_mul]at h;(have h1:0≤n*2^B:=by rw[←h];exact Int.natCast_nonneg _);have:=Int.nonneg_of_mul_nonneg_left h1 hp;exact(decide_eq_false (by omega)).symm);·simp only[if_true,Int.neg_mul,Int.one_mul]at h;(have h1:0≤(-n)*2^B:=by rw[Int.neg_mul,←h,Int.neg_neg];exact Int.natCast_nonneg _);have:=Int.nonneg_of_mul_nonneg_left h1 hp;exact(decide_eq_true (by omega)).symm);(have hN:m*2^(e+1074).toNat=n.natAbs*2^B:=by exact djsg);obtain⟨m',e',h1,h2,h3⟩:=zGh s m e n.natAbs (by omega) hn he hN;refine⟨s,m',e',h1,h2,?_⟩;rw[zw,h3];rw[Int.natCast_mul,Int.natCast_pow,←Int.mul_assoc];congr 1;subst hs;by_cases hneg:n<0<;>simp[hneg]<;>omega
theorem zAq(s:Bool)(m:Nat)(i base:Int)(hb:base≤i)(h0: -1074≤base):signed s m (i-base).toNat*2^(base+1074).toNat=signed s m (i+1074).toNat:=by
 rw[←zJX]
 congr 1
 omega
theorem zBm(z:Bool)(total:Int)(a:Nat):signed (if total=0 then z else decide (total<0)) total.natAbs a=total*2^a:=by
 rw[zw,Int.natCast_mul,Int.natCast_pow,←Int.mul_assoc]
 congr 1
 by_cases h0:total=0
 ·subst h0;simp
 ·rw[if_neg h0];by_cases hneg:total<0<;>simp[hneg]<;>omega
theorem zKH(s t:Bool)(m n:Nat)(i j:Int)(a b:Int)(hi: -1074≤i)(hj: -1074≤j)(ha:signed s m (i+1074).toNat=a*2^B)(hb:signed t n (j+1074).toNat=b*2^B)(h:(a+b).natAbs≤9007199254740992):∃r,((Datum.number s m i).sum (Datum.number t n j)).map double.write=some r∧Rep r (a+b):=by
 refine⟨_,rfl,?_⟩
 refine zFr _ _ _ _ h (by omega) ?_
 rw[show(decide (signed s m (i-min i j).toNat+signed t n (j-min i j).toNat<0))=decide (signed s m (i-min i j).toNat+signed t n (j-min i j).toNat<0)from rfl,zBm,Int.add_mul,zAq _ _ _ _ (by omega) (by omega),zAq _ _ _ _ (by omega) (by omega),ha,hb,Int.add_mul]
theorem zOx{x y:Nat}{a b:Int}(hx:Rep x a)(hy:Rep y b)(h:(a+b).natAbs≤9007199254740992):∃r,double.add x y=some r∧Rep r (a+b):=by
 obtain⟨s,m,i,h1,h2,h3⟩:=hx
 obtain⟨t,n,j,h4,h5,h6⟩:=hy
 unfold Format.add
 rw[h1,h4]
 exact zKH s t m n i j a b h2 h5 h3 h6 h
theorem zEf(s:Bool)(m a:Nat):signed (!s) m a= -signed s m a:=by
 rw[zw,zw]
 cases s<;>simp
theorem zOy{x y:Nat}{a b:Int}(hx:Rep x a)(hy:Rep y b)(h:(a-b).natAbs≤9007199254740992):∃r,double.sub x y=some r∧Rep r (a-b):=by
 obtain⟨s,m,i,h1,h2,h3⟩:=hx
 obtain⟨t,n,j,h4,h5,h6⟩:=hy
 unfold Format.sub
 rw[h1,h4]
 exact zKH s (!t) m n i j a (-b) h2 h5 h3 (by rw[zEf,h6,Int.neg_mul]) h
theorem zOz(x:Nat):(x^^^9223372036854775808)/9223372036854775808=x/9223372036854775808^^^1:=by
 have h:=Nat.shiftRight_xor_distrib (a:=x) (b:=9223372036854775808) (i:=63)
 rw[Nat.shiftRight_eq_div_pow,Nat.shiftRight_eq_div_pow,Nat.shiftRight_eq_div_pow]at h
 simpa using h
theorem zO0(x:Nat):(x^^^9223372036854775808)%9223372036854775808=x %9223372036854775808:=by
 have h:=Nat.xor_mod_two_pow (a:=x) (b:=9223372036854775808) (n:=63)
 simpa using h
theorem zH2(x:Nat):(x^^^1)%2=1-x %2:=by
 have h:=Nat.xor_mod_two_pow (a:=x) (b:=1) (n:=1)
 simp only[Nat.pow_one]at h
 rw[h]
 rcases Nat.mod_two_eq_zero_or_one x with hx|hx<;>simp[hx]
theorem zH3(x:Nat):double.read (negFloat .f64 x)=(double.read x).opposite:=by
 unfold negFloat
 have e:(2:Nat)^(FloatKind.f64.format.exponentBits+FloatKind.f64.format.fractionBits)=9223372036854775808:=by decide+kernel
 rw[e]
 unfold Format.read
 simp only[zFp,zOz,zO0,zH2]
 have hs:(1-x/9223372036854775808 %2==1)= !(x/9223372036854775808 %2==1):=by rcases Nat.mod_two_eq_zero_or_one (x/9223372036854775808)with hx|hx<;>simp[hx]
 rw[hs]
 split
 ·rfl
 ·split;(·rfl);·split<;>rfl
theorem zKI{x:Nat}{a:Int}(hx:Rep x a):Rep (negFloat .f64 x) (-a):=by
 obtain⟨s,m,i,h1,h2,h3⟩:=hx
 refine⟨!s,m,i,?_,h2,?_⟩
 ·rw[zH3,h1];rfl
 ·rw[zEf,h3,Int.neg_mul]
theorem zGi(n:Int)(h:n.natAbs≤9007199254740992):Rep (floatOfInt .f64 n) n:=by
 refine zFr _ _ _ _ h (by omega) ?_
 have:=zBm false n (0+1074:Int).toNat
 by_cases h0:n=0
 ·subst h0;rw[zw,Int.natAbs_zero,Nat.zero_mul,Int.natCast_zero,Int.mul_zero,Int.zero_mul]
 ·rw[if_neg h0]at this;exact this
theorem rep_zero:Rep 0 0:=by
 refine⟨false,0,-1074,?_,by omega,?_⟩
 ·decide+kernel
 ·rw[zw,Nat.zero_mul,Int.natCast_zero,Int.mul_zero,Int.zero_mul]
theorem zO1{x:Nat}(h:Fini x):Fini (negFloat .f64 x):=by
 obtain⟨s,m,e,h⟩:=h
 exact⟨!s,m,e,by rw[zH3,h];rfl⟩
theorem zGj(s:Bool):Num (double.word s double.infRung):=by
 right
 refine⟨s,?_⟩
 rw[zAo,zAS _ _ (by omega),if_neg (by omega),if_neg (by omega),if_pos rfl]
theorem zFs{d:Datum}(h:(∃s m e,d= .number s m e)∨∃s,d= .infinity s):Num (double.write d):=by
 rcases h with⟨s,m,e,rfl⟩|⟨s,rfl⟩
 ·exact zH1 s m e
 ·exact zGj s
theorem _root_.Go.Proofs.YtaokjeokpifjgaaGreatDoor.d75e{p:Prop}(h:p:=by rw[h4];rcases hx with⟨s,m,i,h1⟩|⟨s,h1⟩;(·rw[h1];exact⟨_,rfl,zFs (.inl ⟨_,_,_,rfl⟩)⟩);·rw[h1];exact⟨_,rfl,zFs (.inr ⟨_,rfl⟩)⟩):p:=h
theorem num_add{x y:Nat}(hx:Num x)(hy:Fini y):∃r,double.add x y=some r∧Num r:=by
 obtain⟨t,n,j,h4⟩:=hy
 unfold Format.add
 exact d75e
theorem zO2{x y:Nat}(hx:Num x)(hy:Fini y):∃r,double.sub x y=some r∧Num r:=by
 obtain⟨t,n,j,h4⟩:=hy
 unfold Format.sub
 exact d75e
theorem zDV(a b k:Int)(hk:0<k):compare (a*k) (b*k)=compare a b:=by
 rcases Int.lt_trichotomy a b with h|h|h
 ·have:a*k<b*k:=Int.mul_lt_mul_of_pos_right h hk;rw[Int.compare_eq_lt.2 this,Int.compare_eq_lt.2 h]
 ·subst h;rw[Int.compare_eq_eq.2 rfl,Int.compare_eq_eq.2 rfl]
 ·have:b*k<a*k:=Int.mul_lt_mul_of_pos_right h hk;rw[Int.compare_eq_gt.2 this,Int.compare_eq_gt.2 h]
theorem zBV{x y:Nat}{a b:Int}(hx:Rep x a)(hy:Rep y b):double.order x y=some (compare a b):=by
 obtain⟨s,m,i,h1,h2,h3⟩:=hx
 obtain⟨t,n,j,h4,h5,h6⟩:=hy
 unfold Format.order
 rw[h1,h4]
 show some (compare (signed s m (i-min i j).toNat) (signed t n (j-min i j).toNat))=_
 rw[←zDV _ _ (2^(min i j+1074).toNat) (vi _),zAq _ _ _ _ (by omega) (by omega),zAq _ _ _ _ (by omega) (by omega),h3,h6,zDV _ _ _ (vi _)]
theorem zM2(s:Bool)(n t:Nat):Toward.zero.cut s n t=n/2^t:=by
 unfold Toward.cut
 simp only[Bool.toNat_false,Nat.add_zero,Nat.shiftLeft_eq,Nat.one_mul]
 by_cases h:t≤n.log2+2
 ·rw[Nat.min_eq_left h]
 ·have h3:=Nat.lt_log2_self (n:=n);rw[Nat.min_eq_right (by omega)];rw[Nat.div_eq_of_lt (Qt h3 (Nat.pow_le_pow_right (by decide) (by omega)))];rw[Nat.div_eq_of_lt (Qt h3 (Nat.pow_le_pow_right (by decide) (by omega)))]
theorem zGk(s:Bool)(m:Nat)(e:Int):(Datum.number s m e).toInt .zero=some (signed s (m*2^e.toNat/2^(-e).toNat) 0):=by
 show some (signed s (Toward.zero.cut s (m<<<e.toNat) (-e).toNat) 0)=_
 rw[zM2,Nat.shiftLeft_eq]
theorem zO3:IntKind.i64.min= -9223372036854775808:=by
 decide+kernel
theorem max_i64:IntKind.i64.max=9223372036854775807:=by
 decide+kernel
theorem zO4(m N:Nat)(e:Int)(he: -1074≤e)(h:m*2^(e+1074).toNat=N*2^B):m*2^e.toNat/2^(-e).toNat=N:=by
 have hB:=zMw
 by_cases h0:0≤e
 ·(have e1:(-e).toNat=0:=by omega);rw[e1,Nat.pow_zero,Nat.div_one];(have e2:(e+1074).toNat=e.toNat+B:=by omega);rw[e2,Nat.pow_add,←Nat.mul_assoc]at h;exact zAp h
 ·(have e1:e.toNat=0:=by omega);rw[e1,Nat.pow_zero,Nat.mul_one];(have e2:B=(-e).toNat+(e+1074).toNat:=by omega);rw[e2,Nat.pow_add,←Nat.mul_assoc]at h;rw[zAp h];exact Nat.mul_div_cancel _ (Nat.two_pow_pos _)
theorem zDA{s:Bool}{m a:Nat}{n:Int}(h:signed s m a=n*2^B):m*2^a=n.natAbs*2^B:=by
 rw[zw]at h
 exact djsg
theorem zFt{x:Nat}{n:Int}(h:Rep x n)(hn:n.natAbs≤9007199254740992):floatToIntVal .f64 x .i64=some n:=by
 obtain⟨s,m,e,h1,h2,h3⟩:=h
 have hN:=zDA h3
 have hc:=zO4 m n.natAbs e h2 hN
 unfold floatToIntVal
 rw[show FloatKind.f64.decode x= .number s m e from h1,zGk,hc]
 have hs:signed s n.natAbs 0=n:=by rw[zw,hN]at h3;rw[zw,Nat.pow_zero,Nat.mul_one];rw[Int.natCast_mul,Int.natCast_pow,←Int.mul_assoc]at h3;exact Int.eq_of_mul_eq_mul_right (zJY B) h3
 rw[hs]
 simp only[zO3,max_i64]
 rw[if_pos (by omega)]
end Go.Proofs.YtaokjeokpifjgaaGreatDoor.flt
namespace Go.Proofs.YtaokjeokpifjgaaGreatDoor.SealG
theorem zO5{k:IntKind}{a b:Int}(h:a=b):Ending.returned (.int k a)= .returned (.int k b):=by
 rw[h]
theorem zFu(n:Int)(h₀:0≤n)(h₁:n<2^32):IntKind.u32.wrap n=n:=by
 rw[IntKind.wrap_u32]
 omega
theorem zGl(a b:Nat)(ha:a<4294967296)(hb:b<4294967296):bits .and .u32 a b=((a&&&b:Nat):Int):=(bits_nat .u32 32 (by decide) zFu a b ha hb).1
theorem vl(a b:Nat)(ha:a<4294967296)(hb:b<4294967296):bits .xor .u32 a b=((a^^^b:Nat):Int):=by
 have ha':a %2^IntKind.u32.bits=a:=Nat.mod_eq_of_lt ha
 have hb':b %2^IntKind.u32.bits=b:=Nat.mod_eq_of_lt hb
 have hx:a^^^b<4294967296:=Nat.xor_lt_two_pow (n:=32) ha hb
 simp only[bits,BitVec.ofInt_natCast,BitVec.toNat_xor,BitVec.toNat_ofNat,ha',hb']
 exact zFu _ (Int.natCast_nonneg _) (by omega)
theorem zVQ(a b:Nat)(ha:a<18446744073709551616)(hb:b<18446744073709551616):bits .xor .u64 a b=((a^^^b:Nat):Int):=bits_xor_u64_nat a b ha hb
end Go.Proofs.YtaokjeokpifjgaaGreatDoor.SealG
namespace Go.Proofs.YtaokjeokpifjgaaGreatDoor.SealG
open Go.RowKit
end Go.Proofs.YtaokjeokpifjgaaGreatDoor.SealG
namespace Go.Proofs.YtaokjeokpifjgaaGreatDoor.SealG
open Go.RowKit
open Go.Op (negFloat)
open flt
def zCe(x y:Nat):Nat:=(Ieee.double.add x y).getD 0
def zLI(x y:Nat):Nat:=(Ieee.double.sub x y).getD 0
theorem zCf{x y:Nat}(hx:Num x)(hy:Fini y):floatBits .add .f64 x y=some (zCe x y):=by
 obtain⟨r,h,_⟩:=num_add hx hy
 show Ieee.double.add x y=_
 rw[h,zCe,h]
 rfl
theorem zH4{x y:Nat}(hx:Num x)(hy:Fini y):Num (zCe x y):=by
 obtain⟨r,h,hr⟩:=num_add hx hy
 rw[zCe,h]
 exact hr
theorem zH5{x y:Nat}(hx:Num x)(hy:Fini y):floatBits .sub .f64 x y=some (zLI x y):=by
 obtain⟨r,h,_⟩:=zO2 hx hy
 show Ieee.double.sub x y=_
 rw[h,zLI,h]
 rfl
theorem zH6:Fini 0:=rep_zero.fin
theorem zBd(P:Program)(w:World)(k:FloatKind)(b:Nat):Sem.run P (Op.unary .neg (.float k b)) w= .ok (.float k (negFloat k b)) w:=rfl
attribute [local go_sem] zBd
theorem zEg(re im:Nat)(w:World):Calls prog 255 #[.complex .f64 re im] w fun e w'=>e= .returned (.complex .f64 (negFloat .f64 im) re)∧w=w':=by
 go_enter func255,ntmps255
 go_wp2
 go_ret
 exact⟨rfl,rfl⟩
theorem plain_any(re im:Nat)(hr:Num re)(hi:Num im)(w:World):Calls prog 253 #[.complex .f64 re im] w fun e w'=>e= .returned (.complex .f64 (zCe re 0) (zCe im 0))∧w=w':=by
 have h1:=fun w=>run_float_arith (P:=prog) w .add 305 .f64 re 0 _ (zCf hr zH6)
 have h2:=fun w=>run_float_arith (P:=prog) w .add 305 .f64 im 0 _ (zCf hi zH6)
 go_enter func253,ntmps253
 go_wp2
 go_ret
 exact⟨rfl,rfl⟩
def vW:Nat→Nat×Nat→Nat×Nat|0,z=>z|n+1,z=>vW n (negFloat .f64 z.2,z.1)
theorem zJZ(n:Nat)(z:Nat×Nat):vW (n+1) z=(negFloat .f64 (vW n z).2,(vW n z).1):=by
 induction n generalizing z with|zero=>rfl|succ n ih=>show vW (n+1) (negFloat .f64 z.2,z.1)=_;rw[ih];rfl
theorem zLJ(n:Nat)(z:Nat×Nat)(h1:Fini z.1)(h2:Fini z.2):Fini (vW n z).1∧Fini (vW n z).2:=by
 induction n generalizing z with|zero=>exact⟨h1,h2⟩|succ n ih=>exact ih _ (zO1 h2) h1
theorem zUZ(n:Int):bits .and .i64 n 3=n %4:=by
 have h:(BitVec.ofInt 64 n&&&BitVec.ofInt 64 3)=BitVec.ofInt 64 (n %4):=by apply BitVec.eq_of_toNat_eq;(have e3:(BitVec.ofInt 64 3).toNat=2^2-1:=by decide);rw[BitVec.toNat_and,e3,Nat.and_two_pow_sub_one_eq_mod,BitVec.toNat_ofInt,BitVec.toNat_ofInt];omega
 have hb:bits .and .i64 n 3=IntKind.i64.wrap ((BitVec.ofInt 64 n&&&BitVec.ofInt 64 3).toNat:Int):=rfl
 rw[hb,h,BitVec.toNat_ofInt,IntKind.wrap_i64]
 omega
theorem n4(n:Int):∃k:Nat,k<4∧n %4=(k:Int)∧(n %4).toNat=k:=⟨(n %4).toNat,by omega,by omega,rfl⟩
theorem zH7(re im:Nat)(n:Int)(w:World):Calls prog 254 #[.complex .f64 re im,.int .i64 n] w fun e w'=>e= .returned (.complex .f64 (vW (n %4).toNat (re,im)).1 (vW (n %4).toNat (re,im)).2)∧w=w':=by
 have h3:=zUZ n
 obtain⟨m,hm4,hm,hm'⟩:=n4 n
 rw[hm']
 rw[hm]at h3
 have HM:=Hd hm
 clear hm hm'
 go_enter func254,ntmps254
 go_wp2
 go_loop [0,7](fun z i=>∃k:Nat,k≤m∧i= .int .i64 k∧z= .complex .f64 (vW k (re,im)).1 (vW k (re,im)).2)(fun _ i=>m-(intOf i).toNat)
 case atStart=>exact⟨0,by omega,rfl,rfl⟩
 case round=>obtain⟨k,hk,rfl,rfl⟩:=hrel;have HS:=Hd (zJZ k (re,im));generalize hz:vW k (re,im)=z at*;have HZ:=Hd hz;clear hz;by_cases hlt:k<m;(·go_wp2_with(go_at_call 255;refine(zEg _ _ _).mono ?_;rintro e w'⟨rfl,rfl⟩);go_round;(case rel=>exact⟨k+1,by omega,by go_num,by rw[HS.out]⟩);case measure=>simp[intOf];omega);·(obtain rfl:k=m:=by omega);go_wp2;go_ret;exact⟨by rw[HZ.out];rfl,rfl⟩
def zM3(a b:Nat×Nat)(n:Int):Nat×Nat:=(zCe (zCe (vW (n %4).toNat a).1 b.1) 0,zCe (zCe (vW (n %4).toNat a).2 b.2) 0)
theorem zH8{x y c d:Nat}(hx:Num x)(hy:Num y)(hc:Fini c)(hd:Fini d)(t:TypeId)(w:World):(binOp .add t (.complex .f64 x y) (.complex .f64 c d)).run prog w= .ok (.complex .f64 (zCe x c) (zCe y d)) w:=run_complex_sum w .add (.inl rfl) t .f64 x y c d _ _ (by simp[cSumBits,zCf hx hc,zCf hy hd])
theorem zM4{x y c d:Nat}(hx:Num x)(hy:Num y)(hc:Fini c)(hd:Fini d)(t:TypeId)(w:World):(binOp .sub t (.complex .f64 x y) (.complex .f64 c d)).run prog w= .ok (.complex .f64 (zLI x c) (zLI y d)) w:=run_complex_sum w .sub (.inr rfl) t .f64 x y c d _ _ (by simp[cSumBits,zH5 hx hc,zH5 hy hd])
theorem zGm(a b c d:Nat)(n:Int)(ha:Fini a)(hb:Fini b)(hc:Fini c)(hd:Fini d)(w:World):Calls prog 214 #[.complex .f64 a b,.complex .f64 c d,.int .i64 n] w fun e w'=>e= .returned (.complex .f64 (zM3 (a,b) (c,d) n).1 (zM3 (a,b) (c,d) n).2)∧w=w':=by
 obtain⟨g1,g2⟩:=zLJ (n %4).toNat (a,b) ha hb
 have hx:=zH4 g1.num hc
 have hy:=zH4 g2.num hd
 have hadd:=fun w=>zH8 g1.num g2.num hc hd 254 w
 unfold zM3
 have hmany:=zH7 a b n
 generalize vW (n %4).toNat (a,b)=z at*
 have HM:=Hd hmany
 clear hmany
 go_enter func214,ntmps214
 go_wp2_with(first|(go_at_call 254;refine(HM.out _).mono ?_;rintro e w'⟨rfl,rfl⟩)|(go_at_call 253;refine(plain_any _ _ (by assumption) (by assumption) _).mono ?_;rintro e w'⟨rfl,rfl⟩))
 go_ret
 exact⟨rfl,rfl⟩
end Go.Proofs.YtaokjeokpifjgaaGreatDoor.SealG
namespace Go.Proofs.YtaokjeokpifjgaaGreatDoor.SealG
open Go.RowKit
def bl(s:QB):List Nat:=s.data.toList.map UInt8.toNat
theorem zFv(s:QB):(bl s).length=s.size:=by
 simp[bl]
theorem zTN(s:QB):∀c∈bl s,c<256:=by
 intro c hc
 simp only[bl,List.mem_map]at hc
 obtain⟨x,_,rfl⟩:=hc
 exact x.toNat_lt
theorem zO6(s:QB)(k:Nat)(h:k<s.size):(bl s).take (k+1)=(bl s).take k++[s[k].toNat]:=by
 rw[List.take_succ_eq_append_getElem (by rw[zFv];exact h)]
 congr 1
 simp[bl]
 rfl
theorem zO7(s:QB)(k:Nat):∀c∈(bl s).take k,c<256:=fun c hc=>zTN s c (List.mem_of_mem_take hc)
theorem zM5(s:QB)(k:Nat)(h:k<s.size):crc.run 4294967295 ((bl s).take (k+1))=crc.it 8 (crc.run 4294967295 ((bl s).take k)^^^s[k].toNat):=by
 rw[zO6 s k h,crc.run_append]
 rfl
theorem run_take_lt(s:QB)(k:Nat):crc.run 4294967295 ((bl s).take k)<4294967296:=crc.run_lt _ _ (by decide) (zO7 s k)
theorem zM6(j y:Nat)(h:crc.it j y %2=1):crc.it (j+1) y=crc.it j y/2^^^3988292384:=by
 rw[crc.it_succ,crc.stp,if_pos h]
 rfl
theorem zLK(j y:Nat)(h:¬crc.it j y %2=1):crc.it (j+1) y=crc.it j y/2:=by
 rw[crc.it_succ,crc.stp,if_neg h]
theorem zGn(x:Nat)(hx:x<4294967296):bits .and .u32 (x:Int) 1=((x %2:Nat):Int):=by
 have h:=zGl x 1 hx (by decide)
 rw[show(1:Int)=((1:Nat):Int)from rfl,h,Nat.and_one_is_mod]
theorem zO8(x:Nat)(h:x<4294967296):bits .xor .u32 IntKind.u32.max (x:Int)=((x^^^4294967295:Nat):Int):=by
 have e:IntKind.u32.max=((4294967295:Nat):Int):=by decide
 rw[e,vl 4294967295 x (by decide) h,Nat.xor_comm]
theorem check_done(s:QB):crc.check (bl s)=crc.run 4294967295 ((bl s).take s.size)^^^4294967295:=by
 unfold crc.check
 rw[Qk (by rw[zFv];exact Qn _)]
theorem _root_.Go.Proofs.YtaokjeokpifjgaaGreatDoor.d6wv{p:Prop}(h:p:=by clear ho;generalize crc.it j y=z at*;have HXO:=Hd hxo;clear hxo;go_wp2;go_round;(case rel=>exact⟨j+1,by omega,by go_num,by rw[HS.out,←HXO.out];rfl⟩);case measure=>simp[intOf];omega):p:=h
theorem _root_.Go.Proofs.YtaokjeokpifjgaaGreatDoor.dr4z{p:Prop}(h:p:=by generalize crc.it j y=z at*;have HXO:=Hd hxo;clear hxo;go_wp2;go_round;(case rel=>exact⟨j+1,by omega,by go_num,by rw[HS.out,←HXO.out];rfl⟩);case measure=>simp[intOf];omega):p:=h
theorem _root_.Go.Proofs.YtaokjeokpifjgaaGreatDoor.deol{p:Prop}(h:p:=by (obtain rfl:j=8:=by omega);generalize crc.it 8 y=z at*;go_wp2;exact⟨⟨k+1,by omega,by go_num,by rw[HR.out]⟩,by simp only[intOf];omega⟩):p:=h
theorem check_any(s:QB)(hs:s.size≤maxLen)(w:World):Calls prog 128 #[.string s] w fun e w'=>e= .returned (.int .u32 (crc.check (bl s):Nat))∧w=w':=by
 unfold maxLen at hs
 go_enter func128,ntmps128
 go_wp2
 go_loop [3,7](fun x i=>∃k:Nat,k≤s.size∧i= .int .i64 k∧x= .int .u32 (crc.run 4294967295 ((bl s).take k):Nat))(fun _ i=>s.size-(intOf i).toNat)
 case atStart=>exact⟨0,by omega,rfl,rfl⟩
 case round=>obtain⟨k,hk,rfl,rfl⟩:=hrel;have hlt0:=run_take_lt s k;by_cases hlt:k<s.size;(·have HR:=Hd (zM5 s k hlt);generalize crc.run 4294967295 ((bl s).take k)=x at*;have hb:s[k].toNat<4294967296:=Nat.lt_trans s[k].toNat_lt (by decide);have hxor:=vl x _ hlt0 hb;have hy:x^^^s[k].toNat<4294967296:=Nat.xor_lt_two_pow (n:=32) hlt0 hb;go_wp2;clear hxor;generalize hyy:x^^^s[k].toNat=y at*;have HY:=Hd hyy;clear hyy;go_loop [3,16](fun x i=>∃j:Nat,j≤8∧i= .int .i64 j∧x= .int .u32 (crc.it j y:Nat))(fun _ i=>8-(intOf i).toNat);(case atStart=>exact⟨0,by omega,rfl,rfl⟩);case round=>obtain⟨j,hj,rfl,rfl⟩:=hrel;have hit:=crc.it_lt j y hy;by_cases hj8:j<8;(·have ha:=zGn _ hit;by_cases ho:crc.it j y %2=1;(·have HS:=Hd (zM6 j y ho);rw[ho]at ha;have hxo:=vl (crc.it j y/2) 3988292384 (by omega) (by decide);exact d6wv);·have HS:=Hd (zLK j y ho);(have h0:crc.it j y %2=0:=by omega);rw[h0]at ha;have hxo:=vl (crc.it j y/2) 0 (by omega) (by decide);rw[Nat.xor_zero]at hxo;clear ho h0;exact dr4z);·exact deol);·(obtain rfl:k=s.size:=by omega);have hd:=check_done s;generalize crc.run 4294967295 ((bl s).take s.size)=x at*;have HX:=Hd (zO8 x hlt0);have HD:=Hd hd;clear hd;go_wp2;go_ret;exact⟨zO5 (by rw[HD.out,HX.out]),rfl⟩
theorem zV8(x:Nat)(h:x<4294967296):(4294967295:Int)-(x:Int)=((x^^^4294967295:Nat):Int):=by
 have h2:x^^^4294967295=4294967295-x:=by have e:=BitVec.toNat_not (x:=BitVec.ofNat 32 x);(have hx:(BitVec.ofNat 32 x).toNat=x:=by rw[BitVec.toNat_ofNat];exact Nat.mod_eq_of_lt h);rw[BitVec.not_def,BitVec.toNat_xor,BitVec.toNat_allOnes,hx]at e;rw[Nat.xor_comm];simpa using e
 rw[h2]
 omega
theorem refCheck_any(s:QB)(hs:s.size≤maxLen)(w:World):Calls prog 135 #[.string s] w fun e w'=>e= .returned (.int .u32 (crc.check (bl s):Nat))∧w=w':=by
 unfold maxLen at hs
 go_enter func135,ntmps135
 go_wp2
 go_loop [3,4](fun x i=>∃k:Nat,k≤s.size∧i= .int .i64 k∧x= .int .u64 (crc.run 4294967295 ((bl s).take k):Nat))(fun _ i=>s.size-(intOf i).toNat)
 case atStart=>exact⟨0,by omega,rfl,rfl⟩
 case round=>obtain⟨k,hk,rfl,rfl⟩:=hrel;have hlt0:=run_take_lt s k;by_cases hlt:k<s.size;(·have HR:=Hd (zM5 s k hlt);generalize crc.run 4294967295 ((bl s).take k)=x at*;have hb:s[k].toNat<4294967296:=Nat.lt_trans s[k].toNat_lt (by decide);have hxor:=zVQ x _ (Nat.lt_trans hlt0 (by decide)) (Nat.lt_trans hb (by decide));have hy:x^^^s[k].toNat<4294967296:=Nat.xor_lt_two_pow (n:=32) hlt0 hb;go_wp2;clear hxor;generalize hyy:x^^^s[k].toNat=y at*;have HY:=Hd hyy;clear hyy;go_loop [3,5](fun x i=>∃j:Nat,j≤8∧i= .int .i64 j∧x= .int .u64 (crc.it j y:Nat))(fun _ i=>8-(intOf i).toNat);(case atStart=>exact⟨0,by omega,rfl,rfl⟩);case round=>obtain⟨j,hj,rfl,rfl⟩:=hrel;have hit:=crc.it_lt j y hy;by_cases hj8:j<8;(·by_cases ho:crc.it j y %2=1;(·have HS:=Hd (zM6 j y ho);have hxo:=zVQ (crc.it j y/2) 3988292384 (by omega) (by decide);(have h1:((crc.it j y:Nat):Int)%2=1:=by omega);exact d6wv);·have HS:=Hd (zLK j y ho);(have h1:((crc.it j y:Nat):Int)%2=0:=by omega);clear ho;generalize crc.it j y=z at*;go_wp2;go_round;(case rel=>exact⟨j+1,by omega,by go_num,by rw[HS.out];rfl⟩);case measure=>simp[intOf];omega);·exact deol);·(obtain rfl:k=s.size:=by omega);have hd:=check_done s;generalize crc.run 4294967295 ((bl s).take s.size)=x at*;have HX:=Hd (zV8 x hlt0);have HD:=Hd hd;clear hd;go_wp2;go_ret;exact⟨zO5 (by rw[HD.out,←HX.out]),rfl⟩
end Go.Proofs.YtaokjeokpifjgaaGreatDoor.SealG
namespace Go.Proofs.YtaokjeokpifjgaaGreatDoor.SealG
open Go.RowKit
open Go.Op (negFloat)
open flt
end Go.Proofs.YtaokjeokpifjgaaGreatDoor.SealG
namespace Go.Proofs.YtaokjeokpifjgaaGreatDoor.SealG
open Go.RowKit
open flt
theorem new3(w:World)(o1 o2 o3:Obj):(((w.alloc o1).alloc o2).alloc o3).heap[w.heap.size]? =some o1∧(((w.alloc o1).alloc o2).alloc o3).heap[w.heap.size+1]? =some o2∧(((w.alloc o1).alloc o2).alloc o3).heap[w.heap.size+1+1]? =some o3∧Below w.heap.size w (((w.alloc o1).alloc o2).alloc o3):=by
 exact zRN
attribute [local go_sem] yo
end Go.Proofs.YtaokjeokpifjgaaGreatDoor.SealG
namespace Go.Proofs.YtaokjeokpifjgaaGreatDoor.SealG
open Go.RowKit
open flt
attribute [local go_sem] yo
end Go.Proofs.YtaokjeokpifjgaaGreatDoor.SealG
namespace Go.Proofs.YtaokjeokpifjgaaGreatDoor.SealG
open Go.RowKit
open Go.Op (negFloat)
open flt
theorem vR{x y:Nat}{a b:Int}(hx:Rep x a)(hy:Rep y b)(h:(a+b).natAbs≤9007199254740992):Rep (zCe x y) (a+b):=by
 obtain⟨r,h1,h2⟩:=zOx hx hy h
 rw[zCe,h1]
 exact h2
theorem zH9{x y:Nat}{a b:Int}(hx:Rep x a)(hy:Rep y b)(h:(a-b).natAbs≤9007199254740992):Rep (zLI x y) (a-b):=by
 obtain⟨r,h1,h2⟩:=zOy hx hy h
 rw[zLI,h1]
 exact h2
end Go.Proofs.YtaokjeokpifjgaaGreatDoor.SealG
namespace Go.Proofs.YtaokjeokpifjgaaGreatDoor.SealG
open Go.RowKit
attribute [local go_sem] yo
end Go.Proofs.YtaokjeokpifjgaaGreatDoor.SealG
namespace Go.Proofs.YtaokjeokpifjgaaGreatDoor
section
open Go.RowKit Go.MapKept
open SealG flt
attribute [local go_sem] yo yg
def Whl(a b:Nat)(m:Nat):Prop:=∃x y:Int,Rep a x∧Rep b y∧x.natAbs≤m∧y.natAbs≤m
theorem Whl.mono{a b m m':Nat}(h:Whl a b m)(hm:m≤m'):Whl a b m':=by
 obtain⟨x,y,h1,h2,h3,h4⟩:=h
 exact⟨x,y,h1,h2,by omega,by omega⟩
theorem zIA:Whl 0 0 0:=⟨0,0,rep_zero,rep_zero,by decide,by decide⟩
theorem zCg(c:Nat)(hc:c<256):Rep (floatOfInt .f64 (c:Int)) (c:Int):=zGi _ (by omega)
theorem zJa(a b m:Nat)(h:Whl a b m)(hm:m≤1000000000)(c:Nat)(hc:c<256):∃a' b',Whl a' b' (m+256)∧∀w:World,Calls prog 214 #[.complex .f64 a b,.complex .f64 (floatOfInt .f64 (c:Int)) 0,.int .i64 1] w fun e w'=>e= .returned (.complex .f64 a' b')∧w=w':=by
 obtain⟨x,y,h1,h2,h3,h4⟩:=h
 have hj:=zGm a b (floatOfInt .f64 (c:Int)) 0 1 h1.fin h2.fin (zCg c hc).fin rep_zero.fin
 refine⟨_,_,?_,hj⟩
 have hn:=zKI h2
 have r1:=vR hn (zCg c hc) (by omega)
 have r2:=vR h1 rep_zero (by omega)
 have r3:=vR r1 rep_zero (by omega)
 have r4:=vR r2 rep_zero (by omega)
 exact⟨_,_,r3,r4,by omega,by omega⟩
theorem zLL(a b m:Nat)(h:Whl a b m)(hm:m≤1000000000)(o c:Nat)(ho:o<256)(hc:c<256):∃a' b',Whl a' b' (m+512)∧∀w:World,Calls prog 215 #[.complex .f64 a b,.int .i64 8,.int .u8 o,.int .u8 c] w fun e w'=>e= .returned (.complex .f64 a' b')∧w=w':=by
 obtain⟨x,y,h1,h2,h3,h4⟩:=h
 have hn:=zKI h2
 have ro:=zCg o ho
 have rc:=zCg c hc
 have r1:=vR hn rc (by omega)
 have r2:=vR h1 rep_zero (by omega)
 have s1:=zH9 r1 ro (by omega)
 have s2:=zH9 r2 rep_zero (by omega)
 have t1:=vR s1 rep_zero (by omega)
 have t2:=vR s2 rep_zero (by omega)
 refine⟨_,_,⟨_,_,t1,t2,by omega,by omega⟩,fun w=> ?_⟩
 clear t1 t2
 have hadd:=fun w=>zH8 hn.fin.num h1.fin.num rc.fin rep_zero.fin 254 w
 have hsub:=fun w=>zM4 r1.fin.num r2.fin.num ro.fin rep_zero.fin 254 w
 have hmany:=zH7 (floatOfInt .f64 (o:Int)) 0 8
 have e8:vW (((8:Int)%4).toNat) (floatOfInt .f64 (o:Int),0)=(floatOfInt .f64 (o:Int),0):=rfl
 rw[e8]at hmany
 have hpl:=plain_any _ _ s1.fin.num s2.fin.num
 have HM:=Hd hmany
 have HP:=Hd hpl
 clear hmany hpl e8 r1 r2 s1 s2 hn ro rc h1 h2
 go_enter func215,ntmps215
 go_wp2_with(first|(go_at_call 255;refine(zEg _ _ _).mono ?_;rintro e w'⟨rfl,rfl⟩)|(go_at_call 254;refine(HM.out _).mono ?_;rintro e w'⟨rfl,rfl⟩)|(go_at_call 253;refine(HP.out _).mono ?_;rintro e w'⟨rfl,rfl⟩))
 go_ret
 exact⟨rfl,rfl⟩
theorem zKJ:Rep 4832362400168542208 1125899906842624:=by
 have h:=zGi 1125899906842624 (by decide)
 have e:floatOfInt .f64 1125899906842624=4832362400168542208:=by decide+kernel
 rwa [e]at h
theorem zKK:Rep 14055734437023318016 (-1125899906842624):=by
 have h:=zGi (-1125899906842624) (by decide)
 have e:floatOfInt .f64 (-1125899906842624)=14055734437023318016:=by decide+kernel
 rwa [e]at h
theorem zTO{p:Prop}(h:p:=by go_enter func159,ntmps159;go_wp2;go_ret;exact⟨⟨_,rfl⟩,rfl⟩):p:=h
theorem zFw(a b m:Nat)(h:Whl a b m)(hm:m≤1000000000)(w:World):Calls prog 159 #[.complex .f64 a b,.int .i64 16] w fun e w'=>(∃k:Int,e= .returned (.int .i64 k))∧w=w':=by
 obtain⟨x,y,h1,h2,h3,h4⟩:=h
 have e64:FloatKind.f64.format=Ieee.double:=rfl
 have o1:(Ieee.double.order a 14055734437023318016==some .gt)=true:=by rw[zBV h1 zKK,show compare x (-1125899906842624)= .gt from by rw[Int.compare_eq_gt];omega];rfl
 have o2:(Ieee.double.order a 4832362400168542208==some .lt)=true:=by rw[zBV h1 zKJ,show compare x 1125899906842624= .lt from by rw[Int.compare_eq_lt];omega];rfl
 have o3:(Ieee.double.order b 14055734437023318016==some .gt)=true:=by rw[zBV h2 zKK,show compare y (-1125899906842624)= .gt from by rw[Int.compare_eq_gt];omega];rfl
 have o4:(Ieee.double.order b 4832362400168542208==some .lt)=true:=by rw[zBV h2 zKJ,show compare y 1125899906842624= .lt from by rw[Int.compare_eq_lt];omega];rfl
 have c1:=fun w=>run_convert_float_int (P:=prog) w 305 3 .f64 .i64 a _ (by kernel_rfl) (by kernel_rfl) (zFt h1 (by omega))
 have c2:=fun w=>run_convert_float_int (P:=prog) w 305 3 .f64 .i64 b _ (by kernel_rfl) (by kernel_rfl) (zFt h2 (by omega))
 have w1:IntKind.i64.wrap (3*y)=3*y:=zv (by omega) (by omega)
 have w2:IntKind.i64.wrap (x+3*y)=x+3*y:=zv (by omega) (by omega)
 clear h1 h2
 obtain⟨k,hk⟩:=qN ((x+3*y).tmod 16)
 by_cases hneg:k<0
 ·(have g1:decide (k<0)=true:=by simpa using hneg);exact zTO
 ·(have g1:decide (k<0)=false:=by simpa using hneg);exact zTO
def zGo(J:Nat→Act→World→Prop)(Q:Exit→Act→World→Prop):Exit→Act→World→Prop| .goto l,a,w=>J l a w|e,a,w=>Q e a w
theorem zDW{J:Nat→Act→World→Prop}{Q:Exit→Act→World→Prop}{a:Act}{w:World}:zGo J Q .ret a w=Q .ret a w:=rfl
theorem zQn{p:Prop}(h:p:=by exact⟨_,a₁,w₁,hq,.of_steps (.one step_scope) harr⟩):p:=h
theorem zDs{P:Program}{a:Act}{w:World}{Q:Exit→Act→World→Prop}{c:Code}(J:Nat→Act→World→Prop)(μ:Nat→Act→World→Nat)(first:c.wp P (zGo J Q) a w)(pass:∀l a w,J l a w→∃rest,findLabel c l=some rest∧rest.wp P (zGo (fun l' a' w'=>J l' a' w'∧μ l' a' w'<μ l a w) Q) a w):(Code.scope c).wp P Q a w:=by
 intro b k cs
 have key:∀n l a w,μ l a w=n→J l a w→∃e a' w' rest,findLabel c l=some rest∧Q e a' w'∧Arrives P (lone (b.at a (.code rest:: .inScope c::k)) cs w) b k cs e a' w':=by intro n;induction n using Nat.strongRecOn with|_ n ih=>intro l a w hn hJ;obtain⟨rest,hf,hp⟩:=pass l a w hJ;obtain⟨e,a₁,w₁,hq,harr⟩:=hp b (.inScope c::k) cs;cases e with|normal=>exact⟨.normal,a₁,w₁,rest,hf,hq,Steps.trans harr (.one step_inScope)⟩|exit id=>exact⟨.exit id,a₁,w₁,rest,hf,hq,fun k' hk=>harr k' (by simp[exitTo,hk])⟩|goto l'=>obtain⟨hJ',hlt⟩:=hq;obtain⟨e₂,a₂,w₂,rest',hf',hq₂,harr₂⟩:=ih _ (by omega) l' a₁ w₁ rfl hJ';(have hg:gotoIn l' (.inScope c::k)=some (.code rest':: .inScope c::k):=by simp[gotoIn,hf']);exact⟨e₂,a₂,w₂,rest,hf,hq₂,.of_steps (harr _ hg) harr₂⟩|ret=>exact⟨_,a₁,w₁,rest,hf,hq,harr⟩|panic ch=>exact⟨_,a₁,w₁,rest,hf,hq,harr⟩|outgrown=>exact⟨_,a₁,w₁,rest,hf,hq,harr⟩
 obtain⟨e,a₁,w₁,hq,harr⟩:=first b (.inScope c::k) cs
 cases e with|normal=>exact⟨.normal,a₁,w₁,hq,.head step_scope (Steps.trans harr (.one step_inScope))⟩|exit id=>exact⟨.exit id,a₁,w₁,hq,fun k' hk=>.head step_scope (harr k' (by simp[exitTo,hk]))⟩|goto l'=>obtain⟨e₂,a₂,w₂,rest',hf',hq₂,harr₂⟩:=key _ l' a₁ w₁ rfl hq;(have hg:gotoIn l' (.inScope c::k)=some (.code rest':: .inScope c::k):=by simp[gotoIn,hf']);exact⟨e₂,a₂,w₂,hq₂,.of_steps (.head step_scope (harr _ hg)) harr₂⟩|ret=>exact zQn|panic ch=>exact zQn|outgrown=>exact zQn
theorem zCh{P:Program}{w:World}{a:Addr}{m:Mode}(k:FloatKind)(x y:Nat):(store a (.complex k x y) m).run P w=stored P w a (.complex k x y) m:=run_store P w a _ m rfl
attribute [local go_sem] zCh
structure CutAt(w:World)(B cb:Nat)(l:List UInt8):Prop where
 ex:∃v a b,w.heap[cb]? =some (.cells #[v,.complex .f64 a b] 256 (0,0))∧w.ownsRow B 5 1 v l.length (Lib.byteCells l)∧Whl a b (512*l.length)∧B≤cb
def zCi(B cb:Nat)(w:World)(k:Nat):Prop:=B≤k∧(k=cb∨∃c fz,w.heap[k]? =some (.cells c 5 fz))
theorem CutAt.fresh{w:World}{B cb:Nat}(h:w.heap[cb]? =some (.cells #[.slice none 0 0,.complex .f64 0 0] 256 (0,0))∧B≤cb):CutAt w B cb []:=⟨_,_,_,h.1,qO,zIA,h.2⟩
theorem zJb(w:World):Calls prog 93 #[] w fun e w'=>e= .returned (.pointer (some ⟨w.heap.size,0,none⟩))∧CutAt w' w.heap.size w.heap.size []∧Below w.heap.size w w'∧w'.heap.size=w.heap.size+1:=by
 go_enter func93,ntmps93
 go_wp2
 go_ret
 exact⟨rfl,⟨_,_,_,qH w _,qO,zIA,Qn _⟩,qA,by simp⟩
theorem zAr{w:World}{B cb:Nat}{l:List UInt8}(h:CutAt w B cb l):Calls prog 95 #[.pointer (some ⟨cb,0,none⟩)] w fun e w'=>e= .returned (.string ⟨l.toArray⟩)∧(w'.heap[cb]? =some (.cells #[.slice none 0 0,.complex .f64 0 0] 256 (0,0))∧B≤cb)∧Keep (fun k=>k=cb) w w':=by
 obtain⟨v,a,b,h1,h2,h3,h4⟩:=h.ex
 have c0:w.cell? ⟨cb,0,none⟩=some v:=Qc h1 0
 have c1:w.cell? ⟨cb,1,none⟩=some (.complex .f64 a b):=Qc h1 1
 have f0:w.frozen? ⟨cb,0,none⟩=false:=by simp[World.frozen?,h1]
 have f1:w.frozen? ⟨cb,1,none⟩=false:=by simp[World.frozen?,h1]
 have l1:(convert 121 9 v).run prog w= .ok (.string ⟨l.toArray⟩) w:=by(have hz:(⟨l.toArray⟩:QB).size=l.length:=by show l.toArray.size=_;simp);rcases h2.2 with⟨e1,e2⟩|⟨g,cap,cur,e1,_⟩;(·have hl:l=[]:=List.length_eq_zero_iff.1 e2;subst hl;rw[e1];exact run_convert_bytes_nil (P:=prog) (w:=w) 121 5 underlying121 underlying5 0 0 9 underlying9);·(have hby:Lib.Bytes w g 0 ⟨l.toArray⟩:=by intro i hi;rw[hz]at hi;rw[e1]at h2;have:=zC h2 i (.int .u8 (l[i].toNat:Int)) (by simp[Lib.byteCells,hi]);rw[Nat.zero_add];exact this);have:=Lib.run_convert_whole (P:=prog) w 121 5 9 underlying121 underlying5 underlying9 g 0 _ hby cap;rw[hz]at this;rw[e1];exact this
 have H1:=Hd h1
 have H2:=Hd h2
 obtain⟨va,vc,hv⟩:=zA h2
 subst hv
 clear h h1 h2 h3
 go_enter func95,ntmps95
 go_wp2
 go_ret
 have k1:=heap_setCell_same w cb 0 _ _ (.slice none 0 0) H1.out
 have k2:=heap_setCell_same _ cb 1 _ _ (.complex .f64 0 0) k1
 exact⟨rfl,⟨k2,h4⟩,((Keep.refl (fun k=>k=cb) w).setCell (p:=⟨cb,0,none⟩) (fun _=>rfl) _).setCell (p:=⟨cb,1,none⟩) (fun _=>rfl) _⟩
theorem zO9:(prog.info? 5).map (fun i=>(i.zero,i.size,i.bytes))=some (some (.int .u8 0),1,1):=by
 kernel_rfl
theorem zTP{p:Prop}(h:p:=by go_end0;have k4:=heap_setCell_same w3 cb 0 _ _ (.slice p3 (n+1) q3) HC3.out;refine⟨rfl,⟨_,_,_,k4,?_,by rw[Ql,HN.out];exact HW'.out.mono (by simp;omega),h4⟩,HK3.out.setCell (p:=⟨cb,0,none⟩) (fun _=>⟨h4,.inl rfl⟩) _⟩;have hr4:=((Keep.refl (fun k=>k=cb) w3).setCell (p:=⟨cb,0,none⟩) (fun _=>rfl) (.slice p3 (n+1) q3)).ownsRow HO3.out (fun k e e2=>HNe3.out w3 k HO3.out HC3.out e e2);rw[HS0.out,Ql,HN.out];exact hr4):p:=h
theorem zTQ{p:Prop}(h:p:=by rw[hg3.block cb (by have:=HLt.out;have:=HJk.out.size;simp;omega) (fun e=>HNe.out cb e.symm rfl)];exact(((Below.refl wj.heap.size wj).alloc (Qn _) _).block cb (by have:=HLt.out;have:=HJk.out.size;omega)).trans HJc.out):p:=h
theorem zDX{w:World}{B cb:Nat}{l:List UInt8}(h:CutAt w B cb l)(hB:B≤w.heap.size)(hl:l.length<128)(c:UInt8):Calls prog 158 #[.pointer (some ⟨cb,0,none⟩),.int .u8 (c.toNat:Int)] w fun e w'=>e= .returned (.tuple #[])∧CutAt w' B cb (l++[c])∧Keep (zCi B cb w) w w':=by
 obtain⟨v,a,b,h1,h2,h3,h4⟩:=h.ex
 have c0:w.cell? ⟨cb,0,none⟩=some v:=Qc h1 0
 have c1:w.cell? ⟨cb,1,none⟩=some (.complex .f64 a b):=Qc h1 1
 have f0:w.frozen? ⟨cb,0,none⟩=false:=by simp[World.frozen?,h1]
 have f1:w.frozen? ⟨cb,1,none⟩=false:=by simp[World.frozen?,h1]
 have hc:=c.toNat_lt
 obtain⟨i0,hi,hz0,hz1,hz2⟩:=info_parts zO9
 have HI:=Hd hi
 have Hz0:=Hd hz0
 have Hz1:=Hd hz1
 have Hz2:=Hd hz2
 have H1:=Hd h1
 have H2:=Hd h2
 have HS0:=Hd (xk l c)
 obtain⟨n,hn⟩:=qN l.length
 obtain⟨cn,hcn⟩:=qN c.toNat
 rw[hcn]at hc HS0⊢
 rw[hn]at H2 h3 hl
 have HN:=Hd hn
 obtain⟨va,vc,hv⟩:=zA H2.out
 subst hv
 have HLt:=Hd (show cb<w.heap.size from(Gl h1))
 clear h h1 h2 hi hz0 hz1 hz2 hn hcn
 have HNe:=Hd (show∀k,(Value.slice va n vc).ownBlock=some k→k≠cb from fun k e e2=>by obtain⟨c,fz,hc⟩:=xM H2.out k e;rw[e2,H1.out]at hc;cases hc)
 have HNe3:=Hd (show∀(w3:World){v:Value}{m:Nat}{xs:List Value}{cs:Array Value}(k:Nat),w3.ownsRow B 5 1 v m xs→w3.heap[cb]? =some (.cells cs 256 (0,0))→v.ownBlock=some k→k≠cb from fun w3 v m xs cs k hr hc e e2=>by obtain⟨c,fz,hc2⟩:=xM hr k e;rw[e2,hc]at hc2;cases hc2)
 by_cases h8:n<8
 ·obtain⟨a',b',hw',hj⟩:=zJa a b _ h3 (by omega) cn (by omega);(have g1:decide ((n:Int)<8)=true:=by simp;omega);(have g1':decide (n<8)=true:=by simpa using h8);have HJ:=Hd hj;have HW':=Hd (hw'.mono (show 512*n+256≤512*n+512 by omega));have HHc:=Hd H1.out;have HKw:=Hd (Keep.refl (fun k=>k=cb) w);clear hj hw' h3;have k1:=heap_setCell_same w cb 1 _ _ (.complex .f64 a' b') HHc.out;have hkp:Keep (fun k=>k=cb) w (w.setCell ⟨cb,1,none⟩ (.complex .f64 a' b')):=HKw.out.setCell (p:=⟨cb,1,none⟩) (fun _=>rfl) _;have hrj:(w.setCell ⟨cb,1,none⟩ (.complex .f64 a' b')).ownsRow B 5 1 (.slice va n vc) n (Lib.byteCells l):=hkp.ownsRow H2.out (fun k e e2=>HNe.out k e e2);obtain⟨wj,hwj⟩:=qN (w.setCell ⟨cb,1,none⟩ (.complex .f64 a' b'));rw[hwj]at k1 hkp hrj;have HJr:=Hd hrj;have HJk:=Hd hkp;have HJc:=Hd k1;have cj0:wj.cell? ⟨cb,0,none⟩=some (.slice va n vc):=Qc k1 0;clear k1 hkp hrj;go_enter func158,ntmps158;go_wp2_with(first|(go_at_call 214;refine(HJ.out _).mono ?_;rintro e w3⟨rfl,rfl⟩)|(at_builtin;refine wpList_append_own_at _ (by rfl) _ _ 121 (by rfl) B 5 i0 (.int .u8 0) 1 1 underlying121 HI.out Hz0.out Hz1.out Hz2.out (by rfl) (by decide) (.slice va n vc) _ _ (by rfl) (HJr.out.alloc _) ⟨wj.heap.size,0,none⟩ 1 1 [.int .u8 cn] (by rfl) (by rfl) (cell_one_new _ _ _) (by simp[Value.oneCell']) (by unfold maxLen;omega) (by omega) ?_ ?_;(·have:=HJk.out.size;simp;omega);intro v' w3 hown3 hg3 hnil hloc;have HO3:=Hd hown3;(have hc3:w3.heap[cb]? =some (.cells #[.slice va n vc,.complex .f64 a' b'] 256 (0,0)):=by exact zTQ);have HC3:=Hd hc3;have HK3:=Hd (show Keep (zCi B cb w) w w3 from(HJk.out.mono (fun i _ e=>⟨by rw[show i=cb from e];exact h4,.inl e⟩)).trans (((Keep.refl (fun k=>(Value.slice va n vc).ownBlock=some k) wj).alloc _).grown hg3 (fun k _ e=>e)) (fun i _ e=>⟨(H2.out.lt i e).1,.inr (xM H2.out i e)⟩));have c3:w3.cell? ⟨cb,0,none⟩=some (.slice va n vc):=Qc hc3 0;(have f3:w3.frozen? ⟨cb,0,none⟩=false:=by simp[World.frozen?,hc3]);obtain⟨p3,q3,hv3⟩:=zA hown3;subst hv3;clear hown3 hg3 hnil hloc hc3));exact zTP
 ·(obtain⟨g,cap,rfl,hc1,hc2,hgB⟩:∃g,∃cap:Nat,va=some ⟨g,0,none⟩∧n≤vc∧vc≤maxLen∧B≤g:=by obtain⟨g,c',e1,e2,e3,e4⟩:=zH H2.out (by omega);cases e1;exact⟨g,0,rfl,e2,e3,e4⟩);(have hm:n-8<l.length:=by rw[HN.out];omega);obtain⟨o,ho⟩:=qN ((l[n-8]'hm).toNat);(have ho2:o<256:=by rw[←ho];exact UInt8.toNat_lt _);have q0:w.cell? ⟨g,n-8,none⟩=some (.int .u8 o):=zC H2.out (n-8) _ (by rw[←ho];simp[Lib.byteCells,hm]);have HQ0:=Hd q0;have HGl:=Hd (show g<w.heap.size from(H2.out.lt g rfl).2);obtain⟨a',b',hw',hj⟩:=zLL a b _ h3 (by omega) o cn ho2 (by omega);(have g1:decide ((n:Int)<8)=false:=by simp;omega);(have g1':decide (n<8)=false:=by simpa using h8);(have hn8:(n:Int)-8=((n-8:Nat):Int):=by omega);(have hn8t:((n:Int)-8).toNat=n-8:=by omega);(have hn80:(0:Int)≤(n:Int)-8:=by omega);(have hn81:(n:Int)-8<(n:Int):=by omega);(have hn128:(n:Int)<128:=by omega);(have hn88:(8:Int)≤(n:Int):=by omega);have hwn:IntKind.i64.wrap ((n:Int)-8)=(n:Int)-8:=zv (by omega) (by omega);have HJ:=Hd hj;have HW':=Hd hw';have HHc:=Hd (show w.drew.heap[cb]? =_ from H1.out);have HKw:=Hd (show Keep (fun k=>k=cb) w w.drew from(Keep.refl _ _).drew);clear hj hw' h3 ho q0 hn8;go_enter func158,ntmps158;go_wp2;obtain⟨S,HS⟩:=mkS (Keep (fun _=>False) (w));have FR:=Hd (fun u(hu:S u)=>have hu:=(HS.out u).1 hu;have c0:u.cell? ⟨cb,0,none⟩=some (.slice (some ⟨g,0,none⟩) n vc):=(by rw[hu.cell (p:=⟨cb,0,none⟩) HLt.out (fun e=>e)];exact Qc H1.out 0);have c1:u.cell? ⟨cb,1,none⟩=some (.complex .f64 a b):=(by rw[hu.cell (p:=⟨cb,1,none⟩) HLt.out (fun e=>e)];exact Qc H1.out 1);have q0:u.cell? ⟨g,n-8,none⟩=some (.int .u8 o):=(by rw[hu.cell (p:=⟨g,n-8,none⟩) HGl.out (fun e=>e)];exact HQ0.out);And.intro c0 (And.intro c1 q0));refine rgo 15 [tR 0,tR 1,tR 2,tR 3,tR 4,tR 5,tR 6,tR 7,tR 8,tR 9,tR 10,tR 11,tR 12,tR 13,tD 14] HS (Keep.refl _ _).drew ?_;(iterate 14 refine rd1 ?_);refine doH ?_;intro K hK;go_simp;go_at_call 215;refine(HJ.out _).mono ?_;rintro e w4⟨rfl,rfl⟩;refine hK _ _ ((HS.out _).2 (Keep.refl _ _).drew) ?_;clear hK K;refine zl ?_;clear FR;clear S HS;have cd1:w.drew.cell? ⟨cb,1,none⟩=some (.complex .f64 a b):=Qc HHc.out 1;have cd0:w.drew.frozen? ⟨cb,1,none⟩=false:=f1;generalize w.drew=WW at*;have k1:=heap_setCell_same WW cb 1 _ _ (.complex .f64 a' b') HHc.out;have hkp:Keep (fun k=>k=cb) w (WW.setCell ⟨cb,1,none⟩ (.complex .f64 a' b')):=HKw.out.setCell (p:=⟨cb,1,none⟩) (fun _=>rfl) _;have hrj:(WW.setCell ⟨cb,1,none⟩ (.complex .f64 a' b')).ownsRow B 5 1 (.slice (some ⟨g,0,none⟩) n vc) n (Lib.byteCells l):=hkp.ownsRow H2.out (fun k e e2=>HNe.out k e e2);obtain⟨wj,hwj⟩:=qN (WW.setCell ⟨cb,1,none⟩ (.complex .f64 a' b'));rw[hwj]at k1 hkp hrj;have HJr:=Hd hrj;have HJk:=Hd hkp;have HJc:=Hd k1;have cj0:wj.cell? ⟨cb,0,none⟩=some (.slice (some ⟨g,0,none⟩) n vc):=Qc k1 0;clear k1 hkp hrj;go_wp2_with(first|(at_builtin;refine wpList_append_own_at _ (by rfl) _ _ 121 (by rfl) B 5 i0 (.int .u8 0) 1 1 underlying121 HI.out Hz0.out Hz1.out Hz2.out (by rfl) (by decide) (.slice (some ⟨g,0,none⟩) n vc) _ _ (by rfl) (HJr.out.alloc _) ⟨wj.heap.size,0,none⟩ 1 1 [.int .u8 cn] (by rfl) (by rfl) (cell_one_new _ _ _) (by simp[Value.oneCell']) (by unfold maxLen;omega) (by omega) ?_ ?_;(·have:=HJk.out.size;simp;omega);intro v' w3 hown3 hg3 hnil hloc;have HO3:=Hd hown3;(have hc3:w3.heap[cb]? =some (.cells #[.slice (some ⟨g,0,none⟩) n vc,.complex .f64 a' b'] 256 (0,0)):=by exact zTQ);have HC3:=Hd hc3;have HK3:=Hd (show Keep (zCi B cb w) w w3 from(HJk.out.mono (fun i _ e=>⟨by rw[show i=cb from e];exact h4,.inl e⟩)).trans (((Keep.refl (fun k=>(Value.slice (some ⟨g,0,none⟩) n vc).ownBlock=some k) wj).alloc _).grown hg3 (fun k _ e=>e)) (fun i _ e=>⟨(H2.out.lt i e).1,.inr (xM H2.out i e)⟩));have c3:w3.cell? ⟨cb,0,none⟩=some (.slice (some ⟨g,0,none⟩) n vc):=Qc hc3 0;(have f3:w3.frozen? ⟨cb,0,none⟩=false:=by simp[World.frozen?,hc3]);obtain⟨p3,q3,hv3⟩:=zA hown3;subst hv3;clear hown3 hg3 hnil hloc hc3));exact zTP
def zJc(l:List QB):List Value:=l.map Value.string
theorem zIB:(prog.info? 9).map (fun i=>(i.zero,i.size,i.bytes))=some (some (.string ⟨#[]⟩),1,16):=by
 kernel_rfl
structure FeedRel(w:World)(B cb:Nat)(s:QB)(wr:World)(v:Value)(k lo hi:Nat)(ls:List QB)(o:List UInt8):Prop where
 row:wr.ownsRow B 9 1 v ls.length (zJc ls)
 cut:CutAt wr B cb o
 cat:ls.flatMap (fun x=>x.data.toList)++o=s.data.toList.take k
 part:∀x∈ls,16≤x.size∧x.size≤128
 lo:lo≤o.length
 hi:o.length≤hi
 below:Below B w wr
theorem FeedRel.few{w:World}{B cb:Nat}{s:QB}{wr:World}{v:Value}{k lo hi:Nat}{ls:List QB}{o:List UInt8}(h:FeedRel w B cb s wr v k lo hi ls o)(hk:k≤s.size):16*ls.length+o.length≤s.size:=by
 have h1:=congrArg List.length h.cat
 rw[Ql,List.length_take]at h1
 have h7:s.data.toList.length=s.size:=by rw[Array.length_toList];rfl
 have h2:∀l:List QB,(∀x∈l,16≤x.size∧x.size≤128)→16*l.length≤(l.flatMap (fun x=>x.data.toList)).length:=by intro l;induction l with|nil=>intro _;exact Qn _|cons x t ih=>intro hx;have h3:=ih (fun y hy=>hx y (List.mem_cons_of_mem _ hy));have h4:=(hx x (by simp)).1;(have h8:x.data.toList.length=x.size:=by rw[Array.length_toList];rfl);rw[List.flatMap_cons,Ql,List.length_cons,h8];omega
 have h3:=h2 ls h.part
 omega
theorem zDY{w w':World}{B cb n:Nat}{v:Value}{xs:List Value}{cs:Array Value}(h:w.ownsRow B 9 1 v n xs)(hc:w.heap[cb]? =some (.cells cs 256 (0,0)))(hk:Keep (zCi B cb w) w w'):w'.ownsRow B 9 1 v n xs:=hk.ownsRow h (fun k e e2=>by obtain⟨c,fz,h1⟩:=xM h k e;rcases e2.2 with e3|⟨c2,fz2,h2⟩;(·rw[e3,hc]at h1;cases h1);·rw[h2]at h1;cases h1)
theorem CutAt.cell{w:World}{B cb:Nat}{l:List UInt8}(h:CutAt w B cb l):∃cs,w.heap[cb]? =some (.cells cs 256 (0,0)):=by
 obtain⟨v,a,b,h1,_⟩:=h.ex
 exact⟨_,h1⟩
def zPA(w:World)(B cb:Nat)(s:QB)(e:Ending)(w':World):Prop:=∃v ls o,e= .returned v∧FeedRel w B cb s w' v s.size 0 127 ls o
def zDZ(w:World)(B cb:Nat)(s:QB)(l:Nat)(a:Act)(wr:World):Prop:=∃(k:Nat)(v:Value)(ls:List QB)(o:List UInt8)(u2 u3 u4 u7 u8 u9 u10 u11 u12 u13 u14 u15 u16 u17 u18 u19 u20 u21 u22 u23 u24 u25 u26 u27 u28 u29 u30 u31 u32 u33 u34 u35 u36 u37 u38 u39 u40 u41 u42 u43 u44 u45:Value),k≤s.size∧a={tmps:= #[.pointer (some ⟨cb,0,none⟩),.string s,u2,u3,u4,v,.int .i64 (k:Nat),u7,u8,u9,u10,u11,u12,u13,u14,u15,u16,u17,u18,u19,u20,u21,u22,u23,u24,u25,u26,u27,u28,u29,u30,u31,u32,u33,u34,u35,u36,u37,u38,u39,u40,u41,u42,u43,u44,u45],defers:=[]}∧((l=0∧FeedRel w B cb s wr v k 0 127 ls o)∨(l=1∧FeedRel w B cb s wr v k 16 128 ls o))
def zAT(n:Nat)(l:Nat)(a:Act)(_:World):Nat:=2*(n-(intOf (a.tmps.getD 6 undef)).toNat)+1+l
theorem zTR{p:Prop}(h:p:=by rw[←Qa,hrel.cat,List.take_add_one];congr 1;rw[Array.getElem?_toList];exact(congrArg Option.toList (Array.getElem?_eq_getElem hlt)).symm):p:=h
theorem zTS{p:Prop}(h:p:=by rcases Nat.lt_or_ge m 16 with hm1|hm1;(·exact .inl ⟨by simp;omega,by simp;omega⟩);·by_cases hm2:m=128;(·exact .inr (.inl ⟨by simp;omega,hm2⟩));·exact .inr (.inr ⟨by simp;omega,by simp;omega,hm1⟩)):p:=h
theorem zTT{p:Prop}(h:p:=by apply wp_goto;show zDZ w B cb s 0 _ _;exact⟨0+1,_,([]:List QB),([]:List UInt8)++[c],_,_,_,_,_,_,_,_,_,_,_,_,_,_,_,_,_,_,_,_,_,_,_,_,_,_,_,_,_,_,_,_,_,_,_,_,_,_,_,_,_,_,by omega,rfl,.inl ⟨rfl,hrel9⟩⟩):p:=h
theorem zQo{p:Prop}(h:p:=by obtain⟨c,fz,h1⟩:=xM HR1.out.row q e;obtain⟨cs,h2⟩:=HR1.out.cut.cell;rw[e2,h2]at h1;cases h1):p:=h
theorem zQp{p:Prop}(h:p:=by have h1:=HB5.out.size;have h2:=HB.out;simp;omega):p:=h
theorem zPB{p:Prop}(h:p:=by have:=HO8.out;unfold zJc;rw[Ql,List.map_append];exact this):p:=h
theorem zQq{p:Prop}(h:p:=by rw[List.append_nil,List.flatMap_append,←HR1.out.cat];simp):p:=h
theorem zTU{p:Prop}(h:p:=by rw[HM.out];have:m≠128:=(fun e=>by rw[e]at f1;simp at f1);omega):p:=h
theorem zTV{p:Prop}(h:p:=by apply wp_goto;show zDZ w B cb s 0 _ _∧zAT s.size 0 _ _<zAT s.size _ _ _;exact⟨⟨k+1,_,ls,o++[c],_,_,_,_,_,_,_,_,_,_,_,_,_,_,_,_,_,_,_,_,_,_,_,_,_,_,_,_,_,_,_,_,_,_,_,_,_,_,_,_,_,_,by omega,rfl,.inl ⟨rfl,hrel9⟩⟩,by unfold zAT;simp[intOf]<;>omega⟩):p:=h
theorem zM7{w:World}{B cb:Nat}{s:QB}(h:CutAt w B cb [])(hB:B≤w.heap.size)(hs:s.size≤100000):Calls prog 94 #[.pointer (some ⟨cb,0,none⟩),.string s] w (zPA w B cb s):=by
 have H:=Hd h
 have HB:=Hd hB
 clear h hB
 obtain⟨i0,hi0,hz0,hz1,hz2⟩:=info_parts zIB
 have HI:=Hd hi0
 have Hz0:=Hd hz0
 have Hz1:=Hd hz1
 have Hz2:=Hd hz2
 clear hi0 hz0 hz1 hz2
 go_enter func94,ntmps94
 go_wp2
 refine zDs (zDZ w B cb s) (zAT s.size) ?_ ?_
 ·have hrel:FeedRel w B cb s w (.slice none 0 0) 0 0 127 ([]:List QB) ([]:List UInt8):=⟨qO,H.out,by simp,fun x hx=>(by cases hx),by simp,by simp,Below.refl _ _⟩;go_wp2;apply wp_label;by_cases hlt:0<s.size;(·have HR:=Hd hrel;have hB1:B≤w.heap.size:=Nat.le_trans HB.out hrel.below.size;have HRo:=Hd (zDX hrel.cut hB1 (by have:=hrel.hi;omega) s[0]);obtain⟨cs,hcs⟩:=hrel.cut.cell;have HCs:=Hd hcs;(have g1:((0:Int)==(s.size:Int))=false:=by simp;omega);(have g2:(0:Int)<(s.size:Int):=by omega);(have hsz:(s.size:Int)≤100000:=by omega);(have hcat:([]:List QB).flatMap (fun x=>x.data.toList)++(([]:List UInt8)++[s[0]])=s.data.toList.take (0+1):=by exact zTR);have HCat:=Hd hcat;clear hcs hcat hrel;obtain⟨c,hc⟩:=qN (s[0]);rw[hc]at HRo HCat;have hx:=zL s 0 hlt;rw[hc]at hx;rw[hx]at HRo;go_wp2_with(first|(go_at_call 158;refine(HRo.out).mono ?_;rintro e w3⟨rfl,hc3,hk3⟩;have HR1:=Hd (show FeedRel w B cb s w3 (.slice none 0 0) (0+1) 1 128 ([]:List QB) (([]:List UInt8)++[c])from⟨zDY HR.out.row HCs.out hk3,hc3,HCat.out,HR.out.part,by rw[Ql];simp,by rw[Ql];have:=HR.out.hi;simp<;>omega,HR.out.below.trans (hk3.below hB1 (fun i hi e=>by have:=e.1;omega))⟩);obtain⟨v3,za,zb,q1,q2,q3,q4⟩:=hc3.ex;obtain⟨va,vc,hv3⟩:=zA q2;subst hv3;obtain⟨m,hm⟩:=qN ((([]:List UInt8)++[c]).length);rw[hm]at q1;have c0:w3.cell? ⟨cb,0,none⟩=some (.slice va m vc):=Qc q1 0;have c1:w3.cell? ⟨cb,1,none⟩=some (.complex .f64 za zb):=Qc q1 1;have HM:=Hd hm;(have hm128:m≤128:=by rw[←hm];exact HR1.out.hi);have HCe:=Hd (fun u=>zFw za zb _ q3 (by rw[hm];omega) u);clear hc3 hk3 q1 q2 q3 q4 hm;(have hm3:(((m:Int)==128)=false∧decide ((m:Int)<16)=true)∨(((m:Int)==128)=true∧m=128)∨(((m:Int)==128)=false∧decide ((m:Int)<16)=false∧16≤m):=by exact zTS);rcases hm3 with⟨f1,f2⟩|⟨f1,hm2⟩|⟨f1,f2,hm1⟩)|(go_at_call 159;refine(HCe.out _).mono ?_;rintro e w4⟨⟨kk,rfl⟩,rfl⟩;by_cases hkk:kk=0));(·have hrel9:FeedRel w B cb s w3 (.slice none 0 0) (0+1) 0 127 ([]:List QB) (([]:List UInt8)++[c]):=⟨HR1.out.row,HR1.out.cut,HR1.out.cat,HR1.out.part,by simp,by rw[HM.out];have:=of_decide_eq_true f2;omega,HR1.out.below⟩;exact zTT);(·have hrel9:FeedRel w B cb s w3 (.slice none 0 0) (0+1) 16 128 ([]:List QB) (([]:List UInt8)++[c]):=⟨HR1.out.row,HR1.out.cut,HR1.out.cat,HR1.out.part,by rw[HM.out];omega,HR1.out.hi,HR1.out.below⟩;apply wp_goto;show zDZ w B cb s 1 _ _;exact⟨0+1,_,([]:List QB),([]:List UInt8)++[c],_,_,_,_,_,_,_,_,_,_,_,_,_,_,_,_,_,_,_,_,_,_,_,_,_,_,_,_,_,_,_,_,_,_,_,_,_,_,_,_,_,_,by omega,rfl,.inr ⟨rfl,hrel9⟩⟩);(·have hrel9:FeedRel w B cb s w3 (.slice none 0 0) (0+1) 16 128 ([]:List QB) (([]:List UInt8)++[c]):=⟨HR1.out.row,HR1.out.cut,HR1.out.cat,HR1.out.part,by rw[HM.out];omega,HR1.out.hi,HR1.out.below⟩;clear HR1;have HR1:=Hd hrel9;clear hrel9;apply wp_label;have HEn:=Hd (zAr HR1.out.cut);have HN1:=Hd (show 16≤(([]:List UInt8)++[c]).length∧(([]:List UInt8)++[c]).length≤128 from⟨HR1.out.lo,HR1.out.hi⟩);have HF1:=Hd (HR1.out.few (by omega));go_wp2_with(first|(go_at_call 95;refine(HEn.out).mono ?_;rintro e w5⟨rfl,hc5,hk5⟩;have HC5:=Hd hc5;have HK5:=Hd hk5;(have hne5:∀q,(Value.slice none 0 0).ownBlock=some q→q≠cb:=fun q e e2=>by exact zQo);have HNe5:=Hd hne5;have HRow5:=Hd (hk5.ownsRow HR1.out.row (fun q e e2=>hne5 q e e2));have HB5:=Hd (show Below B w w5 from HR1.out.below.trans (hk5.below (Nat.le_trans HB.out HR1.out.below.size) (fun i hi e=>by have:=hc5.2;omega)));clear hc5 hk5 hne5)|(at_builtin;refine wpList_append_own_at _ (by rfl) _ _ 22 (by rfl) B 9 i0 (.string ⟨#[]⟩) 1 16 underlying22 HI.out Hz0.out Hz1.out Hz2.out (by rfl) (by decide) (.slice none 0 0) _ _ (by rfl) (HRow5.out.alloc _) ⟨w5.heap.size,0,none⟩ 1 1 [.string ⟨(([]:List UInt8)++[c]).toArray⟩] (by rfl) (by rfl) (cell_one_new _ _ _) (by simp[Value.oneCell']) (by have:=HF1.out;unfold maxLen;omega) (by have:=HF1.out;omega) ?_ ?_;(·exact zQp);intro v8 w8 hown8 hg8 hnil8 hloc8;have HO8:=Hd hown8;have HK8:=Hd (((Keep.refl (fun q=>(Value.slice none 0 0).ownBlock=some q) w5).alloc (.cells #[.string ⟨(([]:List UInt8)++[c]).toArray⟩] 9)).grown hg8 (fun q _ e=>e));clear hown8 hg8 hnil8 hloc8));have hb8:Below B w w8:=HB5.out.trans (HK8.out.below (Nat.le_trans HB.out HB5.out.size) (fun i hi e=>by have:=(HRow5.out.lt i e).1;omega));have hc8:CutAt w8 B cb []:=CutAt.fresh ⟨HK8.out.at HC5.out.1 (fun e=>HNe5.out _ e rfl),HC5.out.2⟩;(have hr8:w8.ownsRow B 9 1 v8 (([]:List QB)++[(⟨(([]:List UInt8)++[c]).toArray⟩:QB)]).length (zJc (([]:List QB)++[(⟨(([]:List UInt8)++[c]).toArray⟩:QB)])):=by exact zPB);(have hrel8:FeedRel w B cb s w8 v8 (0+1) 0 127 (([]:List QB)++[(⟨(([]:List UInt8)++[c]).toArray⟩:QB)]) []:=by refine⟨hr8,hc8,?_,fun x hx=> ?_,by simp,by simp,hb8⟩;(·exact zQq);·rcases List.mem_append.1 hx with e|e;(·exact HR1.out.part x e);·rw[List.mem_singleton.1 e];have h1:=HN1.out;(have h2:(⟨(([]:List UInt8)++[c]).toArray⟩:QB).size=(([]:List UInt8)++[c]).length:=by show(([]:List UInt8)++[c]).toArray.size=_;exact List.size_toArray);omega);go_wp2;apply wp_goto;show zDZ w B cb s 0 _ _;exact⟨0+1,v8,([]:List QB)++[(⟨(([]:List UInt8)++[c]).toArray⟩:QB)],[],_,_,_,_,_,_,_,_,_,_,_,_,_,_,_,_,_,_,_,_,_,_,_,_,_,_,_,_,_,_,_,_,_,_,_,_,_,_,_,_,_,_,by omega,rfl,.inl ⟨rfl,hrel8⟩⟩);·have hrel9:FeedRel w B cb s w3 (.slice none 0 0) (0+1) 0 127 ([]:List QB) (([]:List UInt8)++[c]):=⟨HR1.out.row,HR1.out.cut,HR1.out.cat,HR1.out.part,by simp,by exact zTU,HR1.out.below⟩;exact zTT);·(have hkn:0=s.size:=by omega);(have g1:((0:Int)==(s.size:Int))=true:=by simp;omega);go_wp2;rw[zDW];go_ret;exact⟨_,([]:List QB),([]:List UInt8),rfl,by rw[←hkn];exact hrel⟩
 ·intro l a wr hJ;obtain⟨k,v,ls,o,u2,u3,u4,u7,u8,u9,u10,u11,u12,u13,u14,u15,u16,u17,u18,u19,u20,u21,u22,u23,u24,u25,u26,u27,u28,u29,u30,u31,u32,u33,u34,u35,u36,u37,u38,u39,u40,u41,u42,u43,u44,u45,hk,rfl,hrel⟩:=hJ;rcases hrel with⟨rfl,hrel⟩|⟨rfl,hrel⟩;(·refine⟨_,rfl,?_⟩;obtain⟨sa,sc,rfl⟩:=zA hrel.row;by_cases hlt:k<s.size;(·have HR:=Hd hrel;have hB1:B≤wr.heap.size:=Nat.le_trans HB.out hrel.below.size;have HRo:=Hd (zDX hrel.cut hB1 (by have:=hrel.hi;omega) s[k]);obtain⟨cs,hcs⟩:=hrel.cut.cell;have HCs:=Hd hcs;(have g1:(((k:Nat):Int)==(s.size:Int))=false:=by simp;omega);(have g2:((k:Nat):Int)<(s.size:Int):=by omega);(have hsz:(s.size:Int)≤100000:=by omega);(have hcat:ls.flatMap (fun x=>x.data.toList)++(o++[s[k]])=s.data.toList.take (k+1):=by exact zTR);have HCat:=Hd hcat;clear hcs hcat hrel;obtain⟨c,hc⟩:=qN (s[k]);rw[hc]at HRo HCat;have hx:=zL s k hlt;rw[hc]at hx;rw[hx]at HRo;go_wp2_with(first|(go_at_call 158;refine(HRo.out).mono ?_;rintro e w3⟨rfl,hc3,hk3⟩;have HR1:=Hd (show FeedRel w B cb s w3 (.slice sa ls.length sc) (k+1) 1 128 ls (o++[c])from⟨zDY HR.out.row HCs.out hk3,hc3,HCat.out,HR.out.part,by rw[Ql];simp,by rw[Ql];have:=HR.out.hi;simp<;>omega,HR.out.below.trans (hk3.below hB1 (fun i hi e=>by have:=e.1;omega))⟩);obtain⟨v3,za,zb,q1,q2,q3,q4⟩:=hc3.ex;obtain⟨va,vc,hv3⟩:=zA q2;subst hv3;obtain⟨m,hm⟩:=qN ((o++[c]).length);rw[hm]at q1;have c0:w3.cell? ⟨cb,0,none⟩=some (.slice va m vc):=Qc q1 0;have c1:w3.cell? ⟨cb,1,none⟩=some (.complex .f64 za zb):=Qc q1 1;have HM:=Hd hm;(have hm128:m≤128:=by rw[←hm];exact HR1.out.hi);have HCe:=Hd (fun u=>zFw za zb _ q3 (by rw[hm];omega) u);clear hc3 hk3 q1 q2 q3 q4 hm;(have hm3:(((m:Int)==128)=false∧decide ((m:Int)<16)=true)∨(((m:Int)==128)=true∧m=128)∨(((m:Int)==128)=false∧decide ((m:Int)<16)=false∧16≤m):=by exact zTS);rcases hm3 with⟨f1,f2⟩|⟨f1,hm2⟩|⟨f1,f2,hm1⟩)|(go_at_call 159;refine(HCe.out _).mono ?_;rintro e w4⟨⟨kk,rfl⟩,rfl⟩;by_cases hkk:kk=0));(·have hrel9:FeedRel w B cb s w3 (.slice sa ls.length sc) (k+1) 0 127 ls (o++[c]):=⟨HR1.out.row,HR1.out.cut,HR1.out.cat,HR1.out.part,by simp,by rw[HM.out];have:=of_decide_eq_true f2;omega,HR1.out.below⟩;exact zTV);(·have hrel9:FeedRel w B cb s w3 (.slice sa ls.length sc) (k+1) 16 128 ls (o++[c]):=⟨HR1.out.row,HR1.out.cut,HR1.out.cat,HR1.out.part,by rw[HM.out];omega,HR1.out.hi,HR1.out.below⟩;apply wp_goto;show zDZ w B cb s 1 _ _∧zAT s.size 1 _ _<zAT s.size _ _ _;exact⟨⟨k+1,_,ls,o++[c],_,_,_,_,_,_,_,_,_,_,_,_,_,_,_,_,_,_,_,_,_,_,_,_,_,_,_,_,_,_,_,_,_,_,_,_,_,_,_,_,_,_,by omega,rfl,.inr ⟨rfl,hrel9⟩⟩,by unfold zAT;simp[intOf]<;>omega⟩);(·have hrel9:FeedRel w B cb s w3 (.slice sa ls.length sc) (k+1) 16 128 ls (o++[c]):=⟨HR1.out.row,HR1.out.cut,HR1.out.cat,HR1.out.part,by rw[HM.out];omega,HR1.out.hi,HR1.out.below⟩;clear HR1;have HR1:=Hd hrel9;clear hrel9;apply wp_label;have HEn:=Hd (zAr HR1.out.cut);have HN1:=Hd (show 16≤(o++[c]).length∧(o++[c]).length≤128 from⟨HR1.out.lo,HR1.out.hi⟩);have HF1:=Hd (HR1.out.few (by omega));go_wp2_with(first|(go_at_call 95;refine(HEn.out).mono ?_;rintro e w5⟨rfl,hc5,hk5⟩;have HC5:=Hd hc5;have HK5:=Hd hk5;(have hne5:∀q,(Value.slice sa ls.length sc).ownBlock=some q→q≠cb:=fun q e e2=>by exact zQo);have HNe5:=Hd hne5;have HRow5:=Hd (hk5.ownsRow HR1.out.row (fun q e e2=>hne5 q e e2));have HB5:=Hd (show Below B w w5 from HR1.out.below.trans (hk5.below (Nat.le_trans HB.out HR1.out.below.size) (fun i hi e=>by have:=hc5.2;omega)));clear hc5 hk5 hne5)|(at_builtin;refine wpList_append_own_at _ (by rfl) _ _ 22 (by rfl) B 9 i0 (.string ⟨#[]⟩) 1 16 underlying22 HI.out Hz0.out Hz1.out Hz2.out (by rfl) (by decide) (.slice sa ls.length sc) _ _ (by rfl) (HRow5.out.alloc _) ⟨w5.heap.size,0,none⟩ 1 1 [.string ⟨(o++[c]).toArray⟩] (by rfl) (by rfl) (cell_one_new _ _ _) (by simp[Value.oneCell']) (by have:=HF1.out;unfold maxLen;omega) (by have:=HF1.out;omega) ?_ ?_;(·exact zQp);intro v8 w8 hown8 hg8 hnil8 hloc8;have HO8:=Hd hown8;have HK8:=Hd (((Keep.refl (fun q=>(Value.slice sa ls.length sc).ownBlock=some q) w5).alloc (.cells #[.string ⟨(o++[c]).toArray⟩] 9)).grown hg8 (fun q _ e=>e));clear hown8 hg8 hnil8 hloc8));have hb8:Below B w w8:=HB5.out.trans (HK8.out.below (Nat.le_trans HB.out HB5.out.size) (fun i hi e=>by have:=(HRow5.out.lt i e).1;omega));have hc8:CutAt w8 B cb []:=CutAt.fresh ⟨HK8.out.at HC5.out.1 (fun e=>HNe5.out _ e rfl),HC5.out.2⟩;(have hr8:w8.ownsRow B 9 1 v8 (ls++[(⟨(o++[c]).toArray⟩:QB)]).length (zJc (ls++[(⟨(o++[c]).toArray⟩:QB)])):=by exact zPB);(have hrel8:FeedRel w B cb s w8 v8 (k+1) 0 127 (ls++[(⟨(o++[c]).toArray⟩:QB)]) []:=by refine⟨hr8,hc8,?_,fun x hx=> ?_,by simp,by simp,hb8⟩;(·exact zQq);·rcases List.mem_append.1 hx with e|e;(·exact HR1.out.part x e);·rw[List.mem_singleton.1 e];have h1:=HN1.out;(have h2:(⟨(o++[c]).toArray⟩:QB).size=(o++[c]).length:=by show(o++[c]).toArray.size=_;exact List.size_toArray);omega);go_wp2;apply wp_goto;show zDZ w B cb s 0 _ _∧zAT s.size 0 _ _<zAT s.size _ _ _;exact⟨⟨k+1,v8,ls++[(⟨(o++[c]).toArray⟩:QB)],[],_,_,_,_,_,_,_,_,_,_,_,_,_,_,_,_,_,_,_,_,_,_,_,_,_,_,_,_,_,_,_,_,_,_,_,_,_,_,_,_,_,_,by omega,rfl,.inl ⟨rfl,hrel8⟩⟩,by unfold zAT;simp[intOf]<;>omega⟩);·have hrel9:FeedRel w B cb s w3 (.slice sa ls.length sc) (k+1) 0 127 ls (o++[c]):=⟨HR1.out.row,HR1.out.cut,HR1.out.cat,HR1.out.part,by simp,by exact zTU,HR1.out.below⟩;exact zTV);·(have hkn:k=s.size:=by omega);(have g1:(((k:Nat):Int)==(s.size:Int))=true:=by simp;omega);go_wp2;rw[zDW];go_ret;exact⟨_,ls,o,rfl,by rw[←hkn];exact hrel⟩);·refine⟨_,rfl,?_⟩;obtain⟨sa,sc,rfl⟩:=zA hrel.row;have HR1:=Hd hrel;clear hrel;have HEn:=Hd (zAr HR1.out.cut);have HN1:=Hd (show 16≤(o).length∧(o).length≤128 from⟨HR1.out.lo,HR1.out.hi⟩);have HF1:=Hd (HR1.out.few (by omega));go_wp2_with(first|(go_at_call 95;refine(HEn.out).mono ?_;rintro e w5⟨rfl,hc5,hk5⟩;have HC5:=Hd hc5;have HK5:=Hd hk5;(have hne5:∀q,(Value.slice sa ls.length sc).ownBlock=some q→q≠cb:=fun q e e2=>by exact zQo);have HNe5:=Hd hne5;have HRow5:=Hd (hk5.ownsRow HR1.out.row (fun q e e2=>hne5 q e e2));have HB5:=Hd (show Below B w w5 from HR1.out.below.trans (hk5.below (Nat.le_trans HB.out HR1.out.below.size) (fun i hi e=>by have:=hc5.2;omega)));clear hc5 hk5 hne5)|(at_builtin;refine wpList_append_own_at _ (by rfl) _ _ 22 (by rfl) B 9 i0 (.string ⟨#[]⟩) 1 16 underlying22 HI.out Hz0.out Hz1.out Hz2.out (by rfl) (by decide) (.slice sa ls.length sc) _ _ (by rfl) (HRow5.out.alloc _) ⟨w5.heap.size,0,none⟩ 1 1 [.string ⟨(o).toArray⟩] (by rfl) (by rfl) (cell_one_new _ _ _) (by simp[Value.oneCell']) (by have:=HF1.out;unfold maxLen;omega) (by have:=HF1.out;omega) ?_ ?_;(·exact zQp);intro v8 w8 hown8 hg8 hnil8 hloc8;have HO8:=Hd hown8;have HK8:=Hd (((Keep.refl (fun q=>(Value.slice sa ls.length sc).ownBlock=some q) w5).alloc (.cells #[.string ⟨(o).toArray⟩] 9)).grown hg8 (fun q _ e=>e));clear hown8 hg8 hnil8 hloc8));have hb8:Below B w w8:=HB5.out.trans (HK8.out.below (Nat.le_trans HB.out HB5.out.size) (fun i hi e=>by have:=(HRow5.out.lt i e).1;omega));have hc8:CutAt w8 B cb []:=CutAt.fresh ⟨HK8.out.at HC5.out.1 (fun e=>HNe5.out _ e rfl),HC5.out.2⟩;(have hr8:w8.ownsRow B 9 1 v8 (ls++[(⟨(o).toArray⟩:QB)]).length (zJc (ls++[(⟨(o).toArray⟩:QB)])):=by exact zPB);(have hrel8:FeedRel w B cb s w8 v8 (k) 0 127 (ls++[(⟨(o).toArray⟩:QB)]) []:=by refine⟨hr8,hc8,?_,fun x hx=> ?_,by simp,by simp,hb8⟩;(·exact zQq);·rcases List.mem_append.1 hx with e|e;(·exact HR1.out.part x e);·rw[List.mem_singleton.1 e];have h1:=HN1.out;(have h2:(⟨(o).toArray⟩:QB).size=(o).length:=by show(o).toArray.size=_;exact List.size_toArray);omega);go_wp2;apply wp_goto;show zDZ w B cb s 0 _ _∧zAT s.size 0 _ _<zAT s.size _ _ _;exact⟨⟨k,v8,ls++[(⟨(o).toArray⟩:QB)],[],_,_,_,_,_,_,_,_,_,_,_,_,_,_,_,_,_,_,_,_,_,_,_,_,_,_,_,_,_,_,_,_,_,_,_,_,_,_,_,_,_,_,by omega,rfl,.inl ⟨rfl,hrel8⟩⟩,by unfold zAT;simp[intOf]<;>omega⟩
structure PartsOf(s:QB)(ls:List QB):Prop where
 cat:ls.flatMap (fun x=>x.data.toList)=s.data.toList
 part:∀x∈ls,1≤x.size∧x.size≤128
 few:16*ls.length≤s.size+15
theorem zLM(s:QB)(hs:s.size≤100000)(w:World):Calls prog 34 #[.string s] w fun e w'=>∃v ls,e= .returned v∧w'.ownsRow w.heap.size 9 1 v ls.length (zJc ls)∧PartsOf s ls∧Below w.heap.size w w':=by
 have HN:=Hd (zJb w)
 have HF:=Hd (fun(u:World)(hc:CutAt u w.heap.size w.heap.size [])(hb:w.heap.size≤u.heap.size)=>zM7 hc hb hs)
 obtain⟨i0,hi0,hz0,hz1,hz2⟩:=info_parts zIB
 have HI:=Hd hi0
 have Hz0:=Hd hz0
 have Hz1:=Hd hz1
 have Hz2:=Hd hz2
 clear hi0 hz0 hz1 hz2
 go_enter func34,ntmps34
 go_wp2_with(first|(go_at_call 93;refine(HN.out).mono ?_;rintro e w1⟨rfl,hc1,hb1,hz1⟩;have HB1:=Hd hb1;have HFe:=Hd (HF.out w1 hc1 hb1.size);clear hc1 hb1 hz1)|(go_at_call 94;refine(HFe.out).mono ?_;rintro e w2⟨v,ls,o,rfl,hrel⟩;obtain⟨sa,sc,hv⟩:=zA hrel.row;subst hv;have HR:=Hd hrel;have hen:=zAr hrel.cut;obtain⟨x,hx⟩:∃x:QB,(⟨o.toArray⟩:QB)=x:=⟨_,rfl⟩;rw[hx]at hen;have HEn:=Hd hen;have HX:=Hd hx;(have hxl:x.toList=o:=by rw[←hx,Lib.toList_data]);(have hcase:(x.toList.isEmpty=true∧o=[])∨(x.toList.isEmpty=false∧¬(x.toList=[])∧o≠[]):=by rw[hxl];cases o with|nil=>exact .inl ⟨rfl,rfl⟩|cons c t=>exact .inr ⟨rfl,by simp,by simp⟩);clear hrel hen hx hxl;rcases hcase with⟨x1,ho⟩|⟨x1,x2,ho⟩)|(go_at_call 95;refine(HEn.out).mono ?_;rintro e w3⟨rfl,hc3,hk3⟩;(have hne5:∀q,(Value.slice sa ls.length sc).ownBlock=some q→q≠w.heap.size:=fun q e e2=>by obtain⟨c,fz,h1⟩:=xM HR.out.row q e;obtain⟨cs,h2⟩:=HR.out.cut.cell;rw[e2,h2]at h1;cases h1);have HRow:=Hd (hk3.ownsRow HR.out.row (fun q e e2=>hne5 q e e2));have HB3:=Hd (show Below w.heap.size w w3 from HB1.out.trans (HR.out.below.trans (hk3.below (Nat.le_trans HB1.out.size HR.out.below.size) (fun i hi e=>by omega))));clear hc3 hk3 hne5)|(at_builtin;refine wpList_append_own_at _ (by rfl) _ _ 22 (by rfl) w.heap.size 9 i0 (.string ⟨#[]⟩) 1 16 underlying22 HI.out Hz0.out Hz1.out Hz2.out (by rfl) (by decide) (.slice sa ls.length sc) _ _ (by rfl) (HRow.out.alloc _) ⟨w3.heap.size,0,none⟩ 1 1 [.string x] (by rfl) (by rfl) (cell_one_new _ _ _) (by simp[Value.oneCell']) (by have:=HR.out.few (Qn _);unfold maxLen;omega) (by have:=HR.out.few (Qn _);omega) ?_ ?_;(·have h1:=HB3.out.size;simp;omega);intro v8 w8 hown8 hg8 hnil8 hloc8;have HO8:=Hd hown8;have HK8:=Hd (((Keep.refl (fun q=>(Value.slice sa ls.length sc).ownBlock=some q) w3).alloc (.cells #[.string x] 9)).grown hg8 (fun q _ e=>e));clear hown8 hg8 hnil8 hloc8))
 ·go_ret;have hc:=HR.out.cat;rw[ho,List.append_nil,Qk (by rw[Array.length_toList];exact Qn _)]at hc;exact⟨_,ls,rfl,HRow.out,⟨hc,fun y hy=>by have:=HR.out.part y hy;omega,by have:=HR.out.few (Qn _);omega⟩,HB3.out⟩
 ·go_ret;have hc:=HR.out.cat;rw[Qk (by rw[Array.length_toList];exact Qn _)]at hc;(have hxs:x.size=o.length:=by rw[←HX.out];show o.toArray.size=_;exact List.size_toArray);(have hol:1≤o.length:=by cases o with|nil=>exact absurd rfl ho|cons c t=>simp);refine⟨_,ls++[x],rfl,?_,⟨?_,fun y hy=> ?_,?_⟩,HB3.out.trans (HK8.out.below HB3.out.size (fun i hi e=>by have:=(HRow.out.lt i e).1;omega))⟩;(·exact zPB);(·rw[List.flatMap_append,←hc,←HX.out];simp);(·rcases List.mem_append.1 hy with e|e;(·have:=HR.out.part y e;omega);·rw[List.mem_singleton.1 e,hxs];have:=HR.out.hi;omega);·have:=HR.out.few (Qn _);rw[Ql,List.length_singleton];omega
end
section
open Go.RowKit Go.MapKept
attribute [local go_sem] yo yg
theorem zx{P:Program}{fn:Func}{p u:Tmp}{ty:TypeId}(h:fn.results= #[.cell p ty,.tmp u])(tmps:Array Value)(w:World)(g:Nat)(t:TypeId)(cs:Array Value)(fr:Nat×Nat)(d:TypeDesc)(hp:tmps.getD p undef= .pointer (some ⟨g,0,none⟩))(hg:w.heap[g]? =some (.cells cs t fr))(hu:P.underlying ty=some d)(hd:(match d with| .struct _| .array _ _=>true|_=>false)=true)(hi:(P.info? ty).map (·.size)=some cs.size):(results fn tmps).run P w= .ok (.tuple #[.agg cs,tmps.getD u undef]) w:=by
 exact zTW
section
variable {w : World} {sb : Nat} {s : Sto} {D : Dict} {nz : Nat}
theorem zM8(h:StAt w sb s D nz)(hn:nz≤1900∧8*nz+300≤s.R.pages)(hk8:s.kvI.length<256){t:QB}(h1:1≤t.size)(h2:t.size≤128):Calls prog 37 #[.pointer (some ⟨sb,0,none⟩),.string t] w fun e w'=>∃id s' D',e= .returned (.tuple #[.agg #[.string id,.int .i64 t.size],.int .i64 0])∧id.size=33∧StAt w' sb s' D' (nz+2)∧StStep w s w' s'∧D' id=some t∧D.le D'∧s'.kvI.length≤s.kvI.length+1:=by
 have hb0:Below w.heap.size w (w.alloc (.cells #[.string ⟨#[]⟩,.int .i64 0] 98)):=qA
 have HM:=Hd (zAn (h.still hb0))
 have HP:=Hd (zOt (h.still hb0) (by omega) hk8 h1 h2)
 have HSt:=Hd h
 have HB0:=Hd hb0
 have HE0:=Hd (qH w (.cells #[.string ⟨#[]⟩,.int .i64 0] 98))
 have ht9:t.size≤9223372036854775807:=by omega
 clear h hb0
 go_enter func37,ntmps37
 go_wp2_with(first|(go_at_call 36;refine(HM.out).mono ?_;rintro e _⟨rfl,rfl⟩)|(go_at_call 97;refine(HP.out).mono ?_;rintro e w1⟨id,fresh,s1,D1,rfl,hid,hs1,hss1,hD1,hle1,hkv1⟩;have HA:=Hd (zQj hs1 (by have:=hss1.pg;omega) (by have:=hs1.sized.puts;omega) (id:=id) (by omega) hD1);have HSS1:=Hd hss1;have HS1:=Hd hs1;have HD1:=Hd (show id.size=33∧D1 id=some t∧D.le D1 from⟨hid,hD1,hle1⟩);clear hid hs1 hss1 hD1 hle1)|(go_at_call 98;refine(HA.out).mono ?_;rintro e w2⟨rfl,s2,hs2,hss2,hkv2⟩;have HS2:=Hd hs2;have hah:=HSt.out.ahead;(have hnf0:¬s.foot w.heap.size:=fun e=>by have:=hah.2.2.2 _ e;omega);(have hz0:w.heap.size<(w.alloc (.cells #[.string ⟨#[]⟩,.int .i64 0] 98)).heap.size:=by simp);have hnf1:¬s1.foot w.heap.size:=fun e=>(HSS1.out.foot _ e).elim hnf0 (fun e2=>by omega);have hz1:w.heap.size<w1.heap.size:=Qt hz0 HSS1.out.keep.size;have hnf2:¬s2.foot w.heap.size:=fun e=>(hss2.foot _ e).elim hnf1 (fun e2=>by omega);have hx1:=HSS1.out.keep.at HE0.out hnf0;have hx2:=hss2.keep.at hx1 hnf1;have d0:w2.cell? ⟨w.heap.size,0,none⟩=some (.string ⟨#[]⟩):=Qc hx2 0;have d1:w2.cell? ⟨w.heap.size,1,none⟩=some (.int .i64 0):=Qc hx2 1;(have y0:w2.frozen? ⟨w.heap.size,0,none⟩=false:=by simp[World.frozen?,hx2]);(have y1:w2.frozen? ⟨w.heap.size,1,none⟩=false:=by simp[World.frozen?,hx2]);have HX2:=Hd hx2;have HNf2:=Hd hnf2;have HSS2:=Hd ((StStep.still (s:=s) HB0.out).trans (HSS1.out.trans hss2));clear hs2 hss2 hah hnf0 hz0 hnf1 hz1 hnf2 hx1 hx2))
 have hx3:=heap_setCell_same w2 w.heap.size 0 _ _ (.string id) HX2.out
 have hx4:=heap_setCell_same _ w.heap.size 1 _ _ (.int .i64 t.size) hx3
 have hk:=((Keep.refl (fun k=>k=w.heap.size) w2).setCell (p:=⟨w.heap.size,0,none⟩) (fun _=>rfl) (.string id)).setCell (p:=⟨w.heap.size,1,none⟩) (fun _=>rfl) (.int .i64 t.size)
 have hah:=HSt.out.ahead
 have hib:=HSS2.out.ib
 have hlb:=HSS2.out.lb
 refine bodyPost_ret (zx rfl _ _ w.heap.size _ _ _ _ rfl hx4 underlying98 rfl (by kernel_rfl)) rfl ?_
 exact⟨id,s2,D1,rfl,HD1.out.1,HS2.out.aside hk (by omega) (by omega) (by omega) HNf2.out,⟨HSS2.out.keep.trans hk (fun i hi e=>by omega),HSS2.out.foot,hib,hlb,HSS2.out.br,HSS2.out.pg,HSS2.out.X⟩,HD1.out.2.1,HD1.out.2.2,by omega⟩
end
abbrev xV:=List (QB×Int)
def zDB(l:xV):List Value:=l.flatMap (fun r=>[Value.string r.1,Value.int .i64 r.2])
theorem zLN(l:xV)(r:QB×Int):zDB (l++[r])=zDB l++[Value.string r.1,Value.int .i64 r.2]:=by
 unfold zDB
 rw[List.flatMap_append]
 simp
theorem zPC:(prog.info? 98).map (fun i=>(i.zero,i.size,i.bytes))=some (some (.agg #[.string ⟨#[]⟩,.int .i64 0]),2,24):=by
 kernel_rfl
structure Met(D:Dict)(l:xV)(ls:List QB):Prop where
 len:l.length=ls.length
 one:∀(j:Nat)r p,l[j]? =some r→ls[j]? =some p→r.1.size=33∧r.2=(p.size:Int)∧D r.1=some p
theorem Met.nil(D:Dict):Met D [] []:=⟨rfl,fun j r p h=>by simp at h⟩
theorem Met.snoc{D D':Dict}{l:xV}{ls:List QB}(h:Met D l ls)(hle:D.le D'){id p:QB}(hid:id.size=33)(hD:D' id=some p):Met D' (l++[(id,(p.size:Int))]) (ls++[p]):=by
 refine⟨by rw[Ql,Ql,h.len];rfl,fun j r q h1 h2=> ?_⟩
 by_cases hj:j<l.length
 ·rw[List.getElem?_append_left hj]at h1;rw[List.getElem?_append_left (by rw[←h.len];exact hj)]at h2;obtain⟨a,b,c⟩:=h.one j r q h1 h2;exact⟨a,b,hle _ _ c⟩
 ·rw[List.getElem?_append_right (by omega)]at h1;rw[List.getElem?_append_right (by rw[←h.len];omega),←h.len]at h2;by_cases e:j-l.length=0;(·rw[e]at h1 h2;simp at h1 h2;rw[←h1,←h2];exact⟨hid,rfl,hD⟩);·rw[List.getElem?_eq_none (by simp;omega)]at h1;cases h1
structure Built(w2:World)(B sb:Nat)(s:Sto)(D:Dict)(ls:List QB)(nz:Nat)(wr:World)(v:Value)(k:Nat)(s':Sto)(D':Dict)(l:xV):Prop where
 st:StAt wr sb s' D' (nz+2*k)
 step:StStep w2 s wr s'
 le:D.le D'
 met:Met D' l (ls.take k)
 row:wr.ownsRow B 98 2 v k (zDB l)
 apart:∀g,v.ownBlock=some g→¬s'.foot g∧w2.heap.size≤g
 kv:s'.kvI.length≤s.kvI.length+k
theorem zM9{w:World}{sb:Nat}{s:Sto}{D:Dict}{nz:Nat}(h:StAt w sb s D nz)(text:QB)(ht:text.size≤2000)(hn:nz+text.size≤1500∧8*(nz+text.size)+500≤s.R.pages)(hk8:16*s.kvI.length+text.size≤4000):Calls prog 12 #[.pointer (some ⟨sb,0,none⟩),.string text] w fun e w'=>∃v l ls s' D' k,e= .returned (.tuple #[v,.int .i64 0])∧PartsOf text ls∧Met D' l ls∧w'.ownsRow w.heap.size 98 2 v l.length (zDB l)∧(∀g,v.ownBlock=some g→¬s'.foot g)∧StAt w' sb s' D' (nz+2*k)∧16*k≤text.size+15∧StStep w s w' s'∧s'.kvI.length≤s.kvI.length+k∧D.le D':=by
 have HC:=Hd (zLM text (by omega) w)
 have HSt:=Hd h
 obtain⟨i0,hi0,hz0,hz1,hz2⟩:=info_parts zPC
 have HI:=Hd hi0
 have Hz0:=Hd hz0
 have Hz1:=Hd hz1
 have Hz2:=Hd hz2
 clear h hi0 hz0 hz1 hz2
 go_enter func12,ntmps12
 go_wp2_with(go_at_call 34;refine(HC.out).mono ?_;rintro e w1⟨v,ls,rfl,hrow,hpt,hb1⟩;obtain⟨sa,sc,hv⟩:=zA hrow;subst hv;have HRow:=Hd hrow;have HPt:=Hd hpt;have HB1:=Hd hb1;have HM:=Hd (zAn (HSt.out.still hb1));have HW:=Hd (zLB (HSt.out.still hb1) (by omega));obtain⟨n,hnn⟩:=qN ls.length;(have hn38:16*n≤text.size+15:=by have:=hpt.few;omega);rw[hnn]at HRow;have HN:=Hd hnn;(have g0:decide ((4000:Int)<(n:Int))=false:=by simp;omega);(have hcase:(((n:Int)==0)=true∧n=0)∨(((n:Int)==0)=false∧1≤n):=by by_cases e:n=0;(·exact .inl ⟨by simp[e],e⟩);·exact .inr ⟨by simp;omega,by omega⟩);rw[hnn];clear hrow hpt hb1 hnn;rcases hcase with⟨g1,hn0⟩|⟨g1,hn1⟩)
 ·subst hn0;go_wp2_with(go_at_call 35;refine(HW.out).mono ?_;rintro e w2⟨⟨m,rfl⟩,hb2⟩);go_ret2;have hls:ls=[]:=List.length_eq_zero_iff.1 HN.out;have hb:Below w.heap.size w w2:=qT HB1.out hb2;exact⟨_,[],ls,s,D,0,rfl,HPt.out,by rw[hls];exact Met.nil D,qO,fun g e=>(by cases e),HSt.out.still hb,by omega,StStep.still hb,Qn _,Dict.le_refl D⟩
 ·have hst1:=HSt.out.still HB1.out;have HS1:=Hd hst1;have HAh:=Hd hst1.ahead;have HAh0:=Hd HSt.out.ahead;have HSz:=Hd HB1.out.size;clear hst1;go_wp2_with(go_at_call 36;refine(HM.out).mono ?_;rintro e _⟨rfl,rfl⟩);go_loopw [12,14,15,16,43](fun v _ _ _ i wr=>∃(k:Nat)(s':Sto)(D':Dict)(l:xV),k≤n∧i= .int .i64 k∧Built w1 w.heap.size sb s D ls nz wr v k s' D' l)(fun _ _ _ _ i _=>n-(intOf i).toNat);(case atStart=>exact⟨0,s,D,[],by omega,rfl,HS1.out,StStep.refl _ _,Dict.le_refl D,by rw[List.take_zero];exact Met.nil D,qO,fun g e=>(by cases e),Qn _⟩);case round=>obtain⟨k,s',D',l,hk,rfl,hbt⟩:=hrel;obtain⟨oa,oc,hov⟩:=zA hbt.row;subst hov;have HBt:=Hd hbt;by_cases hlt:k<n;(·(have g2:decide ((k:Int)<(n:Int))=true:=by simp;omega);(have g2':decide (k<n)=true:=by simpa using hlt);(have hkl:k<ls.length:=by rw[HN.out];exact hlt);obtain⟨gs,cs,hs,hc1,hc2,hgB⟩:=zH HRow.out (by omega);obtain⟨e1,e2,e3⟩:=Value.slice.inj hs;subst e1;have hgl:=(HRow.out.lt gs rfl);have q1:w1.cell? ⟨gs,k,none⟩=some (.string ls[k]):=zC HRow.out k _ (by unfold zJc;rw[List.getElem?_map,Qg hkl];rfl);(have hgf:¬s.foot gs:=fun e=>by have:=HAh0.out.2.2.2 _ e;omega);(have q0:wr.cell? ⟨gs,k,none⟩=some (.string ls[k]):=by rw[hbt.step.keep.cell (p:=⟨gs,k,none⟩) hgl.2 hgf];exact q1);have hp:=HPt.out.part _ (List.getElem_mem hkl);have HK:=Hd (zM8 hbt.st (by have:=hbt.step.pg;omega) (by have:=hbt.kv;omega) hp.1 hp.2);have htk:ls.take (k+1)=ls.take k++[ls[k]]:=List.take_succ_eq_append_getElem hkl;obtain⟨p,hpe⟩:=qN (ls[k]);rw[hpe]at q0 HK htk;have HTk:=Hd htk;(have hk0:(k:Int)<(n:Int):=by omega);(have hnl:(n:Int)≤130:=by omega);clear hs e2 e3 q1 hgf hp htk hpe hbt;go_wp2_with(first|(go_at_call 37;refine(HK.out).mono ?_;rintro e w3⟨id,s3,D3,rfl,hid,hs3,hss3,hD3,hle3,hkv3⟩;have HS3:=Hd hs3;have HSS3:=Hd hss3;have HD3:=Hd (show id.size=33∧D3 id=some p∧D'.le D3 from⟨hid,hD3,hle3⟩);have HRow3:=Hd (hss3.keep.ownsRow HBt.out.row (fun g e=>(HBt.out.apart g e).1));have hx4:=qH w3 (.cells #[.string id,.int .i64 p.size] 98);have d0:(w3.alloc (.cells #[.string id,.int .i64 p.size] 98)).cell? ⟨w3.heap.size,0,none⟩=some (.string id):=Qc hx4 0;have d1:(w3.alloc (.cells #[.string id,.int .i64 p.size] 98)).cell? ⟨w3.heap.size,1,none⟩=some (.int .i64 p.size):=Qc hx4 1;have hx5:=qH (w3.alloc (.cells #[.string id,.int .i64 p.size] 98)) (.cells #[.string id,.int .i64 p.size] 98);rw[World.size_alloc]at hx5;have HX5:=Hd hx5;clear hid hs3 hss3 hD3 hle3 hx4 hx5)|(at_builtin;refine wpList_append_own_at _ (by rfl) _ _ 34 (by rfl) w.heap.size 98 i0 (.agg #[.string ⟨#[]⟩,.int .i64 0]) 2 24 underlying34 HI.out Hz0.out Hz1.out Hz2.out (by rfl) (by decide) (.slice oa k oc) _ _ (by rfl) ((HRow3.out.alloc _).alloc _) ⟨w3.heap.size+1,0,none⟩ 1 1 [.string id,.int .i64 p.size] (by rfl) (by rfl) (World.news_of_block (cs:= #[.string id,.int .i64 p.size]) (t:=98) (fr:=(0,0)) HX5.out) (by simp[Value.oneCell']) (by unfold maxLen;omega) (by omega) ?_ ?_;(·have h1:=HBt.out.step.keep.size;have h2:=HSS3.out.keep.size;have h3:=HSz.out;simp;omega);intro v8 w8 hown8 hg8 hnil8 hloc8;have HO8:=Hd hown8;have HK8:=Hd ((((Keep.refl (fun q=>(Value.slice oa k oc).ownBlock=some q) w3).alloc (.cells #[.string id,.int .i64 p.size] 98)).alloc (.cells #[.string id,.int .i64 p.size] 98)).grown hg8 (fun q _ e=>e));have HLoc:=Hd (show∀g,v8.ownBlock=some g→(Value.slice oa k oc).ownBlock=some g∨w3.heap.size≤g from fun g e=>hloc8.imp (fun e2=>by rw[←e2];exact e) (fun e2=>by exact zMZ));obtain⟨p8,c8,hv8⟩:=zA hown8;subst hv8;clear hown8 hg8 hnil8 hloc8));go_roundw;(case rel=>have hapt:=HBt.out.apart;have hk8:=HK8.out;have hd:=HD3.out;have hz3:=HSS3.out.keep.size;have hz1:=HBt.out.step.keep.size;have hnf3:∀g,(Value.slice oa k oc).ownBlock=some g→¬s3.foot g:=fun g e e2=>(HSS3.out.foot g e2).elim (hapt g e).1 (fun e3=>by have:=(HBt.out.row.lt g e).2;omega);have hlb:=HBt.out.step.lb;have hib:=HBt.out.step.ib;have hlb3:=HSS3.out.lb;have hib3:=HSS3.out.ib;have hah:=HAh.out;refine⟨k+1,s3,D3,l++[(id,(p.size:Int))],by omega,by go_num,HS3.out.keep hk8 (fun e=>by have:=(hapt _ e).2;omega) (fun e=>by have:=(hapt _ e).2;omega) (fun e=>by have:=(hapt _ e).2;omega) (fun g e e2=>hnf3 g e2 e),?_,Dict.le_trans HBt.out.le hd.2.2,by rw[HTk.out];exact HBt.out.met.snoc hd.2.2 hd.1 hd.2.1,by rw[zLN];exact HO8.out,fun g e=> ?_,by have:=HBt.out.kv;omega⟩;(·have h1:=HBt.out.step.trans HSS3.out;exact⟨h1.keep.trans hk8 (fun i hi e=>absurd hi (by have:=(hapt _ e).2;omega)),h1.foot,h1.ib,h1.lb,h1.br,h1.pg,h1.X⟩);·rcases HLoc.out g e with e2|e2;(·exact⟨hnf3 g e2,(hapt g e2).2⟩);·exact⟨fun e3=>by have:=HS3.out.ahead.2.2.2 _ e3;omega,by omega⟩);case measure=>simp[intOf];omega);·(obtain rfl:k=n:=by omega);(have g2:decide ((k:Int)<(k:Int))=false:=by simp);clear hbt;go_wp2;go_ret2;have hm:=HBt.out.met;(have htk:ls.take k=ls:=by rw[←HN.out,List.take_length]);rw[htk]at hm;refine⟨_,l,ls,s',D',k,rfl,HPt.out,hm,by rw[hm.len,HN.out];exact HBt.out.row,fun g e=>(HBt.out.apart g e).1,HBt.out.st,hn38,(StStep.still (s:=s) HB1.out).trans HBt.out.step,HBt.out.kv,HBt.out.le⟩
theorem ky{α:Type}(p:α→Bool):∀l:List α,l.dropWhile p=[]→∀x∈l,p x=true|[],_,x,h=>by cases h|a::l,h,x,hx=>by by_cases hp:p a=true;(·rw[List.dropWhile_cons_of_pos hp]at h;rcases List.mem_cons.1 hx with e|e;(·rw[e];exact hp);·exact ky p l h x e);·rw[List.dropWhile_cons_of_neg hp]at h;cases h
theorem zNC{l cs:List UInt8}(h:Lib.trimS l cs=[]):∀x∈l,cs.contains x=true:=by
 have h1:∀x∈Lib.trimRightS l cs,cs.contains x=true:=ky _ _ h
 have h2:l.reverse.dropWhile (cs.contains ·)=[]:=by exact zTc
 intro x hx
 exact ky _ _ h2 x (List.mem_reverse.2 hx)
theorem zPE{l:List UInt8}(h:∀x∈l,x≠0):Lib.indexByte l 0<0:=by
 exact zTd
theorem yc{s:QB}(h:zK s=true):zf s=true∧s.size≤16:=by
 unfold zK at h
 simp only[Bool.and_eq_true,decide_eq_true_eq]at h
 obtain⟨_,h2,_,h4⟩:=h
 refine⟨decide_eq_true ?_,h2⟩
 have h5:Lib.trimS s.data.toList alphaB.data.toList=[]:=by have:=congrArg (fun b:QB=>b.data.toList) h4;simpa[trimB]using this
 unfold ix0
 exact zPE (fun x hx e=>by have h6:=zNC h5 x hx;rw[e]at h6;exact absurd h6 (by decide))
theorem zg{s:QB}(h:zP s=true):zf s=true∧s.size≤40:=by
 unfold zP at h
 simp only[Bool.and_eq_true,decide_eq_true_eq]at h
 exact⟨h.2.2,h.2.1⟩
def zD(s:QB):QB:=yO 98 [s]
theorem vS(k:UInt8)(ps:List QB):(yO k ps).size=(xI k ps).length:=by
 unfold yO
 show(List.toArray _).size=_
 rw[List.size_toArray]
theorem zEh(s:QB):(zD s).size=s.size+2:=by
 unfold zD
 rw[vS]
 unfold xI
 simp
theorem zTe{p:Prop}(h:p:=by (have:j=0:=by simpa using hj);subst this;exact Qc (qH u _) 0):p:=h
theorem kz(s:QB)(h:zK s=true)(w:World):Calls prog 88 #[.string s] w fun e w'=>e= .returned (.string (zD s))∧Below w.heap.size w w':=by
 obtain⟨h0,h1⟩:=yc h
 have HB:=Hd (vI s)
 rw[h]at HB
 have HU:=Hd (fun(u:World)=>show Calls prog 107 #[.int .u8 98,.slice (some ⟨u.heap.size,0,none⟩) 1 1] (u.alloc (.cells #[.string s] 9)) fun e w'=>e= .returned (.string (yO 98 [s]))∧Below (u.alloc (.cells #[.string s] 9)).heap.size (u.alloc (.cells #[.string s] 9)) w' from zBW (w:=u.alloc (.cells #[.string s] 9)) (b:=u.heap.size) (c:=1) (ps:=[s]) (n:=1) rfl (fun j hj=>by exact zTe) (by simp) (fun p hp=>by rw[List.mem_singleton.1 hp];exact⟨h0,by omega⟩) (by omega) 98)
 unfold zD
 generalize yO 98 [s]=k at*
 clear h h0 h1
 go_enter func88,ntmps88
 go_wp2_with(first|(go_at_call 85;refine(HB.out _).mono ?_;rintro e w1⟨rfl,hb1⟩)|(go_at_call 107;refine(HU.out _).mono ?_;rintro e w2⟨rfl,hb2⟩))
 go_ret
 exact⟨rfl,hb1.trans (((qA).trans (hb2.mono (by simp))).mono hb1.size)⟩
theorem zJf{w:World}{br:Nat}{R:RoomS}(h:RoomAt w br R):Calls prog 84 #[.pointer (some ⟨br,0,none⟩)] w fun e w'=>e= .returned (.int .i64 0)∧Below w.heap.size w w':=by
 have HU:=Hd (zMW h)
 clear h
 go_enter func84,ntmps84
 go_wp2_with(go_at_call 49;refine(HU.out).mono ?_;rintro e w1⟨rfl,hb1⟩)
 go_ret
 exact⟨rfl,hb1⟩
theorem zTf{p:Prop}(h:p:=by go_wp2_with(go_at_call 83;refine(HT.out _).mono ?_;rintro e w1⟨rfl,rfl⟩);go_ret;exact⟨rfl,rfl⟩):p:=h
theorem zDC(br:Nat)(w:World):Calls prog 86 #[.pointer (some ⟨br,0,none⟩)] w fun e w'=>e= .returned (.pointer (some ⟨w.heap.size,0,none⟩))∧w'=w.alloc (.cells #[.pointer (some ⟨br,0,none⟩),.int .i64 4] 242):=by
 have HT:=Hd (show∀u:World,Calls prog 83 #[.pointer (some ⟨br,0,none⟩),.int .i64 4] u fun e w'=>e= .returned (.pointer (some ⟨u.heap.size,0,none⟩))∧u.alloc (.cells #[.pointer (some ⟨br,0,none⟩),.int .i64 4] 242)=w' from fun u=>(kN br 4 u).mono fun e w'⟨a,b⟩=>⟨a,b.symm⟩)
 go_enter func86,ntmps86
 exact zTf
def zIE:QB:=⟨#[98,110,98,110,116]⟩
def zT(st born:Nat):QB:=packed zIE [(st,eS),(born,eS),(0,eS),(0,eS),(0,eS)]
theorem zEi{st born:Nat}(h1:st<256)(h2:born<18446744073709551616):Fields zIE [(st,eS),(born,eS),(0,eS),(0,eS),(0,eS)]:=by
 refine⟨rfl,by show 5≤64;decide,fun i hi=> ?_,fun i hi=> ?_⟩
 ·match i,hi with|0,_=>exact .inl ⟨by decide,rfl,h1⟩|1,_=>exact .inl ⟨by decide,rfl,h2⟩|2,_=>exact .inl ⟨by decide,rfl,by show(0:Nat)<256;decide⟩|3,_=>exact .inl ⟨by decide,rfl,by show(0:Nat)<18446744073709551616;decide⟩|4,_=>exact .inr (.inl ⟨⟨by decide,by show(0:Nat)≤65535;decide⟩,rfl⟩)
 ·match i,hi with|0,_=>intro e;exact absurd e (by decide)|1,_=>intro e;exact absurd e (by decide)|2,_=>intro e;exact absurd e (by decide)|3,_=>intro e;exact absurd e (by decide)|4,_=>intro e;exact absurd e (by decide)
theorem zFx(w:World):Calls prog 150 #[.string zIE] w fun e w'=>e= .returned (.bool true)∧Below w.heap.size w w':=vw zIE zIE (by decide) (by decide) (by decide) (by decide) w
theorem zGp(st born:Nat):(zT st born).size=20:=by
 show(yf zIE _ 5).toArray.size=20
 rw[List.size_toArray,zU,zU,zU,zU,zU,vF,List.nil_append,Ql,Ql,Ql,Ql]
 show(beW 1 st 1).length+(beW 8 born 8).length+(beW 1 0 1).length+(beW 8 0 8).length+(beW 2 0 2++[]).length=20
 rw[List.append_nil,zO,zO,zO,zO,zO]
def bkC(name:QB)(st born:Nat):Array Value:= #[.string name,.int .i64 st,.int .u64 born,.bool false,.string ⟨#[]⟩,.int .u64 0]
def bkZ:Array Value:= #[.string ⟨#[]⟩,.int .i64 0,.int .u64 0,.bool false,.string ⟨#[]⟩,.int .u64 0]
theorem yl{w:World}{b T:Nat}{c0 c1 c2 c3 c4 c5:Value}(h:w.heap[b]? =some (.cells #[c0,c1,c2,c3,c4,c5] T (0,0))):(w.cell? ⟨b,0,none⟩=some c0∧w.cell? ⟨b,1,none⟩=some c1∧w.cell? ⟨b,2,none⟩=some c2∧w.cell? ⟨b,3,none⟩=some c3∧w.cell? ⟨b,4,none⟩=some c4∧w.cell? ⟨b,5,none⟩=some c5)∧(w.frozen? ⟨b,0,none⟩=false∧w.frozen? ⟨b,1,none⟩=false∧w.frozen? ⟨b,2,none⟩=false∧w.frozen? ⟨b,3,none⟩=false∧w.frozen? ⟨b,4,none⟩=false∧w.frozen? ⟨b,5,none⟩=false):=⟨⟨Qc h 0,Qc h 1,Qc h 2,Qc h 3,Qc h 4,Qc h 5⟩,by simp[World.frozen?,h],by simp[World.frozen?,h],by simp[World.frozen?,h],by simp[World.frozen?,h],by simp[World.frozen?,h],by simp[World.frozen?,h]⟩
def zTg(w:World)(b:Nat)(c0 c1 c2 c3 c4 c5:Value):World:=(((((w.setCell ⟨b,0,none⟩ c0).setCell ⟨b,1,none⟩ c1).setCell ⟨b,2,none⟩ c2).setCell ⟨b,3,none⟩ c3).setCell ⟨b,4,none⟩ c4).setCell ⟨b,5,none⟩ c5
theorem zDD{w:World}{b T:Nat}{a0 a1 a2 a3 a4 a5:Value}(h:w.heap[b]? =some (.cells #[a0,a1,a2,a3,a4,a5] T (0,0)))(c0 c1 c2 c3 c4 c5:Value):(zTg w b c0 c1 c2 c3 c4 c5).heap[b]? =some (.cells #[c0,c1,c2,c3,c4,c5] T (0,0)):=heap_setCell_same _ b 5 _ _ c5 (heap_setCell_same _ b 4 _ _ c4 (heap_setCell_same _ b 3 _ _ c3 (heap_setCell_same _ b 2 _ _ c2 (heap_setCell_same _ b 1 _ _ c1 (heap_setCell_same _ b 0 _ _ c0 h)))))
theorem zB4{w0 w:World}{b B:Nat}(h:Below B w0 w)(hb:B≤b)(c0 c1 c2 c3 c4 c5:Value):Below B w0 (zTg w b c0 c1 c2 c3 c4 c5):=(((((h.setCell (p:=⟨b,0,none⟩) hb _).setCell (p:=⟨b,1,none⟩) hb _).setCell (p:=⟨b,2,none⟩) hb _).setCell (p:=⟨b,3,none⟩) hb _).setCell (p:=⟨b,4,none⟩) hb _).setCell (p:=⟨b,5,none⟩) hb _
section
variable {w : World} {br : Nat} {R : RoomS} {kv : KV} {ps : List Nat} {name : QB}
theorem zQs{p:Prop}(h:p:=by refine bodyPost_ret (zx rfl _ _ w.heap.size _ _ _ _ rfl (zDD HX2.out _ _ _ _ _ _) underlying89 rfl (by kernel_rfl)) rfl ?_;exact⟨rfl,zB4 HB2.out (Qn _) _ _ _ _ _ _⟩):p:=h
theorem zRK(hr:RoomAt w br R)(hn:zK name=false):Calls prog 32 #[.pointer (some ⟨br,0,none⟩),.string name] w fun e w'=>e= .returned (.tuple #[.agg bkZ,.int .i64 28])∧Below w.heap.size w w':=by
 unfold bkZ
 have hb0:Below w.heap.size w (w.alloc (.cells #[.string ⟨#[]⟩,.int .i64 0,.int .u64 0,.bool false,.string ⟨#[]⟩,.int .u64 0] 89)):=qA
 have hx0:=qH w (.cells #[.string ⟨#[]⟩,.int .i64 0,.int .u64 0,.bool false,.string ⟨#[]⟩,.int .u64 0] 89)
 have HU:=Hd (zJf (hr.still hb0))
 have HB:=Hd (vI name)
 rw[hn]at HB
 have HB0:=Hd hb0
 have HX0:=Hd hx0
 clear hr hn hb0 hx0
 go_enter func32,ntmps32
 go_wp2_with(first|(go_at_call 84;refine(HU.out).mono ?_;rintro e w1⟨rfl,hb1⟩;have HX1:=Hd ((hb1.block w.heap.size (by simp)).trans HX0.out);have HB1:=Hd (qT HB0.out hb1);clear hb1)|(go_at_call 85;refine(HB.out _).mono ?_;rintro e w2⟨rfl,hb2⟩;have hx2:=qB hb2 HX1.out;obtain⟨⟨d0,d1,d2,d3,d4,d5⟩,y0,y1,y2,y3,y4,y5⟩:=yl hx2;have HX2:=Hd hx2;have HB2:=Hd (qT HB1.out hb2);clear hb2 hx2))
 exact zQs
theorem bfind_none(hr:RoomAt w br R)(h16:R.pages≤65536)(hT:TreeIs R 4 kv ps)(hkv:kv.length≤2000)(hn:zK name=true)(hk:look kv (zD name)=none):Calls prog 32 #[.pointer (some ⟨br,0,none⟩),.string name] w fun e w'=>e= .returned (.tuple #[.agg bkZ,.int .i64 20])∧Below w.heap.size w w':=by
 unfold bkZ
 have hb0:Below w.heap.size w (w.alloc (.cells #[.string ⟨#[]⟩,.int .i64 0,.int .u64 0,.bool false,.string ⟨#[]⟩,.int .u64 0] 89)):=qA
 have hx0:=qH w (.cells #[.string ⟨#[]⟩,.int .i64 0,.int .u64 0,.bool false,.string ⟨#[]⟩,.int .u64 0] 89)
 have HU:=Hd (zJf (hr.still hb0))
 have HB:=Hd (vI name)
 have HK:=Hd (kz name hn)
 have HM:=Hd (zDC br)
 have HG:=Hd (fun(u:World)tb(hu:Below w.heap.size w u)(ht:TreeAt u tb br 4)=>zD2 (key:=zD name) ht (hr.still hu) (by decide) hT h16 hkv)
 rw[hn]at HB
 rw[hk]at HG
 have HB0:=Hd hb0
 have HX0:=Hd hx0
 clear hr hn hb0 hx0 hk hT h16 hkv
 generalize zD name=bk at*
 go_enter func32,ntmps32
 go_wp2_with(first|(go_at_call 84;refine(HU.out).mono ?_;rintro e w1⟨rfl,hb1⟩;have HX1:=Hd ((hb1.block w.heap.size (by simp)).trans HX0.out);have HB1:=Hd (qT HB0.out hb1);clear hb1)|(go_at_call 85;refine(HB.out _).mono ?_;rintro e w2⟨rfl,hb2⟩;have HX2:=Hd (qB hb2 HX1.out);have HB2:=Hd (qT HB1.out hb2);clear hb2)|(go_at_call 86;refine(HM.out _).mono ?_;rintro e w3⟨rfl,hw3⟩;(have hb3:Below w2.heap.size w2 w3:=by rw[hw3];exact zOj);have HT3:=Hd (show w3.heap[w2.heap.size]? =some (.cells #[.pointer (some ⟨br,0,none⟩),.int .i64 4] 242 (0,0))by rw[hw3];exact qH w2 _);have HX3:=Hd (qB hb3 HX2.out);have HB3:=Hd (qT HB2.out hb3);clear hb3 hw3)|(go_at_call 88;refine(HK.out _).mono ?_;rintro e w4⟨rfl,hb4⟩;have HX4:=Hd (qB hb4 HX3.out);have HB4:=Hd (qT HB3.out hb4);have HT4:=Hd (qB hb4 HT3.out);clear hb4)|(go_at_call 87;refine(HG.out _ _ HB4.out ⟨HT4.out⟩).mono ?_;rintro e w5⟨rfl,hb5⟩;have hx5:=qB hb5 HX4.out;obtain⟨⟨d0,d1,d2,d3,d4,d5⟩,y0,y1,y2,y3,y4,y5⟩:=yl hx5;have HX5:=Hd hx5;have HB5:=Hd (qT HB4.out hb5);clear hb5 hx5))
 refine bodyPost_ret (zx rfl _ _ w.heap.size _ _ _ _ rfl (zDD HX5.out _ _ _ _ _ _) underlying89 rfl (by kernel_rfl)) rfl ?_
 exact⟨rfl,zB4 HB5.out (Qn _) _ _ _ _ _ _⟩
theorem zQt{p:Prop}(h:p:=by rw[hu.cell (p:=⟨g,0,none⟩) HGl.out (fun e=>e)];exact HC.out.1):p:=h
theorem zQu{p:Prop}(h:p:=by rw[hu.cell (p:=⟨g,2,none⟩) HGl.out (fun e=>e)];exact HC.out.2.1):p:=h
theorem zQv{p:Prop}(h:p:=by rw[hu.cell (p:=⟨g,4,none⟩) HGl.out (fun e=>e)];exact HC.out.2.2.1):p:=h
theorem bfind_some{st born:Nat}(hr:RoomAt w br R)(h16:R.pages≤65536)(hT:TreeIs R 4 kv ps)(hkv:kv.length≤2000)(hn:zK name=true)(hk:look kv (zD name)=some (zT st born))(h1:st<256)(h2:born<18446744073709551616):Calls prog 32 #[.pointer (some ⟨br,0,none⟩),.string name] w fun e w'=>e= .returned (.tuple #[.agg (bkC name st born),.int .i64 0])∧Below w.heap.size w w':=by
 unfold bkC
 have hb0:Below w.heap.size w (w.alloc (.cells #[.string ⟨#[]⟩,.int .i64 0,.int .u64 0,.bool false,.string ⟨#[]⟩,.int .u64 0] 89)):=qA
 have hx0:=qH w (.cells #[.string ⟨#[]⟩,.int .i64 0,.int .u64 0,.bool false,.string ⟨#[]⟩,.int .u64 0] 89)
 have HU:=Hd (zJf (hr.still hb0))
 have HB:=Hd (vI name)
 have HK:=Hd (kz name hn)
 have HM:=Hd (zDC br)
 have HG:=Hd (fun(u:World)tb(hu:Below w.heap.size w u)(ht:TreeAt u tb br 4)=>zD2 (key:=zD name) ht (hr.still hu) (by decide) hT h16 hkv)
 have HRd:=Hd (fun u=>zBS (zEi h1 h2) zFx u)
 have hv:packed zIE [(st,eS),(born,eS),(0,eS),(0,eS),(0,eS)]=zT st born:=rfl
 rw[hv]at HRd
 rw[hn]at HB
 rw[hk]at HG
 have HB0:=Hd hb0
 have HX0:=Hd hx0
 clear hr hn hb0 hx0 hk hT h16 hkv hv
 generalize zD name=bk at*
 generalize zT st born=bt at*
 go_enter func32,ntmps32
 go_wp2_with(first|(go_at_call 84;refine(HU.out).mono ?_;rintro e w1⟨rfl,hb1⟩;have HX1:=Hd ((hb1.block w.heap.size (by simp)).trans HX0.out);have HB1:=Hd (qT HB0.out hb1);clear hb1)|(go_at_call 85;refine(HB.out _).mono ?_;rintro e w2⟨rfl,hb2⟩;have HX2:=Hd (qB hb2 HX1.out);have HB2:=Hd (qT HB1.out hb2);clear hb2)|(go_at_call 86;refine(HM.out _).mono ?_;rintro e w3⟨rfl,hw3⟩;(have hb3:Below w2.heap.size w2 w3:=by rw[hw3];exact zOj);have HT3:=Hd (show w3.heap[w2.heap.size]? =some (.cells #[.pointer (some ⟨br,0,none⟩),.int .i64 4] 242 (0,0))by rw[hw3];exact qH w2 _);have HX3:=Hd (qB hb3 HX2.out);have HB3:=Hd (qT HB2.out hb3);clear hb3 hw3)|(go_at_call 88;refine(HK.out _).mono ?_;rintro e w4⟨rfl,hb4⟩;have HX4:=Hd (qB hb4 HX3.out);have HB4:=Hd (qT HB3.out hb4);have HT4:=Hd (qB hb4 HT3.out);clear hb4)|(go_at_call 87;refine(HG.out _ _ HB4.out ⟨HT4.out⟩).mono ?_;rintro e w5⟨rfl,hb5⟩;have HX5:=Hd (qB hb5 HX4.out);have HB5:=Hd (qT HB4.out hb5);clear hb5)|(go_at_call 89;refine(HRd.out _).mono ?_;rintro e w6⟨v,rfl,hrow,hb6⟩;obtain⟨g,c,rfl,hc1,hc2,hgB⟩:=zH hrow (by show 0<5;decide);have HRow:=Hd hrow;have HX6:=Hd (qB hb6 HX5.out);have HB6:=Hd (qT HB5.out hb6);clear hrow hb6))
 have HGl:=Hd (show g<w6.heap.size from(HRow.out.lt g rfl).2)
 have HC:=Hd (show w6.cell? ⟨g,0,none⟩=some (.int .u64 st)∧w6.cell? ⟨g,2,none⟩=some (.int .u64 born)∧w6.cell? ⟨g,4,none⟩=some (.int .u64 0)∧w6.cell? ⟨g,6,none⟩=some (.int .u64 0)∧w6.cell? ⟨g,9,none⟩=some (.string ⟨#[]⟩)from⟨zC HRow.out 0 _ rfl,zC HRow.out 2 _ rfl,zC HRow.out 4 _ rfl,zC HRow.out 6 _ rfl,zC HRow.out 9 _ rfl⟩)
 have p1:IntKind.i64.wrap (st:Int)=(st:Int):=zv (by omega) (by omega)
 obtain⟨wb,hwb⟩:=qN w.heap.size
 rw[hwb]at HX6
 have HWb:=Hd hwb
 rw[hwb]
 clear hwb
 obtain⟨S,HS⟩:=mkS (Keep (fun _=>False) (w6))
 have FR:=Hd (fun u(hu:S u)=>have hu:=(HS.out u).1 hu;have hr0:u.cell? ⟨g,0,none⟩=some (.int .u64 st):=(by exact zQt);have hr1:u.cell? ⟨g,2,none⟩=some (.int .u64 born):=(by exact zQu);have hr2:u.cell? ⟨g,4,none⟩=some (.int .u64 0):=(by exact zQv);have hr3:u.cell? ⟨g,6,none⟩=some (.int .u64 0):=(by rw[hu.cell (p:=⟨g,6,none⟩) HGl.out (fun e=>e)];exact HC.out.2.2.2.1);have hr4:u.cell? ⟨g,9,none⟩=some (.string ⟨#[]⟩):=(by rw[hu.cell (p:=⟨g,9,none⟩) HGl.out (fun e=>e)];exact HC.out.2.2.2.2);And.intro hr0 (And.intro hr1 (And.intro hr2 (And.intro hr3 hr4))))
 refine rgo 25 [tR 0,tR 1,tR 2,tR 3,tR 4,tR 5,tR 6,tR 7,tR 8,tR 9,tR 10,tR 11,tR 12,tR 13,tR 14,tR 15,tR 16,tR 17,tR 18,tR 19,tR 20,tR 21,tR 22,tR 23,tR 24] HS (Keep.refl _ _).drew ?_
 iterate 25 refine rd1 ?_
 refine zl ?_
 clear FR
 clear S HS
 have hx7:w6.drew.heap[wb]? =some (.cells #[.string ⟨#[]⟩,.int .i64 0,.int .u64 0,.bool false,.string ⟨#[]⟩,.int .u64 0] 89 (0,0)):=HX6.out
 generalize hw7:w6.drew=w7 at*
 have HB7:=Hd (show Below w.heap.size w w7 by rw[←hw7];exact HB6.out.trans ⟨rfl,rfl,rfl,Qn _,fun _ _=>rfl⟩)
 clear hw7
 obtain⟨⟨d0,d1,d2,d3,d4,d5⟩,y0,y1,y2,y3,y4,y5⟩:=yl hx7
 have HX7:=Hd hx7
 clear hx7
 go_wp2
 refine bodyPost_ret (zx rfl _ _ wb _ _ _ _ rfl (zDD HX7.out _ _ _ _ _ _) underlying89 rfl (by kernel_rfl)) rfl ?_
 refine⟨rfl,?_⟩
 rw[←HWb.out]
 exact zB4 HB7.out (Qn _) _ _ _ _ _ _
end
section
variable {w : World} {sb : Nat} {s : Sto} {D : Dict} {nz : Nat}
structure XStep(w:World)(s:Sto)(D:Dict)(sb nz':Nat)(w':World)(s':Sto):Prop where
 st:StAt w' sb s' D nz'
 step:VStep w s w' s'
 kv:s'.kvI=s.kvI
theorem StAt.meta_put(h:StAt w sb s D nz)(hn:nz≤1900∧8*nz+300≤s.R.pages){tb:Nat}(ht:TreeAt w tb s.br 4)(hf:¬s.foot tb){key val:QB}(hk:key.size≤96)(hv:val.size≤56):Calls prog 92 #[.pointer (some ⟨tb,0,none⟩),.string key,.string val] w fun e w'=>e= .returned (.int .i64 0)∧∃s',XStep w s D sb (nz+1) w' s'∧s'.X.kvM=ins s.X.kvM key val∧s'.X.vb=s.X.vb∧s'.X.next=s.X.next:=by
 have hz:=h.sized
 have hlen:=h.cont.len
 refine(zGg (key:=key) (val:=val) ht hf h.room (by have:=hz.puts;omega) hz.pages (by decide) hk hv h.cont.out.tm (List.nodup_append.1 h.cont.xnd).1 h.cont.all (by have:=hz.m;omega) (by have:=hz.i;have:=hz.l;have:=hz.b;omega)).mono ?_
 rintro e w'⟨rfl,R',ps',new,hst,hT,hpm,htu⟩
 have hc:=h.cont.meta_ htu hT hpm
 have hi:=zAm s.X.kvM key val
 have hps:=hpm.length_eq
 rw[Ql]at hps
 have hcount:=hT.count
 obtain⟨a,a1,a2⟩:=htu.puts
 have hx1:=hz.bx
 have hx2:=hz.v
 have hx3:=hz.m
 unfold Rest.pages at hx1
 rw[Ql]at hx1
 have hs:=h.step hst hc (nz':=nz+1) ⟨by have:=hz.i;omega,by have:=hz.l;omega,by rw[Ql];omega,by show(ins s.X.kvM key val).length≤_;omega,by rw[htu.pages];exact hz.pages,by exact zOs,by rw[htu.root 2 (by decide)];have:=hz.root;omega,by unfold Rest.pages;rw[Ql,Ql];show _≤nz+1+(ps'.length+s.X.vp.length);omega,by show s.X.vp.length≤_;omega⟩
 exact⟨rfl,_,⟨hs,hst.vsto _ _ _ _ _ _,rfl⟩,rfl,rfl,rfl⟩
theorem StAt.number_put(h:StAt w sb s D nz)(hn:nz≤1900)(n:Nat)(hv:n<18446744073709551616):Calls prog 166 #[.pointer (some ⟨s.br,0,none⟩),.int .i64 5,.int .u64 n] w fun e w'=>e= .returned (.int .i64 0)∧∃s',XStep w s D sb (nz+1) w' s'∧s'.X.kvM=s.X.kvM∧s'.X.vb=s.X.vb∧s'.X.next=n:=by
 have hz:=h.sized
 refine(zBB h.room (by have:=hz.puts;omega) 5 (by decide) n hv).mono ?_
 rintro e w'⟨rfl,R',hst,hpp⟩
 have hrd:=zC2 h.room (by decide) hv hst.tx.f hst.maps hpp
 have hc:=h.cont.number hrd h.room.pages_le hst.pages
 have hs:=h.step hst hc (nz':=nz+1) ⟨by have:=hz.i;omega,by have:=hz.l;omega,by have:=hz.b;omega,by have:=hz.m;show s.X.kvM.length≤_;omega,by rw[hst.pages];exact hz.pages,by rw[hpp,Ql];have:=hz.puts;simp;omega,by rw[hrd.root,if_neg (by decide)];have:=hz.root;omega,by have:=hz.bx;show s.bp.length≤nz+1+s.X.pages.length;omega,by have:=hz.v;show s.X.vp.length≤_;omega⟩
 exact⟨rfl,_,⟨hs,hst.vsto _ _ _ _ _ _,rfl⟩,rfl,rfl,rfl⟩
theorem StAt.number_get(h:StAt w sb s D nz):Calls prog 165 #[.pointer (some ⟨s.br,0,none⟩),.int .i64 5] w fun e w'=>e= .returned (.tuple #[.int .u64 s.X.next,.int .i64 0])∧Below w.heap.size w w':=by
 have:=zEO h.room 5 (by decide)
 rw[h.cont.out.nx]at this
 exact this
end
def ym(r:QB×Int):Bool:=r.1.size==33&&(decide (1≤r.2)&&decide (r.2≤128))
theorem zAU(r:QB×Int):ym r=true↔r.1.size=33∧1≤r.2∧r.2≤128:=by
 unfold ym
 simp
theorem zEj(l:xV)(k:Nat)(r:QB×Int)(h:l[k]? =some r):(zDB l)[k*2]? =some (.string r.1)∧(zDB l)[k*2+1]? =some (.int .i64 r.2):=by
 induction l generalizing k with|nil=>simp at h|cons x l ih=>cases k with|zero=>simp at h;subst h;exact⟨rfl,rfl⟩|succ k=>(have h':l[k]? =some r:=by simpa using h);have:=ih k h';(have e1:(k+1)*2=k*2+2:=by omega);have e:zDB (x::l)=Value.string x.1::Value.int .i64 x.2::zDB l:=rfl;rw[e1,e];simpa using this
theorem zFL(l:xV)(k:Nat)(h:k<l.length)(h1:(l.take k).all ym=true)(h2:ym l[k]=true):(l.take (k+1)).all ym=true:=by
 rw[List.take_succ_eq_append_getElem h,List.all_append,h1]
 simp[h2]
theorem zPF(l:xV)(k:Nat)(h:k<l.length)(h2:ym l[k]=false):l.all ym=false:=by
 cases e:l.all ym with|false=>rfl|true=>rw[List.all_eq_true]at e;rw[e _ (List.getElem_mem h)]at h2;cases h2
theorem zTh{p:Prop}(h:p:=by rw[HB.out.cell (p:=⟨gs,k*2,none⟩) hgl];exact zC HRow.out _ _ q1):p:=h
theorem zTi{p:Prop}(h:p:=by rw[HB.out.cell (p:=⟨gs,k*2+1,none⟩) hgl];exact zC HRow.out _ _ q2):p:=h
theorem zEk{w:World}{B:Nat}{v:Value}{l:xV}(hrow:w.ownsRow B 98 2 v l.length (zDB l))(hl:l.length≤100):Calls prog 52 #[v] w fun e w'=>e= .returned (.bool (l.all ym))∧Below w.heap.size w w':=by
 obtain⟨sa,sc,hv⟩:=zA hrow
 subst hv
 have HRow:=Hd hrow
 obtain⟨n,hn⟩:=qN l.length
 have HN:=Hd hn
 rw[hn]at HRow hl⊢
 have g4:decide ((n:Int)≤4000)=true:=by simp;omega
 clear hrow hn
 go_enter func52,ntmps52
 go_wp2
 go_loopw [4,7](fun _ i wr=>∃k,k≤n∧i= .int .i64 (k:Int)∧Below w.heap.size w wr∧(l.take k).all ym=true)(fun _ i _=>n-(intOf i).toNat)
 case atStart=>exact⟨0,by omega,rfl,Below.refl _ _,by simp⟩
 case round=>obtain⟨k,hk,rfl,hb,hall⟩:=hrel;have HB:=Hd hb;have HAll:=Hd hall;clear hb hall;by_cases hlt:k<n;(·(have g2:decide ((k:Int)<(n:Int))=true:=by simp;omega);(have g2':decide (k<n)=true:=by simpa using hlt);(have hkl:k<l.length:=by rw[HN.out];exact hlt);obtain⟨gs,cs,hs,hc1,hc2,hgB⟩:=zH HRow.out (by omega);obtain⟨e1,e2,e3⟩:=Value.slice.inj hs;subst e1;have hgl:=(HRow.out.lt gs rfl).2;obtain⟨q1,q2⟩:=zEj l k l[k] (Qg hkl);(have q1':wr.cell? ⟨gs,k*2,none⟩=some (.string l[k].1):=by exact zTh);(have q2':wr.cell? ⟨gs,k*2+1,none⟩=some (.int .i64 l[k].2):=by exact zTi);have HG:=Hd (zFL l k hkl HAll.out);have HBd:=Hd (zPF l k hkl);obtain⟨⟨id,len⟩,hr⟩:∃r,l[k]=r:=⟨_,rfl⟩;rw[hr]at q1' q2' HG HBd;have hbx:=Hd (HB.out.alloc HB.out.size (.cells #[.string id,.int .i64 len] 98));clear hs e2 e3 q1 q2 hr;(have hcase:ym (id,len)=true∧((id.size:Int) !=33)=false∧decide (len<1)=false∧decide (len>128)=false∨ym (id,len)=false∧(((id.size:Int) !=33)=true∨((id.size:Int) !=33)=false∧decide (len<1)=true∨((id.size:Int) !=33)=false∧decide (len<1)=false∧decide (len>128)=true):=by unfold ym;by_cases a1:id.size=33<;>by_cases a2:len<1<;>by_cases a3:128<len<;>simp[a1,a2,a3]<;>omega);rcases hcase with⟨h0,a1,a2,a3⟩|⟨h0,⟨a1⟩|⟨a1,a2⟩|⟨a1,a2,a3⟩⟩;(·have h1:=Hd (HG.out h0);go_wp2;go_roundw;(case rel=>exact⟨k+1,by omega,by go_num,hbx.out,h1.out⟩);case measure=>simp[intOf];omega);all_goals have h1:=Hd (HBd.out h0);go_wp2;go_ret;exact⟨by rw[h1.out];rfl,hbx.out⟩);·(obtain rfl:k=n:=by omega);(have g2:decide ((k:Int)<(k:Int))=false:=by simp);go_wp2;go_ret;have h:=HAll.out;rw[←HN.out,List.take_length]at h;exact⟨by rw[h];rfl,HB.out⟩
def tot:xV→Int|[]=>0|r::l=>r.2+tot l
theorem zND(l:xV)(r:QB×Int):tot (l++[r])=tot l+r.2:=by
 induction l with|nil=>simp[tot]|cons x l ih=>simp[tot,ih];omega
theorem zNE(l:xV)(k:Nat)(h:k<l.length):tot (l.take (k+1))=tot (l.take k)+l[k].2:=by
 rw[List.take_succ_eq_append_getElem h,zND]
theorem zNF(l:xV)(h:l.all ym=true):0≤tot l∧tot l≤128*l.length:=by
 induction l with|nil=>simp[tot]|cons x l ih=>rw[List.all_cons,Bool.and_eq_true,zAU]at h;have:=ih h.2;simp only[tot,List.length_cons];omega
theorem zIF(l:xV)(k:Nat)(h:l.all ym=true):(l.take k).all ym=true:=by
 rw[List.all_eq_true]at*
 exact fun x hx=>h x (List.mem_of_mem_take hx)
theorem zLT{w:World}{B:Nat}{v:Value}{l:xV}(hrow:w.ownsRow B 98 2 v l.length (zDB l))(hl:l.length≤100)(hok:l.all ym=true):Calls prog 43 #[v] w fun e w'=>e= .returned (.int .i64 (tot l))∧Below w.heap.size w w':=by
 have HR:=Hd (zEk hrow hl)
 obtain⟨sa,sc,hv⟩:=zA hrow
 subst hv
 have HRow:=Hd hrow
 obtain⟨n,hn⟩:=qN l.length
 have HN:=Hd hn
 have HOk:=Hd hok
 rw[hn]at HRow HR hl⊢
 clear hrow hn hok
 go_enter func43,ntmps43
 go_wp2_with(go_at_call 52;refine(HR.out).mono ?_;rintro e w1⟨rfl,hb1⟩;rw[HOk.out];have HB1:=Hd hb1;clear hb1)
 go_loopw [3,5,11](fun s _ i wr=>∃k,k≤n∧i= .int .i64 (k:Int)∧s= .int .i64 (tot (l.take k))∧Below w.heap.size w wr)(fun _ _ i _=>n-(intOf i).toNat)
 case atStart=>exact⟨0,by omega,rfl,by simp[tot],HB1.out⟩
 case round=>obtain⟨k,hk,rfl,rfl,hb⟩:=hrel;have HB:=Hd hb;clear hb;by_cases hlt:k<n;(·(have g2:decide ((k:Int)<(n:Int))=true:=by simp;omega);(have g2':decide (k<n)=true:=by simpa using hlt);(have hkl:k<l.length:=by rw[HN.out];exact hlt);obtain⟨gs,cs,hs,hc1,hc2,hgB⟩:=zH HRow.out (by omega);obtain⟨e1,e2,e3⟩:=Value.slice.inj hs;subst e1;have hgl:=(HRow.out.lt gs rfl).2;obtain⟨q1,q2⟩:=zEj l k l[k] (Qg hkl);(have q1':wr.cell? ⟨gs,k*2,none⟩=some (.string l[k].1):=by exact zTh);(have q2':wr.cell? ⟨gs,k*2+1,none⟩=some (.int .i64 l[k].2):=by exact zTi);have HT:=Hd (zNE l k hkl);have hx1:=zNF _ (zIF l k HOk.out);have hx2:=zNF _ (zIF l (k+1) HOk.out);rw[List.length_take]at hx1 hx2;rw[HT.out]at hx2;(have hx1':0≤tot (l.take k)∧tot (l.take k)≤12800:=by omega);(have hx2':0≤tot (l.take k)+l[k].2∧tot (l.take k)+l[k].2≤12800:=by omega);clear hx1 hx2;obtain⟨⟨id,len⟩,hr⟩:∃r,l[k]=r:=⟨_,rfl⟩;rw[hr]at q1' q2' HT hx2';obtain⟨T,hT⟩:=qN (tot (l.take k));rw[hT]at HT hx1' hx2'⊢;replace hx2':0≤T+len∧T+len≤12800:=hx2';obtain⟨y1,y2⟩:=hx1';obtain⟨y3,y4⟩:=hx2';have hbx:=Hd (HB.out.alloc HB.out.size (.cells #[.string id,.int .i64 len] 98));clear hs e2 e3 q1 q2 hr hT;go_wp2;go_roundw;(case rel=>exact⟨k+1,by omega,by go_num,by rw[HT.out],hbx.out⟩);case measure=>simp[intOf];omega);·(obtain rfl:k=n:=by omega);(have g2:decide ((k:Int)<(k:Int))=false:=by simp);(have hT:l.take k=l:=by rw[←HN.out,List.take_length]);rw[hT];clear hT;go_wp2;go_ret;exact⟨rfl,HB.out⟩
def wrL(l:xV):List UInt8:=l.flatMap (fun r=>r.1.data.toList++[UInt8.ofNat r.2.toNat])
def wrS(l:xV):QB:=⟨(wrL l).toArray⟩
theorem zNG(l:xV)(r:QB×Int):wrL (l++[r])=wrL l++(r.1.data.toList++[UInt8.ofNat r.2.toNat]):=by
 unfold wrL
 rw[List.flatMap_append]
 simp
theorem zQw{p:Prop}(h:p:=by rw[List.flatMap_cons,Qa]):p:=h
theorem zNH(l:xV)(r:QB×Int):wrL (r::l)=r.1.data.toList++([UInt8.ofNat r.2.toNat]++wrL l):=by
 unfold wrL
 exact zQw
theorem zEl(l:xV)(h:l.all ym=true):(wrL l).length=34*l.length:=by
 induction l with|nil=>rfl|cons a t ih=>rw[List.all_cons,Bool.and_eq_true]at h;have h1:=(zAU a).1 h.1;(have h3:a.1.data.toList.length=a.1.size:=by simp);rw[zNH,Ql,Ql,ih h.2,h3,h1.1,List.length_cons,List.length_cons];show 33+(0+1+_)=_;omega
theorem zIG(l:xV)(h:l.all ym=true):(wrS l).size=34*l.length:=by
 unfold wrS
 show(List.toArray _).size=_
 rw[List.size_toArray,zEl l h]
theorem zJg{w:World}{B:Nat}{v:Value}{l:xV}(hrow:w.ownsRow B 98 2 v l.length (zDB l))(hl:l.length≤100)(hok:l.all ym=true):Calls prog 42 #[v] w fun e w'=>e= .returned (.tuple #[.string (wrS l),.bool true])∧Below w.heap.size w w':=by
 have HR:=Hd (zEk hrow hl)
 rw[hok]at HR
 obtain⟨sa,sc,hv⟩:=zA hrow
 subst hv
 have HRow:=Hd hrow
 have HOk:=Hd hok
 obtain⟨n,hn⟩:=qN l.length
 have HN:=Hd hn
 rw[hn]at HRow hl HR⊢
 clear hrow hn hok
 go_enter func42,ntmps42
 go_wp2_with(go_at_call 52;refine(HR.out).mono ?_;rintro e w1⟨rfl,hb1⟩;have HB1:=Hd hb1;clear hb1)
 have hib:IsB w1.heap.size w1.heap.size [] (w1.alloc (.cells #[.pointer none,.slice none 0 0] 123)):=Lib.fresh_isBuilder _ _ w1
 have hb2:Below w1.heap.size w1 (w1.alloc (.cells #[.pointer none,.slice none 0 0] 123)):=qA
 obtain⟨bb,hbb⟩:=qN w1.heap.size
 rw[hbb]at hib hb2⊢
 have HBb:=Hd hbb
 have HIB:=Hd hib
 have HB2:=Hd hb2
 clear hbb hib hb2
 go_loopw [6,12](fun _ i wr=>∃j:Nat,j≤n∧i= .int .i64 j∧IsB bb bb (Lib.byteCells (wrL (l.take j))) wr∧Below bb w1 wr)(fun _ i _=>n-(intOf i).toNat)
 case atStart=>exact⟨0,by omega,rfl,by rw[List.take_zero];exact HIB.out,HB2.out⟩
 case round=>obtain⟨j,hj,rfl,hib,hbel⟩:=hrel;have HI:=Hd hib;have HB:=Hd hbel;clear hib hbel;by_cases hlt:j<n;(·(have g1:decide ((j:Int)<(n:Int))=true:=by simp;omega);(have g1':decide (j<n)=true:=by simpa using hlt);obtain⟨gs,cs,hs,hc1,hc2,hgB⟩:=zH HRow.out (by omega);obtain⟨e1,e2,e3⟩:=Value.slice.inj hs;subst e1;(have hjl:j<l.length:=by rw[HN.out];exact hlt);obtain⟨pa,pb⟩:=zEj l j l[j] (Qg hjl);have hgl:=(HRow.out.lt gs rfl).2;(have hgb:gs<bb:=by rw[←HBb.out];exact Qt hgl HB1.out.size);(have q0:wr.cell? ⟨gs,j*2,none⟩=some (.string l[j].1):=by rw[HB.out.cell (p:=⟨gs,j*2,none⟩) hgb,HB1.out.cell (p:=⟨gs,j*2,none⟩) hgl];exact zC HRow.out _ _ pa);(have q1:wr.cell? ⟨gs,j*2+1,none⟩=some (.int .i64 l[j].2):=by rw[HB.out.cell (p:=⟨gs,j*2+1,none⟩) hgb,HB1.out.cell (p:=⟨gs,j*2+1,none⟩) hgl];exact zC HRow.out _ _ pb);have hokj:=(zAU l[j]).1 ((List.all_eq_true.1 HOk.out) _ (List.getElem_mem hjl));have htk:l.take (j+1)=l.take j++[l[j]]:=List.take_succ_eq_append_getElem hjl;have hoktk:(l.take j).all ym=true:=List.all_eq_true.2 (fun x hx=>(List.all_eq_true.1 HOk.out) x (List.mem_of_mem_take hx));have hle:=zEl (l.take j) hoktk;rw[List.length_take]at hle;obtain⟨r,hr⟩:=qN (l[j]);rw[hr]at q0 q1 hokj htk;obtain⟨id,ln⟩:=r;obtain⟨k1,k2,k3⟩:=hokj;simp only at q0 q1 k1 k2 k3;have HTk:=Hd htk;have hbx:=(Below.refl wr.heap.size wr).alloc (Qn _) (.cells #[.string id,.int .i64 ln] 98);(have hbb2:bb≤wr.heap.size:=by have:=HB.out.size;have:=HBb.out;omega);have HBX:=Hd (HB.out.alloc hbb2 (.cells #[.string id,.int .i64 ln] 98));have HW1:=Hd (zn (yx HI.out hbx) (Nat.le_trans hbb2 hbx.size) id (by rw[byteCells_length];omega));(have hce:ln %256=((UInt8.ofNat ln.toNat).toNat:Int):=by(have:(UInt8.ofNat ln.toNat).toNat=ln.toNat:=by simp;omega);rw[this];omega);have HCE:=Hd hce;have HX:=Hd (qH wr (.cells #[.string id,.int .i64 ln] 98));have HLe:=Hd hle;have HBz:=Hd hbb2;(have j0:(j:Int)<(n:Int):=by omega);(have u8:IntKind.u8.wrap ln=ln %256:=by rw[IntKind.wrap_u8]);clear hs e2 e3 pa pb htk hoktk hle hr hbx hce hbb2 hgb hgl;go_wp2_with(fail);refine(HW1.out).mono ?_;rintro e w3⟨rfl,hi3,hb3,ho3⟩;(have hbl:bb<wr.heap.size:=by obtain⟨_,_,h⟩:=zCy HI.out;exact(Gl h));have hx3:=ho3 wr.heap.size _ HX.out (fun e=>by have:=Option.some.inj e;omega) (fun c fz e=>by injection e with _ e2 _;exact absurd e2 (by decide));have d1:w3.cell? ⟨wr.heap.size,1,none⟩=some (.int .i64 ln):=Qc hx3 1;have hb3':=HBX.out.trans hb3;have HW2:=Hd (vK hi3 (Nat.le_trans HBz.out (by have:=hb3.size;simp at this;omega)) (by rw[Ql,byteCells_length,Lib.strCells_length];have:=HLe.out;omega) (ln %256));have HB3:=Hd hb3';clear hi3 hb3 hb3' ho3 hx3 hbl;go_wp2_with(fail);refine(HW2.out).mono ?_;rintro e w4⟨rfl,hi4,hb4,-⟩;rw[HCE.out,strCells_eq,←byteCells_append,←xk,Qa]at hi4;have HI4:=Hd hi4;have HB4:=Hd (HB3.out.trans hb4);clear hi4 hb4 d1;go_wp2;go_roundw;(case rel=>exact⟨j+1,by omega,by go_num,by rw[HTk.out,zNG];exact HI4.out,HB4.out⟩);case measure=>simp[intOf];omega);·(obtain rfl:j=n:=by omega);(have ht:l.take j=l:=by rw[←HN.out,List.take_length]);rw[ht]at HI;have HSt:=Hd (Tryz.Builder_String_any_k bb bb (wrL l) wr (Lib.IsBuilderF.of HI.out) (by have:=HB.out.size;have:=HBb.out;omega));clear ht;go_wp2_with(go_at_call 57;refine(HSt.out).mono ?_;rintro e w5⟨rfl,-,hb5,-⟩;have HB5:=Hd (HB.out.trans hb5);clear hb5);go_ret2;refine⟨rfl,HB1.out.trans ?_⟩;have:=HB5.out;rw[←HBb.out]at this;exact this.mono HB1.out.size
theorem zIH{f:Nat→Bool}{n:Nat}{L:List Nat}(h:∀q,q<n→f q=true→q∈L):cnt f n≤L.length:=by
 unfold cnt
 have hn:((List.range n).filter f).Nodup:=List.nodup_range.sublist List.filter_sublist
 exact hn.length_le_of_subset (fun q hq=>by obtain⟨h1,h2⟩:=List.mem_filter.1 hq;exact h q (List.mem_range.1 h1) h2)
theorem zGq{w:World}{br:Nat}{R:RoomS}(h:RoomAt w br R)(hlen:R.T.puts.length<100000000000)(s:QB)(hs:s.size≤131072)(hfree:cnt R.has R.pages+zc s.size≤R.pages):Calls prog 45 #[.pointer (some ⟨br,0,none⟩),.string s] w fun e w'=>∃R' ps,e= .returned (.tuple #[.int .i64 (ps.getD 0 0:Nat),.int .i64 0])∧RoomStep br w R w' R'∧Took R R' ps∧BlobIn R' s ps∧∃a,R'.T.puts=R.T.puts++a∧a.length≤3*zc s.size:=by
 have HM:=Hd (xN h)
 have HP:=Hd (zHs h hlen s (by omega))
 have HF:=Hd hfree
 have e1:decide ((131072:Int)<(s.size:Int))=false:=by simp;omega
 clear h hfree
 go_enter func45,ntmps45
 go_wp2_with(go_at_call 40;refine(HM.out).mono ?_;rintro e w1⟨rfl,rfl⟩)
 refine(HP.out).mono ?_
 rintro e w1(⟨R1,ps,rfl,hst,htook,hb,a,ha,hal⟩|⟨R1,rfl,hst,hc,a,ha,hal⟩)
 ·have HST:=Hd hst;have HTo:=Hd htook;have HBl:=Hd hb;have HA:=Hd ha;have HAl:=Hd hal;obtain⟨pk,hpk⟩:=qN (ps.getD 0 0);have HPk:=Hd hpk;rw[hpk];clear hst htook hb ha hal hpk;go_wp2;go_ret2;exact⟨R1,ps,by rw[HPk.out];rfl,HST.out,HTo.out,HBl.out,a,HA.out,HAl.out⟩
 ·exfalso;have:=HF.out;omega
theorem StAt.vblob_put{w:World}{sb:Nat}{s:Sto}{D:Dict}{nz:Nat}(h:StAt w sb s D nz)(t:QB)(ht:t.size≤100000)(hn:nz+zc t.size≤1900∧8*(nz+zc t.size)+300≤s.R.pages):Calls prog 45 #[.pointer (some ⟨s.br,0,none⟩),.string t] w fun e w'=>∃p ps s',e= .returned (.tuple #[.int .i64 (p:Nat),.int .i64 0])∧XStep w s D sb (nz+zc t.size) w' s'∧s'.X.kvM=s.X.kvM∧s'.X.vb=s.X.vb++[(t,ps)]∧s'.X.next=s.X.next∧ps.getD 0 0=p∧p<65536:=by
 have hz:=h.sized
 have hlen:=h.cont.len
 have hcnt:=zIH h.cont.all
 have hpos:=zBy t.size
 refine(zGq h.room (by have:=hz.puts;omega) t (by omega) (by have:=hz.i;have:=hz.l;have:=hz.b;omega)).mono ?_
 rintro e w'⟨R',ps,rfl,hst,htk,hbl,a,a1,a2⟩
 have hc:=h.cont.vblob htk hbl h.room.pages_le hst.pages
 have hpl:=hbl.len
 have hpg:(⟨s.X.kvM,s.X.psM,s.X.vb++[(t,ps)],s.X.next⟩:Rest).pages=s.X.pages++ps:=by exact zTB
 have hvp:(⟨s.X.kvM,s.X.psM,s.X.vb++[(t,ps)],s.X.next⟩:Rest).vp=s.X.vp++ps:=by unfold Rest.vp;rw[List.flatMap_append];simp
 have hs:=h.step hst hc (nz':=nz+zc t.size) ⟨by have:=hz.i;omega,by have:=hz.l;omega,by rw[Ql];have:=hz.b;omega,by have:=hz.m;show s.X.kvM.length≤_;omega,by rw[hst.pages];exact hz.pages,by exact zOs,by exact zQi,by rw[hpg,Ql,Ql];have:=hz.bx;omega,by rw[hvp,Ql];have:=hz.v;omega⟩
 have hp0:ps.getD 0 0∈ps:=zz (by omega)
 exact⟨_,ps,_,rfl,⟨hs,hst.vsto _ _ _ _ _ _,rfl⟩,rfl,rfl,rfl,rfl,by have:=(htk.new _ hp0).1;have:=hz.pages;omega⟩
theorem zGr{P:Program}{fn:Func}{p:Tmp}{ty:TypeId}(h:fn.results= #[.cell p ty])(tmps:Array Value)(w:World)(g:Nat)(t:TypeId)(cs:Array Value)(fr:Nat×Nat)(d:TypeDesc)(hp:tmps.getD p undef= .pointer (some ⟨g,0,none⟩))(hg:w.heap[g]? =some (.cells cs t fr))(hu:P.underlying ty=some d)(hd:(match d with| .struct _| .array _ _=>true|_=>false)=true)(hi:(P.info? ty).map (·.size)=some cs.size):(results fn tmps).run P w= .ok (.agg cs) w:=by
 exact zTj
theorem zTk{w:World}{b T:Nat}{c0 c1:Value}(h:w.heap[b]? =some (.cells #[c0,c1] T (0,0))):w.frozen? ⟨b,0,none⟩=false∧w.frozen? ⟨b,1,none⟩=false:=⟨by simp[World.frozen?,h],by simp[World.frozen?,h]⟩
theorem zTl{p:Prop}(h:p:=by go_enter func91,ntmps91;go_wp2;refine bodyPost_ret (zGr rfl _ _ w.heap.size _ _ _ _ rfl (qH w _) underlying182 rfl (by kernel_rfl)) rfl ?_;exact⟨rfl,qA⟩):p:=h
theorem zNI(b:Bool)(w:World):Calls prog 91 #[.bool b] w fun e w'=>e= .returned (.agg #[.int .u64 (if b then 1 else 0),.string ⟨#[]⟩])∧Below w.heap.size w w':=by
 have hx:=qH w (.cells #[.int .u64 0,.string ⟨#[]⟩] 182)
 have d0:(w.alloc (.cells #[.int .u64 0,.string ⟨#[]⟩] 182)).cell? ⟨w.heap.size,0,none⟩=some (.int .u64 0):=Qc hx 0
 have d1:(w.alloc (.cells #[.int .u64 0,.string ⟨#[]⟩] 182)).cell? ⟨w.heap.size,1,none⟩=some (.string ⟨#[]⟩):=Qc hx 1
 obtain⟨y0,y1⟩:=zTk hx
 clear hx
 cases b with|true=>exact zTl|false=>exact zTl
section
variable {w : World} {sb : Nat} {s : Sto} {D : Dict} {nz : Nat}
theorem XStep.after{w0:World}{w':World}{s':Sto}{nz':Nat}(hb:Below w0.heap.size w0 w)(h:XStep w s D sb nz' w' s'):XStep w0 s D sb nz' w' s':=⟨h.st,(VStep.still hb).trans h.step,h.kv⟩
theorem zUa{p:Prop}(h:p:=by refine(HP.out w7 w4.heap.size (HSt.out.still hb8) ⟨HT7.out⟩ (fun e=>by have:=HAh.out.2.2.2 _ e;have:=HB5.out.size;omega)).mono ?_;rintro e w8⟨rfl,s',hx,hk1,hk2,hk3⟩;have HX8:=Hd (hx.after hb8);have HK8:=Hd (And.intro hk1 (And.intro hk2 hk3));refine hK _ _ ((HS.out _).2 ((Keep.ofBelow HB7.out).trans hx.step.keep (fun _ _ e=>e))) ?_;clear hK K hb8 hx hk1 hk2 hk3;refine rd1 ?_;refine zl ?_;clear FR;clear S HS;go_wp2;go_ret;exact⟨rfl,s',HX8.out,HK8.out⟩):p:=h
theorem zQx{p:Prop}(h:p:=by have:=HAh.out.2.2.2 _ e;have:=HXb.out;omega):p:=h
theorem zTm{p:Prop}(h:p:=by rw[hw6];exact(Below.refl w4.heap.size w4.drew|>.alloc (Qn _) _)|>fun h=>⟨h.os,h.tape,h.output,h.size,h.block⟩):p:=h
theorem zII(h:StAt w sb s D nz)(hn:nz≤1900∧8*nz+300≤s.R.pages){name:QB}(hk:zK name=true){st born:Nat}(h1:st<256)(h2:born<18446744073709551616):Calls prog 33 #[.pointer (some ⟨s.br,0,none⟩),.agg (bkC name st born)] w fun e w'=>e= .returned (.int .i64 0)∧∃s',XStep w s D sb (nz+1) w' s'∧s'.X.kvM=ins s.X.kvM (zD name) (zT st born)∧s'.X.vb=s.X.vb∧s'.X.next=s.X.next:=by
 have hks:=zEh name
 have hns:=(yc hk).2
 unfold bkC
 have hb0:Below w.heap.size w (w.alloc (.cells #[.string name,.int .i64 st,.int .u64 born,.bool false,.string ⟨#[]⟩,.int .u64 0] 89)):=qA
 have hx0:=qH w (.cells #[.string name,.int .i64 st,.int .u64 born,.bool false,.string ⟨#[]⟩,.int .u64 0] 89)
 have HB0:=Hd hb0
 have HX0:=Hd hx0
 have HFl:=Hd (fun u=>zNI false u)
 have HWr:=Hd (fun(u:World)fb c hfs=>vG (zEi h1 h2) zFx (w:=u) (fb:=fb) (c:=c) hfs)
 have hv:packed zIE [(st,eS),(born,eS),(0,eS),(0,eS),(0,eS)]=zT st born:=rfl
 rw[hv]at HWr
 have HK:=Hd (kz name hk)
 have HM:=Hd (zDC s.br)
 have HP:=Hd (fun(u:World)tb(hu:StAt u sb s D nz)(ht:TreeAt u tb s.br 4)(hf:¬s.foot tb)=>hu.meta_put hn ht hf (key:=zD name) (val:=zT st born) (by omega) (by rw[zGp];decide))
 have HSt:=Hd h
 have HAh:=Hd h.ahead
 have p1:IntKind.u64.wrap (st:Int)=(st:Int):=by rw[IntKind.wrap_u64];omega
 have HH:=Hd (And.intro h1 h2)
 clear h hb0 hx0 hv hks hns hk
 obtain⟨bk,hbk⟩:=qN (zD name)
 obtain⟨bt,hbt⟩:=qN (zT st born)
 rw[hbk]at HK HP⊢
 rw[hbt]at HWr HP⊢
 clear hbk hbt
 go_enter func33,ntmps33
 go_wp2_with(fail)
 obtain⟨wx,hwx⟩:=qN (w.alloc (.cells #[.string name,.int .i64 st,.int .u64 born,.bool false,.string ⟨#[]⟩,.int .u64 0] 89))
 rw[hwx]at HB0 HX0⊢
 clear hwx
 obtain⟨xb,hxb⟩:=qN w.heap.size
 have HXb:=Hd hxb
 rw[hxb]at HX0⊢
 clear hxb
 have HXl:=Hd (show xb<wx.heap.size from(Gl HX0.out))
 obtain⟨S,HS⟩:=mkS (Keep (fun _=>False) (wx))
 have FR:=Hd (fun u(hu:S u)=>have hu:=(HS.out u).1 hu;have o09:=yl (hu.at HX0.out (fun e=>e));o09)
 refine rgw 26 [tR 0,tR 1,tR 2,tR 3,tR 4,tR 5,tR 6,tR 7,tR 8,tR 9,tR 11,tR 12,tR 13,tR 14,tR 15,tR 16,tR 17,tR 18,tD 10,tD 19,tD 20,tR 21,tR 22,tR 23,tR 24,tR 25] HS (Keep.refl _ _).drew ?_
 iterate 18 refine rd1 ?_
 refine doH ?_
 intro K hK
 go_simp
 go_at_call 91
 refine(HFl.out _).mono ?_
 rintro e w2⟨rfl,hb2⟩
 have hb2':Below wx.heap.size wx w2:=⟨hb2.os,hb2.tape,hb2.output,hb2.size,hb2.block⟩
 have HB2:=Hd hb2'
 refine hK _ _ ((HS.out _).2 (Keep.ofBelow hb2')) ?_
 clear hK K hb2 hb2'
 refine doH ?_
 intro K hK
 go_simp
 have hx3:=qH w2 (.cells #[.int .u64 st,.string ⟨#[]⟩,.int .u64 born,.string ⟨#[]⟩,.int .u64 0,.string ⟨#[]⟩,.int .u64 0,.string ⟨#[]⟩,.int .u64 0,.string ⟨#[]⟩] 182)
 obtain⟨w3,hw3⟩:=qN (w2.alloc (.cells #[.int .u64 st,.string ⟨#[]⟩,.int .u64 born,.string ⟨#[]⟩,.int .u64 0,.string ⟨#[]⟩,.int .u64 0,.string ⟨#[]⟩,.int .u64 0,.string ⟨#[]⟩] 182))
 have hb3:Below wx.heap.size wx w3:=by rw[←hw3];exact HB2.out.alloc HB2.out.size _
 rw[hw3]at hx3⊢
 have HX3:=Hd hx3
 have HB3:=Hd hb3
 have HW3:=Hd (show Calls prog 90 #[.string ⟨#[98,110,98,110,116]⟩,.slice (some ⟨w2.heap.size,0,none⟩) 5 5] w3 fun e w'=>e= .returned (.tuple #[.string bt,.bool true])∧Below w3.heap.size w3 w' from HWr.out w3 w2.heap.size 5 ⟨(Gl hx3),fun j hj=>by match j,hj with|0,_=>exact⟨Qc hx3 0,Qc hx3 1⟩|1,_=>exact⟨Qc hx3 2,Qc hx3 3⟩|2,_=>exact⟨Qc hx3 4,Qc hx3 5⟩|3,_=>exact⟨Qc hx3 6,Qc hx3 7⟩|4,_=>exact⟨Qc hx3 8,Qc hx3 9⟩⟩)
 refine hK _ _ ((HS.out _).2 (Keep.ofBelow hb3)) ?_
 clear hK K hx3 hb3 hw3
 refine doH ?_
 intro K hK
 go_simp
 go_at_call 90
 refine(HW3.out).mono ?_
 rintro e w4⟨rfl,hb4⟩
 have hb4':=qT HB3.out hb4
 have HB4:=Hd hb4'
 refine hK _ _ ((HS.out _).2 (Keep.ofBelow hb4')) ?_
 clear hK K hb4 hb4'
 iterate 5 refine rd1 ?_
 refine zl ?_
 clear FR
 clear S HS
 have HB5:=Hd (qT HB0.out HB4.out)
 have HX5:=Hd ((HB4.out.block xb HXl.out).trans HX0.out)
 have hnx:¬s.foot xb:=fun e=>by exact zQx
 have HNx:=Hd hnx
 have HXl5:=Hd (show xb<w4.heap.size from(Gl HX5.out))
 clear hnx
 go_wp2_with(fail)
 obtain⟨S,HS⟩:=mkS (Keep (fun g=>s.foot g) (w4))
 have FR:=Hd (fun u(hu:S u)=>have hu:=(HS.out u).1 hu;have o09:=yl (hu.at HX5.out HNx.out);o09)
 refine rgw 8 [tR 0,tR 2,tR 3,tR 5,tD 1,tD 4,tD 6,tR 7] HS (Keep.refl _ _).drew ?_
 iterate 4 refine rd1 ?_
 refine doH ?_
 intro K hK
 go_simp
 go_at_call 86
 refine(HM.out _).mono ?_
 rintro e w6⟨rfl,hw6⟩
 have hb6:Below w4.heap.size w4 w6:=by exact zTm
 have HT6:=Hd (show w6.heap[w4.heap.size]? =some (.cells #[.pointer (some ⟨s.br,0,none⟩),.int .i64 4] 242 (0,0))by rw[hw6];exact qH w4.drew _)
 have HB6:=Hd hb6
 refine hK _ _ ((HS.out _).2 (Keep.ofBelow hb6)) ?_
 clear hK K hw6 hb6
 refine doH ?_
 intro K hK
 go_simp
 go_at_call 88
 refine(HK.out _).mono ?_
 rintro e w7⟨rfl,hb7⟩
 have hb7':=qT HB6.out hb7
 have HT7:=Hd (qB hb7 HT6.out)
 have HB7:=Hd hb7'
 refine hK _ _ ((HS.out _).2 (Keep.ofBelow hb7')) ?_
 clear hK K hb7 hb7'
 refine doH ?_
 intro K hK
 go_simp
 go_at_call 92
 have hb8:=qT HB5.out HB7.out
 have HB8:=Hd hb8
 exact zUa
end
section
variable {w : World} {sb : Nat} {s : Sto} {D : Dict} {nz : Nat} {name : QB}
theorem StAt.bfind_none(h:StAt w sb s D nz)(hn:nz≤1900)(hk:zK name=true)(hl:look s.X.kvM (zD name)=none):Calls prog 32 #[.pointer (some ⟨s.br,0,none⟩),.string name] w fun e w'=>e= .returned (.tuple #[.agg bkZ,.int .i64 20])∧Below w.heap.size w w':=Go.Proofs.YtaokjeokpifjgaaGreatDoor.bfind_none h.room h.sized.pages h.cont.out.tm (by have:=h.sized.m;omega) hk hl
theorem StAt.bfind_some(h:StAt w sb s D nz)(hn:nz≤1900)(hk:zK name=true){st born:Nat}(hl:look s.X.kvM (zD name)=some (zT st born))(h1:st<256)(h2:born<18446744073709551616):Calls prog 32 #[.pointer (some ⟨s.br,0,none⟩),.string name] w fun e w'=>e= .returned (.tuple #[.agg (bkC name st born),.int .i64 0])∧Below w.heap.size w w':=Go.Proofs.YtaokjeokpifjgaaGreatDoor.bfind_some h.room h.sized.pages h.cont.out.tm (by have:=h.sized.m;omega) hk hl h1 h2
theorem zNJ(h:StAt w sb s D nz)(hn:nz≤1900∧8*nz+300≤s.R.pages)(hk:zK name=true)(hl:look s.X.kvM (zD name)=none){now:Nat}(h2:now<18446744073709551616):Calls prog 10 #[.pointer (some ⟨s.br,0,none⟩),.string name,.int .u64 now] w fun e w'=>e= .returned (.int .i64 0)∧∃s',XStep w s D sb (nz+1) w' s'∧s'.X.kvM=ins s.X.kvM (zD name) (zT 0 now)∧s'.X.vb=s.X.vb∧s'.X.next=s.X.next:=by
 have HF:=Hd (h.bfind_none (by omega) hk hl)
 have HK:=Hd (fun(u:World)(hb:Below w.heap.size w u)=>show Calls prog 33 #[.pointer (some ⟨s.br,0,none⟩),.agg #[.string name,.int .i64 0,.int .u64 now,.bool false,.string ⟨#[]⟩,.int .u64 0]] u _ from zII (h.still hb) hn hk (st:=0) (by decide) h2)
 unfold bkZ at HF
 generalize ins s.X.kvM (zD name) (zT 0 now)=kv' at*
 clear h hk hl
 go_enter func10,ntmps10
 go_wp2_with(first|(go_at_call 32;refine(HF.out).mono ?_;rintro e w1⟨rfl,hb1⟩;have HB1:=Hd (hb1.alloc hb1.size (.cells #[.string ⟨#[]⟩,.int .i64 0,.int .u64 0,.bool false,.string ⟨#[]⟩,.int .u64 0] 89));clear hb1)|(go_at_call 33;refine(HK.out _ HB1.out).mono ?_;rintro e w2⟨rfl,s',hx,hk'⟩;have HX:=Hd (hx.after HB1.out);have HKv:=Hd hk';clear hx hk'))
 go_ret
 exact⟨rfl,s',HX.out,HKv.out⟩
theorem zLU(h:StAt w sb s D nz)(hn:nz≤1900∧8*nz+300≤s.R.pages)(hk:zK name=true){st born:Nat}(hl:look s.X.kvM (zD name)=some (zT st born))(h1:st<256)(h2:born<18446744073709551616):Calls prog 11 #[.pointer (some ⟨s.br,0,none⟩),.string name,.int .i64 1] w fun e w'=>e= .returned (.int .i64 0)∧∃s',XStep w s D sb (nz+1) w' s'∧s'.X.kvM=ins s.X.kvM (zD name) (zT 1 born)∧s'.X.vb=s.X.vb∧s'.X.next=s.X.next:=by
 have HF:=Hd (h.bfind_some (by omega) hk hl h1 h2)
 have HK:=Hd (fun(u:World)(hb:Below w.heap.size w u)=>show Calls prog 33 #[.pointer (some ⟨s.br,0,none⟩),.agg #[.string name,.int .i64 1,.int .u64 born,.bool false,.string ⟨#[]⟩,.int .u64 0]] u _ from zII (h.still hb) hn hk (st:=1) (by decide) h2)
 unfold bkC at HF
 generalize ins s.X.kvM (zD name) (zT 1 born)=kv' at*
 clear h hk hl
 go_enter func11,ntmps11
 go_wp2_with(first|(go_at_call 32;refine(HF.out).mono ?_;rintro e w1⟨rfl,hb1⟩;have HB1:=Hd (hb1.alloc hb1.size (.cells #[.string name,.int .i64 1,.int .u64 born,.bool false,.string ⟨#[]⟩,.int .u64 0] 89));clear hb1)|(go_at_call 33;refine(HK.out _ HB1.out).mono ?_;rintro e w2⟨rfl,s',hx,hk'⟩;have HX:=Hd (hx.after HB1.out);have HKv:=Hd hk';clear hx hk'))
 go_ret
 exact⟨rfl,s',HX.out,HKv.out⟩
theorem zCk(h:StAt w sb s D nz)(hn:nz≤1900)(hk:zK name=true){st born:Nat}(hl:look s.X.kvM (zD name)=some (zT st born))(h1:st<256)(h2:born<18446744073709551616){item:QB}(hi:zP item=true):Calls prog 41 #[.pointer (some ⟨s.br,0,none⟩),.string name,.string item] w fun e w'=>e= .returned (.tuple #[.agg (bkC name st born),.int .i64 0])∧Below w.heap.size w w':=by
 unfold bkC
 have hb0:Below w.heap.size w (w.alloc (.cells #[.string ⟨#[]⟩,.int .i64 0,.int .u64 0,.bool false,.string ⟨#[]⟩,.int .u64 0] 89)):=qA
 have hx0:=qH w (.cells #[.string ⟨#[]⟩,.int .i64 0,.int .u64 0,.bool false,.string ⟨#[]⟩,.int .u64 0] 89)
 have HF:=Hd ((h.still hb0).bfind_some hn hk hl h1 h2)
 unfold bkC at HF
 have HIt:=Hd (zCj item)
 rw[hi]at HIt
 have HB0:=Hd hb0
 have HX0:=Hd hx0
 clear h hk hl hb0 hx0
 go_enter func41,ntmps41
 go_wp2_with(first|(go_at_call 32;refine(HF.out).mono ?_;rintro e w1⟨rfl,hb1⟩;have hx1:=(hb1.block w.heap.size (by simp)).trans HX0.out;have hb1':=qT HB0.out hb1;have hb2:Below w1.heap.size w1 (w1.alloc (.cells #[.string name,.int .i64 st,.int .u64 born,.bool false,.string ⟨#[]⟩,.int .u64 0] 89)):=qA;have hx2:=qB hb2 hx1;have hx3:=qH w1 (.cells #[.string name,.int .i64 st,.int .u64 born,.bool false,.string ⟨#[]⟩,.int .u64 0] 89);have HX2:=Hd hx2;have HX3:=Hd hx3;have HB2:=Hd (qT hb1' hb2);clear hb1 hx1 hb1' hb2 hx2 hx3)|(go_at_call 101;refine(HIt.out _).mono ?_;rintro e w3⟨rfl,rfl⟩;obtain⟨⟨d0,d1,d2,d3,d4,d5⟩,y0,y1,y2,y3,y4,y5⟩:=yl HX2.out;obtain⟨⟨e0,e1,e2,e3,e4,e5⟩,-⟩:=yl HX3.out))
 exact zQs
theorem zDE(h:StAt w sb s D nz)(hn:nz≤1900)(hk:zK name=true){st born:Nat}(hl:look s.X.kvM (zD name)=some (zT st born))(h1:st<256)(h2:born<18446744073709551616){item:QB}(hi:zP item=false):Calls prog 41 #[.pointer (some ⟨s.br,0,none⟩),.string name,.string item] w fun e w'=>e= .returned (.tuple #[.agg bkZ,.int .i64 28])∧Below w.heap.size w w':=by
 unfold bkZ
 have hb0:Below w.heap.size w (w.alloc (.cells #[.string ⟨#[]⟩,.int .i64 0,.int .u64 0,.bool false,.string ⟨#[]⟩,.int .u64 0] 89)):=qA
 have hx0:=qH w (.cells #[.string ⟨#[]⟩,.int .i64 0,.int .u64 0,.bool false,.string ⟨#[]⟩,.int .u64 0] 89)
 have HF:=Hd ((h.still hb0).bfind_some hn hk hl h1 h2)
 unfold bkC at HF
 have HIt:=Hd (zCj item)
 rw[hi]at HIt
 have HB0:=Hd hb0
 have HX0:=Hd hx0
 clear h hk hl hb0 hx0
 go_enter func41,ntmps41
 go_wp2_with(first|(go_at_call 32;refine(HF.out).mono ?_;rintro e w1⟨rfl,hb1⟩;have hx1:=(hb1.block w.heap.size (by simp)).trans HX0.out;have hb1':=qT HB0.out hb1;have hb2:Below w1.heap.size w1 (w1.alloc (.cells #[.string name,.int .i64 st,.int .u64 born,.bool false,.string ⟨#[]⟩,.int .u64 0] 89)):=qA;have hx2:=qB hb2 hx1;have HX2:=Hd hx2;have HB2:=Hd (qT hb1' hb2);clear hb1 hx1 hb1' hb2 hx2)|(go_at_call 101;refine(HIt.out _).mono ?_;rintro e w3⟨rfl,rfl⟩;obtain⟨⟨d0,d1,d2,d3,d4,d5⟩,y0,y1,y2,y3,y4,y5⟩:=yl HX2.out))
 exact zQs
theorem zLV(h:StAt w sb s D nz)(hn:nz≤1900)(hx:s.X.next+1<18446744073709551616):Calls prog 105 #[.pointer (some ⟨s.br,0,none⟩)] w fun e w'=>e= .returned (.tuple #[.int .u64 (s.X.next+1:Nat),.int .i64 0])∧∃s',XStep w s D sb (nz+1) w' s'∧s'.X.kvM=s.X.kvM∧s'.X.vb=s.X.vb∧s'.X.next=s.X.next+1:=by
 have HG:=Hd h.number_get
 have HP:=Hd (fun(u:World)(hb:Below w.heap.size w u)=>(h.still hb).number_put hn (s.X.next+1) hx)
 obtain⟨x,hx0⟩:=qN s.X.next
 rw[hx0]at HG HP hx⊢
 obtain⟨y,hy⟩:=qN (x+1)
 rw[hy]at HP hx⊢
 have e1:IntKind.u64.wrap ((x:Int)+1)=(y:Int):=by rw[IntKind.wrap_u64];omega
 have e2:((x:Int)+1)%18446744073709551616=(y:Int):=by omega
 clear h hx0 hy
 go_enter func105,ntmps105
 go_wp2_with(first|(go_at_call 165;refine(HG.out).mono ?_;rintro e w1⟨rfl,hb1⟩;have HB1:=Hd hb1;clear hb1)|(go_at_call 166;refine(HP.out _ HB1.out).mono ?_;rintro e w2⟨rfl,s',hx2,hk'⟩;have HX:=Hd (hx2.after HB1.out);have HKv:=Hd hk';clear hx2 hk'))
 go_ret2
 exact⟨rfl,s',HX.out,HKv.out⟩
end
end
end Go.Proofs.YtaokjeokpifjgaaGreatDoor
