/-
  Texts of this claim, one behind the other: LsLeV LsAwV LsAnV LsSmV LsFV LsThV LsTwV LsIxV LsOpV.
-/
import Derived.Test.YtaokjeokpifjgaaGreatDoorM8
open Go.Proofs.Tryz
set_option maxRecDepth 100000
set_option maxHeartbeats 8000000
namespace Go.Proofs.YtaokjeokpifjgaaGreatDoor
section
open Go.RowKit Go.MapKept
attribute [local go_sem] yo yg
def zWc:Array Value:= #[.string ⟨#[]⟩,.int .i64 0,.int .u64 0,.bool false,.string ⟨#[]⟩,.int .u64 0]
theorem zL3{w:World}{br:Nat}{pre delim token:QB}{limit:Int}(hfind:∀u:World,Below w.heap.size w u→Calls prog 32 #[.pointer (some ⟨br,0,none⟩),.string abcB] u fun e w'=>e= .returned (.tuple #[.agg #[.string abcB,.int .i64 1,.int .u64 0,.bool false,.string ⟨#[]⟩,.int .u64 0],.int .i64 0])∧Below u.heap.size u w')(ht:token.size≤400000){ec:Int}(hr:yU pre delim limit token (yS token).isSome=ec)(he:ec≠0):Calls prog 62 #[.pointer (some ⟨br,0,none⟩),.string abcB,.string pre,.string delim,.int .i64 limit,.string token] w fun e w'=>e= .returned (.tuple #[.pointer none,.int .i64 ec])∧Below w.heap.size w w':=by
 have HF:=Hd (hfind w (Below.refl _ _))
 have HR:=Hd (zDg pre delim token ht limit)
 rw[hr]at HR
 have q1:(ec==0)=false:=by simpa using he
 clear hfind hr ht
 go_enter func62,ntmps62
 go_wp2_with(first|(go_at_call 32;refine(HF.out).mono ?_;rintro e w1⟨rfl,hb1⟩;have HB1:=Hd (show Below w.heap.size w (w1.alloc (.cells #[.string abcB,.int .i64 1,.int .u64 0,.bool false,.string ⟨#[]⟩,.int .u64 0] 89))from hb1.alloc hb1.size _);clear hb1)|(go_at_call 26;refine(HR.out _).mono ?_;rintro e w3⟨rfl,hb3⟩;have HB3:=Hd (qT HB1.out hb3);clear hb3))
 go_ret2
 exact⟨rfl,HB3.out⟩
theorem zVc{w:World}{br:Nat}{b pre delim token:QB}{limit:Int}{ec:Int}(he:ec≠0)(hfind:∀u:World,Below w.heap.size w u→Calls prog 32 #[.pointer (some ⟨br,0,none⟩),.string b] u fun e w'=>e= .returned (.tuple #[.agg zWc,.int .i64 ec])∧Below u.heap.size u w'):Calls prog 62 #[.pointer (some ⟨br,0,none⟩),.string b,.string pre,.string delim,.int .i64 limit,.string token] w fun e w'=>e= .returned (.tuple #[.pointer none,.int .i64 ec])∧Below w.heap.size w w':=by
 have HF:=Hd (hfind w (Below.refl _ _))
 have q1:(ec==0)=false:=by simpa using he
 unfold zWc at HF
 clear hfind
 go_enter func62,ntmps62
 go_wp2_with(go_at_call 32;refine(HF.out).mono ?_;rintro e w1⟨rfl,hb1⟩;have HB1:=Hd (show Below w.heap.size w (w1.alloc (.cells #[.string ⟨#[]⟩,.int .i64 0,.int .u64 0,.bool false,.string ⟨#[]⟩,.int .u64 0] 89))from hb1.alloc hb1.size _);clear hb1)
 go_ret2
 exact⟨rfl,HB1.out⟩
theorem zPs{w:World}{br:Nat}{b pre delim token:QB}{limit:Int}{ec:Int}(he:ec≠0)(hbg:∀u:World,Below w.heap.size w u→Calls prog 62 #[.pointer (some ⟨br,0,none⟩),.string b,.string pre,.string delim,.int .i64 limit,.string token] u fun e w'=>e= .returned (.tuple #[.pointer none,.int .i64 ec])∧Below u.heap.size u w'):Calls prog 22 #[.pointer (some ⟨br,0,none⟩),.string b,.string pre,.string delim,.int .i64 limit,.string token] w fun e w'=>e= .returned (.tuple #[.agg #[.slice none 0 0,.slice none 0 0,.bool false,.string ⟨#[]⟩],.int .i64 ec])∧Below w.heap.size w w':=by
 have hb0:Below w.heap.size w (w.alloc (.cells #[.slice none 0 0,.slice none 0 0,.bool false,.string ⟨#[]⟩] 58)):=qA
 have HBg:=Hd (hbg _ hb0)
 have HB0:=Hd hb0
 have HX0:=Hd (qH w (.cells #[.slice none 0 0,.slice none 0 0,.bool false,.string ⟨#[]⟩] 58))
 have q1:(ec==0)=false:=by simpa using he
 clear hbg hb0
 go_enter func22,ntmps22
 go_wp2_with(go_at_call 62;refine(HBg.out).mono ?_;rintro e w1⟨rfl,hb1⟩;have HX1:=Hd (qB hb1 HX0.out);have HB1:=Hd (qT HB0.out hb1);obtain⟨⟨x0,x1,x2,x3⟩,z0,z1,z2,z3⟩:=yM HX1.out;clear hb1)
 refine bodyPost_ret (zx rfl _ _ w.heap.size _ _ _ _ rfl (vy HX1.out _ _ _ _) underlying58 rfl (by kernel_rfl)) rfl ?_
 exact⟨rfl,HB1.out.trans ((zBb w1 w.heap.size (.slice none 0 0) (.slice none 0 0) (.bool false) (.string ⟨#[]⟩)).below HB1.out.size (fun i hi e=>by have h9:i=w.heap.size:=e;omega))⟩
theorem zIn{W0 w:World}{P br sb nz n:Nat}{s:Sto}{D:Dict}{pre delim token:QB}{limit:Int}{L:List It}(h:Held W0 P br w sb s D nz)(hn:nz≤1900)(hkv:s.X.kvM=vT L)(hL:ItsOk n L)(ht:token.size≤400000){ec:Int}(hr:yU pre delim limit token (yS token).isSome=ec)(he:ec≠0):Calls prog 22 #[.pointer (some ⟨br,0,none⟩),.string abcB,.string pre,.string delim,.int .i64 limit,.string token] w fun e w'=>e= .returned (.tuple #[.agg #[.slice none 0 0,.slice none 0 0,.bool false,.string ⟨#[]⟩],.int .i64 ec])∧Below w.heap.size w w':=by
 have hlb:look s.X.kvM (zD abcB)=some (zT 1 0):=by rw[hkv];exact kP L
 have:=hL.few
 exact zPs he (fun u hu=>zL3 (fun x hx=>by have h9:=(h.st.still (qT hu hx)).bfind_some hn yt hlb (by decide) (by decide);rw[h.br_]at h9;exact h9) ht hr he)
theorem IxAt.still{w u:World}(h:IxAt w)(hb:Below w.heap.size w u):IxAt u:=fun x hx=>h x (qT hb hx)
theorem kR{pre delim token:QB}{limit:Int}{ok:Bool}(h1:1≤limit)(h2:limit≤100)(h3:zk pre=true)(h4:zk delim=true)(h5:token=⟨#[]⟩∨ok=true):yU pre delim limit token ok=0:=by
 unfold yU
 rw[if_neg (by rintro(h|h|h|h);omega;omega;(rw[h3]at h;cases h);(rw[h4]at h;cases h)),if_neg (by rintro⟨a,b⟩;rcases h5 with h|h;exact a h;rw[h]at b;cases b)]
theorem zBO:yS ⟨#[]⟩=none:=by
 rfl
theorem zRF(p1 p2 p3 p4:Nat)(v1 v2 v3 v4:Value):kV ⟨#[]⟩ ⟨#[47]⟩ ⟨#[]⟩ 9 (zPr p1 p2 p3 p4 v1 v2 v3 v4) LSt.init=⟨[⟨kB1,3,1,2⟩],[⟨#[97,47]⟩],false,⟨#[]⟩⟩:=by
 kernel_rfl
theorem zRG(p1 p2 p3 p4:Nat)(v1 v2 v3 v4:Value):kV ⟨#[]⟩ ⟨#[]⟩ ⟨#[]⟩ 1 (zPr p1 p2 p3 p4 v1 v2 v3 v4) LSt.init=⟨[⟨kA1,1,3,0⟩],[],true,kT kA1⟩:=by
 kernel_rfl
theorem zRH(p1 p2 p3 p4:Nat)(v1 v2 v3 v4:Value):kV ⟨#[]⟩ ⟨#[]⟩ (kT kA1) 9 (zPr p1 p2 p3 p4 v1 v2 v3 v4) LSt.init=⟨[⟨kA2,2,3,1⟩,⟨kB1,3,1,2⟩],[],false,⟨#[]⟩⟩:=by
 kernel_rfl
def zNv:Array Value:= #[.string ⟨#[97,47,49]⟩,.bool false,.string ⟨#[97,47,50]⟩,.bool false,.string ⟨#[98]⟩,.bool false,.string ⟨#[99]⟩,.bool true]
theorem zJ5(w:World):ThingsAt (w.alloc (.cells zNv 72)) (w.alloc (.cells zNv 72)).heap.size (.slice (some ⟨w.heap.size,0,none⟩) 4 4) zUO:=by
 refine⟨_,w.heap.size,0,4,rfl,fun _=>⟨rfl,by simp⟩,fun k t hk=> ?_⟩
 have hx:=qH w (.cells zNv 72)
 match k,hk with|0,hk=>cases hk;exact⟨Qc hx 0,Qc hx 1⟩|1,hk=>cases hk;exact⟨Qc hx 2,Qc hx 3⟩|2,hk=>cases hk;exact⟨Qc hx 4,Qc hx 5⟩|3,hk=>cases hk;exact⟨Qc hx 6,Qc hx 7⟩|k+4,hk=>cases hk
theorem zJ6(k:QB)(h:k.size≤1000):(vU (kT k)).size≤400000:=by
 rw[zDI]
 have:(kT k).size=1+k.size:=by unfold kT;rw[ByteArray.size_append];rfl
 omega
theorem zDJ{w:World}{s:Sto}{v:Value}{L:List It}(h:DocAt w s v L):∃a c,v= .slice a 1 c:=by
 obtain⟨its,h1,_⟩:=h.ex
 exact zA (show w.ownsRow 0 153 8 v 1 _ from h1)
theorem zDk(w:World)(hix:IxAt w):Calls prog 18 #[] w fun e w'=>e= .returned (.bool true)∧Below w.heap.size w w':=by
 have hb0:Below w.heap.size w (w.alloc (.cells zNv 72)):=qA
 have HMd:=Hd (zCD _ (zJ5 w) (by decide) (by decide))
 have HIx:=Hd (hix.still hb0)
 have HB0:=Hd hb0
 unfold zNv at HMd HIx HB0
 clear hix hb0
 go_enter func18,ntmps18
 go_wp2_with(fail)
 refine(HMd.out).mono ?_
 rintro e w1⟨sb,s,D,nz,n,L,vm,rfl,hhd,hkv,hnx,hmd,hdc,hnz⟩
 obtain⟨ma,mc,hvm⟩:=zDJ hdc
 subst hvm
 obtain⟨p1,p2,p3,p4,v1,v2,v3,v4,hL⟩:=zNr hmd
 have hLok:=(hmd.ok (by decide)).1
 subst hL
 have hb1:Below w1.heap.size w1 (w1.alloc (.cells #[.slice ma 1 mc,.int .u64 (n+1:Nat)] 53)):=qA
 have HH1:=Hd (hhd.still hb1)
 have HLs:=Hd (fun(u:World)(hu:Held (w.alloc (.cells #[.string ⟨#[97,47,49]⟩,.bool false,.string ⟨#[97,47,50]⟩,.bool false,.string ⟨#[98]⟩,.bool false,.string ⟨#[99]⟩,.bool true] 72)) 29991 s.br u sb s D nz)(pre delim token:QB)(limit:Nat)(ht:token.size≤400000)(hr:yU pre delim limit token (yS token).isSome=0)=>zFA HIx.out hu (by omega) hkv hLok ht hr)
 have HL1:=Hd (HLs.out _ HH1.out ⟨#[]⟩ ⟨#[47]⟩ ⟨#[]⟩ 9 (by decide) (by decide))
 rw[zBO,Option.getD_none,zRF]at HL1
 clear hhd hkv hnx hmd hdc hnz hLok hb1
 go_wp2_with(fail)
 refine(HL1.out).mono ?_
 rintro e w2⟨_,rfl,⟨va,vb,rfl,hra,hrb⟩,hb2⟩
 obtain⟨ga,ca,rfl,hga1,hga2,hga3⟩:=zH hra (by decide)
 obtain⟨gb,cb,rfl,hgb1,hgb2,hgb3⟩:=zH hrb (by decide)
 have hp0:w2.cell? ⟨gb,0,none⟩=some (.string ⟨#[97,47]⟩):=zC hrb 0 _ rfl
 have he0:w2.cell? ⟨ga,0,none⟩=some (.string ⟨#[98]⟩):=zC hra 0 _ rfl
 have HG:=Hd (And.intro (And.intro (hra.lt ga rfl).2 he0) (And.intro (hrb.lt gb rfl).2 hp0))
 have hb3:Below w2.heap.size w2 (w2.alloc (.cells #[.slice (some ⟨ga,0,none⟩) 1 ca,.slice (some ⟨gb,0,none⟩) 1 cb,.bool false,.string ⟨#[]⟩] 58)):=qA
 have HH3:=Hd ((HH1.out.still hb2).still hb3)
 have HX3:=Hd (qH w2 (.cells #[.slice (some ⟨ga,0,none⟩) 1 ca,.slice (some ⟨gb,0,none⟩) 1 cb,.bool false,.string ⟨#[]⟩] 58))
 have HL2:=Hd (HLs.out _ HH3.out ⟨#[]⟩ ⟨#[]⟩ ⟨#[]⟩ 1 (by decide) (by decide))
 rw[zBO,Option.getD_none,zRG]at HL2
 clear hra hrb hb2 hb3 hp0 he0
 go_wp2_with(fail)
 refine(HL2.out).mono ?_
 rintro e w4⟨_,rfl,⟨va,vb,rfl,hra,hrb⟩,hb4⟩
 obtain⟨ga2,ca2,rfl,-,-,-⟩:=zH hra (by decide)
 obtain⟨a4,c4,hv4⟩:=zA hrb
 obtain rfl:vb= .slice a4 0 c4:=hv4
 obtain⟨tk,htk⟩:=qN (vU (kT kA1))
 have hft:=zE5 (u:=kA1) (by decide) (by decide)
 have hts:=zJ6 kA1 (by decide)
 rw[htk]at hft hts
 have hb5:Below w4.heap.size w4 (w4.alloc (.cells #[.slice (some ⟨ga2,0,none⟩) 1 ca2,.slice a4 0 c4,.bool true,.string tk] 58)):=qA
 have HH5:=Hd ((HH3.out.still hb4).still hb5)
 have HX5:=Hd (qH w4 (.cells #[.slice (some ⟨ga2,0,none⟩) 1 ca2,.slice a4 0 c4,.bool true,.string tk] 58))
 have HX3b:=Hd ((hb5.block _ (by have:=(Gl HX3.out);have:=hb4.size;omega)).trans (qB hb4 HX3.out))
 have HB5:=Hd (show Below (w2.alloc (.cells #[.slice (some ⟨ga,0,none⟩) 1 ca,.slice (some ⟨gb,0,none⟩) 1 cb,.bool false,.string ⟨#[]⟩] 58)).heap.size _ (w4.alloc (.cells #[.slice (some ⟨ga2,0,none⟩) 1 ca2,.slice a4 0 c4,.bool true,.string tk] 58))from qT hb4 hb5)
 have HL3:=Hd (HLs.out _ HH5.out ⟨#[]⟩ ⟨#[]⟩ tk 9 hts (kR (by decide) (by decide) (by decide) (by decide) (.inr (by rw[hft];rfl))))
 rw[hft,Option.getD_some,zRH]at HL3
 obtain⟨⟨-,-,-,m3⟩,-⟩:=yM HX5.out
 have HTk:=Hd htk
 clear hra hrb hb4 hb5 hft hts
 simp only[if_true]
 rw[HTk.out]
 go_wp2_with(fail)
 refine(HL3.out).mono ?_
 rintro e w6⟨_,rfl,⟨va,vb,rfl,hra,hrb⟩,hb6⟩
 obtain⟨ga3,ca3,rfl,-,-,-⟩:=zH hra (by decide)
 obtain⟨a6,c6,hv6⟩:=zA hrb
 obtain rfl:vb= .slice a6 0 c6:=hv6
 have hb7:Below w6.heap.size w6 (w6.alloc (.cells #[.slice (some ⟨ga3,0,none⟩) 2 ca3,.slice a6 0 c6,.bool false,.string ⟨#[]⟩] 58)):=qA
 have hx7:(w6.alloc (.cells #[.slice (some ⟨ga3,0,none⟩) 2 ca3,.slice a6 0 c6,.bool false,.string ⟨#[]⟩] 58)).heap[w6.heap.size]? =some (.cells #[.slice (some ⟨ga3,0,none⟩) 2 ca3,.slice a6 0 c6,.bool false,.string ⟨#[]⟩] 58 (0,0)):=qH w6 _
 have hb8:=qT hb6 hb7
 have hx8:=qB hb8 HX5.out
 have hx9:=(hb8.block _ (by have h1:=(Gl HX3b.out);exact h1)).trans HX3b.out
 have hb9:=qT HB5.out hb8
 obtain⟨⟨g1,g2⟩,g3,g4⟩:=HG.out
 have hb3x:Below w2.heap.size w2 (w2.alloc (.cells #[.slice (some ⟨ga,0,none⟩) 1 ca,.slice (some ⟨gb,0,none⟩) 1 cb,.bool false,.string ⟨#[]⟩] 58)):=qA
 have q0:(w6.alloc (.cells #[.slice (some ⟨ga3,0,none⟩) 2 ca3,.slice a6 0 c6,.bool false,.string ⟨#[]⟩] 58)).cell? ⟨ga,0,none⟩=some (.string ⟨#[98]⟩):=by rw[hb9.cell (p:=⟨ga,0,none⟩) (by simp;omega)];rw[hb3x.cell (p:=⟨ga,0,none⟩) g1];exact g2
 have q1:(w6.alloc (.cells #[.slice (some ⟨ga3,0,none⟩) 2 ca3,.slice a6 0 c6,.bool false,.string ⟨#[]⟩] 58)).cell? ⟨gb,0,none⟩=some (.string ⟨#[97,47]⟩):=by rw[hb9.cell (p:=⟨gb,0,none⟩) (by simp;omega)];rw[hb3x.cell (p:=⟨gb,0,none⟩) g3];exact g4
 obtain⟨⟨d0,d1,d2,d3⟩,-⟩:=yM hx7
 obtain⟨⟨e0,e1,e2,e3⟩,-⟩:=yM hx8
 obtain⟨⟨f0,f1,f2,f3⟩,-⟩:=yM hx9
 have HW7:=Hd (qT HH5.out.below hb8)
 clear hb3x g1 g2 g3 g4 hra hrb hb6 hb7 hb8 hb9 hx7 hx8 hx9
 dsimp only
 go_wp2_with(fail)
 go_ret
 exact⟨rfl,qT HB0.out HW7.out⟩
theorem zWB{p:Prop}(h:p:=by rintro e w'⟨rfl,hb'⟩;exact⟨_,rfl,zVX hb'⟩):p:=h
theorem zV4{W0 w:World}{P br sb nz n:Nat}{s:Sto}{D:Dict}{name pre delim token:QB}{limit:Int}{L:List It}(hix:IxAt W0)(h:Held W0 P br w sb s D nz)(hn:nz≤1900)(hkv:s.X.kvM=vT L)(hL:ItsOk n L)(ht:token.size≤400000):Calls prog 22 #[.pointer (some ⟨br,0,none⟩),.string name,.string pre,.string delim,.int .i64 limit,.string token] w fun e w'=>∃va,e= .returned (.tuple #[va,.int .i64 (zVW L name pre delim token limit).2])∧ListIs w w' va (zVW L name pre delim token limit).1:=by
 unfold zVW
 by_cases hb:zK name=false
 ·rw[if_pos hb];refine(zPs (ec:=28) (by decide) (fun u hu=>zVc (by decide) (fun x hx=> ?_))).mono ?_;(·have h9:=zRK (h.st.still (qT hu hx)).room hb;rw[h.br_]at h9;exact h9);·exact zWB
 rw[if_neg hb]
 have hb:zK name=true:=by simpa using hb
 by_cases hne:name≠abcB
 ·rw[if_pos hne];(have hlk:look s.X.kvM (zD name)=none:=by rw[hkv];exact zVn hne);refine(zPs (ec:=20) (by decide) (fun u hu=>zVc (by decide) (fun x hx=> ?_))).mono ?_;(·have h9:=(h.st.still (qT hu hx)).bfind_none hn hb hlk;rw[h.br_]at h9;exact h9);·exact zWB
 rw[if_neg hne]
 obtain rfl:name=abcB:=Classical.not_not.1 hne
 unfold zVY
 by_cases hr:yU pre delim limit token (yS token).isSome=0
 ·rw[if_pos hr];have hlim:=zVP hr;obtain⟨k,rfl⟩:=Int.eq_ofNat_of_zero_le (show 0≤limit by omega);exact zFA hix h hn hkv hL ht hr
 ·rw[if_neg hr];refine(zIn h hn hkv hL ht rfl hr).mono ?_;exact zWB
theorem zVd{w:World}{v:Value}{Bs:List Bk}(h:BksAt w v Bs)(hl:Bs.length≤1000)(nx:Nat){name pre delim token:QB}{limit:Int}{k n:Nat}{b:Bk}{L:List It}(hs:name.size≤1000000)(h1:pre.size≤1000000)(h2:delim.size≤1000000)(h3:token.size≤400000)(he:zLp Bs name=0)(hk:atF name Bs 0=(k:Int))(hb:Bs[k]? =some b)(hI:ItsAt w b.its L)(hL:ItsOk n L)(hL2:L.length≤1000):Calls prog 23 #[.agg #[v,.int .u64 nx],.string name,.string pre,.string delim,.int .i64 limit,.string token] w fun e w'=>∃va,e= .returned (.tuple #[va,.int .i64 (zVY L pre delim token limit).2])∧ListIs w w' va (zVY L pre delim token limit).1:=by
 unfold zVY
 by_cases hr:yU pre delim limit token (yS token).isSome=0
 ·rw[if_pos hr];have hlim:=zVP hr;obtain⟨j,rfl⟩:=Int.eq_ofNat_of_zero_le (show 0≤limit by omega);exact zV3 h hl nx hs h3 he hk hb hI hL hL2 hr
 ·rw[if_neg hr];refine(zVt h hl nx hs h1 h2 h3 he rfl hr).mono ?_;exact zWB
theorem zWC{name:QB}{its:Value}(r:List Bk)(hne:name≠abcB):atF name (⟨abcB,1,0,its⟩::r) 0=atF name r 1:=by
 rw[atF,if_neg (fun e=>hne e.symm)]
theorem zWd{p:Prop}(h:p:=by refine(zVz h (by simp) nx hs (by rw[he];decide)).mono ?_;rintro e w'⟨rfl,hb'⟩;rw[he];exact⟨_,rfl,zVX hb'⟩):p:=h
theorem zWD{w:World}{v its:Value}(h:BksAt w v [⟨abcB,1,0,its⟩])(nx:Nat){name pre delim token:QB}{limit:Int}{n:Nat}{L:List It}(hs:name.size≤1000000)(h1:pre.size≤1000000)(h2:delim.size≤1000000)(h3:token.size≤400000)(hI:ItsAt w its L)(hL:ItsOk n L)(hL2:L.length≤1000):Calls prog 23 #[.agg #[v,.int .u64 nx],.string name,.string pre,.string delim,.int .i64 limit,.string token] w fun e w'=>∃va,e= .returned (.tuple #[va,.int .i64 (zVW L name pre delim token limit).2])∧ListIs w w' va (zVW L name pre delim token limit).1:=by
 unfold zVW
 by_cases hb:zK name=false
 ·rw[if_pos hb];(have he:zLp [⟨abcB,1,0,its⟩] name=28:=by unfold zLp;rw[hb];rfl);exact zWd
 rw[if_neg hb]
 have hb:zK name=true:=by simpa using hb
 by_cases hne:name≠abcB
 ·rw[if_pos hne];(have he:zLp [⟨abcB,1,0,its⟩] name=20:=by unfold zLp;rw[hb,zWC [] hne];rfl);exact zWd
 rw[if_neg hne]
 obtain rfl:name=abcB:=Classical.not_not.1 hne
 exact zVd h (by simp) nx hs h1 h2 h3 (by rfl) (k:=0) (by rfl) rfl hI hL hL2
theorem ListIs.forms{w w':World}{va:Value}{o:LOut}(h:ListIs w w' va o):∃a c b d,va= .agg #[.slice a o.es.length c,.slice b o.ps.length d,.bool o.more,.string (if o.more then vU o.last else⟨#[]⟩)]∧w'.ownsRow w.heap.size 74 4 (.slice a o.es.length c) o.es.length (enV o.es)∧w'.ownsRow w.heap.size 9 1 (.slice b o.ps.length d) o.ps.length (psV o.ps):=by
 obtain⟨va,vb,rfl,h1,h2⟩:=h.ex
 obtain⟨a,c,e1⟩:=zA h1
 obtain⟨b,d,e2⟩:=zA h2
 subst e1 e2
 exact⟨a,c,b,d,rfl,h1,h2⟩
def zV5:QB:=⟨#[122,122,122]⟩
theorem zWE{w:World}{v its:Value}(h:BksAt w v [⟨abcB,1,0,its⟩,⟨zV5,0,0,.slice none 0 0⟩])(nx:Nat){pre delim token:QB}{limit:Int}(h1:pre.size≤1000000)(h2:delim.size≤1000000)(h3:token.size≤400000):Calls prog 23 #[.agg #[v,.int .u64 nx],.string zV5,.string pre,.string delim,.int .i64 limit,.string token] w fun e w'=>∃va,e= .returned (.tuple #[va,.int .i64 (yU pre delim limit token (yS token).isSome)])∧ListIs w w' va (zVY [] pre delim token limit).1:=by
 have hr:(zVY [] pre delim token limit).2=yU pre delim limit token (yS token).isSome:=by unfold zVY;split;(·rename_i h9;exact h9.symm);·rfl
 rw[←hr]
 exact zVd h (by simp) nx (by decide) h1 h2 h3 (by rfl) (k:=1) (by rfl) rfl ⟨qO,fun _ hi=>absurd hi (List.not_mem_nil)⟩ (n:=0) ⟨fun _ hi=>absurd hi (List.not_mem_nil),List.Pairwise.nil,by decide⟩ (by simp)
theorem vJ{es:List En}{j:Nat}{e:En}(h:es[j]? =some e)(c:Nat)(v:Value)(hv:e.cells[c]? =some v):(enV es)[j*4+c]? =some v:=by
 have hj:j<es.length:=(List.getElem?_eq_some_iff.1 h).1
 have h2:=zBY (f:=En.cells) (n:=4) (fun _=>rfl) hj (c:=c) (by rw[(List.getElem?_eq_some_iff.1 h).2];exact hv)
 exact h2
theorem zNw{w:World}{B B2:Nat}{va vb va' vb':Value}{es:List En}{ps:List QB}(h1:w.ownsRow B 74 4 va es.length (enV es))(h2:w.ownsRow B 9 1 vb ps.length (psV ps))(h3:w.ownsRow B2 74 4 va' es.length (enV es))(h4:w.ownsRow B2 9 1 vb' ps.length (psV ps))(h5:es.length≤100000)(h6:ps.length≤100000)(m:Bool)(t:QB):Calls prog 25 #[.agg #[va,vb,.bool m,.string t],.agg #[va',vb',.bool m,.string t]] w fun e w'=>e= .returned (.bool true)∧Below w.heap.size w w':=by
 obtain⟨a1,c1,e1⟩:=zA h1
 obtain⟨a2,c2,e2⟩:=zA h2
 obtain⟨a3,c3,e3⟩:=zA h3
 obtain⟨a4,c4,e4⟩:=zA h4
 obtain⟨n,hn⟩:=qN es.length
 obtain⟨k,hk⟩:=qN ps.length
 rw[hn]at h1 h3 e1 e3 h5
 rw[hk]at h2 h4 e2 e4 h6
 subst e1 e2 e3 e4
 have H1:=Hd h1
 have H2:=Hd h2
 have H3:=Hd h3
 have H4:=Hd h4
 have HN:=Hd hn
 have HK:=Hd hk
 have hb1:Below w.heap.size w (w.alloc (.cells #[.slice a1 n c1,.slice a2 k c2,.bool m,.string t] 58)):=qA
 have hb2:=hb1.alloc hb1.size (.cells #[.slice a3 n c3,.slice a4 k c4,.bool m,.string t] 58)
 have hx2:=qH (w.alloc (.cells #[.slice a1 n c1,.slice a2 k c2,.bool m,.string t] 58)) (.cells #[.slice a3 n c3,.slice a4 k c4,.bool m,.string t] 58)
 have hx1:=(((Below.refl (w.alloc (.cells #[.slice a1 n c1,.slice a2 k c2,.bool m,.string t] 58)).heap.size _).alloc (Qn _) (.cells #[.slice a3 n c3,.slice a4 k c4,.bool m,.string t] 58)).block w.heap.size (by simp)).trans (qH w (.cells #[.slice a1 n c1,.slice a2 k c2,.bool m,.string t] 58))
 rw[World.size_alloc]at hx2
 have HX1:=Hd hx1
 have HX2:=Hd hx2
 have HB2:=Hd hb2
 obtain⟨⟨d0,d1,d2,d3⟩,-⟩:=yM hx1
 obtain⟨⟨f0,f1,f2,f3⟩,-⟩:=yM hx2
 have hmm:(m==m)=true:=by simp
 have htt:(t.toList==t.toList)=true:=by simp
 clear h1 h2 h3 h4 hn hk hb1 hb2 hx1 hx2
 go_enter func25,ntmps25
 go_wp2_with(fail)
 obtain⟨xb,hxb⟩:=qN w.heap.size
 obtain⟨w2,hw2⟩:=qN ((w.alloc (.cells #[.slice a1 n c1,.slice a2 k c2,.bool m,.string t] 58)).alloc (.cells #[.slice a3 n c3,.slice a4 k c4,.bool m,.string t] 58))
 rw[hw2]at HX1 HX2 HB2⊢
 have HB2:=Hd (show Below w.heap.size w w2 from HB2.out)
 rw[hxb]at HX1 HX2⊢
 clear hw2 d0 d1 d2 d3 f0 f1 f2 f3 hmm htt hxb
 go_loopw [5](fun i wr=>∃j:Nat,j≤n∧i= .int .i64 j∧Below w2.heap.size w2 wr)(fun i _=>n-(intOf i).toNat)
 case atStart=>exact⟨0,by omega,rfl,Below.refl _ _⟩
 case round=>obtain⟨j,hj,rfl,hb⟩:=hrel;have HBj:=Hd hb;have hbw:=qT HB2.out hb;obtain⟨⟨d0,d1,d2,d3⟩,-⟩:=yM (qB hb HX1.out);obtain⟨⟨f0,f1,f2,f3⟩,-⟩:=yM (qB hb HX2.out);by_cases hlt:j<n;(·(have g1:decide ((j:Int)<(n:Int))=true:=by simp;omega);(have g1':decide (j<n)=true:=by simpa using hlt);(have j0:(0:Int)≤(j:Int):=by omega);(have j1:(j:Int)<(n:Int):=by omega);obtain⟨e,he⟩:∃e,es[j]? =some e:=⟨_,Qg (by rw[HN.out];exact hlt)⟩;have r1:=(Keep.still hbw).ownsRow H1.out (fun _ _ e=>e);have r3:=(Keep.still hbw).ownsRow H3.out (fun _ _ e=>e);obtain⟨g,c,hs,-,-,-⟩:=zH r1 (by omega);obtain⟨s1,s2,s3⟩:=Value.slice.inj hs;subst s1;obtain⟨g',c',hs',-,-,-⟩:=zH r3 (by omega);obtain⟨s1',s2',s3'⟩:=Value.slice.inj hs';subst s1';have k0:=zC r1 _ _ (vJ he 0 _ rfl);have k1:=zC r1 _ _ (vJ he 1 _ rfl);have k2:=zC r1 _ _ (vJ he 2 _ rfl);have k3:=zC r1 _ _ (vJ he 3 _ rfl);have l0:=zC r3 _ _ (vJ he 0 _ rfl);have l1:=zC r3 _ _ (vJ he 1 _ rfl);have l2:=zC r3 _ _ (vJ he 2 _ rfl);have l3:=zC r3 _ _ (vJ he 3 _ rfl);rw[Nat.add_zero]at k0 l0;obtain⟨key,id,size,born⟩:=e;simp only at k0 k1 k2 k3 l0 l1 l2 l3;clear hs hs' s2 s3 s2' s3' r1 r3 he hbw hb;go_wp2_with(fail);go_quiet(fail);go_wp2;go_roundw;(case rel=>exact⟨j+1,by omega,by go_num,below_drewN HBj.out _⟩);case measure=>simp[intOf];omega);·(obtain rfl:j=n:=by omega);(have g1:decide ((j:Int)<(j:Int))=false:=by simp);obtain⟨w3,hw3⟩:=qN wr;subst hw3;have HX1b:=Hd (qB hb HX1.out);have HX2b:=Hd (qB hb HX2.out);have HBw:=Hd hbw;clear hb hbw;go_wp2_with(fail);clear d0 d1 d2 d3 f0 f1 f2 f3;go_loopw [6](fun i wx=>∃q:Nat,q≤k∧i= .int .i64 q∧Below wr.heap.size wr wx)(fun i _=>k-(intOf i).toNat);(case atStart=>exact⟨0,by omega,rfl,Below.refl _ _⟩);case round=>obtain⟨q,hq,rfl,hbq⟩:=hrel;have HBq:=Hd hbq;have hbw:=qT HBw.out hbq;obtain⟨⟨d0,d1,d2,d3⟩,-⟩:=yM (qB hbq HX1b.out);obtain⟨⟨f0,f1,f2,f3⟩,-⟩:=yM (qB hbq HX2b.out);by_cases hlt:q<k;(·(have g2:decide ((q:Int)<(k:Int))=true:=by simp;omega);(have g2':decide (q<k)=true:=by simpa using hlt);(have j0:(0:Int)≤(q:Int):=by omega);(have j1:(q:Int)<(k:Int):=by omega);obtain⟨x,hx⟩:∃x,ps[q]? =some x:=⟨_,Qg (by rw[HK.out];exact hlt)⟩;have r2:=(Keep.still hbw).ownsRow H2.out (fun _ _ e=>e);have r4:=(Keep.still hbw).ownsRow H4.out (fun _ _ e=>e);obtain⟨g,c,hs,-,-,-⟩:=zH r2 (by omega);obtain⟨s1,s2,s3⟩:=Value.slice.inj hs;subst s1;obtain⟨g',c',hs',-,-,-⟩:=zH r4 (by omega);obtain⟨s1',s2',s3'⟩:=Value.slice.inj hs';subst s1';have k0:=zC r2 q (.string x) (by unfold psV;rw[List.getElem?_map,hx];rfl);have l0:=zC r4 q (.string x) (by unfold psV;rw[List.getElem?_map,hx];rfl);(have hxx:(x.toList==x.toList)=true:=by simp);clear hs hs' s2 s3 s2' s3' r2 r4 hx hbw hbq;go_wp2_with(fail);go_quiet(fail);go_wp2;go_roundw;(case rel=>exact⟨q+1,by omega,by go_num,below_drewN HBq.out _⟩);case measure=>simp[intOf];omega);·(obtain rfl:q=k:=by omega);(have g2:decide ((q:Int)<(q:Int))=false:=by simp);have HBz:=Hd hbw;clear hbq hbw;go_wp2;go_ret;exact⟨rfl,HBz.out⟩
def kU(T:List Thing):Bool:=decide (T.length≤30)&&T.all (fun t=>decide (t.1.size≤60))
theorem yd{T:List Thing}:kU T=true↔T.length≤30∧∀t∈T,t.1.size≤60:=by
 unfold kU
 rw[Bool.and_eq_true,List.all_eq_true]
 simp
theorem zGL{v:Value}{T:List Thing}(w:World)(hT:ThingsAt w w.heap.size v T):Calls prog 19 #[v] w fun e w'=>e= .returned (.bool (kU T))∧Below w.heap.size w w':=by
 obtain⟨pa,pb,po,pc,rfl,hpp,hpc⟩:=hT
 obtain⟨k,hpl⟩:=qN T.length
 rw[hpl]at hpp⊢
 by_cases c1:30<k
 ·(have d1:decide ((30:Int)<(k:Int))=true:=by simp;omega);(have d1':decide (30<k)=true:=by simpa using c1);(have hr:kU T=false:=by cases h:kU T with|false=>rfl|true=>have:=(yd.1 h).1;omega);rw[hr];clear hpp hpc hpl hr;go_enter func19,ntmps19;go_wp2;go_ret;exact⟨rfl,Below.refl _ _⟩
 have d1:decide ((30:Int)<(k:Int))=false:=by simp;omega
 have d1':decide (30<k)=false:=by simpa using c1
 have HPp:=Hd hpp
 have HPc:=Hd hpc
 have HPl:=Hd hpl
 clear hpp hpc hpl
 go_enter func19,ntmps19
 go_wp2
 go_loopw [4,10](fun _ i wr=>∃(j:Nat),j≤k∧i= .int .i64 (j:Int)∧(∀(m:Nat)t,m<j→T[m]? =some t→t.1.size≤60)∧Below w.heap.size w wr)(fun _ i _=>k-(intOf i).toNat)
 case atStart=>exact⟨0,by omega,rfl,fun m t h=>by omega,Below.refl _ _⟩
 case round=>obtain⟨j,hj,rfl,hall,hb⟩:=hrel;have HA:=Hd hall;have HB:=Hd hb;by_cases hlt:j<k;(·(have g2:decide ((j:Int)<(k:Int))=true:=by simp;omega);(have g2':decide (j<k)=true:=by simpa using hlt);obtain⟨rfl,hbl⟩:=HPp.out (by omega);obtain⟨t,hx⟩:∃t,T[j]? =some t:=⟨_,Qg (by rw[HPl.out];exact hlt)⟩;obtain⟨q0,q1⟩:=HPc.out j _ hx;have HAt:=Hd hx;rw[←hb.cell (p:=⟨pb,po+j*2,none⟩) hbl]at q0;rw[←hb.cell (p:=⟨pb,po+j*2+1,none⟩) hbl]at q1;obtain⟨tk,tg⟩:=t;simp only at q0 q1;(have hj0:(0:Int)≤(j:Int):=by omega);(have hj1:(j:Int)<(k:Int):=by omega);have HB5:=Hd (hb.alloc hb.size (.cells #[.string tk,.bool tg] 72));obtain⟨⟨e0,e1⟩,-,-⟩:=zj (qH wr (.cells #[.string tk,.bool tg] 72));clear hall hb hx;by_cases c2:60<tk.size;(·(have d2:decide ((60:Int)<(tk.size:Int))=true:=by simp;omega);(have d2':decide (60<tk.size)=true:=by simpa using c2);go_wp2;go_ret;refine⟨?_,HB5.out⟩;cases h:kU T with|false=>rfl|true=>have:=(yd.1 h).2 _ (List.mem_of_getElem? HAt.out);simp only at this;omega);·(have d2:decide ((60:Int)<(tk.size:Int))=false:=by simp;omega);(have d2':decide (60<tk.size)=false:=by simpa using c2);go_wp2;go_roundw;(case rel=>refine⟨j+1,by omega,by go_num,fun m t hm he=> ?_,HB5.out⟩;by_cases e:m=j;(·subst e;rw[HAt.out]at he;cases he;show tk.size≤60;omega);·exact HA.out m t (by omega) he);case measure=>simp[intOf];omega);·(obtain rfl:j=k:=by omega);(have g2:decide ((j:Int)<(j:Int))=false:=by simp);have hr:kU T=true:=yd.2 ⟨by rw[HPl.out];omega,fun t ht=>by obtain⟨m,hm,e⟩:=List.getElem_of_mem ht;exact HA.out m t (by rw[←HPl.out];exact hm) (by rw[Qg hm,e])⟩;have HR:=Hd hr;clear hr hall hb;go_wp2;go_ret;exact⟨by rw[HR.out];rfl,HB.out⟩
def zPt(b p d t:QB):Bool:=decide (b.size≤200)&&(decide (p.size≤200)&&(decide (d.size≤200)&&decide (t.size≤200)))
theorem zRI{p:Prop}(h:p:=by go_enter func20,ntmps20;go_wp2;go_ret;exact⟨rfl,HB1.out⟩):p:=h
theorem zUT{p:Prop}(h:p:=by rw[ct]at zt;go_enter func20,ntmps20;go_wp2;go_ret;exact⟨rfl,HB1.out⟩):p:=h
theorem zPu(b p d t:QB)(l:Value)(w:World):Calls prog 20 #[.agg #[.string b,.string p,.string d,l,.string t]] w fun e w'=>e= .returned (.bool (zPt b p d t))∧Below w.heap.size w w':=by
 have hb1:Below w.heap.size w (w.alloc (.cells #[.string b,.string p,.string d,l,.string t] 49)):=qA
 obtain⟨⟨e0,e1,e2,e3,e4⟩,-⟩:=zBK (qH w (.cells #[.string b,.string p,.string d,l,.string t] 49))
 have HB1:=Hd hb1
 clear hb1
 have hr:zPt b p d t=(decide (b.size≤200)&&(decide (p.size≤200)&&(decide (d.size≤200)&&decide (t.size≤200)))):=rfl
 rw[hr]
 have z:∀s:QB,decide ((s.size:Int)≤200)=decide (s.size≤200):=fun s=>by simp;omega
 have zb:=z b
 have zp:=z p
 have zd:=z d
 have zt:=z t
 clear hr z
 cases cb:decide (b.size≤200)with|false=>rw[cb]at zb;exact zRI|true=>rw[cb]at zb;cases cp:decide (p.size≤200)with|false=>rw[cp]at zp;exact zRI|true=>rw[cp]at zp;cases cd:decide (d.size≤200)with|false=>rw[cd]at zd;exact zRI|true=>rw[cd]at zd;cases ct:decide (t.size≤200)with|false=>exact zUT|true=>exact zUT
theorem ThingsAt.still{w u:World}{v:Value}{T:List Thing}(h:ThingsAt w w.heap.size v T)(hb:Below w.heap.size w u):ThingsAt u u.heap.size v T:=by
 obtain⟨a,b,off,cap,rfl,h1,h2⟩:=h
 refine⟨a,b,off,cap,rfl,fun h0=>⟨(h1 h0).1,Qt (h1 h0).2 hb.size⟩,fun k t hk=> ?_⟩
 have hl:=(h1 (by have:=(List.getElem?_eq_some_iff.1 hk).1;omega)).2
 obtain⟨k1,k2⟩:=h2 k t hk
 exact⟨by rw[hb.cell (p:=⟨b,off+k*2,none⟩) hl];exact k1,by rw[hb.cell (p:=⟨b,off+k*2+1,none⟩) hl];exact k2⟩
theorem zVk{v:Value}{T:List Thing}{ab ap ad at_:QB}{al:Int}(w:World)(hix:IxAt w)(hT:ThingsAt w w.heap.size v T):Calls prog 4 #[v,.agg #[.string ab,.string ap,.string ad,.int .i64 al,.string at_]] w fun e w'=>e= .returned (.bool true)∧Below w.heap.size w w':=by
 have hb0:Below w.heap.size w (w.alloc (.cells #[.string ab,.string ap,.string ad,.int .i64 al,.string at_] 49)):=qA
 have HAw:=Hd (zDk _ (hix.still hb0))
 have HIx:=Hd hix
 have HT0:=Hd hT
 have HB0:=Hd hb0
 have HX0:=Hd (qH w (.cells #[.string ab,.string ap,.string ad,.int .i64 al,.string at_] 49))
 clear hix hT hb0
 go_enter func4,ntmps4
 go_wp2_with(fail)
 refine(HAw.out).mono ?_
 rintro e w1⟨rfl,hb1⟩
 have hbw:=qT HB0.out hb1
 have HS:=Hd (zGL _ (HT0.out.still hbw))
 have hx1:=qB hb1 HX0.out
 have HX1:=Hd hx1
 have HB1:=Hd hbw
 clear hb1 hbw hx1
 by_cases cs:kU T=true
 ·rw[cs]at HS;go_wp2_with(fail);refine(HS.out).mono ?_;rintro e w2⟨rfl,hb2⟩;have hx2:=qB hb2 HX1.out;obtain⟨⟨e0,e1,e2,e3,e4⟩,-⟩:=zBK hx2;have HX2:=Hd hx2;have HB2:=Hd (qT HB1.out hb2);have HF:=Hd (zPu ab ap ad at_ (.int .i64 al) w2);clear hb2 hx2;by_cases cf:zPt ab ap ad at_=true;(·rw[cf]at HF;go_wp2_with(fail);refine(HF.out).mono ?_;rintro e w3⟨rfl,hb3⟩;have hx3:=qB hb3 HX2.out;have HX3:=Hd hx3;have HB3:=Hd (qT HB2.out hb3);obtain⟨h30,h60⟩:=yd.1 cs;(obtain⟨z1,z2,z3,z4⟩:ab.size≤200∧ap.size≤200∧ad.size≤200∧at_.size≤200:=by unfold zPt at cf;simpa using cf);have HMd:=Hd (zCD w3 (HT0.out.still HB3.out) h30 h60);have HZ:=Hd (And.intro z1 (And.intro z2 (And.intro z3 z4)));have HSm:=Hd (And.intro h30 h60);clear hb3 hx3 e0 e1 e2 e3 e4 h30 h60 z1 z2 z3 z4 cf cs;go_wp2_with(fail);refine(HMd.out).mono ?_;rintro e w4⟨sb,s,D,nz,n,L,vm,rfl,hhd,hkv,hnx,hmd,hdc,hnz⟩;obtain⟨ma,mc,hvm⟩:=zDJ hdc;subst hvm;obtain⟨nx,hnx9⟩:=qN (n+1);rw[hnx9];obtain⟨hLok,_,hLlen,_⟩:=hmd.ok HSm.out.1;have h30:=HSm.out.1;(have hLn:L.length≤1000:=by omega);obtain⟨w5,hw5⟩:=qN (w4.alloc (.cells #[.slice ma 1 mc,.int .u64 nx] 53));obtain⟨mb,hmb⟩:=qN w4.heap.size;(have hn5:Below w4.heap.size w4 w5:=by rw[←hw5];exact zOj);(have hm5:w5.heap[mb]? =some (.cells #[.slice ma 1 mc,.int .u64 nx] 53 (0,0)):=by rw[←hw5,←hmb];exact qH w4 _);have hH5:=hhd.still hn5;have hx5:=qB hH5.below HX3.out;obtain⟨o,ho⟩:=qN ((zVW L ab ap ad at_ al).1);obtain⟨ec,hec⟩:=qN ((zVW L ab ap ad at_ al).2);obtain⟨gr,hgr⟩:=qN (yU ap ad al at_ (yS at_).isSome);obtain⟨z1,z2,z3,z4⟩:=HZ.out;have HLs:=Hd (zV4 (name:=ab) (pre:=ap) (delim:=ad) (token:=at_) (limit:=al) (HIx.out.still HB3.out) hH5 (by omega) hkv hLok (by omega));obtain⟨its,hd1,hd2,-⟩:=(hdc.still hn5).ex;have HDo:=Hd (fun(u:World)(hu:Below w5.heap.size w5 u)=>zWD (hd1.still hu) nx (name:=ab) (pre:=ap) (delim:=ad) (token:=at_) (limit:=al) (by omega) (by omega) (by omega) (by omega) (hd2.still hu) hLok hLn);obtain⟨ia,ic,hits⟩:=zA hd2.row;have HMk:=Hd (fun(u:World)(hu:Below w5.heap.size w5 u)=>zVq (hd1.still hu) ⟨_,_,_,hits⟩ nx (name:=zV5) (by decide) (by decide) 0);have HDz:=Hd (fun(u:World)(v:Value)(hu:BksAt u v [⟨abcB,1,0,its⟩,⟨zV5,0,0,.slice none 0 0⟩])=>zWE hu nx (pre:=ap) (delim:=ad) (token:=at_) (limit:=al) (by omega) (by omega) (by omega));have HRt:=Hd (zDg ap ad at_ (by omega) al);have hal:=zWA hLn ab ap ad at_ al;rw[ho,hec]at HLs;rw[ho,hec]at HDo;rw[hgr]at HDz;rw[hgr]at HRt;rw[ho]at hal;have HAl:=Hd hal;have HX5:=Hd hx5;have HM5:=Hd hm5;have HB5:=Hd (qT HB3.out hH5.below);have HNm:=Hd (And.intro hw5 hmb);have HMl:=Hd (show w.heap.size≤mb by have h1:=HB3.out.size;have h2:=hhd.below.size;omega);have HLt:=Hd (show mb<w5.heap.size from(Gl hm5));obtain⟨⟨e0,e1,e2,e3,e4⟩,-⟩:=zBK hx5;clear hhd hkv hnx hmd hdc hnz hLok hLlen hLn hn5 hx5 hH5 h30 hm5 ho hec hgr z1 z2 z3 z4 hd1 hd2 hits hal hw5 hmb HIx HT0 HX3 HMd hnx9;go_upto_region 6 with(fail);rw[HNm.out.1,HNm.out.2];go_wp2_with(fail);refine(HLs.out).mono ?_;rintro e w6⟨_,rfl,hl6⟩;have hb6:=hl6.below;obtain⟨a1,c1,b1,d1,rfl,hra,hrb⟩:=hl6.forms;obtain⟨ne,hne⟩:=qN o.es.length;obtain⟨np,hnp⟩:=qN o.ps.length;obtain⟨bo,hbo⟩:=qN o.more;rw[hbo,hne,hnp];rw[hne]at hra;rw[hnp]at hrb;obtain⟨tk,htk⟩:=qN (if bo then vU o.last else⟨#[]⟩);rw[htk];have HNs:=Hd (And.intro hne (And.intro hnp (And.intro hbo htk)));obtain⟨w7,hw7⟩:=qN (w6.alloc (.cells #[.slice a1 ne c1,.slice b1 np d1,.bool bo,.string tk] 58));obtain⟨xb,hxb⟩:=qN w6.heap.size;(have hb67:Below w6.heap.size w6 w7:=by rw[←hw7];exact zOj);(have hx7:w7.heap[xb]? =some (.cells #[.slice a1 ne c1,.slice b1 np d1,.bool bo,.string tk] 58 (0,0)):=by rw[←hw7,←hxb];exact qH w6 _);have hb57:Below w5.heap.size w5 w7:=qT hb6 hb67;have HX7:=Hd hx7;have HB7:=Hd hb57;have HR7:=Hd (And.intro ((Keep.still hb67).ownsRow hra (fun _ _ e=>e)) ((Keep.still hb67).ownsRow hrb (fun _ _ e=>e)));have HN7:=Hd (And.intro hw7 hxb);(have hxl:mb<xb:=by rw[←hxb];exact Qt HLt.out hb6.size);have HXl:=Hd hxl;have hq5:=qB hb57 HX5.out;have hq6:=(hb57.block _ HLt.out).trans HM5.out;clear e0 e1 e2 e3 e4;obtain⟨⟨e0,e1,e2,e3,e4⟩,-⟩:=zBK hq5;obtain⟨⟨m0,m1⟩,-⟩:=zj hq6;clear hl6 hb6 hra hrb hne hnp hbo htk hw7 hxb hb67 hx7 hb57 hxl hq5 hq6;go_upto_region 7 with(fail);rw[HN7.out.1,HN7.out.2];go_wp2_with(fail);refine(HDo.out _ HB7.out).mono ?_;rintro e w8⟨_,rfl,hl8⟩;have hb8:=hl8.below;obtain⟨a2,c2,b2,d2,rfl,hra,hrb⟩:=hl8.forms;rw[HNs.out.2.2.1,HNs.out.1,HNs.out.2.1,HNs.out.2.2.2];rw[HNs.out.1]at hra;rw[HNs.out.2.1]at hrb;obtain⟨w9,hw9⟩:=qN (w8.alloc (.cells #[.slice a2 ne c2,.slice b2 np d2,.bool bo,.string tk] 58));obtain⟨yb,hyb⟩:=qN w8.heap.size;(have hb89:Below w8.heap.size w8 w9:=by rw[←hw9];exact zOj);(have hy9:w9.heap[yb]? =some (.cells #[.slice a2 ne c2,.slice b2 np d2,.bool bo,.string tk] 58 (0,0)):=by rw[←hw9,←hyb];exact qH w8 _);have hb79:Below w7.heap.size w7 w9:=qT hb8 hb89;have HY9:=Hd hy9;have HB9:=Hd hb79;have HR9:=Hd (And.intro ((Keep.still hb89).ownsRow hra (fun _ _ e=>e)) ((Keep.still hb89).ownsRow hrb (fun _ _ e=>e)));have HN9:=Hd (And.intro hw9 hyb);(have hyl:mb<yb:=by rw[←hyb];exact Qt (Qt HLt.out HB7.out.size) hb8.size);have HYl:=Hd hyl;have hb59:=qT HB7.out hb79;have HB59:=Hd hb59;have hq6:=(hb59.block _ HLt.out).trans HM5.out;clear m0 m1;obtain⟨⟨m0,m1⟩,-⟩:=zj hq6;clear hl8 hb8 hra hrb hw9 hyb hb89 hy9 hb79 hyl hb59 hq6;go_upto_region 8 with(fail);rw[HN9.out.1,HN9.out.2];go_wp2_with(fail);refine(HMk.out _ HB59.out).mono ?_;rintro e w10⟨v10,rfl,hbk,hb10⟩;obtain⟨pa,pc,hv10⟩:=zA (show w10.ownsRow 0 153 8 v10 2 _ from hbk);subst hv10;have hb510:=qT HB59.out hb10;have hm10:=(hb510.block _ HLt.out).trans HM5.out;obtain⟨-,m2,m3⟩:=zj hm10;obtain⟨w11,hw11⟩:=qN ((w10.setCell ⟨mb,0,none⟩ (.slice pa 2 pc)).setCell ⟨mb,1,none⟩ (.int .u64 nx));(have hk11:Keep (fun q=>q=mb) w10 w11:=by rw[←hw11];exact((Keep.refl (fun q=>q=mb) w10).setCell (p:=⟨mb,0,none⟩) (fun _=>rfl) _).setCell (p:=⟨mb,1,none⟩) (fun _=>rfl) _);(have hm11:w11.heap[mb]? =some (.cells #[.slice pa 2 pc,.int .u64 nx] 53 (0,0)):=by rw[←hw11];exact heap_setCell_same _ mb 1 _ _ _ (heap_setCell_same _ mb 0 _ _ (.slice pa 2 pc) hm10));have hbk11:BksAt w11 (.slice pa 2 pc) [⟨abcB,1,0,its⟩,⟨zV5,0,0,.slice none 0 0⟩]:=hbk.aside hm10 (by decide) hk11;have HBk:=Hd hbk11;have hk911:Keep (fun q=>q=mb) w9 w11:=(Keep.ofBelow (S:=fun q=>q=mb) hb10).trans hk11 (fun _ _ e=>e);have HK9:=Hd hk911;have HN11:=Hd hw11;have HM11:=Hd hm11;have hq5:=hk911.at (qB HB59.out HX5.out) (fun e=>by have h1:=HX5.out;have h2:=HM5.out;rw[e,h2]at h1;injection h1 with h1;injection h1 with _ h1;exact absurd h1 (by decide));have HX11:=Hd hq5;clear e0 e1 e2 e3 e4 m0 m1;obtain⟨⟨e0,e1,e2,e3,e4⟩,-⟩:=zBK hq5;obtain⟨⟨m0,m1⟩,-⟩:=zj hm10;clear hbk hb10 hb510 hm10 hk11 hm11 hbk11 hk911 hq5 hw11;go_upto_region 9 with(fail);rw[HN11.out];clear m0 m1 m2 m3;obtain⟨⟨m0,m1⟩,-⟩:=zj HM11.out;go_wp2_with(fail);refine(HDz.out _ _ HBk.out).mono ?_;rintro e w12⟨_,rfl,hl12⟩;have hb12:=hl12.below;obtain⟨a3,c3,b3,d3,rfl,-,-⟩:=hl12.forms;obtain⟨o2,ho2⟩:=qN ((zVY [] ap ad at_ al).1);rw[ho2];obtain⟨n3,hn3⟩:=qN o2.es.length;obtain⟨k3,hk3⟩:=qN o2.ps.length;obtain⟨t3,ht3⟩:=qN (if o2.more then vU o2.last else⟨#[]⟩);rw[hn3,hk3,ht3];obtain⟨w13,hw13⟩:=qN (w12.alloc (.cells #[.slice a3 n3 c3,.slice b3 k3 d3,.bool o2.more,.string t3] 58));(have hb1213:Below w12.heap.size w12 w13:=by rw[←hw13];exact zOj);have hk13:Keep (fun q=>q=mb) w9 w13:=HK9.out.trans (Keep.ofBelow (S:=fun q=>q=mb) (qT hb12 hb1213)) (fun _ _ e=>e);have hx13:=hk13.at (qB HB9.out HX7.out) (fun e=>by have:=HXl.out;omega);have hy13:=hk13.at HY9.out (fun e=>by have:=HYl.out;omega);have hz13:=((qT hb12 hb1213).block _ (Gl HX11.out)).trans HX11.out;have hr1:=hk13.ownsRow ((Keep.still HB9.out).ownsRow HR7.out.1 (fun _ _ e=>e)) (fun g e e2=>by have h1:=(World.ownsRow.lt HR7.out.1 g e).1;have h2:=HLt.out;omega);have hr2:=hk13.ownsRow ((Keep.still HB9.out).ownsRow HR7.out.2 (fun _ _ e=>e)) (fun g e e2=>by have h1:=(World.ownsRow.lt HR7.out.2 g e).1;have h2:=HLt.out;omega);have hr3:=hk13.ownsRow HR9.out.1 (fun g e e2=>by have h1:=(World.ownsRow.lt HR9.out.1 g e).1;have h2:=HLt.out;have h3:=HB7.out.size;omega);have hr4:=hk13.ownsRow HR9.out.2 (fun g e e2=>by have h1:=(World.ownsRow.lt HR9.out.2 g e).1;have h2:=HLt.out;have h3:=HB7.out.size;omega);have HN13:=Hd hw13;have hal:=HAl.out;obtain⟨q1,q2,q3,q4⟩:=HNs.out;have HSa:=Hd (zNw (es:=o.es) (ps:=o.ps) (by rw[q1];exact hr1) (by rw[q2];exact hr2) (by rw[q1];exact hr3) (by rw[q2];exact hr4) hal.1 hal.2 bo tk);have HB13:=Hd ((qT HB5.out HB59.out).trans (hk13.below (qT HB5.out HB59.out).size (fun i hi e=>by have h1:i=mb:=e;have h2:=HMl.out;omega)));clear e0 e1 e2 e3 e4 m0 m1;obtain⟨⟨x0,x1,x2,x3⟩,-⟩:=yM hx13;obtain⟨⟨y0,y1,y2,y3⟩,-⟩:=yM hy13;obtain⟨⟨e0,e1,e2,e3,e4⟩,-⟩:=zBK hz13;have HZ13:=Hd hz13;clear hl12 hb12 hb1213 hk13 hx13 hy13 hz13 hr1 hr2 hr3 hr4 hw13 hal q1 q2 q3 q4 ho2 hn3 hk3 ht3;go_upto_region 10 with(fail);rw[HN13.out];go_wp2_with(fail);refine(HSa.out).mono ?_;rintro e w14⟨rfl,hb14⟩;have hz14:=qB hb14 HZ13.out;clear e0 e1 e2 e3 e4;obtain⟨⟨e0,e1,e2,e3,e4⟩,-⟩:=zBK hz14;have HB14:=Hd (qT HB13.out hb14);clear hb14 hz14;go_wp2_with(go_at_call 26;refine(HRt.out _).mono ?_;rintro e w15⟨rfl,hb15⟩;have HB15:=Hd (qT HB14.out hb15);clear hb15);go_ret;exact⟨rfl,HB15.out⟩);·(have cf':zPt ab ap ad at_=false:=by simpa using cf);rw[cf']at HF;go_wp2_with(fail);refine(HF.out).mono ?_;rintro e w3⟨rfl,hb3⟩;have HB3:=Hd (qT HB2.out hb3);clear hb3;go_wp2_with(fail);go_ret;exact⟨rfl,HB3.out⟩
 ·(have cs':kU T=false:=by simpa using cs);rw[cs']at HS;go_wp2_with(fail);refine(HS.out).mono ?_;rintro e w2⟨rfl,hb2⟩;have HB2:=Hd (qT HB1.out hb2);clear hb2;go_wp2_with(fail);go_ret;exact⟨rfl,HB2.out⟩
theorem zKV{W:World}(h:W.ShapedOpen prog):IxAt W:=by
 obtain⟨m,hm⟩:=Tryz.laysM143.s1_3 W h
 intro u hu s sub hs
 have hl:0<W.heap.size:=World.block_lt_of_cell? _ _ hm
 exact(Tryz.strings_Index s sub m u (by omega) (by rw[hu.cell (p:=⟨0,0,none⟩) hl];exact hm)).mono fun _ _ k=>⟨k.1,k.2.symm⟩
end
section
open Go.ChangeShapes Go.WideShapes Go.ChangeAt Go.RowKit Go.Joins
section
variable {H : Type} {enc : TypeId × Value → H} {W : World} {base : Nat} {r : Reach}
theorem zDl{v:Value}{d:DataW H}{p:List MemPlace}(hv:Value.okWide prog W r base 47 v)(h:DataW.Trod enc prog W 0 (fun _=>true) true 47 v d p):∃T,ThingsAt W W.heap.size v T:=by
 obtain⟨a,len,cap,b,off,cs,rfl,hl,ha,hc⟩:=zGM 2 (by decide) underlying47 (by kernel_rfl) hv h
 refine⟨(List.range len).map (fun k=>(zHA (cs k) 0,zKU (cs k) 1)),a,b,off,cap,by simp,fun h0=>ha (by simpa using h0),fun k x hx=> ?_⟩
 obtain⟨hk,rfl⟩:=zBq _ _ _ _ hx
 obtain⟨h1,h2,m,y,h3⟩:=hc k hk
 have g0:=zAY underlying72 (by kernel_rfl) h3 (by rw[h1];kernel_rfl) 0 _ rfl underlying9
 have g1:=zJ7 underlying72 (by kernel_rfl) h3 (by rw[h1];kernel_rfl) 1 _ rfl underlying4
 have k0:=h2 0 (by decide)
 rw[Nat.add_zero]at k0
 exact⟨k0.trans g0.1,(h2 1 (by decide)).trans g1⟩
theorem zNy{v:Value}{d:DataW H}{p:List MemPlace}(hv:Value.okWide prog W r base 49 v)(h:DataW.Trod enc prog W 0 (fun _=>true) true 49 v d p):∃b q e l t,v= .agg #[.string b,.string q,.string e,.int .i64 l,.string t]:=by
 unfold Value.okWide at hv
 rw[underlying49]at hv
 obtain⟨cs,rfl,hsz,_⟩:=hv
 rw[show prog.cellsOf 49=5 by kernel_rfl]at hsz
 obtain⟨fuel,hf⟩:=h
 have h1:cs.toList.length=5:=by simpa using hsz
 have hf2:DataW.trod enc prog W 0 (fun _=>true) true fuel 49 cs.toList=some (d,p):=by simpa[Value.cells]using hf
 have g0:=(zAY underlying49 (by kernel_rfl) hf2 (by rw[h1];kernel_rfl) 0 _ rfl underlying9).1
 have g1:=(zAY underlying49 (by kernel_rfl) hf2 (by rw[h1];kernel_rfl) 1 _ rfl underlying9).1
 have g2:=(zAY underlying49 (by kernel_rfl) hf2 (by rw[h1];kernel_rfl) 2 _ rfl underlying9).1
 have g3:=(zL6 underlying49 (by kernel_rfl) hf2 (by rw[h1];kernel_rfl) 3 _ rfl underlying3).1
 have g4:=(zAY underlying49 (by kernel_rfl) hf2 (by rw[h1];kernel_rfl) 4 _ rfl underlying9).1
 refine⟨zHA cs.toList 0,zHA cs.toList 1,zHA cs.toList 2,zIp cs.toList 3,zHA cs.toList 4,?_⟩
 congr 1
 apply Array.toList_inj.1
 apply List.ext_getElem?
 intro i
 match i with|0=>exact g0|1=>exact g1|2=>exact g2|3=>exact g3|4=>exact g4|i+5=>rw[List.getElem?_eq_none (by omega)];rfl
end
end
end Go.Proofs.YtaokjeokpifjgaaGreatDoor
