/-
  Texts of this claim, one behind the other: Sm3 StPuV StAdV NmAV NmBV NmCV LsYV LsOV LsQV LsRV LsSV LsNV LsVV LsXV LsX2V LsZV LsZ2V.
-/
import Derived.Test.YtaokjeokpifjgaaGreatDoorM4
open Go.Proofs.Tryz
set_option maxRecDepth 100000
set_option maxHeartbeats 8000000
namespace Go.Proofs.YtaokjeokpifjgaaGreatDoor
section
open Go.RowKit Go.MapKept
attribute [local go_sem] yo yg
theorem PrAt.of{w:World}{pb n:Nat}{cs:Array Value}(h:w.heap[pb]? =some (.cells cs 311 (0,0)))(hz:cs.size=25)(ha:(cs.toList.take 24).all (fun v=>match v with| .int .u32 _=>true|_=>false)=true)(hn:cs[24]? =some (.int .i64 n)):PrAt w pb n:=by
 refine⟨cs,h,hz,fun i hi=> ?_,hn⟩
 have hm:cs[i]'(by omega)∈cs.toList.take 24:=by rw[List.mem_take_iff_getElem];exact⟨i,by simp[hz];omega,by simp⟩
 have h1:=List.all_eq_true.1 ha _ hm
 rw[Array.getElem?_eq_getElem (by omega)]
 revert h1
 generalize cs[i]'(by omega)=v
 intro h1
 split at h1
 ·exact⟨_,rfl⟩
 ·cases h1
structure OutAt(w:World)(ob:Nat):Prop where
 ex:∃cs:Array Value,w.heap[ob]? =some (.cells cs 312 (0,0))∧cs.size=32∧∀i,i<32→∃c:Nat,c<256∧cs[i]? =some (.int .u8 c)
theorem OutAt.bytes{w:World}{ob:Nat}(h:OutAt w ob):∃s:QB,s.size=32∧Lib.Bytes w ob 0 s:=by
 obtain⟨cs,h1,h2,h3⟩:=h.ex
 have h4:∃f:Nat→Nat,∀i,i<32→f i<256∧cs[i]? =some (.int .u8 (f i)):=by refine⟨fun i=>if h:i<32 then(h3 i h).choose else 0,fun i hi=> ?_⟩;simp only[hi,dif_pos];exact(h3 i hi).choose_spec
 obtain⟨f,hf⟩:=h4
 refine⟨⟨((List.range 32).map (fun i=>UInt8.ofNat (f i))).toArray⟩,by show(List.toArray _).size=32;simp,fun i hi=> ?_⟩
 have hi2:i<32:=by(have:(⟨((List.range 32).map (fun i=>UInt8.ofNat (f i))).toArray⟩:QB).size=32:=by show(List.toArray _).size=32;simp);omega
 rw[Nat.zero_add,Qc h1 i,(hf i hi2).2]
 have:=(hf i hi2).1
 show some (Value.int IntKind.u8 (f i))=some (Value.int IntKind.u8 (((((List.range 32).map (fun i=>UInt8.ofNat (f i))).toArray[i]'(by simp;omega)).toNat:Nat):Int))
 simp
 omega
theorem OutAt.cell{w:World}{ob:Nat}(h:OutAt w ob)(i:Nat)(hi:i<32):∃c:Int,w.cell? ⟨ob,i,none⟩=some (.int .u8 c):=by
 obtain⟨cs,h1,h2,h3⟩:=h.ex
 obtain⟨c,_,hc⟩:=h3 i hi
 exact⟨c,(Qc h1 i).trans hc⟩
theorem OutAt.froz{w:World}{ob:Nat}(h:OutAt w ob)(i:Nat):w.frozen? ⟨ob,i,none⟩=false:=by
 obtain⟨cs,h1,h2⟩:=h.ex
 simp[World.frozen?,h1]
theorem OutAt.set{w:World}{ob:Nat}(h:OutAt w ob)(i:Nat)(hi:i<32)(x:Int)(h0:0≤x)(h1:x<256):OutAt (w.setCell ⟨ob,i,none⟩ (.int .u8 x)) ob:=by
 obtain⟨cs,k1,k2,k3⟩:=h.ex
 refine⟨_,heap_setCell_same w ob i cs _ _ k1,by simpa using k2,fun j hj=> ?_⟩
 rw[Array.getElem?_setIfInBounds]
 split
 ·rw[if_pos (by omega)];exact⟨x.toNat,by omega,by rw[Int.toNat_of_nonneg h0]⟩
 ·exact k3 j hj
def zEe(pb:Nat)(w:World):Nat:=match w.cell? ⟨pb,24,none⟩with|some (.int _ n)=>((120-n)%64).toNat|_=>0
theorem zLG(s:QB)(hs:s.size≤1000000)(w:World):Calls prog 161 #[.string s] w fun e w'=>∃t:QB,t.size=32∧e= .returned (.string t)∧Below w.heap.size w w':=by
 obtain⟨pb,hpb⟩:=qN w.heap.size
 have HPb:=Hd hpb
 go_enter func161,ntmps161
 go_wp2_with(fail)
 go_loopw [4,13](fun _ i wr=>(∃k:Nat,k≤s.size∧i= .int .i64 k)∧(∃n,n<64∧PrAt wr pb n)∧Below w.heap.size w wr)(fun _ i _=>s.size-(intOf i).toNat)
 case atStart=>exact⟨⟨0,by omega,rfl⟩,⟨0,by omega,PrAt.of (by rw[←hpb];exact qH w _) rfl rfl rfl⟩,qA⟩
 case round=>obtain⟨⟨k,hk,rfl⟩,⟨n,hn,hp⟩,hb⟩:=hrel;have HB:=Hd hb;have HPut:=Hd (fun c=>zEd hp hn c);have HP:=Hd hp;clear hb hp;(have hss:s.size≤9223372036854775807:=by omega);by_cases hlt:k<s.size;(·(have g1:decide ((k:Int)<(s.size:Int))=true:=by simp;omega);(have hki:(k:Int)<(s.size:Int):=by omega);go_wp2_with(go_at_call 216;refine(HPut.out _).mono ?_;rintro e w3⟨rfl,hp3,hk3⟩);have hb3:Below w.heap.size w w3:=HB.out.trans (hk3.below HB.out.size (fun i hi e=>by have:=HPb.out;omega));exact⟨⟨⟨k+1,by omega,by go_num⟩,⟨_,by omega,hp3⟩,hb3⟩,by simp[intOf];omega⟩);·(obtain rfl:k=s.size:=by omega);(have g1:decide ((s.size:Int)<(s.size:Int))=false:=by simp);go_wp2_with(go_at_call 216;refine(HPut.out _).mono ?_;rintro e w3⟨rfl,hp3,hk3⟩;have HP3:=Hd hp3;have HB3:=Hd (show Below w.heap.size w w3 from HB.out.trans (hk3.below HB.out.size (fun i hi e=>by have:=HPb.out;omega)));clear hp3 hk3);clear g1 hk;go_loopw [](fun wr=>(∃n,n<64∧PrAt wr pb n)∧Below w.heap.size w wr)(fun wr=>zEe pb wr);(case atStart=>exact⟨⟨_,by omega,HP3.out⟩,HB3.out⟩);case round=>obtain⟨⟨n,hn,hp⟩,hb⟩:=hrel;have HB4:=Hd hb;have HPut4:=Hd (fun c=>zEd hp hn c);have HP4:=Hd hp;have cn:=hp.cellN;(have hml:zEe pb wr=(120-n)%64:=by unfold zEe;rw[cn];simp only[];omega);rw[hml];have HML:=Hd hml;clear hp hb hml;by_cases h56:n=56;(·subst h56;go_wp2;go_loopw [5](fun i wr=>(∃j:Nat,j≤8∧i= .int .i64 (56-8*(j:Int)))∧(∃n,n<64∧PrAt wr pb n)∧Below w.heap.size w wr)(fun i _=>(intOf i+16).toNat);(case atStart=>exact⟨⟨0,by omega,rfl⟩,⟨56,by omega,HP4.out⟩,HB4.out⟩);case round=>obtain⟨⟨j,hj,rfl⟩,⟨n,hn2,hp⟩,hb⟩:=hrel;have HB5:=Hd hb;have HPut5:=Hd (fun c=>zEd hp hn2 c);have HP5:=Hd hp;clear hp hb;(have hs8:(s.size:Int)*8<18446744073709551616:=by omega);by_cases hlt:j<8;(·obtain⟨sh,hsh⟩:∃sh:Nat,(56:Int)-8*(j:Int)=(sh:Int):=⟨56-8*j,by omega⟩;rw[hsh];(have f1:decide ((0:Int)≤(sh:Int))=true:=by simp);(have hsh56:(sh:Int)≤56:=by omega);have HSH:=Hd hsh;clear hsh;go_wp2_with(go_at_call 216;refine(HPut5.out _).mono ?_;rintro e w3⟨rfl,hp3,hk3⟩);have hb3:Below w.heap.size w w3:=HB5.out.trans (hk3.below HB5.out.size (fun i hi e=>by have:=HPb.out;omega));have hsh2:=HSH.out;exact⟨⟨⟨j+1,by omega,by congr 1;omega⟩,⟨_,by omega,hp3⟩,hb3⟩,by simp[intOf];omega⟩);·(obtain rfl:j=8:=by omega);obtain⟨ob,hob⟩:=qN wr.heap.size;have hpl:=HP5.out.lt;(have hne:pb≠ob:=by omega);have HOb:=Hd hob;have hob2:=HB5.out.size;have HOb2:=Hd (show w.heap.size≤ob by omega);clear hpl hob2;go_wp2;go_loopw [7,44](fun _ i wr=>(∃k:Nat,k≤32∧i= .int .i64 k)∧(∃n,PrAt wr pb n)∧OutAt wr ob∧Below w.heap.size w wr)(fun _ i _=>32-(intOf i).toNat);(case atStart=>refine⟨⟨0,by omega,rfl⟩,⟨_,HP5.out.keep (Keep.still (qA)) (fun e=>e)⟩,⟨_,by rw[←HOb.out];exact qH wr _,rfl,fun i hi=>⟨0,by omega,?_⟩⟩,HB5.out.alloc HB5.out.size _⟩;(have hall:∀i,i<32→(Array.replicate 32 (Value.int IntKind.u8 0))[i]? =some (Value.int IntKind.u8 ((0:Nat):Int)):=fun i hi=>by simp[hi]);exact hall i hi);case round=>obtain⟨⟨k,hk,rfl⟩,⟨n2,hp⟩,ho,hb⟩:=hrel;have HB6:=Hd hb;have HP6:=Hd hp;have HO6:=Hd ho;by_cases hlt:k<32;(·(have g1:decide ((k:Int)<32)=true:=by simp;omega);(have g1':decide (k<32)=true:=by simpa using hlt);obtain⟨q,hq⟩:=qN (k/4);(have q1:(k:Int).tdiv 4=(q:Int):=by exact zQE);(have q2:(k:Int)/4=(q:Int):=by omega);(have q3:(q:Int)<8:=by omega);have qw:IntKind.i64.wrap (q:Int)=(q:Int):=zv (by omega) (by omega);obtain⟨sh,hsh⟩:∃sh:Nat,(24:Int)-(k:Int)%4*8=(sh:Int):=⟨24-k %4*8,by omega⟩;(have k4:(k:Int).tmod 4=(k:Int)%4:=by rw[Int.tmod_eq_emod_of_nonneg (by omega)]);obtain⟨xq,cq⟩:=hp.cell q (by omega);obtain⟨xo,co⟩:=ho.cell k hlt;have fo:=ho.froz k;(have k32:(k:Int)<32:=by omega);clear hp hb ho hq;go_wp2;have hks:Keep (fun i=>i=ob) wr (wr.setCell ⟨ob,k,none⟩ (.int .u8 (xq/2^sh %256))):=(Keep.refl (fun i=>i=ob) wr).setCell (p:=⟨ob,k,none⟩) (fun _=>rfl) _;exact⟨⟨⟨k+1,by omega,by go_num⟩,⟨n2,HP6.out.keep hks hne⟩,HO6.out.set k hlt _ (by omega) (by omega),HB6.out.trans (hks.below HB6.out.size (fun i hi e=>by have:=HOb2.out;omega))⟩,by simp[intOf];omega⟩);·(obtain rfl:k=32:=by omega);obtain⟨t,ht1,ht2⟩:=ho.bytes;(have hcv:∀u,Lib.Bytes u ob 0 t→∀c,(convert 121 9 (.slice (some ⟨ob,0,none⟩) 32 c)).run prog u= .ok (.string t) u:=fun u hu c=>by have:=Lib.run_convert_whole (P:=prog) u 121 5 9 underlying121 underlying5 underlying9 ob 0 t hu c;rwa [ht1]at this);have l1:=hcv wr ht2 32;have HT:=Hd ht1;clear hp hb ho ht1 ht2 hcv;go_wp2;go_ret;exact⟨t,HT.out,rfl,HB6.out⟩);·(have g1:((n:Int) !=56)=true:=by simp;omega);go_wp2_with(go_at_call 216;refine(HPut4.out _).mono ?_;rintro e w3⟨rfl,hp3,hk3⟩);have hb3:Below w.heap.size w w3:=HB4.out.trans (hk3.below HB4.out.size (fun i hi e=>by have:=HPb.out;omega));refine⟨⟨⟨_,by omega,hp3⟩,hb3⟩,?_⟩;(have:zEe pb w3=(120-(n+1)%64)%64:=by unfold zEe;rw[hp3.cellN];simp only[];omega);rw[this];omega
def Dict.le(D D':Dict):Prop:=∀i u,D i=some u→D' i=some u
theorem Dict.le_refl(D:Dict):D.le D:=fun _ _ h=>h
theorem Dict.le_trans{D D' D'':Dict}(h:D.le D')(k:D'.le D''):D.le D'':=fun i u e=>k i u (h i u e)
theorem Dict.le_upd{D:Dict}{id t:QB}(h:D id=none):D.le (D.upd id t):=fun i u e=>by
 unfold Dict.upd
 by_cases hi:i=id
 ·rw[hi,h]at e;cases e
 ·rw[if_neg hi];exact e
def zQg(D:Dict)(p:QB)(k:Nat)(f:Int):Prop:=(f= -1∧∀j,j<k→D (xU p j)≠none)∨∃j:Nat,j<256∧f=j∧D (xU p j)=none
def zQh(w:World)(sb:Nat)(s:Sto)(D:Dict)(nz:Nat)(t:QB)(e:Ending)(w':World):Prop:=∃id fresh s' D',e= .returned (.tuple #[.string id,.bool fresh,.int .i64 0])∧id.size=33∧StAt w' sb s' D' (nz+1)∧StStep w s w' s'∧D' id=some t∧D.le D'∧s'.kvI.length≤s.kvI.length+1
section
variable {w : World} {sb : Nat} {s : Sto} {D : Dict} {nz : Nat}
theorem Sized.more(h:Sized s.R s.kvI s.kvL s.bp s.X nz):Sized s.R s.kvI s.kvL s.bp s.X (nz+1):=⟨by have:=h.i;omega,by have:=h.l;omega,by have:=h.b;omega,by have:=h.m;omega,h.pages,by have:=h.puts;omega,by have:=h.root;omega,by have:=h.bx;omega,by have:=h.v;omega⟩
theorem StAt.more(h:StAt w sb s D nz):StAt w sb s D (nz+1):=⟨h.cells,h.ti,h.tl,h.room,h.nsb,h.nib,h.nlb,h.cont,h.sized.more⟩
theorem StAt.lt(h:StAt w sb s D nz):sb<w.heap.size:=(Gl h.cells)
theorem StAt.aside{eb:Nat}{w':World}(h:StAt w sb s D nz)(hk:Keep (fun k=>k=eb) w w')(h0:sb≠eb)(h1:s.ib≠eb)(h2:s.lb≠eb)(h3:¬s.foot eb):StAt w' sb s D nz:=h.keep hk h0 h1 h2 (fun _ hf e=>h3 (e▸hf))
theorem StAt.ahead(h:StAt w sb s D nz):sb<w.heap.size∧s.ib<w.heap.size∧s.lb<w.heap.size∧∀k,s.foot k→k<w.heap.size:=⟨h.lt,(Gl h.ti.cells),(Gl h.tl.cells),fun _ hf=>h.room.foot_lt9 hf⟩
theorem zC9(h:StAt w sb s D nz)(hn:nz≤2000∧8*nz+200≤s.R.pages):∃q,q<s.R.pages∧s.R.has q=false:=by
 have h1:=h.cont.len
 have h2:=h.sized
 exact zCW h.cont.all (by have:=h2.i;have:=h2.l;have:=h2.b;have:=h2.pages;omega)
theorem zOs{p:Prop}(h:p:=by rw[a1,Ql];have:=hz.puts;omega):p:=h
theorem zQi{p:Prop}(h:p:=by rw[vt htk.zero];have:=hz.root;omega):p:=h
theorem zTJ{p:Prop}(h:p:=by have h5:=(HSt.out.cont.bh pg (HSt.out.cont.xin pg e)).2;rw[(htk.new pg (by simp)).2]at h5;cases h5):p:=h
theorem zTK{p:Prop}(h:p:=by have h8:=HSS7.out.ib;have h9:=HSS7.out.lb;have:=HSt.out.ahead;have:=HEb.out;omega):p:=h
theorem zTL{p:Prop}(h:p:=by have HNm:=Hd (fun u=>zCb p (by omega) j (by omega) u);refine(HBP.out).mono ?_;rintro e w4⟨R',pg,rfl,hst,htk,hbl,a,a1,a2⟩;have hz:=HSt.out.sized;have hR9:=hst.pages;have hcb:=HSt.out.cont.blob htk ((HSt.out.room).pages_le) hR9;have hs4:=(HSt.out.still HBz.out).step hst hcb (nz':=nz+1) ⟨by have:=hz.i;omega,by have:=hz.l;omega,by rw[Ql];have:=hz.b;simp;omega,by have:=hz.m;omega,by rw[hR9];exact hz.pages,by exact zOs,by exact zQi,by rw[Ql];have:=hz.bx;simp;omega,by have:=hz.v;omega⟩;have hss4:=(StStep.still (s:=s) HBz.out).trans (hst.sto s.kvI s.kvL s.psI s.psL (s.bp++[pg]));obtain⟨ah1,ah2,ah3,ah4⟩:=HSt.out.ahead;(have hne:¬s.foot eb:=fun e=>by have:=ah4 _ e;have:=HEb.out;omega);have hnf4:¬R'.foot s.br eb:=fun e=>(hst.foot9 e).elim hne (fun e2=>by have:=HZl.out;omega);have HE4:=Hd (hst.keep9.at HEz.out hne);have ez4:w4.cell? ⟨eb,0,none⟩=some (.int .i64 0):=Qc HE4.out 0;have yz4:w4.frozen? ⟨eb,0,none⟩=false:=zM HE4.out;have HK5:=Hd (show Keep (fun k=>k=eb) w4 (w4.setCell ⟨eb,0,none⟩ (.int .i64 0))from(Keep.refl (fun k=>k=eb) w4).setCell (p:=⟨eb,0,none⟩) (fun _=>rfl) _);have hs5:=hs4.aside HK5.out (by have:=HEb.out;omega) (by show s.ib≠eb;have:=HEb.out;omega) (by show s.lb≠eb;have:=HEb.out;omega) hnf4;have hss5:StStep w s (w4.setCell ⟨eb,0,none⟩ (.int .i64 0)) ⟨s.br,s.ib,s.lb,R',s.kvI,s.kvL,s.psI,s.psL,s.bp++[pg],s.X⟩:=⟨hss4.keep.trans HK5.out (fun i hi e=>by have:=HEb.out;omega),hss4.foot,rfl,rfl,rfl,hR9,rfl⟩;have ez5:(w4.setCell ⟨eb,0,none⟩ (.int .i64 0)).cell? ⟨eb,0,none⟩=some (.int .i64 0):=World.cell?_setCell_same _ _ _ ez4;have HE5:=Hd (heap_setCell_same w4 eb 0 _ _ (.int .i64 0) HE4.out);have HS5:=Hd hs5;have HSS5:=Hd hss5;have HBl:=Hd (show BlobIn R' t [pg]from hbl);have HPu5:=Hd (show R'.T.puts.length+200≤1000*(nz+1)by rw[a1,Ql];have:=hz.puts;omega);have HR9:=Hd hR9;have HPx:=Hd (show pg∉s.X.pages from fun e=>by exact zTJ);have HNf:=Hd hnf4;have HKi5:=Hd (show s.kvI.length+1≤nz+1 by have:=hz.i;omega);clear hst htk hbl a1 a2 hz hR9 hcb hs4 hss4 ah1 ah2 ah3 ah4 hne hnf4 hs5 hss5 cz0 ez0 yz0;go_wp2_with(fail);refine(HNm.out _).mono ?_;rintro e w6⟨rfl,hb6⟩;have HKp:=Hd (zHy (HS5.out.still hb6) (by show nz+1≤2000∧8*(nz+1)+200≤R'.pages;have:=HR9.out;omega) HKi5.out HPu5.out (id:=xU p j) (t:=t) (p:=pg) (by rw[vH];omega) (by simp) HBl.out h1 h2 HPx.out);have HE6:=Hd ((hb6.block eb (by have:=(Gl HE5.out);exact this)).trans HE5.out);have HSS6:=Hd (HSS5.out.trans (StStep.still hb6));have HZ6:=Hd (show eb<w6.heap.size from(Gl HE6.out));clear hb6 ez4 ez5 yz4;go_wp2_with(fail);refine(HKp.out).mono ?_;rintro e w7⟨rfl,s7,hst7,hss7,hkv7⟩;have HE7:=Hd (hss7.keep.at HE6.out (fun e=>HNf.out e));have HSS7:=Hd (HSS6.out.trans hss7);have HNf7:=Hd (show¬s7.foot eb from fun e=>(hss7.foot eb e).elim HNf.out (fun e2=>by have:=HZ6.out;omega));have HS7:=Hd hst7;have HAh7:=Hd (show sb≠eb∧s7.ib≠eb∧s7.lb≠eb from by exact zTK);clear hst7 hss7;go_wp2_with(fail);refine(HNm.out _).mono ?_;rintro e w8⟨rfl,hb8⟩;have HE8:=Hd ((hb8.block eb (by have:=(Gl HE7.out);exact this)).trans HE7.out);have ez8:w8.cell? ⟨eb,0,none⟩=some (.int .i64 0):=Qc HE8.out 0;have yz8:w8.frozen? ⟨eb,0,none⟩=false:=zM HE8.out;have HS8:=Hd (HS7.out.still hb8);have HSS8:=Hd (HSS7.out.trans (StStep.still hb8));clear hb8;go_wp2_with(fail);have e9:(w8.setCell ⟨eb,0,none⟩ (.int .i64 0)).cell? ⟨eb,0,none⟩=some (.int .i64 0):=World.cell?_setCell_same _ _ _ ez8;have hk9:Keep (fun k=>k=eb) w8 (w8.setCell ⟨eb,0,none⟩ (.int .i64 0)):=(Keep.refl (fun k=>k=eb) w8).setCell (p:=⟨eb,0,none⟩) (fun _=>rfl) _;have HKeep9:=Hd hk9;clear hk9;refine leaves_cons (f:=160) (args:= #[.pointer (some ⟨sb,0,none⟩),.int .i64 mk,.pointer (some ⟨eb,0,none⟩)]) (by simp) (by simp[go_sem]) ?_;refine(zBU _ _ _ _ e9 _).mono ?_;rintro e u' w''⟨rfl,rfl,rfl⟩;have e99:=e9;simp[Leaves,settle,results,results97,go_sem,e99];exact⟨xU p j,true,s7,D.upd (xU p j) t,rfl,by rw[vH];omega,HS8.out.aside HKeep9.out HAh7.out.1 HAh7.out.2.1 HAh7.out.2.2 HNf7.out,⟨HSS8.out.keep.trans HKeep9.out (fun i hi e=>by have:=HEb.out;omega),HSS8.out.foot,HSS8.out.ib,HSS8.out.lb,HSS8.out.br,HSS8.out.pg,HSS8.out.X⟩,by unfold Dict.upd;rw[if_pos rfl],Dict.le_upd HJ.out,hkv7⟩):p:=h
theorem zOt(h:StAt w sb s D nz)(hn:nz≤1950∧8*nz+250≤s.R.pages)(hk8:s.kvI.length<256){t:QB}(h1:1≤t.size)(h2:t.size≤128):Calls prog 97 #[.pointer (some ⟨sb,0,none⟩),.string t] w (zQh w sb s D nz t):=by
 have hb0:Below w.heap.size w (w.alloc (.cells #[.int .i64 0] 29)):=qA
 have HM:=Hd (zAn (h.still hb0))
 obtain⟨mk,hmk⟩:=qN s.R.T.puts.length
 rw[hmk]at HM
 have HSt:=Hd h
 have e1:decide ((t.size:Int)<1)=false:=by simp;omega
 have e2:decide ((128:Int)<(t.size:Int))=false:=by simp;omega
 have HB0:=Hd hb0
 have HE0:=Hd (qH w (.cells #[.int .i64 0] 29))
 have HN2:=Hd (show nz≤2000∧8*nz+200≤s.R.pages by omega)
 have HFe:=Hd (show∀u,Below w.heap.size w u→Calls prog 118 #[.pointer (some ⟨sb,0,none⟩),.string ⟨#[]⟩] u fun e w'=>(∃x b,e= .returned (.tuple #[.agg #[.int .i64 (x:Nat×Nat).1,.int .i64 x.2,.int .i64 0],.bool b,.int .i64 0]))∧Below u.heap.size u w' from fun u hu=>by cases hc:D ⟨#[]⟩with|none=>exact(zFm (h.still hu) (by omega) (by decide) hc).mono fun e w'⟨a,b⟩=>⟨⟨(0,0),_,a⟩,b⟩|some t'=>obtain⟨p,_,_,_,_,hf⟩:=zC8 (h.still hu) (by omega) (id:=⟨#[]⟩) (by decide) hc;exact hf.mono fun e w'⟨a,b⟩=>⟨⟨(p,_),_,a⟩,b⟩)
 have HPr:=Hd (fun u=>zLG t (by omega) u)
 clear h hb0 hmk
 obtain⟨eb,heb⟩:=qN w.heap.size
 go_enter_defers func97,ntmps97
 go_wp2_with(fail)
 refine(HM.out).mono ?_
 rintro e _⟨rfl,rfl⟩
 go_wp2_with(fail)
 refine(HFe.out _ HB0.out).mono ?_
 rintro e w1⟨⟨x,b,rfl⟩,hb1⟩
 obtain⟨x1,x2⟩:=x
 have HB1:=Hd (qT HB0.out hb1)
 have HE1:=Hd ((hb1.block w.heap.size (by simp)).trans HE0.out)
 clear hb1
 go_wp2_with(go_at_call 161;refine(HPr.out _).mono ?_;rintro e w2⟨p,hp,rfl,hb2⟩)
 have HB2:=Hd (show Below w.heap.size w w2 from(HB1.out.alloc HB1.out.size _).trans (hb2.mono (HB1.out.alloc HB1.out.size _).size))
 have HE2:=Hd ((hb2.block w.heap.size (by have:=(Gl HE1.out);simp;omega)).trans (((qA:Below w1.heap.size w1 _).block w.heap.size (Gl HE1.out)).trans HE1.out))
 rw[heb]at HE2
 have HEb:=Hd heb
 clear heb hb2
 go_loopw [11,12,13,14,15,16,17,18,43](fun f _ _ _ _ _ _ _ i wr=>∃(k:Nat)(fr:Int),k≤256∧i= .int .i64 k∧f= .int .i64 fr∧zQg D p k fr∧Below w2.heap.size w2 wr)(fun _ _ _ _ _ _ _ _ i _=>256-(intOf i).toNat)
 case atStart=>exact⟨0,-1,by omega,rfl,rfl,.inl ⟨rfl,fun j hj=>by omega⟩,Below.refl _ _⟩
 case round=>obtain⟨k,fr,hk,rfl,rfl,hfo,hbel⟩:=hrel;have HBr:=Hd (qT HB2.out hbel);have HBe:=Hd hbel;have HFo:=Hd hfo;clear hbel hfo;by_cases hlt:k<256;(·(have g1:decide ((k:Int)<256)=true:=by simp;omega);have HNk:=Hd (fun u=>zCb p (by omega) k hlt u);(have hns:(xU p k).size≤96:=by rw[vH];omega);cases hc:D (xU p k)with|none=>have HFi:=Hd (fun u(hu:Below w.heap.size w u)=>zFm (HSt.out.still hu) HN2.out hns hc);have HLa:=Hd (fun u(hu:Below w.heap.size w u)=>zMs (HSt.out.still hu) HN2.out p (by omega) k hlt);have HC:=Hd hc;clear hc hns;rcases HFo.out with⟨rfl,hall⟩|⟨j,hj,rfl,hjn⟩;(·clear hall;go_wp2_with(first|(go_at_call 162;refine(HNk.out _).mono ?_;rintro e w3⟨rfl,hb3⟩;have HB3:=Hd (qT HBr.out hb3);have HB3':=Hd (qT HBe.out hb3);clear hb3)|(go_at_call 118;refine(HFi.out _ HB3.out).mono ?_;rintro e w4⟨rfl,hb4⟩;have HB4:=Hd ((qT HB3.out hb4).alloc (qT HB3.out hb4).size (.cells #[.int .i64 0,.int .i64 0,.int .i64 0] 212));have HB4':=Hd ((qT HB3'.out hb4).alloc (qT HB3'.out hb4).size (.cells #[.int .i64 0,.int .i64 0,.int .i64 0] 212));clear hb4)|(go_at_call 163;refine(HLa.out _ HB4.out).mono ?_;rintro e w5⟨⟨b5,rfl⟩,hb5⟩;have HBz:=Hd (qT HB4.out hb5);have HB5':=Hd (qT HB4'.out hb5);have HEz:=Hd (qB HB5'.out HE2.out);clear hb5;obtain⟨q0,hq0,hq1⟩:=zC9 HSt.out (by omega);have HBP:=Hd (zB3 ((HSt.out.still HBz.out).room) (by have:=HSt.out.sized.puts;omega) t (by omega) hq0 hq1);have cz0:=(HSt.out.still HBz.out).c0;have ez0:w5.cell? ⟨eb,0,none⟩=some (.int .i64 0):=Qc HEz.out 0;have yz0:w5.frozen? ⟨eb,0,none⟩=false:=zM HEz.out;have HZl:=Hd (show eb<w5.heap.size from(Gl HEz.out));clear hq0 hq1;cases b5));(·exact⟨⟨k+1,k,by omega,by go_num,rfl,.inr ⟨k,hlt,rfl,HC.out⟩,HB5'.out⟩,by simp[intOf];omega⟩);·have HNm:=Hd (fun u=>zCb p (by omega) k (by omega) u);refine(HBP.out).mono ?_;rintro e w4⟨R',pg,rfl,hst,htk,hbl,a,a1,a2⟩;have hz:=HSt.out.sized;have hR9:=hst.pages;have hcb:=HSt.out.cont.blob htk ((HSt.out.room).pages_le) hR9;have hs4:=(HSt.out.still HBz.out).step hst hcb (nz':=nz+1) ⟨by have:=hz.i;omega,by have:=hz.l;omega,by rw[Ql];have:=hz.b;simp;omega,by have:=hz.m;omega,by rw[hR9];exact hz.pages,by exact zOs,by exact zQi,by rw[Ql];have:=hz.bx;simp;omega,by have:=hz.v;omega⟩;have hss4:=(StStep.still (s:=s) HBz.out).trans (hst.sto s.kvI s.kvL s.psI s.psL (s.bp++[pg]));obtain⟨ah1,ah2,ah3,ah4⟩:=HSt.out.ahead;(have hne:¬s.foot eb:=fun e=>by have:=ah4 _ e;have:=HEb.out;omega);have hnf4:¬R'.foot s.br eb:=fun e=>(hst.foot9 e).elim hne (fun e2=>by have:=HZl.out;omega);have HE4:=Hd (hst.keep9.at HEz.out hne);have ez4:w4.cell? ⟨eb,0,none⟩=some (.int .i64 0):=Qc HE4.out 0;have yz4:w4.frozen? ⟨eb,0,none⟩=false:=zM HE4.out;have HK5:=Hd (show Keep (fun k=>k=eb) w4 (w4.setCell ⟨eb,0,none⟩ (.int .i64 0))from(Keep.refl (fun k=>k=eb) w4).setCell (p:=⟨eb,0,none⟩) (fun _=>rfl) _);have hs5:=hs4.aside HK5.out (by have:=HEb.out;omega) (by show s.ib≠eb;have:=HEb.out;omega) (by show s.lb≠eb;have:=HEb.out;omega) hnf4;have hss5:StStep w s (w4.setCell ⟨eb,0,none⟩ (.int .i64 0)) ⟨s.br,s.ib,s.lb,R',s.kvI,s.kvL,s.psI,s.psL,s.bp++[pg],s.X⟩:=⟨hss4.keep.trans HK5.out (fun i hi e=>by have:=HEb.out;omega),hss4.foot,rfl,rfl,rfl,hR9,rfl⟩;have ez5:(w4.setCell ⟨eb,0,none⟩ (.int .i64 0)).cell? ⟨eb,0,none⟩=some (.int .i64 0):=World.cell?_setCell_same _ _ _ ez4;have HE5:=Hd (heap_setCell_same w4 eb 0 _ _ (.int .i64 0) HE4.out);have HS5:=Hd hs5;have HSS5:=Hd hss5;have HBl:=Hd (show BlobIn R' t [pg]from hbl);have HPu5:=Hd (show R'.T.puts.length+200≤1000*(nz+1)by rw[a1,Ql];have:=hz.puts;omega);have HR9:=Hd hR9;have HPx:=Hd (show pg∉s.X.pages from fun e=>by exact zTJ);have HNf:=Hd hnf4;have HKi5:=Hd (show s.kvI.length+1≤nz+1 by have:=hz.i;omega);clear hst htk hbl a1 a2 hz hR9 hcb hs4 hss4 ah1 ah2 ah3 ah4 hne hnf4 hs5 hss5 cz0 ez0 yz0;go_wp2_with(fail);refine(HNm.out _).mono ?_;rintro e w6⟨rfl,hb6⟩;have HKp:=Hd (zHy (HS5.out.still hb6) (by show nz+1≤2000∧8*(nz+1)+200≤R'.pages;have:=HR9.out;omega) HKi5.out HPu5.out (id:=xU p k) (t:=t) (p:=pg) (by rw[vH];omega) (by simp) HBl.out h1 h2 HPx.out);have HE6:=Hd ((hb6.block eb (by have:=(Gl HE5.out);exact this)).trans HE5.out);have HSS6:=Hd (HSS5.out.trans (StStep.still hb6));have HZ6:=Hd (show eb<w6.heap.size from(Gl HE6.out));clear hb6 ez4 ez5 yz4;go_wp2_with(fail);refine(HKp.out).mono ?_;rintro e w7⟨rfl,s7,hst7,hss7,hkv7⟩;have HE7:=Hd (hss7.keep.at HE6.out (fun e=>HNf.out e));have HSS7:=Hd (HSS6.out.trans hss7);have HNf7:=Hd (show¬s7.foot eb from fun e=>(hss7.foot eb e).elim HNf.out (fun e2=>by have:=HZ6.out;omega));have HS7:=Hd hst7;have HAh7:=Hd (show sb≠eb∧s7.ib≠eb∧s7.lb≠eb from by exact zTK);clear hst7 hss7;go_wp2_with(fail);refine(HNm.out _).mono ?_;rintro e w8⟨rfl,hb8⟩;have HE8:=Hd ((hb8.block eb (by have:=(Gl HE7.out);exact this)).trans HE7.out);have ez8:w8.cell? ⟨eb,0,none⟩=some (.int .i64 0):=Qc HE8.out 0;have yz8:w8.frozen? ⟨eb,0,none⟩=false:=zM HE8.out;have HS8:=Hd (HS7.out.still hb8);have HSS8:=Hd (HSS7.out.trans (StStep.still hb8));clear hb8;go_wp2_with(fail);have e9:(w8.setCell ⟨eb,0,none⟩ (.int .i64 0)).cell? ⟨eb,0,none⟩=some (.int .i64 0):=World.cell?_setCell_same _ _ _ ez8;have hk9:Keep (fun k=>k=eb) w8 (w8.setCell ⟨eb,0,none⟩ (.int .i64 0)):=(Keep.refl (fun k=>k=eb) w8).setCell (p:=⟨eb,0,none⟩) (fun _=>rfl) _;have HKeep9:=Hd hk9;clear hk9;refine leaves_cons (f:=160) (args:= #[.pointer (some ⟨sb,0,none⟩),.int .i64 mk,.pointer (some ⟨eb,0,none⟩)]) (by simp) (by simp[go_sem]) ?_;refine(zBU _ _ _ _ e9 _).mono ?_;rintro e u' w''⟨rfl,rfl,rfl⟩;have e99:=e9;simp[Leaves,settle,results,results97,go_sem,e99];exact⟨xU p k,true,s7,D.upd (xU p k) t,rfl,by rw[vH];omega,HS8.out.aside HKeep9.out HAh7.out.1 HAh7.out.2.1 HAh7.out.2.2 HNf7.out,⟨HSS8.out.keep.trans HKeep9.out (fun i hi e=>by have:=HEb.out;omega),HSS8.out.foot,HSS8.out.ib,HSS8.out.lb,HSS8.out.br,HSS8.out.pg,HSS8.out.X⟩,by unfold Dict.upd;rw[if_pos rfl],Dict.le_upd HC.out,hkv7⟩);(·have HJ:=Hd hjn;clear hjn;(have g2:decide ((j:Int)<0)=false:=by simp);go_wp2_with(first|(go_at_call 162;refine(HNk.out _).mono ?_;rintro e w3⟨rfl,hb3⟩;have HB3:=Hd (qT HBr.out hb3);have HB3':=Hd (qT HBe.out hb3);clear hb3)|(go_at_call 118;refine(HFi.out _ HB3.out).mono ?_;rintro e w4⟨rfl,hb4⟩;have HB4:=Hd ((qT HB3.out hb4).alloc (qT HB3.out hb4).size (.cells #[.int .i64 0,.int .i64 0,.int .i64 0] 212));have HB4':=Hd ((qT HB3'.out hb4).alloc (qT HB3'.out hb4).size (.cells #[.int .i64 0,.int .i64 0,.int .i64 0] 212));clear hb4)|(go_at_call 163;refine(HLa.out _ HB4.out).mono ?_;rintro e w5⟨⟨b5,rfl⟩,hb5⟩;have HBz:=Hd (qT HB4.out hb5);have HB5':=Hd (qT HB4'.out hb5);have HEz:=Hd (qB HB5'.out HE2.out);clear hb5;obtain⟨q0,hq0,hq1⟩:=zC9 HSt.out (by omega);have HBP:=Hd (zB3 ((HSt.out.still HBz.out).room) (by have:=HSt.out.sized.puts;omega) t (by omega) hq0 hq1);have cz0:=(HSt.out.still HBz.out).c0;have ez0:w5.cell? ⟨eb,0,none⟩=some (.int .i64 0):=Qc HEz.out 0;have yz0:w5.frozen? ⟨eb,0,none⟩=false:=zM HEz.out;have HZl:=Hd (show eb<w5.heap.size from(Gl HEz.out));clear hq0 hq1;cases b5));(·exact⟨⟨k+1,j,by omega,by go_num,rfl,.inr ⟨j,hj,rfl,HJ.out⟩,HB5'.out⟩,by simp[intOf];omega⟩);·exact zTL)|some t'=>have HFi:=Hd (fun u(hu:Below w.heap.size w u)=>zC8 (HSt.out.still hu) HN2.out hns hc);have HC:=Hd hc;clear hc hns;go_wp2_with(first|(go_at_call 162;refine(HNk.out _).mono ?_;rintro e w3⟨rfl,hb3⟩;have HB3:=Hd (qT HBr.out hb3);have HB3':=Hd (qT HBe.out hb3);obtain⟨p',hp',hbl',ht1',ht2',hf⟩:=HFi.out _ HB3.out;have HBl':=Hd hbl';have HF':=Hd hf;clear hb3 hbl' hf hp')|(go_at_call 118;refine(HF'.out).mono ?_;rintro e w4⟨rfl,hb4⟩;have HB4:=Hd ((qT HB3.out hb4).alloc (qT HB3.out hb4).size (.cells #[.int .i64 p',.int .i64 t'.size,.int .i64 0] 212));have HB4':=Hd ((qT HB3'.out hb4).alloc (qT HB3'.out hb4).size (.cells #[.int .i64 p',.int .i64 t'.size,.int .i64 0] 212));clear hb4));have hx:=qH w4 (.cells #[.int .i64 p',.int .i64 t'.size,.int .i64 0] 212);obtain⟨w5,hw5⟩:=qN (w4.alloc (.cells #[.int .i64 p',.int .i64 t'.size,.int .i64 0] 212));rw[hw5]at HB4 HB4' hx⊢;have HG:=Hd (fun u(hb:Below w.heap.size w u)=>zQe (HSt.out.still hb).room HBl'.out (by omega));have e0:([p']:List Nat).getD 0 0=p':=rfl;rw[e0]at HG;obtain⟨xb,hxb⟩:=qN w4.heap.size;rw[hxb]at hx⊢;have HX:=Hd hx;have HC0:=Hd ((HSt.out.still HB4.out).c0);have HXl:=Hd (show xb<w5.heap.size from(Gl hx));have HSl:=Hd ((HSt.out.still HB4.out).lt);clear hw5 hx hxb e0;obtain⟨S,HS⟩:=mkS (Keep (fun _=>False) (w5));have FR:=Hd (fun u(hu:S u)=>have hu:=(HS.out u).1 hu;have c0:u.cell? ⟨sb,0,none⟩=some (.pointer (some ⟨s.br,0,none⟩)):=(by rw[hu.cell (p:=⟨sb,0,none⟩) HSl.out (fun e=>e)];exact HC0.out);have d0:u.cell? ⟨xb,0,none⟩=some (.int .i64 p'):=(by rw[hu.cell (p:=⟨xb,0,none⟩) HXl.out (fun e=>e)];exact Qc HX.out 0);And.intro c0 d0);refine rgw 12 [tR 0,tR 1,tR 2,tR 3,tR 4,tR 5,tD 6,tR 7,tR 8,tR 9,tR 10,tR 11] HS (Keep.refl _ _).drew ?_;(iterate 6 refine rd1 ?_);refine doH ?_;intro K hK;go_simp;go_at_call 50;refine(HG.out w5.drew (HB4.out.trans ⟨rfl,rfl,rfl,Qn _,fun _ _=>rfl⟩)).mono ?_;rintro e w6⟨rfl,hb6⟩;have hb6':Below w5.heap.size w5 w6:=⟨hb6.os,hb6.tape,hb6.output,hb6.size,hb6.block⟩;have HB6:=Hd (qT HB4.out hb6');have HB6':=Hd (qT HB4'.out hb6');refine hK _ _ ((HS.out _).2 (Keep.ofBelow hb6')) ?_;clear hK K hb6 hb6';(iterate 5 refine rd1 ?_);refine zl ?_;clear FR;clear S HS;by_cases heq:t'=t;(·subst heq;go_wp2_with(go_at_call 162;refine(HNk.out _).mono ?_;rintro e w7⟨rfl,hb7⟩;have HB7:=Hd (qT HB6.out hb7);have HE7:=Hd ((hb7.block eb (Qt (Gl HE2.out) HB6'.out.size)).trans (qB HB6'.out HE2.out));have ez8:w7.cell? ⟨eb,0,none⟩=some (.int .i64 0):=Qc HE7.out 0;have yz8:w7.frozen? ⟨eb,0,none⟩=false:=zM HE7.out;clear hb7);have e9:(w7.setCell ⟨eb,0,none⟩ (.int .i64 0)).cell? ⟨eb,0,none⟩=some (.int .i64 0):=World.cell?_setCell_same _ _ _ ez8;have hk9:Keep (fun k=>k=eb) w7 (w7.setCell ⟨eb,0,none⟩ (.int .i64 0)):=(Keep.refl (fun k=>k=eb) w7).setCell (p:=⟨eb,0,none⟩) (fun _=>rfl) _;have HKeep9:=Hd hk9;clear hk9;refine leaves_cons (f:=160) (args:= #[.pointer (some ⟨sb,0,none⟩),.int .i64 mk,.pointer (some ⟨eb,0,none⟩)]) (by simp) (by simp[go_sem]) ?_;refine(zBU _ _ _ _ e9 _).mono ?_;rintro e u' w''⟨rfl,rfl,rfl⟩;have e99:=e9;simp[Leaves,settle,results,results97,go_sem,e99];obtain⟨ah1,ah2,ah3,ah4⟩:=HSt.out.ahead;(have hne:¬s.foot eb:=fun e=>by have:=ah4 _ e;have:=HEb.out;omega);exact⟨xU p k,false,s,D,rfl,by rw[vH];omega,(HSt.out.more.still HB7.out).aside HKeep9.out (by have:=HEb.out;omega) (by have:=HEb.out;omega) (by have:=HEb.out;omega) hne,⟨(Keep.ofBelow HB7.out).trans HKeep9.out (fun i hi e=>by have:=HEb.out;omega),fun _ e=>.inl e,rfl,rfl,rfl,rfl,rfl⟩,HC.out,Dict.le_refl D,Nat.le_succ _⟩);·(have hq:(t'.toList==t.toList)=false:=by rw[beq_eq_false_iff_ne];intro e;rw[Lib.toList_data,Lib.toList_data]at e;exact heq (ByteArray.ext (Array.toList_inj.1 e)));go_wp2_with(fail);refine⟨⟨k+1,fr,by omega,by go_num,rfl,?_,HB6'.out⟩,by simp[intOf];omega⟩;rcases HFo.out with⟨rfl,hall⟩|hjj;(·refine .inl ⟨rfl,fun j hj=> ?_⟩;by_cases hjk:j=k;(·rw[hjk,HC.out];exact fun e=>by cases e);·exact hall j (by omega));·exact .inr hjj);·(obtain rfl:k=256:=by omega);rcases HFo.out with⟨rfl,hall⟩|⟨j,hj,rfl,hjn⟩;(·exact absurd (zJW HSt.out.cont hk8 p hall) (fun e=>e));·have HJ:=Hd hjn;have HBz:=Hd HBr.out;have HEz:=Hd (qB HBe.out HE2.out);clear hjn;obtain⟨q0,hq0,hq1⟩:=zC9 HSt.out (by omega);have HBP:=Hd (zB3 ((HSt.out.still HBz.out).room) (by have:=HSt.out.sized.puts;omega) t (by omega) hq0 hq1);have cz0:=(HSt.out.still HBz.out).c0;have ez0:wr.cell? ⟨eb,0,none⟩=some (.int .i64 0):=Qc HEz.out 0;have yz0:wr.frozen? ⟨eb,0,none⟩=false:=zM HEz.out;have HZl:=Hd (show eb<wr.heap.size from(Gl HEz.out));clear hq0 hq1;go_wp2_with(fail);exact zTL
end
section
variable {w : World} {sb : Nat} {s : Sto} {D : Dict} {nz : Nat}
theorem StAt.say{eb:Nat}(h:StAt w sb s D nz)(h0:sb≠eb)(h1:s.ib≠eb)(h2:s.lb≠eb)(h3:¬s.foot eb)(v:Value):StAt (w.setCell ⟨eb,0,none⟩ v) sb s D nz:=h.aside ((Keep.refl (fun k=>k=eb) w).setCell (p:=⟨eb,0,none⟩) (fun _=>rfl) v) h0 h1 h2 h3
theorem StStep.say{w0:World}{s0:Sto}{eb:Nat}(h:StStep w0 s0 w s)(he:w0.heap.size≤eb)(v:Value):StStep w0 s0 (w.setCell ⟨eb,0,none⟩ v) s:=⟨h.keep.trans ((Keep.refl (fun k=>k=eb) w).setCell (p:=⟨eb,0,none⟩) (fun _=>rfl) v) (fun i hi e=>by omega),h.foot,h.ib,h.lb,h.br,h.pg,h.X⟩
theorem zQj(h:StAt w sb s D nz)(hn:nz≤2000∧8*nz+200≤s.R.pages)(hpu:s.R.T.puts.length+300≤1000*(nz+1)){id t:QB}(hid:id.size≤55)(hD:D id=some t):Calls prog 98 #[.pointer (some ⟨sb,0,none⟩),.string id,.int .i64 1] w fun e w'=>e= .returned (.int .i64 0)∧∃s',StAt w' sb s' D (nz+1)∧StStep w s w' s'∧s'.kvI.length=s.kvI.length:=by
 have hb0:Below w.heap.size w (w.alloc (.cells #[.int .i64 0] 29)):=qA
 have HM:=Hd (zAn (h.still hb0))
 obtain⟨mk,hmk⟩:=qN s.R.T.puts.length
 rw[hmk]at HM
 have HSt:=Hd h
 have HB0:=Hd hb0
 have HE0:=Hd (qH w (.cells #[.int .i64 0] 29))
 have HAh:=Hd h.ahead
 have HPu:=Hd hpu
 obtain⟨pg,_,_,_,_,hf⟩:=zC8 (h.still hb0) (by omega) (id:=id) (by omega) hD
 have HF:=Hd hf
 obtain⟨x,hx⟩:=qN (s.R.root 2)
 have hx37:x≤2000:=by have:=h.sized.root;omega
 have HRt:=Hd (show∀u,RoomAt u s.br s.R→Calls prog 165 #[.pointer (some ⟨s.br,0,none⟩),.int .i64 2] u fun e w'=>e= .returned (.tuple #[.int .u64 x,.int .i64 0])∧Below u.heap.size u w' from fun u hu=>by have:=zEO hu 2 (by decide);rw[hx]at this;exact this)
 have HX:=Hd hx
 clear h hb0 hf hpu hx
 obtain⟨eb,heb⟩:=qN w.heap.size
 go_enter_defers func98,ntmps98
 go_wp2_with(fail)
 refine(HM.out).mono ?_
 rintro e _⟨rfl,rfl⟩
 go_wp2_with(fail)
 refine(HF.out).mono ?_
 rintro e w1⟨rfl,hb1⟩
 have hb1':=qT HB0.out hb1
 have HE1:=Hd ((hb1.block w.heap.size (by simp)).trans HE0.out)
 have hba:=hb1'.alloc hb1'.size (.cells #[.int .i64 pg,.int .i64 t.size,.int .i64 0] 212)
 have hea:(w1.alloc (.cells #[.int .i64 pg,.int .i64 t.size,.int .i64 0] 212)).heap[w.heap.size]? =some (.cells #[.int .i64 0] 29 (0,0)):=((qA:Below w1.heap.size w1 _).block w.heap.size (Gl HE1.out)).trans HE1.out
 rw[heb]at hea
 have ez0:(w1.alloc (.cells #[.int .i64 pg,.int .i64 t.size,.int .i64 0] 212)).cell? ⟨eb,0,none⟩=some (.int .i64 0):=Qc hea 0
 have yz0:(w1.alloc (.cells #[.int .i64 pg,.int .i64 t.size,.int .i64 0] 212)).frozen? ⟨eb,0,none⟩=false:=zM hea
 have HEA:=Hd hea
 have hq:sb≠eb∧s.ib≠eb∧s.lb≠eb∧¬s.foot eb:=by obtain⟨a1,a2,a3,a4⟩:=HAh.out;exact⟨by omega,by omega,by omega,fun e=>by have:=a4 _ e;omega⟩
 have HQ:=Hd hq
 have HEb:=Hd heb
 have HSB:=Hd ((HSt.out.still hba).say hq.1 hq.2.1 hq.2.2.1 hq.2.2.2 (.int .i64 0))
 have HSSB:=Hd ((StStep.still (s:=s) hba).say (by omega) (eb:=eb) (.int .i64 0))
 have HEB:=Hd (heap_setCell_same (w1.alloc (.cells #[.int .i64 pg,.int .i64 t.size,.int .i64 0] 212)) eb 0 _ _ (.int .i64 0) hea)
 have ezB:((w1.alloc (.cells #[.int .i64 pg,.int .i64 t.size,.int .i64 0] 212)).setCell ⟨eb,0,none⟩ (.int .i64 0)).cell? ⟨eb,0,none⟩=some (.int .i64 0):=World.cell?_setCell_same _ _ _ ez0
 have cB0:=HSB.out.c0
 have HRB:=Hd (HRt.out _ HSB.out.room)
 clear hb1 hb1' hba hea hq
 go_wp2_with(fail)
 refine(HRB.out).mono ?_
 rintro e w2⟨rfl,hb2⟩
 have HE2:=Hd (qB hb2 HEB.out)
 have ez2:w2.cell? ⟨eb,0,none⟩=some (.int .i64 0):=Qc HE2.out 0
 have yz2:w2.frozen? ⟨eb,0,none⟩=false:=zM HE2.out
 have HSC:=Hd ((HSB.out.still hb2).say HQ.out.1 HQ.out.2.1 HQ.out.2.2.1 HQ.out.2.2.2 (.int .i64 0))
 have HSSC:=Hd ((HSSB.out.trans (StStep.still hb2)).say (by have:=HEb.out;omega) (eb:=eb) (.int .i64 0))
 have HEC:=Hd (heap_setCell_same w2 eb 0 _ _ (.int .i64 0) HE2.out)
 have ezC:(w2.setCell ⟨eb,0,none⟩ (.int .i64 0)).cell? ⟨eb,0,none⟩=some (.int .i64 0):=World.cell?_setCell_same _ _ _ ez2
 clear hb2 cB0 ezB ez0 yz0
 have x64:IntKind.u64.wrap (x:Int)=(x:Int):=by rw[IntKind.wrap_u64];omega
 have x65:IntKind.u64.wrap ((x:Int)+1)=(x:Int)+1:=by rw[IntKind.wrap_u64];omega
 obtain⟨wC,hwC⟩:=qN (w2.setCell ⟨eb,0,none⟩ (.int .i64 0))
 rw[hwC]at HSC HSSC HEC ezC
 have HW1:=Hd (vG (zMo (n:=x) (by omega)) zOi (w:=wC.alloc (.cells #[.int .u64 x,.string ⟨#[]⟩] 182)) (fb:=wC.heap.size) (c:=1) ⟨by simp,fun j hj=>by match j,hj with|0,_=>exact⟨Qc (qH wC _) 0,Qc (qH wC _) 1⟩⟩)
 have hkv:packed nK [(x,eS)]=zMn x:=rfl
 rw[hkv]at HW1
 have HW2:=Hd (fun(u:World)=>vG (zFh (s:=1) (id:=id) (by decide) (by omega)) zHw (w:=u.alloc (.cells #[.int .u64 1,.string ⟨#[]⟩,.int .u64 0,.string id] 182)) (fb:=u.heap.size) (c:=2) ⟨by simp,fun j hj=>by match j,hj with|0,_=>exact⟨Qc (qH u _) 0,Qc (qH u _) 1⟩|1,_=>exact⟨Qc (qH u _) 2,Qc (qH u _) 3⟩⟩)
 have hev:packed brK [(1,eS),(0,id)]=zAl 1 id:=rfl
 rw[hev]at HW2
 have HLp:=Hd (fun u(hu:StAt u sb s D nz)=>zGg (key:=zMn x) (val:=zAl 1 id) hu.tl hu.nlb hu.room (by have:=HPu.out;omega) (by have:=hu.sized.pages;omega) (by decide) (by rw[zK4];decide) (by rw[zHv];omega) hu.cont.tl (List.nodup_append.1 (List.nodup_append.1 hu.cont.nd).2.1).1 hu.cont.all (by have:=hu.sized.l;omega) (by have h1:=hu.cont.len;have:=hu.sized.i;have:=hu.sized.l;have:=hu.sized.b;have:=hu.sized.pages;omega))
 have HCe:=Hd (fun u(hu:StAt u sb s D nz)(R':RoomS)(ps' new:List Nat)(ht:TurnR s.R R' 1 s.psL new 200)(hT:TreeIs R' 1 (ins s.kvL (zMn x) (zAl 1 id)) ps')(hpm:ps'.Perm (s.psL++new))=>hu.cont.entry (m:=200) (s:=1) (by decide) (by omega) ht hT hpm)
 obtain⟨kx,hkx⟩:=qN (zMn x)
 obtain⟨ex,hex⟩:=qN (zAl 1 id)
 rw[hkx]at HW1 HLp HCe
 rw[hex]at HW2 HLp HCe
 clear hkx hex hkv hev
 have HV1:=Hd (show Calls prog 90 #[.string ⟨#[110]⟩,.slice (some ⟨wC.heap.size,0,none⟩) 1 1] (wC.alloc (.cells #[.int .u64 x,.string ⟨#[]⟩] 182)) fun e w'=>e= .returned (.tuple #[.string kx,.bool true])∧Below (wC.alloc (.cells #[.int .u64 x,.string ⟨#[]⟩] 182)).heap.size (wC.alloc (.cells #[.int .u64 x,.string ⟨#[]⟩] 182)) w' from HW1.out)
 have HV2:=Hd (show∀u:World,Calls prog 90 #[.string ⟨#[98,114]⟩,.slice (some ⟨u.heap.size,0,none⟩) 2 2] (u.alloc (.cells #[.int .u64 1,.string ⟨#[]⟩,.int .u64 0,.string id] 182)) fun e w'=>e= .returned (.tuple #[.string ex,.bool true])∧Below (u.alloc (.cells #[.int .u64 1,.string ⟨#[]⟩,.int .u64 0,.string id] 182)).heap.size (u.alloc (.cells #[.int .u64 1,.string ⟨#[]⟩,.int .u64 0,.string id] 182)) w' from HW2.out)
 clear HW1 HW2
 have yzC:wC.frozen? ⟨eb,0,none⟩=false:=zM HEC.out
 go_wp2_with(fail)
 clear hwC
 refine(HV1.out).mono ?_
 rintro e w3⟨rfl,hb3⟩
 have HB3:=Hd (show Below wC.heap.size wC w3 from(qA).trans (hb3.mono (by simp)))
 clear hb3
 go_wp2_with(fail)
 refine(HV2.out w3).mono ?_
 rintro e w4⟨rfl,hb4⟩
 have hb4':Below wC.heap.size wC w4:=(HB3.out.alloc HB3.out.size (.cells #[.int .u64 1,.string ⟨#[]⟩,.int .u64 0,.string id] 182)).trans (hb4.mono (HB3.out.alloc HB3.out.size _).size)
 have HS4:=Hd (HSC.out.still hb4')
 have HSS4:=Hd (HSSC.out.trans (StStep.still hb4'))
 have HE4:=Hd (qB hb4' HEC.out)
 have c2:=HS4.out.c2
 have HP4:=Hd (HLp.out _ HS4.out)
 clear hb4 hb4' ezC ez2 yz2 yzC
 go_wp2_with(fail)
 refine(HP4.out).mono ?_
 rintro e w5⟨rfl,R',ps',new,hst,hT,hpm,htu⟩
 have hc5:=HCe.out _ HS4.out R' ps' new htu hT hpm
 have hz:=HS4.out.sized
 have hrt:=htu.root 2 (by decide)
 obtain⟨a,a1,a2⟩:=htu.puts
 have hz5:Sized R' s.kvI (ins s.kvL kx ex) s.bp s.X (nz+1):=⟨by have:=hz.i;omega,by have:=zAm s.kvL kx ex;have:=hz.l;omega,by have:=hz.b;omega,by have:=hz.m;omega,by rw[htu.pages];exact hz.pages,by rw[a1,Ql];have:=HPu.out;omega,by rw[hrt];have:=hz.root;omega,by have:=hz.bx;omega,by have:=hz.v;omega⟩
 have hs5:=HS4.out.step hst hc5 hz5
 have hss5:=HSS4.out.trans (hst.sto s.kvI (ins s.kvL kx ex) s.psI ps' s.bp)
 have HZ4:=Hd (show eb<w4.heap.size from(Gl HE4.out))
 have hnf5:¬R'.foot s.br eb:=fun e=>(hst.foot9 e).elim HQ.out.2.2.2 (fun e2=>by have:=HZ4.out;omega)
 have HE5:=Hd (hst.keep9.at HE4.out HQ.out.2.2.2)
 have HS5:=Hd hs5
 have HSS5:=Hd hss5
 have HNf5:=Hd hnf5
 have HPt5:=Hd (show R'.T.puts.length+1≤1000*(nz+1)by rw[a1,Ql];have:=HPu.out;omega)
 have c5:=hs5.c0
 have HR5:=Hd (show Calls prog 166 #[.pointer (some ⟨s.br,0,none⟩),.int .i64 2,.int .u64 ((x:Int)+1)] w5 fun e w'=>e= .returned (.int .i64 0)∧∃R'',RoomStep s.br w5 R' w' R''∧R''.T.puts=R'.T.puts++[(((0:Nat):Int),yu (R'.home 0) 2 (x+1))]from zBB hs5.room (by show R'.T.puts.length<_;have:=HPt5.out;omega) 2 (by decide) (x+1) (by omega))
 clear hst hT hpm htu hc5 hz hrt a1 a2 hz5 hs5 hss5 hnf5 c2
 go_wp2_with(fail)
 refine(HR5.out).mono ?_
 rintro e w6⟨rfl,R'',hst6,hpp⟩
 have hrd:=zC2 HS5.out.room (by decide) (by omega) hst6.tx.f hst6.maps hpp
 have hfit:=HS5.out.room.pages_le
 have hc6:=HS5.out.cont.next hrd hfit hst6.pages
 have hz:=HS5.out.sized
 have hz6:Sized R'' s.kvI (ins s.kvL kx ex) s.bp s.X (nz+1):=⟨hz.i,hz.l,hz.b,hz.m,by rw[hst6.pages];exact hz.pages,by rw[hpp,Ql];have:=HPt5.out;simp;omega,by rw[hrd.root,if_pos rfl];have:=HX.out;have:=HSt.out.sized.root;omega,hz.bx,hz.v⟩
 have hs6:=HS5.out.step hst6 hc6 hz6
 have hss6:=HSS5.out.trans (hst6.sto s.kvI (ins s.kvL kx ex) s.psI ps' s.bp)
 have HZ5:=Hd (show eb<w5.heap.size from(Gl HE5.out))
 have HNf6:=Hd (show¬R''.foot s.br eb from fun e=>(hst6.foot9 e).elim HNf5.out (fun e2=>by have:=HZ5.out;omega))
 have HE6:=Hd (hst6.keep9.at HE5.out HNf5.out)
 have HS6:=Hd hs6
 have HSS6:=Hd hss6
 have ez6:w6.cell? ⟨eb,0,none⟩=some (.int .i64 0):=Qc HE6.out 0
 have yz6:w6.frozen? ⟨eb,0,none⟩=false:=zM HE6.out
 clear hst6 hpp hrd hfit hc6 hz hz6 hs6 hss6 c5
 go_wp2_with(fail)
 have e9:(w6.setCell ⟨eb,0,none⟩ (.int .i64 0)).cell? ⟨eb,0,none⟩=some (.int .i64 0):=World.cell?_setCell_same _ _ _ ez6
 refine leaves_cons (f:=160) (args:= #[.pointer (some ⟨sb,0,none⟩),.int .i64 mk,.pointer (some ⟨eb,0,none⟩)]) (by simp) (by simp[go_sem]) ?_
 refine(zBU _ _ _ _ e9 _).mono ?_
 rintro e u' w''⟨rfl,rfl,rfl⟩
 have e99:=e9
 simp[Leaves,settle,results,results98,go_sem,e99]
 exact⟨_,HS6.out.say HQ.out.1 HQ.out.2.1 HQ.out.2.2.1 HNf6.out _,HSS6.out.say (by have:=HEb.out;omega) _,rfl⟩
end
def zB:QB:=⟨#[0]⟩
def ix0(s:QB):Int:=Lib.indexByte s.data.toList 0
def zf(s:QB):Bool:=decide (ix0 s<0)
theorem zJd(s:QB)(w:World):Calls prog 136 #[.string s,.int .u8 0] w fun e w'=>e= .returned (.int .i64 (ix0 s))∧w=w':=(Tryz.strings_IndexByte s 0 w).mono fun _ _⟨h1,h2⟩=>⟨h1,h2.symm⟩
def zP(s:QB):Bool:= !decide (s=⟨#[]⟩)&&(decide (s.size≤40)&&zf s)
theorem zTX{p:Prop}(h:p:=by go_enter func101,ntmps101;go_wp2;go_ret;exact⟨rfl,rfl⟩):p:=h
theorem zTY{p:Prop}(h:p:=by rw[e3];clear c1 hr;go_enter func101,ntmps101;go_wp2_with(go_at_call 136;refine(HI.out _).mono ?_;rintro e w1⟨rfl,rfl⟩);go_ret;exact⟨rfl,rfl⟩):p:=h
theorem zCj(s:QB)(w:World):Calls prog 101 #[.string s] w fun e w'=>e= .returned (.bool (zP s))∧w=w':=by
 have HI:=Hd (zJd s)
 by_cases c1:s=⟨#[]⟩
 ·subst c1;(have hr:zP ⟨#[]⟩=false:=by rfl);rw[hr];exact zTX
 have e1:s.toList.isEmpty=false:=by rw[isEmpty_eq,decide_eq_false c1]
 by_cases c2:s.size≤40
 ·(have hr:zP s=decide (ix0 s<0):=by unfold zP zf;rw[decide_eq_false c1,decide_eq_true c2];rfl);rw[hr];(have e2:decide ((s.size:Int)≤40)=true:=by simp;omega);have e2':decide (s.size≤40)=true:=decide_eq_true c2;generalize ix0 s=ix at*;by_cases c3:ix<0;(·have e3:decide (ix<0)=true:=decide_eq_true c3;exact zTY);·have e3:decide (ix<0)=false:=decide_eq_false c3;exact zTY
 ·(have hr:zP s=false:=by unfold zP;rw[decide_eq_false c2];simp);rw[hr];(have e2:decide ((s.size:Int)≤40)=false:=by simp;omega);have e2':decide (s.size≤40)=false:=decide_eq_false c2;clear c1 hr;exact zTX
theorem zNA(s:QB)(hs:s.size≤1000000)(h0:zf s=true)(w:World):Calls prog 175 #[.string s] w fun e w'=>e= .returned (.tuple #[.string (s++zB),.bool true])∧w=w':=by
 have HI:=Hd (zJd s)
 have e0:decide (ix0 s<0)=true:=h0
 have hcat:=run_string_add_sum (P:=prog) w s zB (by show s.size+1≤_;omega)
 unfold zB at hcat
 have h1:¬(0≤ix0 s):=by have:=of_decide_eq_true e0;omega
 generalize ix0 s=ix at*
 have e1:decide (0≤ix)=false:=decide_eq_false h1
 clear h0 h1
 unfold zB
 go_enter func175,ntmps175
 go_wp2_with(go_at_call 136;refine(HI.out _).mono ?_;rintro e w1⟨rfl,rfl⟩)
 go_ret2
 exact⟨rfl,rfl⟩
def xH(n:Nat):QB:=⟨(beW 8 (18446744073709551615-n) 8).toArray⟩
theorem km(n:Nat):(xH n).size=8:=by
 unfold xH
 show(List.toArray _).size=8
 rw[List.size_toArray,zO]
theorem zLO(n:Nat)(h:n<18446744073709551616):18446744073709551615^^^n=18446744073709551615-n:=by
 have h2:n<2^64:=by omega
 apply Nat.eq_of_testBit_eq
 intro i
 have e2:18446744073709551615-n=2^64-(n+1):=by omega
 have e1:(18446744073709551615:Nat)=2^64-1:=by decide
 rw[Nat.testBit_xor,e2,Nat.testBit_two_pow_sub_succ h2,e1,Nat.testBit_two_pow_sub_one]
 by_cases hi:i<64
 ·rw[decide_eq_true hi];simp
 ·rw[decide_eq_false hi,Nat.testBit_lt_two_pow (Qt h2 (Nat.pow_le_pow_right (by decide) (by omega)))];rfl
theorem zP1(n q:Nat)(h:n<18446744073709551616)(hq:18446744073709551615-n=q):bits .xor .u64 IntKind.u64.max (n:Int)=(q:Int):=by
 have h1:IntKind.u64.max=((18446744073709551615:Nat):Int):=by decide
 rw[h1,bits_xor_u64_nat _ _ (by decide) h,zLO n h,hq]
theorem zLP(n:Nat)(hn:n<18446744073709551616)(w:World):Calls prog 178 #[.int .u64 n] w fun e w'=>e= .returned (.string (xH n))∧Below w.heap.size w w':=by
 obtain⟨q,hq⟩:∃q:Nat,18446744073709551615-n=q:=⟨_,rfl⟩
 have e1:=zP1 n q hn hq
 have hfs:xH n=⟨(beW 8 q 8).toArray⟩:=by unfold xH;rw[hq]
 have hib:IsB w.heap.size w.heap.size [] (w.alloc (.cells #[.pointer none,.slice none 0 0] 123)):=Lib.fresh_isBuilder _ _ w
 have HNu:=Hd (show Calls prog 153 #[.pointer (some ⟨w.heap.size,0,none⟩),.int .u64 q,.int .i64 8] _ _ from kM hib (by simp) (by decide) q 8 (by decide))
 rw[hfs]
 clear hfs hq hib
 go_enter func178,ntmps178
 go_wp2_with(fail)
 refine(HNu.out).mono ?_
 rintro e w1⟨rfl,hi1,hb1,ho1⟩
 have HSt:=Hd (Tryz.Builder_String_any_k w.heap.size w.heap.size (beW 8 q 8) w1 (Lib.IsBuilderF.of hi1) (by have:=hb1.size;simp at this;omega))
 have HB:=Hd (show Below w.heap.size w w1 from(qA).trans hb1)
 clear hi1 hb1 ho1
 go_wp2_with(go_at_call 57;refine(HSt.out).mono ?_;rintro e w5⟨rfl,-,hb5,-⟩;have HB5:=Hd (HB.out.trans hb5);clear hb5)
 go_ret
 exact⟨rfl,HB5.out⟩
theorem zNB(s:QB)(hs:s.size=8)(w:World):Calls prog 186 #[.string s] w fun e w'=>e= .returned (.tuple #[.int .u64 (18446744073709551615-beN s.data.toList:Nat),.bool true])∧Below w.heap.size w w':=by
 have HT:=Hd (zAP s (by omega))
 have hlt:beN s.data.toList<18446744073709551616:=by have h1:=zIt s.data.toList;(have h2:s.data.toList.length=8:=by rw[Array.length_toList];exact hs);rw[h2]at h1;exact h1
 obtain⟨n,hn⟩:=qN (beN s.data.toList)
 rw[hn]at hlt HT⊢
 obtain⟨q,hq⟩:∃q:Nat,18446744073709551615-n=q:=⟨_,rfl⟩
 have e1:=zP1 n q hlt hq
 rw[hq]
 have e2:((s.size:Int)==8)=true:=by rw[hs];rfl
 have e3:(s.size:Int)=8:=by rw[hs];rfl
 clear hn hq hs
 go_enter func186,ntmps186
 go_wp2_with(go_at_call 152;refine(HT.out _).mono ?_;rintro e w1⟨rfl,hb1⟩)
 go_ret2
 exact⟨rfl,hb1⟩
theorem zQr(l r:List UInt8)(h:Lib.indexByte l 0<0):Lib.indexByte (l++0::r) 0=l.length:=by
 induction l with|nil=>rfl|cons b l ih=>unfold Lib.indexByte at h⊢;have hg:=Lib.indexByte_ge l 0;show(if b==0 then(0:Int)else if Lib.indexByte (l++0::r) 0== -1 then-1 else Lib.indexByte (l++0::r) 0+1)=_;by_cases hb:(b==0)=true;(·rw[if_pos hb]at h;omega);·rw[if_neg hb]at h⊢;rw[List.length_cons];by_cases hl:(Lib.indexByte l 0== -1)=true;(·(have h1:Lib.indexByte l 0= -1:=by simpa using hl);rw[ih (by omega),if_neg (by simp)];omega);·rw[if_neg hl]at h;omega
theorem zPD(p r:QB)(h:zf p=true):ix0 (p++zB++r)=p.size:=by
 unfold zf ix0 at h
 have h1:=zQr p.data.toList r.data.toList (of_decide_eq_true h)
 unfold ix0
 have e:(p++zB++r).data.toList=p.data.toList++0::r.data.toList:=by unfold zB;simp
 rw[e,h1]
 simp
theorem zTZ{p:Prop}(h:p:=by apply ByteArray.ext;apply Array.toList_inj.1;rw[ByteArray.data_extract,Array.toList_extract,List.extract_eq_take_drop,hd,List.drop_zero,Nat.sub_zero,←hpl,List.take_left]):p:=h
theorem zLQ(p r:QB):(p++zB++r).extract 0 p.size=p∧(p++zB++r).extract (p.size+1) (p++zB++r).size=r∧(p++zB++r).size=p.size+1+r.size:=by
 have hz:(p++zB).size=p.size+1:=by rw[ByteArray.size_append];rfl
 have hs:(p++zB++r).size=p.size+1+r.size:=by rw[ByteArray.size_append,hz]
 have hd:(p++zB++r).data.toList=p.data.toList++(0::r.data.toList):=by unfold zB;simp
 have hpl:p.data.toList.length=p.size:=by simp
 refine⟨?_,?_,hs⟩
 ·exact zTZ
 ·apply ByteArray.ext;apply Array.toList_inj.1;(have h2:(p++zB++r).size-(p.size+1)=r.data.toList.length:=by rw[hs];simp);rw[ByteArray.data_extract,Array.toList_extract,List.extract_eq_take_drop,hd,h2,←hpl,List.drop_append,List.drop_eq_nil_of_le (by omega)];simp[Qk]
theorem zLR{s p r:QB}{i:Nat}(hx:ix0 s=i)(h1:s.extract 0 i=p)(h2:s.extract (i+1) s.size=r)(h3:i+1≤s.size)(h4:s.size≤1000000)(w:World):Calls prog 285 #[.string s,.string ⟨#[0]⟩] w fun e w'=>e= .returned (.tuple #[.string p,.string r,.bool true])∧Below w.heap.size w w':=by
 have HI:=Hd (show∀w:World,Calls prog 188 #[.string s,.string ⟨#[0]⟩] w fun e w'=>e= .returned (.int .i64 (ix0 s))∧w'=w from Tryz.stringslite_Index_one s 0)
 rw[hx]at HI
 have e0:decide ((0:Int)≤(i:Int))=true:=by simp
 have e1:IntKind.i64.wrap ((i:Int)+1)=((i+1:Nat):Int):=by rw[IntKind.wrap_i64];omega
 obtain⟨sz,hsz⟩:=qN s.size
 rw[hsz]at h2 h3 h4
 have g1:(i:Int)≤(sz:Int):=by omega
 have g2:(i:Int)+1≤(sz:Int):=by omega
 have g3:(sz:Int)≤1000000:=by omega
 clear hx
 go_enter func285,ntmps285
 go_wp2_with(go_at_call 188;refine(HI.out _).mono ?_;rintro e w1⟨rfl,rfl⟩)
 obtain⟨S,HS⟩:=mkS (Keep (fun _=>False) (w1))
 refine rgw 12 [tR 0,tR 1,tR 2,tR 3,tR 4,tR 5,tR 6,tR 7,tR 8,tR 9,tR 10,tR 11] HS (Keep.refl _ _).drew ?_
 iterate 12 refine rd1 ?_
 refine zl ?_
 clear S HS
 go_wp2
 go_ret3
 exact⟨rfl,rfl,rfl,rfl,Qn _,fun _ _=>rfl⟩
theorem zJe{s p r:QB}{i:Nat}(hx:ix0 s=i)(h1:s.extract 0 i=p)(h2:s.extract (i+1) s.size=r)(h3:i+1≤s.size)(h4:s.size≤1000000)(w:World):Calls prog 264 #[.string s,.string ⟨#[0]⟩] w fun e w'=>e= .returned (.tuple #[.string p,.string r,.bool true])∧Below w.heap.size w w':=by
 have HI:=Hd (zLR hx h1 h2 h3 h4)
 clear hx h1 h2 h3 h4
 go_enter func264,ntmps264
 go_wp2_with(go_at_call 285;refine(HI.out _).mono ?_;rintro e w1⟨rfl,hb⟩)
 go_ret3
 exact⟨rfl,hb⟩
theorem zKL{p r:QB}(h0:zf p=true)(hs:p.size+r.size≤900000)(w:World):Calls prog 230 #[.string (p++zB++r)] w fun e w'=>e= .returned (.tuple #[.string p,.string r,.bool true])∧Below w.heap.size w w':=by
 obtain⟨h1,h2,h3⟩:=zLQ p r
 have HI:=Hd (zJe (zPD p r h0) h1 h2 (by omega) (by omega))
 generalize p++zB++r=s at*
 clear h1 h2 h3
 go_enter func230,ntmps230
 go_wp2_with(go_at_call 264;refine(HI.out _).mono ?_;rintro e w1⟨rfl,hb⟩)
 go_ret3
 exact⟨rfl,hb⟩
def trimB(s cs:QB):QB:=⟨(Lib.trimS s.data.toList cs.data.toList).toArray⟩
def dashB:QB:=⟨#[45]⟩
def alphaB:QB:=⟨#[97,98,99,100,101,102,103,104,105,106,107,108,109,110,111,112,113,114,115,116,117,118,119,120,121,122,48,49,50,51,52,53,54,55,56,57,45]⟩
theorem zIC(s cs:QB)(hs:s.size≤1000000)(hcs:cs.size≤1000)(ha:cs.data.toList.all (fun b=>decide (b.toNat<128))=true)(w:World):Calls prog 141 #[.string s,.string cs] w fun e w'=>e= .returned (.string (trimB s cs))∧Below w.heap.size w w':=(Any.strings_Trim_laid Tryz.lays160 (by kernel_rfl) s cs w (by omega) (by omega) (ascii_of_all ha)).mono fun _ _⟨h1,h2⟩=>⟨h1,h2⟩
def zK(s:QB):Bool:=decide (3≤s.size)&&(decide (s.size≤16)&&(decide (trimB s dashB=s)&&decide (trimB s alphaB=⟨#[]⟩)))
theorem vo(a b:QB):(a.toList==b.toList)=decide (a=b):=by
 rw[Lib.toList_data,Lib.toList_data]
 by_cases h:a=b
 ·subst h;simp
 ·rw[decide_eq_false h];exact beq_false_of_ne (fun e=>h (ByteArray.ext (Array.toList_inj.1 e)))
theorem zTa{p:Prop}(h:p:=by rw[f4]at q2⊢;clear c3 c4 f3 f4;go_enter func85,ntmps85;go_wp2_with(first|(go_at_call 141;with_reducible refine(HT1.out _).mono ?_;rintro e w1⟨rfl,hb1⟩)|(go_at_call 141;with_reducible refine(HT2.out _).mono ?_;rintro e w2⟨rfl,hb2⟩));go_ret;exact⟨rfl,qT hb1 hb2⟩):p:=h
theorem zTb{p:Prop}(h:p:=by go_enter func85,ntmps85;go_wp2;go_ret;exact⟨rfl,Below.refl _ _⟩):p:=h
theorem vI(s:QB)(w:World):Calls prog 85 #[.string s] w fun e w'=>e= .returned (.bool (zK s))∧Below w.heap.size w w':=by
 by_cases c1:3≤s.size
 ·(have e1:decide ((3:Int)≤(s.size:Int))=true:=by simp;omega);have e1':decide (3≤s.size)=true:=decide_eq_true c1;by_cases c2:s.size≤16;(·(have e2:decide ((s.size:Int)≤16)=true:=by simp;omega);have e2':decide (s.size≤16)=true:=decide_eq_true c2;have HT1:=Hd (show∀w:World,Calls prog 141 #[.string s,.string ⟨#[45]⟩] w fun e w'=>e= .returned (.string (trimB s dashB))∧Below w.heap.size w w' from zIC s dashB (by omega) (by decide) rfl);have HT2:=Hd (show∀w:World,Calls prog 141 #[.string s,.string ⟨#[97,98,99,100,101,102,103,104,105,106,107,108,109,110,111,112,113,114,115,116,117,118,119,120,121,122,48,49,50,51,52,53,54,55,56,57,45]⟩] w fun e w'=>e= .returned (.string (trimB s alphaB))∧Below w.heap.size w w' from zIC s alphaB (by omega) (by decide) rfl);(have hr:zK s=(decide (trimB s dashB=s)&&decide (trimB s alphaB=⟨#[]⟩)):=by unfold zK;rw[e1',e2'];rfl);rw[hr];have q1:=vo (trimB s dashB) s;have q2:=isEmpty_eq (trimB s alphaB);generalize trimB s dashB=t1 at*;generalize trimB s alphaB=t2 at*;clear hr c1 c2;by_cases c3:t1=s;(·have f3:decide (t1=s)=true:=decide_eq_true c3;rw[f3]at q1⊢;by_cases c4:t2=⟨#[]⟩;(·have f4:decide (t2=⟨#[]⟩)=true:=decide_eq_true c4;exact zTa);·have f4:decide (t2=⟨#[]⟩)=false:=decide_eq_false c4;exact zTa);·have f3:decide (t1=s)=false:=decide_eq_false c3;rw[f3]at q1⊢;clear c3 f3 q2;go_enter func85,ntmps85;go_wp2_with(go_at_call 141;with_reducible refine(HT1.out _).mono ?_;rintro e w1⟨rfl,hb1⟩);go_ret;exact⟨rfl,hb1⟩);·(have hr:zK s=false:=by unfold zK;rw[decide_eq_false c2];simp);rw[hr];(have e2:decide ((s.size:Int)≤16)=false:=by simp;omega);have e2':decide (s.size≤16)=false:=decide_eq_false c2;clear c1 c2 hr;exact zTb
 ·(have hr:zK s=false:=by unfold zK;rw[decide_eq_false c1];simp);rw[hr];(have e1:decide ((3:Int)≤(s.size:Int))=false:=by simp;omega);have e1':decide (3≤s.size)=false:=decide_eq_false c1;clear c1 hr;exact zTb
def xI(k:UInt8)(ps:List QB):List UInt8:=k::ps.flatMap (fun p=>p.data.toList++[0])
def yO(k:UInt8)(ps:List QB):QB:=⟨(xI k ps).toArray⟩
theorem zID(k:UInt8)(ps:List QB)(p:QB):xI k (ps++[p])=xI k ps++(p++zB).data.toList:=by
 unfold xI zB
 rw[List.flatMap_append]
 simp
theorem zLS(k:UInt8)(ps:List QB)(h:∀p∈ps,p.size≤1000):(xI k ps).length≤1+1001*ps.length:=by
 induction ps with|nil=>exact Qn _|cons a t ih=>have h1:=ih (fun p hp=>h p (by simp[hp]));have h2:=h a (by simp);unfold xI at h1⊢;rw[List.flatMap_cons];simp only[List.length_cons,Ql,List.length_nil]at h1⊢;(have h3:a.data.toList.length=a.size:=by simp);omega
theorem zBW{w:World}{b c:Nat}{ps:List QB}{n:Nat}(hn:ps.length=n)(hc:∀j(h:j<ps.length),w.cell? ⟨b,j,none⟩=some (.string ps[j]))(hb:b<w.heap.size)(hz:∀p∈ps,zf p=true∧p.size≤1000)(hl:n≤10)(k:UInt8):Calls prog 107 #[.int .u8 k.toNat,.slice (some ⟨b,0,none⟩) n c] w fun e w'=>e= .returned (.string (yO k ps))∧Below w.heap.size w w':=by
 have hib:IsB w.heap.size w.heap.size [] (w.alloc (.cells #[.pointer none,.slice none 0 0] 123)):=Lib.fresh_isBuilder _ _ w
 have hb0:Below w.heap.size w (w.alloc (.cells #[.pointer none,.slice none 0 0] 123)):=qA
 have HWb:=Hd (vK hib hb0.size (by decide) (k.toNat:Int))
 have HC:=Hd hc
 have HZ:=Hd hz
 have HN:=Hd hn
 have HB0:=Hd hb0
 have HBl:=Hd hb
 clear hc hz hn hib hb0 hb
 obtain⟨kk,hkk⟩:∃kk:Nat,k.toNat=kk:=⟨_,rfl⟩
 have HKk:=Hd (show Value.int .u8 (kk:Int)::[]=Lib.byteCells (xI k [])by rw[←hkk];rfl)
 rw[hkk]at HWb⊢
 clear hkk
 go_enter func107,ntmps107
 go_wp2_with(fail)
 refine(HWb.out).mono ?_
 rintro e w1⟨rfl,hi1,hb1,ho1⟩
 rw[List.nil_append,HKk.out]at hi1
 have HI1:=Hd hi1
 have HB1:=Hd (HB0.out.trans hb1)
 clear hi1 hb1 ho1
 obtain⟨bb,hbb⟩:=qN w.heap.size
 rw[hbb]at HI1 HB1 HBl
 have HBb:=Hd hbb
 rw[hbb]
 clear hbb HWb HB0
 go_wp2_with(fail)
 go_loopw [7,8,9,14](fun _ _ _ i wr=>∃j:Nat,j≤n∧i= .int .i64 j∧IsB bb bb (Lib.byteCells (xI k (ps.take j))) wr∧Below bb w wr)(fun _ _ _ i _=>n-(intOf i).toNat)
 case atStart=>exact⟨0,by omega,rfl,by rw[List.take_zero];exact HI1.out,HB1.out⟩
 case round=>obtain⟨j,hj,rfl,hib,hbel⟩:=hrel;have HI:=Hd hib;have HB:=Hd hbel;clear hib hbel;by_cases hlt:j<n;(·(have g1:decide ((j:Int)<(n:Int))=true:=by simp;omega);(have g1':decide (j<n)=true:=by simpa using hlt);(have hjl:j<ps.length:=by rw[HN.out];exact hlt);have hx:=HC.out j hjl;obtain⟨hz0,hz1⟩:=HZ.out ps[j] (List.getElem_mem hjl);have htk:ps.take (j+1)=ps.take j++[ps[j]]:=List.take_succ_eq_append_getElem hjl;have hle:=zLS k (ps.take j) (fun p hp=>(HZ.out p (List.mem_of_mem_take hp)).2);rw[List.length_take]at hle;obtain⟨p,hp⟩:=qN (ps[j]);rw[hp]at hx hz0 hz1 htk;(have q0:wr.cell? ⟨b,j,none⟩=some (.string p):=by rw[HB.out.cell (p:=⟨b,j,none⟩) HBl.out];exact hx);have HTk:=Hd htk;have HP:=Hd (zNA p (by omega) hz0);(have hps:(p++zB).size≤1001:=by rw[ByteArray.size_append];show p.size+1≤1001;omega);have HWs:=Hd (zn HI.out (by rw[←HBb.out];have h:=HB.out.size;omega) (p++zB) (by rw[byteCells_length];omega));(have g3:(j:Int)<(n:Int):=by omega);obtain⟨pz,hpz⟩:=qN (p++zB);rw[hpz]at HP HWs;have HPz:=Hd hpz;clear hx hz0 hz1 htk hle hp hps hpz;go_wp2_with(first|(go_at_call 175;refine(HP.out _).mono ?_;rintro e w2⟨rfl,rfl⟩)|(go_at_call 56;refine(HWs.out).mono ?_;rintro e w3⟨rfl,hi3,hb3,-⟩;have HI3:=Hd hi3;have HB3:=Hd (HB.out.trans hb3);clear hi3 hb3));go_roundw;(case rel=>refine⟨j+1,by omega,by go_num,?_,HB3.out⟩;rw[HTk.out,zID,byteCells_append,HPz.out];have:=HI3.out;rw[strCells_eq]at this;exact this);case measure=>simp[intOf];omega);·(obtain rfl:j=n:=by omega);(have ht:ps.take j=ps:=by rw[←HN.out,List.take_length]);rw[ht]at HI;have HSt:=Hd (Tryz.Builder_String_any_k bb bb (xI k ps) wr (Lib.IsBuilderF.of HI.out) (by have:=HB.out.size;have:=HBb.out;omega));clear ht;go_wp2_with(go_at_call 57;refine(HSt.out).mono ?_;rintro e w5⟨rfl,-,hb5,-⟩;have HB5:=Hd (HB.out.trans hb5);clear hb5);go_ret;exact⟨rfl,by rw[HBb.out];exact HB5.out⟩
theorem kO{α:Type}(p:α→Bool):∀l:List α,l.dropWhile p=[]→∀x∈l,p x=true|[],_,x,h=>by cases h|a::l,h,x,hx=>by by_cases hp:p a=true;(·rw[List.dropWhile_cons_of_pos hp]at h;rcases List.mem_cons.1 hx with e|e;(·rw[e];exact hp);·exact kO p l h x e);·rw[List.dropWhile_cons_of_neg hp]at h;cases h
theorem zTc{p:Prop}(h:p:=by cases hc:l.reverse.dropWhile (cs.contains ·)with|nil=>rfl|cons a t=>have h3:=List.head?_dropWhile_not (cs.contains ·) l.reverse;rw[hc]at h3;have h4:=h1 a (by unfold Lib.trimRightS;rw[hc];simp);simp only[List.head?_cons]at h3;rw[h4]at h3;exact absurd h3 (by simp)):p:=h
theorem zLc{l cs:List UInt8}(h:Lib.trimS l cs=[]):∀x∈l,cs.contains x=true:=by
 have h1:∀x∈Lib.trimRightS l cs,cs.contains x=true:=kO _ _ h
 have h2:l.reverse.dropWhile (cs.contains ·)=[]:=by exact zTc
 intro x hx
 exact kO _ _ h2 x (List.mem_reverse.2 hx)
theorem zTd{p:Prop}(h:p:=by induction l with|nil=>decide|cons b l ih=>unfold Lib.indexByte;have h1:=ih (fun x hx=>h x (by simp[hx]));have h2:=Lib.indexByte_ge l 0;(have h3:Lib.indexByte l 0= -1:=by omega);rw[if_neg (by simpa using h b (by simp)),h3];decide):p:=h
theorem zNN{l:List UInt8}(h:∀x∈l,x≠0):Lib.indexByte l 0<0:=by
 exact zTd
def nz(l:List UInt8):Prop:=∀c∈l,c≠0
theorem vL{a:UInt8}{l:List UInt8}(h:nz (a::l)):a≠0∧nz l:=⟨h a (by simp),fun c hc=>h c (List.mem_cons_of_mem _ hc)⟩
theorem zPL{l:List UInt8}(h:Lib.indexByte l 0<0):nz l:=by
 induction l with|nil=>intro c hc;cases hc|cons b l ih=>unfold Lib.indexByte at h;have hg:=Lib.indexByte_ge l 0;by_cases hb:(b==0)=true;(·rw[if_pos hb]at h;omega);·rw[if_neg hb]at h;by_cases hl:(Lib.indexByte l 0== -1)=true;(·(have h1:Lib.indexByte l 0= -1:=by simpa using hl);intro c hc;rcases List.mem_cons.1 hc with e|e;(·rw[e];simpa using hb);·exact ih (by omega) c e);·rw[if_neg hl]at h;(have h1:¬Lib.indexByte l 0= -1:=by simpa using hl);omega
theorem yC(s:QB):zf s=true↔nz s.data.toList:=by
 unfold zf ix0
 constructor
 ·intro h;exact zPL (of_decide_eq_true h)
 ·intro h;exact decide_eq_true (zNN h)
theorem vA{a b:UInt8}:a<b↔a.toNat<b.toNat:=UInt8.lt_iff_toNat_lt
theorem zKM{a:UInt8}(h:a≠0):(0:UInt8)<a:=by
 rw[vA]
 have:a.toNat≠0:=fun e=>h (UInt8.toNat_inj.1 e)
 show 0<a.toNat
 omega
structure Vd where
 id:Nat
 gone:Bool
 born:Nat
 body:QB
 page:Nat
structure It where
 key:QB
 vs:List Vd
 val:Value
def yE:List It→It→List It|[],n=>[n]|a::t,n=>if bLt a.key n.key then a::yE t n else if a.key=n.key then n::t else n::a::t
def zZ:List It→QB→List Vd|[],_=>[]|a::t,k=>if a.key=k then a.vs else zZ t k
def goL(n:It):Bool→List It→List It|d,[]=>if d then[]else[n]|d,a::t=>(if !d&& !decide (bLt a.key n.key)then[n]else[])++((if a.key=n.key then[]else[a])++goL n (d|| !decide (bLt a.key n.key)) t)
theorem zNQ{n:It}{L:List It}(h:∀a∈L,a.key≠n.key):goL n true L=L:=by
 induction L with|nil=>rfl|cons a t ih=>rw[goL,if_neg (h a (by simp))];simp only[Bool.not_true,Bool.false_and,Bool.true_or,Bool.false_eq_true,if_false,List.nil_append];rw[ih (fun b hb=>h b (by simp[hb]))];rfl
theorem zPR{n:It}{L:List It}(h:L.Pairwise (fun a b=>bLt a.key b.key)):goL n false L=yE L n:=by
 induction L with|nil=>rfl|cons a t ih=>obtain⟨h1,h2⟩:=List.pairwise_cons.1 h;rw[goL,yE];by_cases hlt:bLt a.key n.key;(·(have hne:a.key≠n.key:=fun e=>by rw[e]at hlt;exact zQ _ hlt);simp only[hlt,decide_true,Bool.not_true,Bool.and_false,Bool.or_false,Bool.false_eq_true,if_false,if_true,List.nil_append];rw[if_neg hne,ih h2];rfl);·have hgt:∀b∈t,b.key≠n.key:=fun b hb e=>hlt (by rw[←e];exact h1 b hb);rw[if_neg hlt];simp only[hlt,decide_false,Bool.not_false,Bool.and_self,Bool.or_true,if_true];rw[zNQ hgt];by_cases heq:a.key=n.key;(·rw[if_pos heq,if_pos heq];rfl);·rw[if_neg heq,if_neg heq];rfl
theorem zEz{w:World}{b T:Nat}{c0 c1 c2 c3 c4 c5 c6 c7:Value}(h:w.heap[b]? =some (.cells #[c0,c1,c2,c3,c4,c5,c6,c7] T (0,0))):(w.cell? ⟨b,0,none⟩=some c0∧w.cell? ⟨b,1,none⟩=some c1∧w.cell? ⟨b,2,none⟩=some c2∧w.cell? ⟨b,3,none⟩=some c3∧w.cell? ⟨b,4,none⟩=some c4∧w.cell? ⟨b,5,none⟩=some c5∧w.cell? ⟨b,6,none⟩=some c6∧w.cell? ⟨b,7,none⟩=some c7)∧(w.frozen? ⟨b,0,none⟩=false∧w.frozen? ⟨b,1,none⟩=false∧w.frozen? ⟨b,2,none⟩=false∧w.frozen? ⟨b,3,none⟩=false∧w.frozen? ⟨b,4,none⟩=false∧w.frozen? ⟨b,5,none⟩=false∧w.frozen? ⟨b,6,none⟩=false∧w.frozen? ⟨b,7,none⟩=false):=⟨⟨Qc h 0,Qc h 1,Qc h 2,Qc h 3,Qc h 4,Qc h 5,Qc h 6,Qc h 7⟩,by simp[World.frozen?,h],by simp[World.frozen?,h],by simp[World.frozen?,h],by simp[World.frozen?,h],by simp[World.frozen?,h],by simp[World.frozen?,h],by simp[World.frozen?,h],by simp[World.frozen?,h]⟩
def zIW(w:World)(b:Nat)(c0 c1 c2 c3 c4 c5 c6 c7:Value):World:=(((((((w.setCell ⟨b,0,none⟩ c0).setCell ⟨b,1,none⟩ c1).setCell ⟨b,2,none⟩ c2).setCell ⟨b,3,none⟩ c3).setCell ⟨b,4,none⟩ c4).setCell ⟨b,5,none⟩ c5).setCell ⟨b,6,none⟩ c6).setCell ⟨b,7,none⟩ c7
theorem zTn{p:Prop}(h:p:=by have h0:(w.setCell ⟨b,0,none⟩ c0).heap[b]? =some (.cells #[c0,a1,a2,a3,a4,a5,a6,a7] T (0,0)):=heap_setCell_same _ b 0 _ _ c0 h;have h1:((w.setCell ⟨b,0,none⟩ c0).setCell ⟨b,1,none⟩ c1).heap[b]? =some (.cells #[c0,c1,a2,a3,a4,a5,a6,a7] T (0,0)):=heap_setCell_same _ b 1 _ _ c1 h0;have h2:(((w.setCell ⟨b,0,none⟩ c0).setCell ⟨b,1,none⟩ c1).setCell ⟨b,2,none⟩ c2).heap[b]? =some (.cells #[c0,c1,c2,a3,a4,a5,a6,a7] T (0,0)):=heap_setCell_same _ b 2 _ _ c2 h1;have h3:((((w.setCell ⟨b,0,none⟩ c0).setCell ⟨b,1,none⟩ c1).setCell ⟨b,2,none⟩ c2).setCell ⟨b,3,none⟩ c3).heap[b]? =some (.cells #[c0,c1,c2,c3,a4,a5,a6,a7] T (0,0)):=heap_setCell_same _ b 3 _ _ c3 h2;have h4:(((((w.setCell ⟨b,0,none⟩ c0).setCell ⟨b,1,none⟩ c1).setCell ⟨b,2,none⟩ c2).setCell ⟨b,3,none⟩ c3).setCell ⟨b,4,none⟩ c4).heap[b]? =some (.cells #[c0,c1,c2,c3,c4,a5,a6,a7] T (0,0)):=heap_setCell_same _ b 4 _ _ c4 h3;have h5:((((((w.setCell ⟨b,0,none⟩ c0).setCell ⟨b,1,none⟩ c1).setCell ⟨b,2,none⟩ c2).setCell ⟨b,3,none⟩ c3).setCell ⟨b,4,none⟩ c4).setCell ⟨b,5,none⟩ c5).heap[b]? =some (.cells #[c0,c1,c2,c3,c4,c5,a6,a7] T (0,0)):=heap_setCell_same _ b 5 _ _ c5 h4;have h6:(((((((w.setCell ⟨b,0,none⟩ c0).setCell ⟨b,1,none⟩ c1).setCell ⟨b,2,none⟩ c2).setCell ⟨b,3,none⟩ c3).setCell ⟨b,4,none⟩ c4).setCell ⟨b,5,none⟩ c5).setCell ⟨b,6,none⟩ c6).heap[b]? =some (.cells #[c0,c1,c2,c3,c4,c5,c6,a7] T (0,0)):=heap_setCell_same _ b 6 _ _ c6 h5;have h7:((((((((w.setCell ⟨b,0,none⟩ c0).setCell ⟨b,1,none⟩ c1).setCell ⟨b,2,none⟩ c2).setCell ⟨b,3,none⟩ c3).setCell ⟨b,4,none⟩ c4).setCell ⟨b,5,none⟩ c5).setCell ⟨b,6,none⟩ c6).setCell ⟨b,7,none⟩ c7).heap[b]? =some (.cells #[c0,c1,c2,c3,c4,c5,c6,c7] T (0,0)):=heap_setCell_same _ b 7 _ _ c7 h6;exact h7):p:=h
theorem zJr{w:World}{b T:Nat}{a0 a1 a2 a3 a4 a5 a6 a7:Value}(h:w.heap[b]? =some (.cells #[a0,a1,a2,a3,a4,a5,a6,a7] T (0,0)))(c0 c1 c2 c3 c4 c5 c6 c7:Value):(zIW w b c0 c1 c2 c3 c4 c5 c6 c7).heap[b]? =some (.cells #[c0,c1,c2,c3,c4,c5,c6,c7] T (0,0)):=by
 exact zTn
theorem zJs(w:World)(b:Nat)(c0 c1 c2 c3 c4 c5 c6 c7:Value):Keep (fun k=>k=b) w (zIW w b c0 c1 c2 c3 c4 c5 c6 c7):=((((((((Keep.refl (fun k=>k=b) w).setCell (p:=⟨b,0,none⟩) (fun _=>rfl) _).setCell (p:=⟨b,1,none⟩) (fun _=>rfl) _).setCell (p:=⟨b,2,none⟩) (fun _=>rfl) _).setCell (p:=⟨b,3,none⟩) (fun _=>rfl) _).setCell (p:=⟨b,4,none⟩) (fun _=>rfl) _).setCell (p:=⟨b,5,none⟩) (fun _=>rfl) _).setCell (p:=⟨b,6,none⟩) (fun _=>rfl) _).setCell (p:=⟨b,7,none⟩) (fun _=>rfl) _
theorem zDe{w0 w:World}{b B:Nat}(h:Below B w0 w)(hb:B≤b)(c0 c1 c2 c3 c4 c5 c6 c7:Value):Below B w0 (zIW w b c0 c1 c2 c3 c4 c5 c6 c7):=(((((((h.setCell (p:=⟨b,0,none⟩) hb _).setCell (p:=⟨b,1,none⟩) hb _).setCell (p:=⟨b,2,none⟩) hb _).setCell (p:=⟨b,3,none⟩) hb _).setCell (p:=⟨b,4,none⟩) hb _).setCell (p:=⟨b,5,none⟩) hb _).setCell (p:=⟨b,6,none⟩) hb _).setCell (p:=⟨b,7,none⟩) hb _
theorem zTj{p:Prop}(h:p:=by (have hp':tmps[p]?.getD undef= .pointer (some ⟨g,0,none⟩):=by simpa using hp);(have e:(results fn tmps).run P w=((asAddr (tmps.getD p undef)).run P w).andThen fun a w₁=>(loadVar ty a).run P w₁:=by simp[results,h,go_sem]);rw[e];simp[hp',asAddr,run_loadVar_row w g t ty cs fr d hg hu hd hi,Result.andThen]):p:=h
theorem xW{P:Program}{fn:Func}{p:Tmp}{ty:TypeId}(h:fn.results= #[.cell p ty])(tmps:Array Value)(w:World)(g:Nat)(t:TypeId)(cs:Array Value)(fr:Nat×Nat)(d:TypeDesc)(hp:tmps.getD p undef= .pointer (some ⟨g,0,none⟩))(hg:w.heap[g]? =some (.cells cs t fr))(hu:P.underlying ty=some d)(hd:(match d with| .struct _| .array _ _=>true|_=>false)=true)(hi:(P.info? ty).map (·.size)=some cs.size):(results fn tmps).run P w= .ok (.agg cs) w:=by
 exact zTj
theorem zQ3:(prog.info? 135).map (fun i=>(i.zero,i.size,i.bytes))=some (some (.agg #[.int .u64 0,.bool false,.bool false,.int .u64 0,.string ⟨#[]⟩]),5,40):=by
 kernel_rfl
theorem zQ4:(prog.info? 156).map (fun i=>(i.zero,i.size,i.bytes))=some (some (.agg #[.string ⟨#[]⟩,.slice none 0 0]),2,40):=by
 kernel_rfl
theorem zNU:(prog.info? 153).map (fun i=>(i.zero,i.size,i.bytes))=some (some (.agg #[.string ⟨#[]⟩,.int .i64 0,.int .u64 0,.bool false,.string ⟨#[]⟩,.int .u64 0,.slice none 0 0,.slice none 0 0]),8,112):=by
 kernel_rfl
def vdC(v:Vd):List Value:=[.int .u64 v.id,.bool false,.bool v.gone,.int .u64 v.born,.string v.body]
def vdV(l:List Vd):List Value:=l.flatMap vdC
abbrev VsAt(w:World)(val:Value)(l:List Vd):Prop:=w.ownsRow 0 135 5 val l.length (vdV l)
def itC(it:It):List Value:=[.string it.key,it.val]
def itV(L:List It):List Value:=L.flatMap itC
theorem zAX(L:List It)(it:It):itV (L++[it])=itV L++itC it:=by
 unfold itV
 rw[List.flatMap_append]
 simp
structure ItsAt(w:World)(v:Value)(L:List It):Prop where
 row:w.ownsRow 0 156 2 v L.length (itV L)
 vs:∀it∈L,VsAt w it.val it.vs
theorem VsAt.still{w u:World}{v:Value}{l:List Vd}(h:VsAt w v l)(hb:Below w.heap.size w u):VsAt u v l:=(Keep.still hb).ownsRow h (fun _ _ e=>e)
theorem ItsAt.still{w u:World}{v:Value}{L:List It}(h:ItsAt w v L)(hb:Below w.heap.size w u):ItsAt u v L:=⟨(Keep.still hb).ownsRow h.row (fun _ _ e=>e),fun it hi=>(h.vs it hi).still hb⟩
structure Bk where
 name:QB
 state:Nat
 born:Nat
 its:Value
def bkR(b:Bk):List Value:=[.string b.name,.int .i64 b.state,.int .u64 b.born,.bool false,.string ⟨#[]⟩,.int .u64 0,b.its,.slice none 0 0]
def bkV(Bs:List Bk):List Value:=Bs.flatMap bkR
abbrev BksAt(w:World)(v:Value)(Bs:List Bk):Prop:=w.ownsRow 0 153 8 v Bs.length (bkV Bs)
theorem BksAt.still{w u:World}{v:Value}{l:List Bk}(h:BksAt w v l)(hb:Below w.heap.size w u):BksAt u v l:=(Keep.still hb).ownsRow h (fun _ _ e=>e)
theorem zBY{α:Type}{f:α→List Value}{n:Nat}(hf:∀x,(f x).length=n){l:List α}{k:Nat}(hk:k<l.length){c:Nat}{v:Value}(hc:(f l[k])[c]? =some v):(l.flatMap f)[k*n+c]? =some v:=by
 induction l generalizing k with|nil=>cases hk|cons a t ih=>rw[List.flatMap_cons];(have hcn:c<n:=by rw[←hf ((a::t)[k])];exact(List.getElem?_eq_some_iff.1 hc).1);cases k with|zero=>rw[Nat.zero_mul,Nat.zero_add,List.getElem?_append_left (by rw[hf];exact hcn)];exact hc|succ k=>rw[Nat.succ_mul,List.getElem?_append_right (by rw[hf];omega),hf];(have e:k*n+n+c-n=k*n+c:=by omega);rw[e];exact ih (by simpa using hk) (by simpa using hc)
def atF(name:QB):List Bk→Nat→Int|[],_=> -1|b::t,k=>if b.name=name then k else atF name t (k+1)
theorem zNV{name:QB}{Bs:List Bk}{k:Nat}(hk:k<Bs.length):atF name (Bs.drop k) k=if Bs[k].name=name then(k:Int)else atF name (Bs.drop (k+1)) (k+1):=by
 rw[List.drop_eq_getElem_cons hk,atF]
theorem zAw{w:World}{v:Value}{Bs:List Bk}(h:BksAt w v Bs)(hl:Bs.length≤1000)(nx:Nat)(name:QB):Calls prog 70 #[.agg #[v,.int .u64 nx],.string name] w fun e w'=>e= .returned (.int .i64 (atF name Bs 0))∧Below w.heap.size w w':=by
 obtain⟨n,hn⟩:=qN Bs.length
 have hrow:w.ownsRow 0 153 8 v Bs.length (bkV Bs):=h
 obtain⟨va,vc,hv⟩:=zA hrow
 rw[hn]at hv hrow
 have HRow:=Hd hrow
 subst hv
 have hb0:Below w.heap.size w (w.alloc (.cells #[.slice va n vc,.int .u64 nx] 53)):=qA
 have hx0:=qH w (.cells #[.slice va n vc,.int .u64 nx] 53)
 have c0:(w.alloc (.cells #[.slice va n vc,.int .u64 nx] 53)).cell? ⟨w.heap.size,0,none⟩=some (.slice va n vc):=Qc hx0 0
 have HB0:=Hd hb0
 have HN:=Hd hn
 have C0:=Hd c0
 have n0:(n:Int)≤1000:=by omega
 clear h hb0 hx0 c0 hn hrow
 go_enter func70,ntmps70
 go_wp2_with(fail)
 go_loopw [5](fun i wr=>∃k:Nat,k≤n∧i= .int .i64 k∧wr=w.alloc (.cells #[.slice va n vc,.int .u64 nx] 53)∧atF name (Bs.drop k) k=atF name Bs 0)(fun i _=>n-(intOf i).toNat)
 case atStart=>exact⟨0,by omega,rfl,rfl,rfl⟩
 case round=>obtain⟨k,hk,rfl,rfl,hat⟩:=hrel;have c0:=C0.out;by_cases hlt:k<n;(·(have hkl:k<Bs.length:=by rw[HN.out];exact hlt);(have g1:decide ((k:Int)<(n:Int))=true:=by simp;omega);(have g1':decide (k<n)=true:=by simpa using hlt);(have k0:(0:Int)≤(k:Int):=by omega);(have k1:(k:Int)<(n:Int):=by omega);obtain⟨gs,cs,hs,hc1,hc2,hgB⟩:=zH HRow.out (by omega);obtain⟨e1,e2,e3⟩:=Value.slice.inj hs;subst e1;have hgl:=(HRow.out.lt gs rfl).2;have q0:=zC HRow.out (k*8+0) _ (zBY (f:=bkR) (fun _=>rfl) hkl (c:=0) rfl);rw[Nat.add_zero,←HB0.out.cell (p:=⟨gs,k*8,none⟩) hgl]at q0;rw[zNV hkl]at hat;obtain⟨nm,hnm⟩:=qN (Bs[k].name);rw[hnm]at q0 hat;have HAt:=Hd hat;clear hs e2 e3 hat hnm;by_cases he:nm=name;(·subst he;(have e4:(nm.toList==nm.toList)=true:=by simp);go_wp2;go_ret;(have:(k:Int)=atF nm Bs 0:=by simpa using HAt.out);exact⟨by rw[←this];rfl,HB0.out⟩);·(have e4:(nm.toList==name.toList)=false:=by rw[vo];simpa using he);go_wp2;go_roundw;(case rel=>(have:atF name (Bs.drop (k+1)) (k+1)=atF name Bs 0:=by simpa[he]using HAt.out);exact⟨k+1,by omega,by go_num,trivial,this⟩);case measure=>simp[intOf];omega);·(obtain rfl:k=n:=by omega);(have g1:decide ((k:Int)<(k:Int))=false:=by simp);go_wp2;go_ret;rw[List.drop_of_length_le (by rw[HN.out];exact Qn _)]at hat;exact⟨by rw[←hat];rfl,HB0.out⟩
theorem zJt(w:World)(B t n:Nat)(hB:B≤w.heap.size):(w.alloc (.cells #[] t)).ownsRow B t n (.slice (some ⟨w.heap.size,0,none⟩) 0 0) 0 []:=⟨by simp,.inr ⟨w.heap.size,0,_,rfl,hB,qH w _,Qn _,Nat.zero_le _,by simp,by simp⟩⟩
theorem zBJ{w:World}{B t k n:Nat}{v:Value}{l:List Value}(h:w.ownsRow B t k v n l):w.ownsRow 0 t k v n l:=⟨h.1,h.2.imp id (fun⟨g,c,cur,h1,_,h2⟩=>⟨g,c,cur,h1,Nat.zero_le _,h2⟩)⟩
theorem alloc_old{w:World}{k:Nat}{o o':Obj}(h:w.heap[k]? =some o'):(w.alloc o).heap[k]? =some o':=(Below.heap_alloc _ _ _ (Gl h)).trans h
theorem zN{w:World}{o:Obj}{k:Nat}(h:w.heap.size=k):(w.alloc o).heap[k]? =some o:=by
 subst h
 exact qH w o
theorem zj{w:World}{b T:Nat}{c0 c1:Value}(h:w.heap[b]? =some (.cells #[c0,c1] T (0,0))):(w.cell? ⟨b,0,none⟩=some c0∧w.cell? ⟨b,1,none⟩=some c1)∧(w.frozen? ⟨b,0,none⟩=false∧w.frozen? ⟨b,1,none⟩=false):=⟨⟨Qc h 0,Qc h 1⟩,by simp[World.frozen?,h],by simp[World.frozen?,h]⟩
def bkA(b:Bk):Array Value:= #[.string b.name,.int .i64 b.state,.int .u64 b.born,.bool false,.string ⟨#[]⟩,.int .u64 0,b.its,.slice none 0 0]
theorem zPU{p:Prop}(h:p:=by show w.heap.size≤w.heap.size+1+1;omega):p:=h
theorem zF4{w:World}{v:Value}{b0 b:Bk}(h:BksAt w v [b0])(h1:b0.its.oneCell'=true)(h2:∃a n c,b.its= .slice a n c)(nx:Nat):Calls prog 120 #[.agg #[v,.int .u64 nx],.int .i64 0,.agg (bkA b)] w fun e w'=>∃v',e= .returned (.agg #[v',.int .u64 nx])∧BksAt w' v' [b]∧(∀g,v'.ownBlock=some g→w.heap.size≤g)∧Below w.heap.size w w':=by
 obtain⟨i0,hi0,hz0,hz1,hz2⟩:=info_parts zNU
 have HI:=Hd hi0
 have Hz0:=Hd hz0
 have Hz1:=Hd hz1
 have Hz2:=Hd hz2
 obtain⟨bn,bs_,bo,its⟩:=b
 obtain⟨ia,il,ic,hits⟩:=h2
 obtain rfl:its= .slice ia il ic:=hits
 have H1c:=Hd (show∀u∈bkR b0,u.oneCell'=true by simp[bkR,Value.oneCell']at h1⊢;exact h1)
 have hrow:w.ownsRow 0 153 8 v 1 (bkR b0):=h
 obtain⟨gs,cs,hv,hc1,hc2,hgB⟩:=zH hrow (by decide)
 subst hv
 have HRow:=Hd hrow
 have HGl:=Hd (hrow.lt gs rfl).2
 unfold bkA
 clear h hi0 hz0 hz1 hz2 hrow
 go_enter func120,ntmps120
 have hb4:Below w.heap.size w ((((w.alloc (.cells #[.slice (some ⟨gs,0,none⟩) 1 cs,.int .u64 nx] 53)).alloc (.cells #[.string bn,.int .i64 bs_,.int .u64 bo,.bool false,.string ⟨#[]⟩,.int .u64 0,.slice ia il ic,.slice none 0 0] 153)).alloc (.cells #[.slice none 0 0,.int .u64 0] 53)).alloc (.cells #[] 153)):=(((qA).alloc (by simp) _).alloc (by simp;omega) _).alloc (by simp;omega) _
 have hE:=zJt (((w.alloc (.cells #[.slice (some ⟨gs,0,none⟩) 1 cs,.int .u64 nx] 53)).alloc (.cells #[.string bn,.int .i64 bs_,.int .u64 bo,.bool false,.string ⟨#[]⟩,.int .u64 0,.slice ia il ic,.slice none 0 0] 153)).alloc (.cells #[.slice none 0 0,.int .u64 0] 53)) w.heap.size 153 8 (by simp;omega)
 simp only[World.size_alloc]at hE
 have hr4:=(Keep.still hb4).ownsRow HRow.out (fun _ _ e=>e)
 have HE:=Hd hE
 have HR4:=Hd hr4
 have HB4:=Hd hb4
 have hm:w.heap.size<w.heap.size+1:=by omega
 have HA0:=Hd (show((((w.alloc (.cells #[.slice (some ⟨gs,0,none⟩) 1 cs,.int .u64 nx] 53)).alloc (.cells #[.string bn,.int .i64 bs_,.int .u64 bo,.bool false,.string ⟨#[]⟩,.int .u64 0,.slice ia il ic,.slice none 0 0] 153)).alloc (.cells #[.slice none 0 0,.int .u64 0] 53)).alloc (.cells #[] 153)).heap[w.heap.size]? =some (.cells #[.slice (some ⟨gs,0,none⟩) 1 cs,.int .u64 nx] 53 (0,0))from alloc_old (alloc_old (alloc_old (zN rfl))))
 have HA1:=Hd (show((((w.alloc (.cells #[.slice (some ⟨gs,0,none⟩) 1 cs,.int .u64 nx] 53)).alloc (.cells #[.string bn,.int .i64 bs_,.int .u64 bo,.bool false,.string ⟨#[]⟩,.int .u64 0,.slice ia il ic,.slice none 0 0] 153)).alloc (.cells #[.slice none 0 0,.int .u64 0] 53)).alloc (.cells #[] 153)).heap[w.heap.size+1]? =some (.cells #[.string bn,.int .i64 bs_,.int .u64 bo,.bool false,.string ⟨#[]⟩,.int .u64 0,.slice ia il ic,.slice none 0 0] 153 (0,0))from alloc_old (alloc_old (zN (by simp))))
 have HA2:=Hd (show((((w.alloc (.cells #[.slice (some ⟨gs,0,none⟩) 1 cs,.int .u64 nx] 53)).alloc (.cells #[.string bn,.int .i64 bs_,.int .u64 bo,.bool false,.string ⟨#[]⟩,.int .u64 0,.slice ia il ic,.slice none 0 0] 153)).alloc (.cells #[.slice none 0 0,.int .u64 0] 53)).alloc (.cells #[] 153)).heap[w.heap.size+1+1]? =some (.cells #[.slice none 0 0,.int .u64 0] 53 (0,0))from alloc_old (zN (by simp)))
 have HZ4:=Hd (show((((w.alloc (.cells #[.slice (some ⟨gs,0,none⟩) 1 cs,.int .u64 nx] 53)).alloc (.cells #[.string bn,.int .i64 bs_,.int .u64 bo,.bool false,.string ⟨#[]⟩,.int .u64 0,.slice ia il ic,.slice none 0 0] 153)).alloc (.cells #[.slice none 0 0,.int .u64 0] 53)).alloc (.cells #[] 153)).heap.size=w.heap.size+1+1+1+1 by simp)
 clear hb4 hE hr4
 go_wp2_with(at_builtin;(refine wpList_append_own_at _ (by rfl) _ _ 51 (by rfl) w.heap.size 153 i0 (.agg #[.string ⟨#[]⟩,.int .i64 0,.int .u64 0,.bool false,.string ⟨#[]⟩,.int .u64 0,.slice none 0 0,.slice none 0 0]) 8 112 underlying51 HI.out Hz0.out Hz1.out Hz2.out (by rfl) (by decide) (.slice (some ⟨w.heap.size+1+1+1,0,none⟩) 0 0) _ _ (by rfl) HE.out ⟨gs,0,none⟩ 1 cs (bkR b0) (by rfl) (by rfl) (fun j u hu=>by rw[yJ];exact zC HR4.out j u hu) H1c.out (by unfold maxLen;omega) (by omega) ?_ ?_;(·simp;omega);intro v8 w8 hown8 hg8 hnil8 hloc8;replace hown8:w8.ownsRow w.heap.size 153 8 v8 1 (bkR b0):=hown8;obtain⟨g8,c8,hv8,hc8a,hc8b,hg8B⟩:=zH hown8 (by decide);subst hv8;have hk8:=(Keep.refl (fun q=>q=w.heap.size+1+1+1) ((((w.alloc (.cells #[.slice (some ⟨gs,0,none⟩) 1 cs,.int .u64 nx] 53)).alloc (.cells #[.string bn,.int .i64 bs_,.int .u64 bo,.bool false,.string ⟨#[]⟩,.int .u64 0,.slice ia il ic,.slice none 0 0] 153)).alloc (.cells #[.slice none 0 0,.int .u64 0] 53)).alloc (.cells #[] 153))).grown hg8 (fun j hj e=>(Option.some.inj e).symm);have hx0:=hk8.at HA0.out (fun e=>by omega);have hx1:=hk8.at HA1.out (fun e=>by omega);have hx2:=hk8.at HA2.out (fun e=>by omega);(have hgne:g8≠w.heap.size∧g8≠w.heap.size+1∧g8≠w.heap.size+1+1:=by have hz:=HZ4.out;rcases hloc8 with e|e;(·have e2:g8=w.heap.size+1+1+1:=Option.some.inj e;omega);·have e2:=Option.some.inj e;simp at e2;omega);have HX0:=Hd hx0;have HX1:=Hd hx1;have HX2:=Hd hx2;have HO8:=Hd hown8;have HK8:=Hd hk8;obtain⟨ne0,ne1,ne2⟩:=hgne;have ne0':=Ne.symm ne0;have ne1':=Ne.symm ne1;have ne2':=Ne.symm ne2;obtain⟨⟨a0,a1⟩,b0',b1'⟩:=zj hx0;obtain⟨⟨a2,a3⟩,b2',b3'⟩:=zj hx2;obtain⟨⟨d0,d1,d2,d3,d4,d5,d6,d7⟩,y0,y1,y2,y3,y4,y5,y6,y7⟩:=zEz hx1;have e0:=zC hown8 0 _ rfl;have e1:=zC hown8 1 _ rfl;have e2:=zC hown8 2 _ rfl;have e3:=zC hown8 3 _ rfl;have e4:=zC hown8 4 _ rfl;have e5:=zC hown8 5 _ rfl;have e6:=zC hown8 6 _ rfl;have e7:=zC hown8 7 _ rfl;have z0:=hown8.frozenAt 0;have z1:=hown8.frozenAt 1;have z2:=hown8.frozenAt 2;have z3:=hown8.frozenAt 3;have z4:=hown8.frozenAt 4;have z5:=hown8.frozenAt 5;have z6:=hown8.frozenAt 6;have z7:=hown8.frozenAt 7;clear hown8 hg8 hnil8 hloc8 hk8 hx0 hx1 hx2))
 have hb8:=HB4.out.trans (HK8.out.below (B:=w.heap.size) (by rw[HZ4.out];omega) (fun i hi e=>by omega))
 have k0:Keep (fun q=>q=w.heap.size) w8 (w8.setCell ⟨w.heap.size,0,none⟩ (.slice (some ⟨g8,0,none⟩) 1 c8)):=(Keep.refl (fun q=>q=w.heap.size) w8).setCell (p:=⟨w.heap.size,0,none⟩) (fun _=>rfl) _
 have hb0:=hb8.setCell (p:=⟨w.heap.size,0,none⟩) (Qn _) (.slice (some ⟨g8,0,none⟩) 1 c8)
 have r0:=ownsRow_setCell_other HO8.out (a:=⟨w.heap.size,0,none⟩) (fun e=>ne0 (Option.some.inj e)) (.slice (some ⟨g8,0,none⟩) 1 c8)
 have x0:=k0.at HX2.out (by omega)
 obtain⟨u0,hu0⟩:=qN (w8.setCell ⟨w.heap.size,0,none⟩ (.slice (some ⟨g8,0,none⟩) 1 c8))
 rw[hu0]at k0 hb0 r0 x0⊢
 have r1:=(((((((((r0.stored 0 (.string bn)).1.stored 1 (.int .i64 bs_)).1.stored 2 (.int .u64 bo)).1.stored 3 (.bool false)).1.stored 4 (.string ⟨#[]⟩)).1.stored 5 (.int .u64 0)).1.stored 6 (.slice ia il ic)).1.stored 7 (.slice none 0 0)).1)
 have k1:=zJs u0 g8 (.string bn) (.int .i64 bs_) (.int .u64 bo) (.bool false) (.string ⟨#[]⟩) (.int .u64 0) (.slice ia il ic) (.slice none 0 0)
 have hb1:=zDe hb0 (b:=g8) hg8B (.string bn) (.int .i64 bs_) (.int .u64 bo) (.bool false) (.string ⟨#[]⟩) (.int .u64 0) (.slice ia il ic) (.slice none 0 0)
 have x1:=k1.at x0 (by omega)
 unfold zIW at k1 hb1 x1
 obtain⟨u1,hu1⟩:=qN ((((((((u0.setCell ⟨g8,0,none⟩ (.string bn)).setCell ⟨g8,1,none⟩ (.int .i64 bs_)).setCell ⟨g8,2,none⟩ (.int .u64 bo)).setCell ⟨g8,3,none⟩ (.bool false)).setCell ⟨g8,4,none⟩ (.string ⟨#[]⟩)).setCell ⟨g8,5,none⟩ (.int .u64 0)).setCell ⟨g8,6,none⟩ (.slice ia il ic)).setCell ⟨g8,7,none⟩ (.slice none 0 0))
 rw[hu1]at r1 hb1 x1⊢
 have x2:=heap_setCell_same _ (w.heap.size+1+1) 0 _ _ (.slice (some ⟨g8,0,none⟩) 1 c8) x1
 have x3:=heap_setCell_same _ (w.heap.size+1+1) 1 _ _ (.int .u64 nx) x2
 have r2:=ownsRow_setCell_other (ownsRow_setCell_other r1 (a:=⟨w.heap.size+1+1,0,none⟩) (fun e=>ne2 (Option.some.inj e)) (.slice (some ⟨g8,0,none⟩) 1 c8)) (a:=⟨w.heap.size+1+1,1,none⟩) (fun e=>ne2 (Option.some.inj e)) (.int .u64 nx)
 have hb2:=(hb1.setCell (p:=⟨w.heap.size+1+1,0,none⟩) (by exact zPU) (.slice (some ⟨g8,0,none⟩) 1 c8)).setCell (p:=⟨w.heap.size+1+1,1,none⟩) (by exact zPU) (.int .u64 nx)
 refine bodyPost_ret (xW rfl _ _ (w.heap.size+1+1) _ _ _ _ rfl x3 underlying53 rfl (by kernel_rfl)) rfl ?_
 exact⟨_,rfl,zBJ r2,fun g e=>(r2.lt g e).1,hb2⟩
theorem zJu{L:List It}{k:Nat}(hk:k<L.length)(item:QB):zZ (L.drop k) item=if L[k].key=item then L[k].vs else zZ (L.drop (k+1)) item:=by
 rw[List.drop_eq_getElem_cons hk,zZ]
theorem zG0{w:World}{B g c:Nat}{b0:Bk}(h:w.ownsRow B 153 8 (.slice (some ⟨g,0,none⟩) 1 c) 1 (bkR b0)):(w.cell? ⟨g,0,none⟩=some (.string b0.name)∧w.cell? ⟨g,1,none⟩=some (.int .i64 b0.state)∧w.cell? ⟨g,2,none⟩=some (.int .u64 b0.born)∧w.cell? ⟨g,3,none⟩=some (.bool false)∧w.cell? ⟨g,4,none⟩=some (.string ⟨#[]⟩)∧w.cell? ⟨g,5,none⟩=some (.int .u64 0)∧w.cell? ⟨g,6,none⟩=some b0.its∧w.cell? ⟨g,7,none⟩=some (.slice none 0 0)):=⟨zC h 0 _ rfl,zC h 1 _ rfl,zC h 2 _ rfl,zC h 3 _ rfl,zC h 4 _ rfl,zC h 5 _ rfl,zC h 6 _ rfl,zC h 7 _ rfl⟩
theorem zQ5{p:Prop}(h:p:=by have hu:=(HS.out u).1 hu;obtain⟨⟨c0,c1⟩,-⟩:=zj (hu.at HX0.out (fun e=>e));obtain⟨d0,d1,d2,d3,d4,d5,d6,d7⟩:=zG0 (hu.ownsRow ((Keep.still HB0.out).ownsRow HRow.out (fun _ _ e=>e)) (fun _ _ e=>e));simp only at d0 d1 d2 d6;clear hu;go_simp;exact⟨rfl,rfl⟩):p:=h
theorem zTx{p:Prop}(h:p:=by rw[hxb]at HXu;rw[hu0]at HXu HBu;(try rw[hxb]);(try rw[hu0]);clear hxb hu0 S HS;obtain⟨⟨d0,d1,d2,d3,d4,d5,d6,d7⟩,y0,y1,y2,y3,y4,y5,y6,y7⟩:=zEz HXu.out;go_wp2_with(fail);clear d0 d1 d2 d3 d4 d5 d6 d7 y0 y1 y2 y3 y4 y5 y6 y7;have hxs:=zJr HXu.out (.string bn) (.int .i64 bst) (.int .u64 bo) (.bool false) (.string ⟨#[]⟩) (.int .u64 0) (.slice ia n ic) (.slice none 0 0);have hbs:=zDe HBu.out HXb.out (.string bn) (.int .i64 bst) (.int .u64 bo) (.bool false) (.string ⟨#[]⟩) (.int .u64 0) (.slice ia n ic) (.slice none 0 0);unfold zIW at hxs hbs;obtain⟨u9,hu9⟩:=qN ((((((((u0.setCell ⟨xb,0,none⟩ (.string bn)).setCell ⟨xb,1,none⟩ (.int .i64 bst)).setCell ⟨xb,2,none⟩ (.int .u64 bo)).setCell ⟨xb,3,none⟩ (.bool false)).setCell ⟨xb,4,none⟩ (.string ⟨#[]⟩)).setCell ⟨xb,5,none⟩ (.int .u64 0)).setCell ⟨xb,6,none⟩ (.slice ia n ic)).setCell ⟨xb,7,none⟩ (.slice none 0 0));rw[hu9]at hxs hbs⊢;have C6:=Hd (show u9.cell? ⟨xb,6,none⟩=some (.slice ia n ic)from Qc hxs 6);have HI9:=Hd ((Keep.still hbs).ownsRow HIr.out (fun _ _ e=>e));have HB9:=Hd hbs;clear hxs hbs hu9;go_loopw [8](fun i wr=>∃k:Nat,k≤n∧i= .int .i64 k∧wr=u9∧zZ (L.drop k) item=zZ L item)(fun i _=>n-(intOf i).toNat);(case atStart=>exact⟨0,by omega,rfl,rfl,rfl⟩);case round=>obtain⟨k,hk,rfl,rfl,hat⟩:=hrel;have c6:=C6.out;by_cases hlt:k<n;(·(have hkl:k<L.length:=by rw[HN.out];exact hlt);(have g1:decide ((k:Int)<(n:Int))=true:=by simp;omega);(have g1':decide (k<n)=true:=by simpa using hlt);(have k0:(0:Int)≤(k:Int):=by omega);(have k1:(k:Int)<(n:Int):=by omega);obtain⟨gi,ci,hs,hi1,hi2,hiB⟩:=zH HI9.out (by omega);obtain⟨e1,e2,e3⟩:=Value.slice.inj hs;subst e1;have q0:=zC HI9.out (k*2+0) _ (zBY (f:=itC) (fun _=>rfl) hkl (c:=0) rfl);have q1:=zC HI9.out (k*2+1) _ (zBY (f:=itC) (fun _=>rfl) hkl (c:=1) rfl);have hvs:=(HVs.out _ (List.getElem_mem hkl)).still HB9.out;rw[zJu hkl]at hat;obtain⟨it,hit⟩:=qN (L[k]);rw[hit]at q0 q1 hat hvs;rw[Nat.add_zero]at q0;obtain⟨key,vs,val⟩:=it;simp only at q0 q1 hat hvs;have HAt2:=Hd hat;have HVs2:=Hd hvs;clear hs e2 e3 hat hit hvs;by_cases he:key=item;(·subst he;(have e4:(key.toList==key.toList)=true:=by simp);go_wp2;go_ret;(have h9:vs=zZ L key:=by simpa using HAt2.out);exact⟨_,rfl,by rw[←h9];exact HVs2.out,HB9.out⟩);·(have e4:(key.toList==item.toList)=false:=by rw[vo];simpa using he);go_wp2;go_roundw;(case rel=>(have:zZ (L.drop (k+1)) item=zZ L item:=by simpa[he]using HAt2.out);exact⟨k+1,by omega,by go_num,trivial,this⟩);case measure=>simp[intOf];omega);·(obtain rfl:k=n:=by omega);(have g1:decide ((k:Int)<(k:Int))=false:=by simp);go_wp2;go_ret;rw[List.drop_of_length_le (by rw[HN.out];exact Qn _)]at hat;exact⟨_,rfl,by rw[←hat];exact qO,HB9.out⟩):p:=h
theorem zTy{p:Prop}(h:p:=by exact⟨this.os,this.tape,this.output,this.size,this.block⟩):p:=h
theorem zLn{w:World}{v:Value}{b0:Bk}{L:List It}(h:BksAt w v [b0])(hi:ItsAt w b0.its L)(hl:L.length≤1000)(nx:Nat)(item:QB):Calls prog 125 #[.agg #[v,.int .u64 nx],.string b0.name,.string item] w fun e w'=>∃val,e= .returned val∧VsAt w' val (zZ L item)∧Below w.heap.size w w':=by
 have hrow:w.ownsRow 0 153 8 v 1 (bkR b0):=h
 obtain⟨gs,cs,hv,hc1,hc2,hgB⟩:=zH hrow (by decide)
 subst hv
 have HRow:=Hd hrow
 have HGl:=Hd (hrow.lt gs rfl).2
 have hb0:Below w.heap.size w (w.alloc (.cells #[.slice (some ⟨gs,0,none⟩) 1 cs,.int .u64 nx] 53)):=qA
 have HAt:=Hd (fun(u:World)(hu:Below w.heap.size w u)=>zAw (h.still hu) (by simp) nx b0.name)
 have e0:atF b0.name [b0] 0=0:=by simp[atF]
 rw[e0]at HAt
 obtain⟨bn,bst,bo,its⟩:=b0
 have hirow:=hi.row
 obtain⟨ia,ic,hits⟩:=zA hirow
 obtain⟨n,hn⟩:=qN L.length
 rw[hn]at hirow hits hl
 obtain rfl:its= .slice ia n ic:=hits
 have HIr:=Hd hirow
 have HVs:=Hd hi.vs
 have HN:=Hd hn
 have HX0:=Hd (qH w (.cells #[.slice (some ⟨gs,0,none⟩) 1 cs,.int .u64 nx] 53))
 have HB0:=Hd hb0
 simp only at HAt
 clear h hi hrow hb0 e0 hirow hn
 go_enter func125,ntmps125
 go_wp2_with(fail)
 obtain⟨w1,hw1⟩:=qN (w.alloc (.cells #[.slice (some ⟨gs,0,none⟩) 1 cs,.int .u64 nx] 53))
 rw[hw1]at HX0 HB0⊢
 clear hw1
 obtain⟨mb,hmb⟩:=qN w.heap.size
 have HMb:=Hd hmb
 rw[hmb]at HX0⊢
 clear hmb
 obtain⟨S,hS⟩:∃S:World→Prop,∀u,S u↔Keep (fun _=>False) w1 u:=⟨fun u=>Keep (fun _=>False) w1 u,fun _=>Iff.rfl⟩
 have HS:=Hd hS
 clear hS
 refine xT 8 (.read 0 (.read 1 (.read 2 (.read 3 (.two 4 (.read 5 (.read 6 (.one 7 .fin))) 7 (.one 4 (.read 5 (.read 6 .fin)))))))) S (by kernel_rfl) (by kernel_rfl) ((HS.out _).2 (Keep.refl _ _).drew) ?_
 iterate 4 first|(refine wpW_passed rfl (by rfl) (fun K hK=> ?_);go_simp;refine hK _ ?_;clear hK K)|(refine yQ rfl (by rfl) (fun K hK=> ?_);apply Exists.intro;refine⟨fun u hu=> ?_,?_⟩;(·exact zQ5);go_simp;refine hK _ ?_;clear hK K)
 refine zCX ?_ ?_
 ·refine zi rfl (by rfl) (fun K hK=> ?_);go_simp;go_at_call 70;have hdr:Below w1.heap.size w1 w1.drew:=⟨rfl,rfl,rfl,Qn _,fun _ _=>rfl⟩;refine(HAt.out _ (qT HB0.out hdr)).mono ?_;rintro e w2⟨rfl,hb2⟩;have hb2':Below w1.heap.size w1 w2:=hdr.trans hb2;have HB2:=Hd hb2';refine hK _ _ ((HS.out _).2 (Keep.ofBelow hb2')) ?_;clear hK K hb2 hb2' hdr;(iterate 2 first|(refine wpW_passed rfl (by rfl) (fun K hK=> ?_);go_simp;refine hK _ ?_;clear hK K)|(refine yQ rfl (by rfl) (fun K hK=> ?_);apply Exists.intro;refine⟨fun u hu=> ?_,?_⟩;(·exact zQ5);go_simp;refine hK _ ?_;clear hK K));refine yX ?_;refine zi rfl (by rfl) (fun K hK=> ?_);go_simp;have hb3:=HB2.out.alloc HB2.out.size (.cells #[.string ⟨#[]⟩,.int .i64 0,.int .u64 0,.bool false,.string ⟨#[]⟩,.int .u64 0,.slice none 0 0,.slice none 0 0] 153);have hx3:=qH w2 (.cells #[.string ⟨#[]⟩,.int .i64 0,.int .u64 0,.bool false,.string ⟨#[]⟩,.int .u64 0,.slice none 0 0,.slice none 0 0] 153);have HBu:=Hd (qT HB0.out hb3);have HXu:=Hd hx3;refine hK _ _ ((HS.out _).2 (Keep.ofBelow hb3)) ?_;clear hK K hb3 hx3;refine zAj ?_;simp only[List.drop_succ_cons,List.drop_zero];obtain⟨xb,hxb⟩:=qN w2.heap.size;obtain⟨u0,hu0⟩:=qN (w2.alloc (.cells #[.string ⟨#[]⟩,.int .i64 0,.int .u64 0,.bool false,.string ⟨#[]⟩,.int .u64 0,.slice none 0 0,.slice none 0 0] 153));have HXb:=Hd (show w.heap.size≤xb by rw[←hxb];have h1:=HB0.out.size;have h2:=HB2.out.size;omega);exact zTx
 ·refine zi rfl (by rfl) (fun K hK=> ?_);go_simp;(have hb2:Below w1.heap.size w1 (w1.alloc (.cells #[.string ⟨#[]⟩,.int .i64 0,.int .u64 0,.bool false,.string ⟨#[]⟩,.int .u64 0,.slice none 0 0,.slice none 0 0] 153)).drew:=by have:=(Below.refl w1.heap.size w1).alloc (Qn _) (.cells #[.string ⟨#[]⟩,.int .i64 0,.int .u64 0,.bool false,.string ⟨#[]⟩,.int .u64 0,.slice none 0 0,.slice none 0 0] 153);exact zTy);have hx2:((w1.alloc (.cells #[.string ⟨#[]⟩,.int .i64 0,.int .u64 0,.bool false,.string ⟨#[]⟩,.int .u64 0,.slice none 0 0,.slice none 0 0] 153)).drew).heap[w1.heap.size]? =_:=qH w1 (.cells #[.string ⟨#[]⟩,.int .i64 0,.int .u64 0,.bool false,.string ⟨#[]⟩,.int .u64 0,.slice none 0 0,.slice none 0 0] 153);have HB2:=Hd hb2;have HX2:=Hd hx2;refine hK _ _ ((HS.out _).2 (Keep.ofBelow hb2)) ?_;clear hK K hb2 hx2;refine yX ?_;refine zi rfl (by rfl) (fun K hK=> ?_);go_simp;go_at_call 70;refine(HAt.out _ (qT HB0.out HB2.out)).mono ?_;rintro e w3⟨rfl,hb3⟩;have hb3':=qT HB2.out hb3;have HBu:=Hd (qT HB0.out hb3');have HXu:=Hd (qB hb3 HX2.out);have HB3:=Hd hb3';refine hK _ _ ((HS.out _).2 (Keep.ofBelow hb3')) ?_;clear hK K hb3 hb3';(iterate 2 first|(refine wpW_passed rfl (by rfl) (fun K hK=> ?_);go_simp;refine hK _ ?_;clear hK K)|(refine yQ rfl (by rfl) (fun K hK=> ?_);apply Exists.intro;refine⟨fun u hu=> ?_,?_⟩;(·exact zQ5);go_simp;refine hK _ ?_;clear hK K));refine zAj ?_;simp only[List.drop_succ_cons,List.drop_zero];obtain⟨xb,hxb⟩:=qN w1.heap.size;obtain⟨u0,hu0⟩:=qN w3;have HXb:=Hd (show w.heap.size≤xb by rw[←hxb];have h1:=HB0.out.size;omega);exact zTx
theorem zNW{n:It}{L:List It}{d:Bool}{k:Nat}(hk:k<L.length):goL n d (L.drop k)=(if !d&& !decide (bLt L[k].key n.key)then[n]else[])++((if L[k].key=n.key then[]else[L[k]])++goL n (d|| !decide (bLt L[k].key n.key)) (L.drop (k+1))):=by
 rw[List.drop_eq_getElem_cons hk,goL]
structure SetI(w u9:World)(nw:It)(L:List It)(n k:Nat)(X:List It)(d:Bool)(l:Value)(wr:World):Prop where
 kn:k≤n
 row:wr.ownsRow u9.heap.size 156 2 l X.length (itV X)
 vs:∀it∈X,VsAt w it.val it.vs
 few:X.length≤2*k
 eq:X++goL nw d (L.drop k)=goL nw false L
 below:Below u9.heap.size u9 wr
theorem zPV{p:Prop}(h:p:=by rw[HB8.out.cell (p:=⟨gi,k*2,none⟩) HGl.out,←HB.out.cell (p:=⟨gi,k*2,none⟩) HGl.out];exact HQ0.out):p:=h
theorem zPW{p:Prop}(h:p:=by rw[HB8.out.cell (p:=⟨gi,k*2+1,none⟩) HGl.out,←HB.out.cell (p:=⟨gi,k*2+1,none⟩) HGl.out];exact HQ1.out):p:=h
theorem zPX{p:Prop}(h:p:=by rw[HB8.out.cell (p:=⟨xb,6,none⟩) HXl.out];exact Qc HX9.out 6):p:=h
theorem zTz{p:Prop}(h:p:=by intro x hx;rcases List.mem_append.1 hx with e|e;(·exact HIi.out.vs x e);·rw[List.mem_singleton.1 e];exact HOld.out):p:=h
theorem zQ6{p:Prop}(h:p:=by rw[HL1.out];have:=HIi.out.few;rw[HXl2.out]at this;omega):p:=h
theorem zPY{p:Prop}(h:p:=by have h9:xb<w.heap.size+1:=HV10.out _ e;omega):p:=h
theorem zPZ{p:Prop}(h:p:=by have h9:u9.heap.size≤w.heap.size+1:=(HL10.out.lt _ e).1;have:=HXl.out;omega):p:=h
theorem zNX{w:World}{v:Value}{b0:Bk}{L:List It}(h:BksAt w v [b0])(hi:ItsAt w b0.its L)(hl:L.length≤1000)(nx:Nat)(item:QB){all:Value}{vs:List Vd}(ha:VsAt w all vs)(hne:vs≠[]):Calls prog 123 #[.agg #[v,.int .u64 nx],.string b0.name,.string item,all] w fun e w'=>∃v' its',e= .returned (.agg #[v',.int .u64 nx])∧BksAt w' v' [⟨b0.name,b0.state,b0.born,its'⟩]∧ItsAt w' its' (goL ⟨item,vs,all⟩ false L)∧(∀g,its'.ownBlock=some g→w.heap.size≤g)∧(∀g,v'.ownBlock=some g→w.heap.size≤g)∧Below w.heap.size w w':=by
 obtain⟨i0,hi0,hz0,hz1,hz2⟩:=info_parts zQ4
 have HI:=Hd hi0
 have Hz0:=Hd hz0
 have Hz1:=Hd hz1
 have Hz2:=Hd hz2
 have HH:=Hd h
 have hrow:w.ownsRow 0 153 8 v 1 (bkR b0):=h
 obtain⟨gs,cs,hv,hc1,hc2,hgB⟩:=zH hrow (by decide)
 subst hv
 have HRow:=Hd hrow
 have HAt:=Hd (fun(u:World)(hu:Below w.heap.size w u)=>zAw (h.still hu) (by simp) nx b0.name)
 have e0:atF b0.name [b0] 0=0:=by simp[atF]
 rw[e0]at HAt
 obtain⟨bn,bst,bo,its⟩:=b0
 have hirow:=hi.row
 obtain⟨ia,ic,hits⟩:=zA hirow
 obtain⟨n,hn⟩:=qN L.length
 rw[hn]at hirow hits hl
 obtain rfl:its= .slice ia n ic:=hits
 have hal:0<vs.length:=List.length_pos_iff.2 hne
 have HAl:=Hd ha
 obtain⟨aa,ac,hall⟩:=zA (show w.ownsRow 0 135 5 all vs.length (vdV vs)from ha)
 obtain⟨al,hal2⟩:=qN vs.length
 rw[hal2]at hall hal
 subst hall
 have ea:((al:Int)==0)=false:=by simp;omega
 have HW:=Hd (fun(u:World)(hu:Below w.heap.size w u)(la:Option Addr)(xl lc:Nat)=>zF4 (b0:=⟨bn,bst,bo,.slice ia n ic⟩) (b:=⟨bn,bst,bo,.slice la xl lc⟩) (HH.out.still hu) rfl ⟨_,_,_,rfl⟩ nx)
 unfold bkA at HW
 simp only at HW
 obtain⟨nw,hnw⟩:∃nw:It,nw=⟨item,vs,.slice aa al ac⟩:=⟨_,rfl⟩
 have HNw:=Hd (show nw.key=item∧nw.val= .slice aa al ac∧nw.vs=vs by rw[hnw];exact⟨rfl,rfl,rfl⟩)
 rw[←hnw]
 have HIr:=Hd hirow
 have HVs:=Hd hi.vs
 have HN:=Hd hn
 have hb1:Below w.heap.size w ((w.alloc (.cells #[.slice (some ⟨gs,0,none⟩) 1 cs,.int .u64 nx] 53)).alloc (.cells #[.slice none 0 0,.int .u64 0] 53)):=(qA).alloc (by simp) _
 have hx0:((w.alloc (.cells #[.slice (some ⟨gs,0,none⟩) 1 cs,.int .u64 nx] 53)).alloc (.cells #[.slice none 0 0,.int .u64 0] 53)).heap[w.heap.size]? =some (.cells #[.slice (some ⟨gs,0,none⟩) 1 cs,.int .u64 nx] 53 (0,0)):=alloc_old (zN rfl)
 have hx1:((w.alloc (.cells #[.slice (some ⟨gs,0,none⟩) 1 cs,.int .u64 nx] 53)).alloc (.cells #[.slice none 0 0,.int .u64 0] 53)).heap[w.heap.size+1]? =some (.cells #[.slice none 0 0,.int .u64 0] 53 (0,0)):=zN (by simp)
 have HB1:=Hd hb1
 have HX0:=Hd hx0
 have HX1:=Hd hx1
 obtain⟨⟨m0,m1⟩,-⟩:=zj hx0
 simp only at HAt
 clear hi0 hz0 hz1 hz2 h hi hrow e0 hirow hn ha hne hal2 hnw hb1 hx0 hx1
 go_enter func123,ntmps123
 go_wp2_with(go_at_call 70;refine(HAt.out _ HB1.out).mono ?_;rintro e w2⟨rfl,hb2⟩;have hb2':=qT HB1.out hb2;have hx0:=qB hb2 HX0.out;have hx1:=qB hb2 HX1.out;have hx3:=qH w2 (.cells #[.string ⟨#[]⟩,.int .i64 0,.int .u64 0,.bool false,.string ⟨#[]⟩,.int .u64 0,.slice none 0 0,.slice none 0 0] 153);have HX0':=Hd hx0;have HX1':=Hd hx1;have HB3:=Hd hb2';have hsz:w.heap.size≤w2.heap.size:=hb2'.size;have hlt1:w.heap.size+1<w2.heap.size:=(Gl hx1);obtain⟨⟨m0,m1⟩,-⟩:=zj hx0;obtain⟨d0,d1,d2,d3,d4,d5,d6,d7⟩:=zG0 ((Keep.still hb2').ownsRow HRow.out (fun _ _ e=>e));simp only at d0 d1 d2 d6;obtain⟨⟨z0,z1,z2,z3,z4,z5,z6,z7⟩,y0,y1,y2,y3,y4,y5,y6,y7⟩:=zEz hx3;clear hb2 hb2' hx0 hx1 hx3)
 clear m0 m1 d0 d1 d2 d3 d4 d5 d6 d7 z0 z1 z2 z3 z4 z5 z6 z7 y0 y1 y2 y3 y4 y5 y6 y7
 obtain⟨xb,hxb⟩:=qN w2.heap.size
 rw[hxb]at hsz hlt1⊢
 obtain⟨u9,hu9⟩:=qN (w2.alloc (.cells #[.string bn,.int .i64 bst,.int .u64 bo,.bool false,.string ⟨#[]⟩,.int .u64 0,.slice ia n ic,.slice none 0 0] 153))
 have hxs:u9.heap[xb]? =some (.cells #[.string bn,.int .i64 bst,.int .u64 bo,.bool false,.string ⟨#[]⟩,.int .u64 0,.slice ia n ic,.slice none 0 0] 153 (0,0)):=by rw[←hu9];exact zN hxb
 have hbs:Below w.heap.size w u9:=by rw[←hu9];exact HB3.out.alloc HB3.out.size _
 have hx0:u9.heap[w.heap.size]? =some (.cells #[.slice (some ⟨gs,0,none⟩) 1 cs,.int .u64 nx] 53 (0,0)):=by rw[←hu9];exact alloc_old HX0'.out
 have hx1:u9.heap[w.heap.size+1]? =some (.cells #[.slice none 0 0,.int .u64 0] 53 (0,0)):=by rw[←hu9];exact alloc_old HX1'.out
 rw[hu9]
 clear hxb HX0' HX1' HB3
 have HX9:=Hd hxs
 have HM9:=Hd hx0
 have HR9:=Hd hx1
 have HI9:=Hd ((Keep.still hbs).ownsRow HIr.out (fun _ _ e=>e))
 have HB9:=Hd hbs
 have HXl:=Hd (Gl hxs)
 clear hxs hbs hx0 hx1 hu9
 go_loopw [11,12,13](fun l d i wr=>∃(k:Nat)(X:List It)(b:Bool),i= .int .i64 k∧d= .bool b∧SetI w u9 nw L n k X b l wr)(fun _ _ i _=>n-(intOf i).toNat)
 case atStart=>exact⟨0,[],false,rfl,rfl,⟨by omega,qO,fun it hi=>(by cases hi),by decide,rfl,Below.refl _ _⟩⟩
 case round=>obtain⟨k,X,b,rfl,rfl,hI⟩:=hrel;have hk:=hI.kn;have hro:=hI.row;obtain⟨la,lc,hlv⟩:=zA hro;obtain⟨xl,hxl⟩:=qN X.length;rw[hxl]at hro hlv;subst hlv;have HIi:=Hd hI;have HRo:=Hd hro;have HXl2:=Hd hxl;have hfew:=hI.few;rw[hxl]at hfew;have HB:=Hd hI.below;(have c6:wr.cell? ⟨xb,6,none⟩=some (.slice ia n ic):=by rw[HB.out.cell (p:=⟨xb,6,none⟩) HXl.out];exact Qc HX9.out 6);have C6:=Hd c6;have hszr:u9.heap.size≤wr.heap.size:=HB.out.size;clear hI hro hxl;by_cases hlt:k<n;(·(have hkl:k<L.length:=by rw[HN.out];exact hlt);(have g1:decide ((k:Int)<(n:Int))=true:=by simp;omega);(have g1':decide (k<n)=true:=by simpa using hlt);(have k0:(0:Int)≤(k:Int):=by omega);(have k1:(k:Int)<(n:Int):=by omega);obtain⟨gi,ci,hs,hi1,hi2,hiB⟩:=zH HI9.out (by omega);obtain⟨e1,e2,e3⟩:=Value.slice.inj hs;subst e1;have hgl:=(HI9.out.lt gi rfl).2;have q0:=zC HI9.out (k*2+0) _ (zBY (f:=itC) (fun _=>rfl) hkl (c:=0) rfl);have q1:=zC HI9.out (k*2+1) _ (zBY (f:=itC) (fun _=>rfl) hkl (c:=1) rfl);have hvs:=HVs.out _ (List.getElem_mem hkl);have heq:=HIi.out.eq;rw[zNW hkl]at heq;obtain⟨it,hit⟩:=qN (L[k]);rw[hit]at q0 q1 heq hvs;rw[Nat.add_zero]at q0;obtain⟨key,vs',val⟩:=it;simp only at q0 q1 heq hvs;obtain⟨va',vc',hval⟩:=zA (show w.ownsRow 0 135 5 val vs'.length (vdV vs')from hvs);obtain⟨vl',hvl⟩:∃vl',vs'.length=vl':=⟨_,rfl⟩;rw[hvl]at hval;subst hval;rw[HNw.out.1]at heq;rw[←HB.out.cell (p:=⟨gi,k*2,none⟩) hgl]at q0;rw[←HB.out.cell (p:=⟨gi,k*2+1,none⟩) hgl]at q1;have HEq:=Hd heq;have HVs2:=Hd (show VsAt w (.slice va' vl' vc') vs' from hvs);have HQ0:=Hd q0;have HQ1:=Hd q1;have HGl:=Hd hgl;clear hs e2 e3 heq hit hvs hvl hgl;have HOld:=Hd (show VsAt w (It.mk key vs' (.slice va' vl' vc')).val (It.mk key vs' (.slice va' vl' vc')).vs from HVs2.out);have HNew:=Hd (show VsAt w nw.val nw.vs by rw[HNw.out.2.1,HNw.out.2.2];exact HAl.out);(have hL1:∀x:It,(X++[x]).length=xl+1:=fun x=>by rw[Ql,HXl2.out];rfl);(have hL2:∀x y:It,((X++[x])++[y]).length=xl+1+1:=fun x y=>by rw[Ql,hL1];rfl);have HL1:=Hd hL1;have HL2:=Hd hL2;clear hL1 hL2;(have hnwc:itC nw=[.string item,.slice aa al ac]:=by unfold itC;rw[HNw.out.1,HNw.out.2.1]);have HNc:=Hd hnwc;clear hnwc;cases b with|true=>by_cases he:key=item;(·subst he;(have e4:(key.toList==key.toList)=true:=by simp);go_wp2;go_roundw;(case rel=>refine⟨k+1,X,true,by go_num,rfl,⟨by omega,by rw[HXl2.out];exact HRo.out,HIi.out.vs,by have:=HIi.out.few;omega,?_,HB.out⟩⟩;have:=HEq.out;simpa using this);case measure=>simp[intOf];omega);(·(have e4:(key.toList==item.toList)=false:=by rw[vo];simpa using he);go_wp2_with(at_builtin;refine wpList_append_own_at _ (by rfl) _ _ 150 (by rfl) u9.heap.size 156 i0 (.agg #[.string ⟨#[]⟩,.slice none 0 0]) 2 40 underlying150 HI.out Hz0.out Hz1.out Hz2.out (by rfl) (by decide) _ _ _ (by rfl) (HRo.out.alloc _) ⟨wr.heap.size,0,none⟩ 1 1 [.string key,(.slice va' vl' vc')] (by rfl) (by rfl) (World.news_of_block (cs:= #[.string key,(.slice va' vl' vc')]) (t:=156) (fr:=(0,0)) (qH wr _)) (by simp[Value.oneCell']) (by unfold maxLen;omega) (by omega) ?_ ?_;(·simp;omega);intro v8 w8 hown8 hg8 hnil8 hloc8;have hk8:=((Keep.refl (fun q=>Value.ownBlock (.slice la xl lc)=some q) wr).alloc (.cells #[.string key,(.slice va' vl' vc')] 156)).grown hg8 (fun q _ e=>e);have HB8:=Hd (show Below u9.heap.size u9 w8 from HB.out.trans (hk8.below (by omega) (fun z hz e=>by have:=(HRo.out.lt z e).1;omega)));obtain⟨p8,c8,hv8⟩:=zA hown8;subst hv8;have HO8:=Hd hown8;have hsz8:u9.heap.size≤w8.heap.size:=HB8.out.size;(have q0:w8.cell? ⟨gi,k*2,none⟩=some (.string key):=by exact zPV);(have q1:w8.cell? ⟨gi,k*2+1,none⟩=some (.slice va' vl' vc'):=by exact zPW);(have c6:w8.cell? ⟨xb,6,none⟩=some (.slice (some ⟨gi,0,none⟩) n ic):=by exact zPX);clear hown8 hg8 hnil8 hloc8 hk8);go_roundw;(case rel=>refine⟨k+1,X++[⟨key,vs',.slice va' vl' vc'⟩],true,by go_num,rfl,⟨by omega,?_,?_,?_,?_,HB8.out⟩⟩;(·rw[HL1.out,zAX];exact HO8.out);(·exact zTz);(·exact zQ6);·have:=HEq.out;rw[if_neg he]at this;simpa using this);case measure=>simp[intOf];omega)|false=>by_cases hlt2:bLt key item;(·(have hne2:key≠item:=fun e=>by rw[e]at hlt2;exact zQ _ hlt2);(have e5:(Op.bytesLess item.toList key.toList)=false:=by rw[xE];simpa using yB hlt2);(have e6:(item.toList==key.toList)=false:=by rw[vo];simpa using Ne.symm hne2);(have e4:(key.toList==item.toList)=false:=by rw[vo];simpa using hne2);go_wp2_with(at_builtin;refine wpList_append_own_at _ (by rfl) _ _ 150 (by rfl) u9.heap.size 156 i0 (.agg #[.string ⟨#[]⟩,.slice none 0 0]) 2 40 underlying150 HI.out Hz0.out Hz1.out Hz2.out (by rfl) (by decide) _ _ _ (by rfl) (HRo.out.alloc _) ⟨wr.heap.size,0,none⟩ 1 1 [.string key,(.slice va' vl' vc')] (by rfl) (by rfl) (World.news_of_block (cs:= #[.string key,(.slice va' vl' vc')]) (t:=156) (fr:=(0,0)) (qH wr _)) (by simp[Value.oneCell']) (by unfold maxLen;omega) (by omega) ?_ ?_;(·simp;omega);intro v8 w8 hown8 hg8 hnil8 hloc8;have hk8:=((Keep.refl (fun q=>Value.ownBlock (.slice la xl lc)=some q) wr).alloc (.cells #[.string key,(.slice va' vl' vc')] 156)).grown hg8 (fun q _ e=>e);have HB8:=Hd (show Below u9.heap.size u9 w8 from HB.out.trans (hk8.below (by omega) (fun z hz e=>by have:=(HRo.out.lt z e).1;omega)));obtain⟨p8,c8,hv8⟩:=zA hown8;subst hv8;have HO8:=Hd hown8;have hsz8:u9.heap.size≤w8.heap.size:=HB8.out.size;(have q0:w8.cell? ⟨gi,k*2,none⟩=some (.string key):=by exact zPV);(have q1:w8.cell? ⟨gi,k*2+1,none⟩=some (.slice va' vl' vc'):=by exact zPW);(have c6:w8.cell? ⟨xb,6,none⟩=some (.slice (some ⟨gi,0,none⟩) n ic):=by exact zPX);clear hown8 hg8 hnil8 hloc8 hk8);go_roundw;(case rel=>refine⟨k+1,X++[⟨key,vs',.slice va' vl' vc'⟩],false,by go_num,rfl,⟨by omega,?_,?_,?_,?_,HB8.out⟩⟩;(·rw[HL1.out,zAX];exact HO8.out);(·exact zTz);(·exact zQ6);·have:=HEq.out;rw[if_neg hne2,decide_eq_true hlt2]at this;simpa using this);case measure=>simp[intOf];omega);·by_cases he:key=item;(·(have e4:(key.toList==item.toList)=true:=by rw[he];simp);(have e6:(item.toList==key.toList)=true:=by rw[he];simp);go_wp2_with(at_builtin;refine wpList_append_own_at _ (by rfl) _ _ 150 (by rfl) u9.heap.size 156 i0 (.agg #[.string ⟨#[]⟩,.slice none 0 0]) 2 40 underlying150 HI.out Hz0.out Hz1.out Hz2.out (by rfl) (by decide) _ _ _ (by rfl) (HRo.out.alloc _) ⟨wr.heap.size,0,none⟩ 1 1 [.string item,(.slice aa al ac)] (by rfl) (by rfl) (World.news_of_block (cs:= #[.string item,(.slice aa al ac)]) (t:=156) (fr:=(0,0)) (qH wr _)) (by simp[Value.oneCell']) (by unfold maxLen;omega) (by omega) ?_ ?_;(·simp;omega);intro v8 w8 hown8 hg8 hnil8 hloc8;have hk8:=((Keep.refl (fun q=>Value.ownBlock (.slice la xl lc)=some q) wr).alloc (.cells #[.string item,(.slice aa al ac)] 156)).grown hg8 (fun q _ e=>e);have HB8:=Hd (show Below u9.heap.size u9 w8 from HB.out.trans (hk8.below (by omega) (fun z hz e=>by have:=(HRo.out.lt z e).1;omega)));obtain⟨p8,c8,hv8⟩:=zA hown8;subst hv8;have HO8:=Hd hown8;have hsz8:u9.heap.size≤w8.heap.size:=HB8.out.size;(have q0:w8.cell? ⟨gi,k*2,none⟩=some (.string key):=by exact zPV);(have q1:w8.cell? ⟨gi,k*2+1,none⟩=some (.slice va' vl' vc'):=by exact zPW);(have c6:w8.cell? ⟨xb,6,none⟩=some (.slice (some ⟨gi,0,none⟩) n ic):=by exact zPX);clear hown8 hg8 hnil8 hloc8 hk8);go_roundw;(case rel=>refine⟨k+1,X++[nw],true,by go_num,rfl,⟨by omega,?_,?_,?_,?_,HB8.out⟩⟩;(·rw[HL1.out,zAX,HNc.out];exact HO8.out);(·intro x hx;rcases List.mem_append.1 hx with e|e;(·exact HIi.out.vs x e);·rw[List.mem_singleton.1 e];exact HNew.out);(·exact zQ6);·have:=HEq.out;rw[if_pos he,decide_eq_false hlt2]at this;simpa using this);case measure=>simp[intOf];omega);·(have e4:(key.toList==item.toList)=false:=by rw[vo];simpa using he);(have e5:(Op.bytesLess item.toList key.toList)=true:=by rw[xE,decide_eq_true_eq];rcases xX key item with e|e|e;(·exact absurd e hlt2);(·exact absurd e he);·exact e);go_wp2_with(first|(at_builtin;refine wpList_append_own_at _ (by rfl) _ _ 150 (by rfl) u9.heap.size 156 i0 (.agg #[.string ⟨#[]⟩,.slice none 0 0]) 2 40 underlying150 HI.out Hz0.out Hz1.out Hz2.out (by rfl) (by decide) _ _ _ (by rfl) (HRo.out.alloc _) ⟨wr.heap.size,0,none⟩ 1 1 [.string item,(.slice aa al ac)] (by rfl) (by rfl) (World.news_of_block (cs:= #[.string item,(.slice aa al ac)]) (t:=156) (fr:=(0,0)) (qH wr _)) (by simp[Value.oneCell']) (by unfold maxLen;omega) (by omega) ?_ ?_;(·simp;omega);intro v8 w8 hown8 hg8 hnil8 hloc8;have hk8:=((Keep.refl (fun q=>Value.ownBlock (.slice la xl lc)=some q) wr).alloc (.cells #[.string item,(.slice aa al ac)] 156)).grown hg8 (fun q _ e=>e);have HB8:=Hd (show Below u9.heap.size u9 w8 from HB.out.trans (hk8.below (by omega) (fun z hz e=>by have:=(HRo.out.lt z e).1;omega)));obtain⟨p8,c8,hv8⟩:=zA hown8;subst hv8;have HO8:=Hd hown8;have hsz8:u9.heap.size≤w8.heap.size:=HB8.out.size;(have q0:w8.cell? ⟨gi,k*2,none⟩=some (.string key):=by exact zPV);(have q1:w8.cell? ⟨gi,k*2+1,none⟩=some (.slice va' vl' vc'):=by exact zPW);(have c6:w8.cell? ⟨xb,6,none⟩=some (.slice (some ⟨gi,0,none⟩) n ic):=by exact zPX);clear hown8 hg8 hnil8 hloc8 hk8)|(at_builtin;refine wpList_append_own_at _ (by rfl) _ _ 150 (by rfl) u9.heap.size 156 i0 (.agg #[.string ⟨#[]⟩,.slice none 0 0]) 2 40 underlying150 HI.out Hz0.out Hz1.out Hz2.out (by rfl) (by decide) _ _ _ (by rfl) (HO8.out.alloc _) ⟨w8.heap.size,0,none⟩ 1 1 [.string key,(.slice va' vl' vc')] (by rfl) (by rfl) (World.news_of_block (cs:= #[.string key,(.slice va' vl' vc')]) (t:=156) (fr:=(0,0)) (qH w8 _)) (by simp[Value.oneCell']) (by unfold maxLen;omega) (by omega) ?_ ?_;(·simp;omega);intro v10 w10 hown8 hg8 hnil8 hloc8;have hk8:=((Keep.refl (fun q=>Value.ownBlock (.slice p8 (xl+1) c8)=some q) w8).alloc (.cells #[.string key,(.slice va' vl' vc')] 156)).grown hg8 (fun q _ e=>e);have HB10:=Hd (show Below u9.heap.size u9 w10 from HB8.out.trans (hk8.below (by omega) (fun z hz e=>by have:=(HO8.out.lt z e).1;omega)));obtain⟨p10,c10,hv8⟩:=zA hown8;subst hv8;have HO10:=Hd hown8;have hsz10:u9.heap.size≤w10.heap.size:=HB10.out.size;(have q0:w10.cell? ⟨gi,k*2,none⟩=some (.string key):=by rw[HB10.out.cell (p:=⟨gi,k*2,none⟩) HGl.out,←HB.out.cell (p:=⟨gi,k*2,none⟩) HGl.out];exact HQ0.out);(have q1:w10.cell? ⟨gi,k*2+1,none⟩=some (.slice va' vl' vc'):=by rw[HB10.out.cell (p:=⟨gi,k*2+1,none⟩) HGl.out,←HB.out.cell (p:=⟨gi,k*2+1,none⟩) HGl.out];exact HQ1.out);(have c6:w10.cell? ⟨xb,6,none⟩=some (.slice (some ⟨gi,0,none⟩) n ic):=by rw[HB10.out.cell (p:=⟨xb,6,none⟩) HXl.out];exact Qc HX9.out 6);clear hown8 hg8 hnil8 hloc8 hk8));go_roundw;(case rel=>refine⟨k+1,(X++[nw])++[⟨key,vs',.slice va' vl' vc'⟩],true,by go_num,rfl,⟨by omega,?_,?_,?_,?_,HB10.out⟩⟩;(·rw[HL2.out,zAX,zAX,HNc.out];exact HO10.out);(·intro x hx;rcases List.mem_append.1 hx with e|e;(·rcases List.mem_append.1 e with e|e;(·exact HIi.out.vs x e);·rw[List.mem_singleton.1 e];exact HNew.out);·rw[List.mem_singleton.1 e];exact HOld.out);(·rw[HL2.out];have:=HIi.out.few;rw[HXl2.out]at this;omega);·have:=HEq.out;rw[if_neg he,decide_eq_false hlt2]at this;simpa using this);case measure=>simp[intOf];omega);·(obtain rfl:k=n:=by omega);(have g1:decide ((k:Int)<(k:Int))=false:=by simp);have HOn:=Hd HIi.out.eq;rw[List.drop_of_length_le (by rw[HN.out];exact Qn _)]at HOn;cases b with|true=>have x6:=(HB.out.block _ HXl.out).trans HX9.out;have xm:=qB HB.out HM9.out;have xr:=qB HB.out HR9.out;have HX6:=Hd x6;have HXr:=Hd xr;obtain⟨⟨m0,m1⟩,-⟩:=zj xm;obtain⟨⟨d0,d1,d2,d3,d4,d5,d6,d7⟩,y0,y1,y2,y3,y4,y5,y6,y7⟩:=zEz x6;(have ne1:w.heap.size≠xb:=by omega);(have ne2:xb≠w.heap.size:=by omega);clear x6 xm xr;go_wp2_with(go_at_call 120;have hb0:=qT HB9.out HB.out;have hb1:=hb0.setCell (p:=⟨xb,6,none⟩) (by show w.heap.size≤xb;omega) (.slice la xl lc);refine(HW.out _ hb1 la xl lc).mono ?_;rintro e w10⟨v10,rfl,hbk,hnew,hb10⟩;have hk1:Keep (fun q=>q=xb) wr (wr.setCell ⟨xb,6,none⟩ (.slice la xl lc)):=(Keep.refl (fun q=>q=xb) wr).setCell (p:=⟨xb,6,none⟩) (fun _=>rfl) _;have hr1:=hk1.at HXr.out (by omega);have hr2:=qB hb10 hr1;have hl1:=(Keep.still hb10).ownsRow (ownsRow_setCell_other HRo.out (a:=⟨xb,6,none⟩) (fun e=>by have:=(HRo.out.lt xb e).1;have:=HXl.out;omega) (.slice la xl lc)) (fun _ _ e=>e);have HR10:=Hd hr2;have HL10:=Hd hl1;have HB10:=Hd (qT hb1 hb10);have HN10:=Hd (fun g e=>Nat.le_trans hb1.size (hnew g e));have HV10:=Hd (show∀g,v10.ownBlock=some g→xb<g from fun g e=>by have h1:=hnew g e;rw[World.size_setCell]at h1;have h2:=HB.out.size;have h3:=HXl.out;omega);obtain⟨pa10,pc10,hv10⟩:=zA (show w10.ownsRow 0 153 8 v10 1 _ from hbk);subst hv10;have HK10:=Hd hbk;obtain⟨⟨r0,r1⟩,s0,s1⟩:=zj hr2;clear hb0 hb1 hbk hnew hb10 hk1 hr1 hr2 hl1 m0 m1 d0 d1 d2 d3 d4 d5 d6 d7 y0 y1 y2 y3 y4 y5 y6 y7);have x2:=heap_setCell_same _ (w.heap.size+1) 0 _ _ (.slice pa10 1 pc10) HR10.out;have x3:=heap_setCell_same _ (w.heap.size+1) 1 _ _ (.int .u64 nx) x2;have r2:=ownsRow_setCell_other (ownsRow_setCell_other (show w10.ownsRow 0 153 8 (.slice pa10 1 pc10) 1 _ from HK10.out) (a:=⟨w.heap.size+1,0,none⟩) (fun e=>by exact zPY) (.slice pa10 1 pc10)) (a:=⟨w.heap.size+1,1,none⟩) (fun e=>by exact zPY) (.int .u64 nx);have r3:=ownsRow_setCell_other (ownsRow_setCell_other HL10.out (a:=⟨w.heap.size+1,0,none⟩) (fun e=>by exact zPZ) (.slice pa10 1 pc10)) (a:=⟨w.heap.size+1,1,none⟩) (fun e=>by exact zPZ) (.int .u64 nx);have hb2:=(HB10.out.setCell (p:=⟨w.heap.size+1,0,none⟩) (by show w.heap.size≤w.heap.size+1;omega) (.slice pa10 1 pc10)).setCell (p:=⟨w.heap.size+1,1,none⟩) (by show w.heap.size≤w.heap.size+1;omega) (.int .u64 nx);refine bodyPost_ret (xW rfl _ _ (w.heap.size+1) _ _ _ _ rfl x3 underlying53 rfl (by kernel_rfl)) rfl ?_;(have hX:X=goL nw false L:=by have:=HOn.out;simpa[goL]using this);rw[←hX];exact⟨_,_,rfl,r2,⟨by rw[HXl2.out];exact zBJ r3,fun it hi=>(HIi.out.vs it hi).still hb2⟩,fun g e=>by have h9:=(r3.lt g e).1;have:=HXl.out;omega,HN10.out,hb2⟩|false=>(have hL1:(X++[nw]).length=xl+1:=by rw[Ql,HXl2.out];rfl);(have hnwc:itC nw=[.string item,.slice aa al ac]:=by unfold itC;rw[HNw.out.1,HNw.out.2.1]);have HL1:=Hd hL1;have HNc:=Hd hnwc;clear hL1 hnwc;go_wp2_with(first|(at_builtin;refine wpList_append_own_at _ (by rfl) _ _ 150 (by rfl) u9.heap.size 156 i0 (.agg #[.string ⟨#[]⟩,.slice none 0 0]) 2 40 underlying150 HI.out Hz0.out Hz1.out Hz2.out (by rfl) (by decide) _ _ _ (by rfl) (HRo.out.alloc _) ⟨wr.heap.size,0,none⟩ 1 1 [.string item,.slice aa al ac] (by rfl) (by rfl) (World.news_of_block (cs:= #[.string item,.slice aa al ac]) (t:=156) (fr:=(0,0)) (qH wr _)) (by simp[Value.oneCell']) (by unfold maxLen;omega) (by omega) ?_ ?_;(·simp;omega);intro v8 w8 hown8 hg8 hnil8 hloc8;have hk8:=((Keep.refl (fun q=>Value.ownBlock (.slice la xl lc)=some q) wr).alloc (.cells #[.string item,.slice aa al ac] 156)).grown hg8 (fun q _ e=>e);have HB8:=Hd (show Below u9.heap.size u9 w8 from HB.out.trans (hk8.below (by omega) (fun z hz e=>by have:=(HRo.out.lt z e).1;omega)));obtain⟨p8,c8,hv8⟩:=zA hown8;subst hv8;have HO8:=Hd hown8;have hsz8:u9.heap.size≤w8.heap.size:=HB8.out.size;have x6:=(HB8.out.block _ HXl.out).trans HX9.out;have xm:=qB HB8.out HM9.out;have xr:=qB HB8.out HR9.out;have HX6:=Hd x6;have HXr:=Hd xr;obtain⟨⟨m0,m1⟩,-⟩:=zj xm;obtain⟨⟨d0,d1,d2,d3,d4,d5,d6,d7⟩,y0,y1,y2,y3,y4,y5,y6,y7⟩:=zEz x6;(have ne1:w.heap.size≠xb:=by omega);(have ne2:xb≠w.heap.size:=by omega);clear hown8 hg8 hnil8 hloc8 hk8 x6 xm xr)|(go_at_call 120;have hb0:=qT HB9.out HB8.out;have hb1:=hb0.setCell (p:=⟨xb,6,none⟩) (by show w.heap.size≤xb;omega) (.slice p8 (xl+1) c8);refine(HW.out _ hb1 p8 (xl+1) c8).mono ?_;rintro e w10⟨v10,rfl,hbk,hnew,hb10⟩;have hk1:Keep (fun q=>q=xb) w8 (w8.setCell ⟨xb,6,none⟩ (.slice p8 (xl+1) c8)):=(Keep.refl (fun q=>q=xb) w8).setCell (p:=⟨xb,6,none⟩) (fun _=>rfl) _;have hr1:=hk1.at HXr.out (by omega);have hr2:=qB hb10 hr1;have hl1:=(Keep.still hb10).ownsRow (ownsRow_setCell_other HO8.out (a:=⟨xb,6,none⟩) (fun e=>by have:=(HO8.out.lt xb e).1;have:=HXl.out;omega) (.slice p8 (xl+1) c8)) (fun _ _ e=>e);have HR10:=Hd hr2;have HL10:=Hd hl1;have HB10:=Hd (qT hb1 hb10);have HN10:=Hd (fun g e=>Nat.le_trans hb1.size (hnew g e));have HV10:=Hd (show∀g,v10.ownBlock=some g→xb<g from fun g e=>by have h1:=hnew g e;rw[World.size_setCell]at h1;have h2:=HB8.out.size;have h3:=HXl.out;omega);obtain⟨pa10,pc10,hv10⟩:=zA (show w10.ownsRow 0 153 8 v10 1 _ from hbk);subst hv10;have HK10:=Hd hbk;obtain⟨⟨r0,r1⟩,s0,s1⟩:=zj hr2;clear hb0 hb1 hbk hnew hb10 hk1 hr1 hr2 hl1 m0 m1 d0 d1 d2 d3 d4 d5 d6 d7 y0 y1 y2 y3 y4 y5 y6 y7));have x2:=heap_setCell_same _ (w.heap.size+1) 0 _ _ (.slice pa10 1 pc10) HR10.out;have x3:=heap_setCell_same _ (w.heap.size+1) 1 _ _ (.int .u64 nx) x2;have r2:=ownsRow_setCell_other (ownsRow_setCell_other (show w10.ownsRow 0 153 8 (.slice pa10 1 pc10) 1 _ from HK10.out) (a:=⟨w.heap.size+1,0,none⟩) (fun e=>by exact zPY) (.slice pa10 1 pc10)) (a:=⟨w.heap.size+1,1,none⟩) (fun e=>by exact zPY) (.int .u64 nx);have r3:=ownsRow_setCell_other (ownsRow_setCell_other HL10.out (a:=⟨w.heap.size+1,0,none⟩) (fun e=>by exact zPZ) (.slice pa10 1 pc10)) (a:=⟨w.heap.size+1,1,none⟩) (fun e=>by exact zPZ) (.int .u64 nx);have hb2:=(HB10.out.setCell (p:=⟨w.heap.size+1,0,none⟩) (by show w.heap.size≤w.heap.size+1;omega) (.slice pa10 1 pc10)).setCell (p:=⟨w.heap.size+1,1,none⟩) (by show w.heap.size≤w.heap.size+1;omega) (.int .u64 nx);refine bodyPost_ret (xW rfl _ _ (w.heap.size+1) _ _ _ _ rfl x3 underlying53 rfl (by kernel_rfl)) rfl ?_;(have hX:X++[nw]=goL nw false L:=by have:=HOn.out;simpa[goL]using this);rw[←hX];refine⟨_,_,rfl,r2,⟨by rw[HL1.out,zAX,HNc.out];exact zBJ r3,fun it hi=> ?_⟩,fun g e=>by have h9:=(r3.lt g e).1;have:=HXl.out;omega,HN10.out,hb2⟩;rcases List.mem_append.1 hi with e|e;(·exact(HIi.out.vs it e).still hb2);·rw[List.mem_singleton.1 e,HNw.out.2.1,HNw.out.2.2];exact HAl.out.still hb2
def okC(c:UInt8):Bool:=(decide (97≤c.toNat)&&decide (c.toNat≤122))||((decide (48≤c.toNat)&&decide (c.toNat≤57))||decide (c.toNat=45))
def zG1(s:QB):Bool:=decide (3≤s.size)&&(decide (s.size≤16)&&(!decide (s.data.toList.head? =some 45)&&(!decide (s.data.toList.getLast? =some 45)&&s.data.toList.all okC)))
theorem zF5(c:UInt8):okC c=alphaB.data.toList.contains c:=by
 have:∀n:Fin 256,okC (UInt8.ofNat n.1)=alphaB.data.toList.contains (UInt8.ofNat n.1):=by decide+kernel
 have h:=this ⟨c.toNat,c.toNat_lt⟩
 rwa [show UInt8.ofNat c.toNat=c from UInt8.ofNat_toNat]at h
theorem zNY{p:UInt8→Bool}{m:List UInt8}(h:(m.dropWhile p).length=m.length):∀b,m.head? =some b→p b=false:=by
 cases m with|nil=>intro b hb;cases hb|cons a t=>intro b hb;cases hb;by_cases hp:p a=true;(·rw[List.dropWhile_cons_of_pos hp]at h;have h2:=(List.dropWhile_sublist p (l:=t)).length_le;rw[h,List.length_cons]at h2;omega);·simpa using hp
theorem zG2{p:UInt8→Bool}{m:List UInt8}(h:∀b,m.head? =some b→p b=false):m.dropWhile p=m:=by
 cases m with|nil=>rfl|cons a t=>rw[List.dropWhile_cons_of_neg (by rw[h a rfl];simp)]
theorem zPa{p:UInt8→Bool}{m:List UInt8}(h:∀b∈m,p b=true):m.dropWhile p=[]:=by
 induction m with|nil=>rfl|cons a t ih=>rw[List.dropWhile_cons_of_pos (h a (by simp)),ih (fun b hb=>h b (by simp[hb]))]
theorem zLo{l cs:List UInt8}:Lib.trimS l cs=l↔(∀b,l.head? =some b→cs.contains b=false)∧(∀b,l.getLast? =some b→cs.contains b=false):=by
 unfold Lib.trimS Lib.trimLeftS Lib.trimRightS
 constructor
 ·intro h;have hl:=congrArg List.length h;have h1:=(List.dropWhile_sublist (cs.contains ·) (l:=(l.reverse.dropWhile (cs.contains ·)).reverse)).length_le;have h2:=(List.dropWhile_sublist (cs.contains ·) (l:=l.reverse)).length_le;rw[List.length_reverse]at h1 h2;(have h3:(l.reverse.dropWhile (cs.contains ·)).length=l.reverse.length:=by rw[List.length_reverse];omega);have h4:=zNY h3;have e:l.reverse.dropWhile (cs.contains ·)=l.reverse:=zG2 h4;rw[e,List.reverse_reverse]at h;refine⟨zNY (congrArg List.length h),fun b hb=>h4 b ?_⟩;rw[List.head?_reverse];exact hb
 ·rintro⟨h1,h2⟩;rw[zG2 (m:=l.reverse) (fun b hb=>h2 b (by rw[List.head?_reverse]at hb;exact hb)),List.reverse_reverse,zG2 h1]
theorem zNZ{l cs:List UInt8}(h:∀x∈l,cs.contains x=true):Lib.trimS l cs=[]:=by
 unfold Lib.trimS Lib.trimLeftS Lib.trimRightS
 rw[zPa (m:=l.reverse) (fun b hb=>h b (List.mem_reverse.1 hb))]
 rfl
theorem zKR(l:List UInt8)(s:QB):(⟨l.toArray⟩:QB)=s↔l=s.data.toList:=by
 constructor
 ·intro h;rw[←h]
 ·intro h;subst h;apply ByteArray.ext;simp
theorem zG3(s:QB):zG1 s=zK s:=by
 rw[Bool.eq_iff_iff]
 unfold zG1 zK trimB
 simp only[Bool.and_eq_true,decide_eq_true_eq,Bool.not_eq_true',decide_eq_false_iff_not]
 rw[zKR,zKR,zLo]
 have hd:∀b:UInt8,dashB.data.toList.contains b=false↔b≠45:=by intro b;show[45].contains b=false↔_;simp
 have e:(⟨#[]⟩:QB).data.toList=[]:=rfl
 rw[e]
 constructor
 ·rintro⟨h1,h2,h3,h4,h5⟩;refine⟨h1,h2,⟨fun b hb=>(hd b).2 (fun e=>h3 (by rw[←e];exact hb)),fun b hb=>(hd b).2 (fun e=>h4 (by rw[←e];exact hb))⟩,zNZ (fun x hx=> ?_)⟩;rw[←zF5];exact List.all_eq_true.1 h5 x hx
 ·rintro⟨h1,h2,⟨h3,h4⟩,h5⟩;refine⟨h1,h2,fun e=>(hd 45).1 (h3 45 e) rfl,fun e=>(hd 45).1 (h4 45 e) rfl,List.all_eq_true.2 (fun x hx=> ?_)⟩;rw[zF5];exact zLc h5 x hx
theorem zG4{s:QB}{k:Nat}(hk:k<s.size)(h:nz (s.data.toList.take k))(hb:zG s k≠0):nz (s.data.toList.take (k+1)):=by
 have hl:k<s.data.toList.length:=by simpa using hk
 rw[List.take_succ_eq_append_getElem hl]
 intro c hc
 rcases List.mem_append.1 hc with e|e
 ·exact h c e
 ·rw[List.mem_singleton.1 e];intro e2;apply hb;unfold zG;rw[List.getD,Qg hl,e2];rfl
theorem zT1{p:Prop}(h:p:=by rw[show s.data.toList.length=s.size from Array.length_toList,HN.out];exact Qn _):p:=h
theorem zJv(s:QB)(hs:s.size≤1000000)(w:World):Calls prog 131 #[.string s] w fun e w'=>(∃x y,e= .returned (.tuple #[.string x,.string y,.bool (!zf s)]))∧Below w.heap.size w w':=by
 obtain⟨n,hn⟩:=qN s.size
 have HN:=Hd hn
 have n0:(n:Int)≤1000000:=by omega
 go_enter func131,ntmps131
 go_wp2_with(fail)
 go_loopw [5](fun i wr=>∃k:Nat,k≤n∧i= .int .i64 k∧wr=w∧nz (s.data.toList.take k))(fun i _=>n-(intOf i).toNat)
 case atStart=>exact⟨0,by omega,rfl,rfl,by rw[List.take_zero];intro c hc;cases hc⟩
 case round=>obtain⟨k,hk,rfl,rfl,hz⟩:=hrel;by_cases hlt:k<n;(·(have hks:k<s.size:=by omega);(have g1:decide ((k:Int)<(n:Int))=true:=by simp;omega);(have g1':decide (k<n)=true:=by simpa using hlt);(have k0:(0:Int)≤(k:Int):=by omega);(have k1:(k:Int)<(n:Int):=by omega);(have k2:(k:Int)≤(n:Int):=by omega);(have k3:(k:Int)+1≤(n:Int):=by omega);(have k4:IntKind.i64.wrap ((k:Int)+1)=(k:Int)+1:=by rw[IntKind.wrap_i64];omega);have hkx:=zL s k hks;obtain⟨c,hc⟩:=qN (zG s k);rw[hc]at hkx;have HZ:=Hd hz;have HC:=Hd hc;clear hz hc;by_cases h0:c=0;(·subst h0;(have e0:(((0:Nat):Int)==0)=true:=by simp);go_wp2_with(fail);go_quiet(fail);go_wp2_with(fail);go_ret3;refine⟨⟨s.extract 0 k,s.extract (k+1) n,?_⟩,rfl,rfl,rfl,Qn _,fun _ _=>rfl⟩;(have:zf s=false:=by rw[Bool.eq_false_iff];intro h;rw[yC]at h;(have hl:k<s.data.toList.length:=by simpa using hks);refine h _ (List.getElem_mem hl) ?_;have:=HC.out;unfold zG at this;rw[List.getD,Qg hl]at this;exact UInt8.toNat_inj.1 this);rw[this];rfl);·(have e0:((c:Int)==0)=false:=by simp;omega);go_wp2_with(fail);go_roundw;(case rel=>exact⟨k+1,by omega,by go_num,trivial,zG4 hks HZ.out (by rw[HC.out];exact h0)⟩);case measure=>simp[intOf];omega);·(obtain rfl:k=n:=by omega);(have g1:decide ((k:Int)<(k:Int))=false:=by simp);go_wp2_with(fail);go_ret3;refine⟨⟨⟨#[]⟩,⟨#[]⟩,?_⟩,Below.refl _ _⟩;(have:zf s=true:=by rw[yC];rw[Qk (by exact zT1)]at hz;exact hz);rw[this];rfl
theorem zT2{p:Prop}(h:p:=by go_enter func184,ntmps184;go_wp2_with(go_at_call 131;refine(HC.out).mono ?_;rintro e w1⟨⟨x,y,rfl⟩,hb⟩);go_ret;exact⟨rfl,hb⟩):p:=h
theorem zIX(s:QB)(hs:s.size≤1000000)(w:World):Calls prog 184 #[.string s] w fun e w'=>e= .returned (.bool (zP s))∧Below w.heap.size w w':=by
 have HC:=Hd (zJv s hs w)
 have hok:zP s=(!decide (s.size=0)&&(decide (s.size≤40)&&zf s)):=by unfold zP;(have e:decide (s=⟨#[]⟩)=decide (s.size=0):=by rw[decide_eq_decide];constructor;(·intro h;rw[h];rfl);·intro h;apply ByteArray.ext;exact Array.eq_empty_of_size_eq_zero h);rw[e]
 rw[hok]
 obtain⟨z,hz⟩:=qN (zf s)
 obtain⟨n,hn⟩:=qN s.size
 rw[hz]at HC⊢
 rw[hn]at hs⊢
 clear hok hz
 by_cases h0:n=0
 ·(have d0:decide ((1:Int)≤(n:Int))=false:=by simp;omega);(have d0':decide (1≤n)=false:=by simp;omega);(have e0:decide (n=0)=true:=by simpa using h0);rw[e0];exact zT2
 ·(have d0:decide ((1:Int)≤(n:Int))=true:=by simp;omega);(have d0':decide (1≤n)=true:=by simp;omega);(have e0:decide (n=0)=false:=by simpa using h0);rw[e0];by_cases h4:n≤40;(·(have d4:decide ((n:Int)≤40)=true:=by simp;omega);(have d4':decide (n≤40)=true:=by simpa using h4);rw[d4'];cases z;all_goals go_enter func184,ntmps184;go_wp2_with(go_at_call 131;refine(HC.out).mono ?_;rintro e w1⟨⟨x,y,rfl⟩,hb⟩);go_ret;exact⟨rfl,hb⟩);·(have d4:decide ((n:Int)≤40)=false:=by simp;omega);(have d4':decide (n≤40)=false:=by simpa using h4);rw[d4'];exact zT2
theorem zT3{p:Prop}(h:p:=by rw[Option.some.injEq,←UInt8.toNat_inj,UInt8.toNat_ofNat'];constructor<;>intro e<;>omega):p:=h
theorem zNa{s:QB}(h:0<s.size){c:Nat}(hc:c<256):s.data.toList.head? =some (UInt8.ofNat c)↔zG s 0=c:=by
 unfold zG
 have hl:0<s.data.toList.length:=by simpa using h
 rw[List.head?_eq_getElem?,List.getD,Qg hl]
 show some _=some _↔(s.data.toList[0]).toNat=c
 exact zT3
theorem zNb{s:QB}(h:0<s.size){c:Nat}(hc:c<256):s.data.toList.getLast? =some (UInt8.ofNat c)↔zG s (s.size-1)=c:=by
 unfold zG
 have hz:s.data.toList.length=s.size:=Array.length_toList
 have hl:s.size-1<s.data.toList.length:=by omega
 rw[List.getLast?_eq_getElem?,hz,List.getD,Qg hl]
 show some _=some _↔(s.data.toList[s.size-1]).toNat=c
 exact zT3
theorem zFM{s:QB}{k:Nat}(hk:k<s.size):(s.data.toList.take (k+1)).all okC=((s.data.toList.take k).all okC&&okC s[k]):=by
 have hl:k<s.data.toList.length:=by simpa using hk
 rw[List.take_succ_eq_append_getElem hl,List.all_append]
 simp
 rfl
theorem zPb{p:Prop}(h:p:=by subst hr;go_enter func75,ntmps75;go_wp2;go_ret;exact⟨rfl,rfl⟩):p:=h
theorem zT4{p:Prop}(h:p:=by (have p5:decide (c=45)=false:=by simp;omega);rw[p1]at q1;rw[p2]at q2;rw[p3]at q3;rw[p4]at q4;rw[p5]at q5;go_wp2_with(fail);go_roundw;(case rel=>exact⟨k+1,by omega,by go_num,trivial,by rw[HTs.out];simp[p1,p2,p3,p4,p5]⟩);case measure=>simp[intOf];omega):p:=h
theorem zT5{p:Prop}(h:p:=by (have p3:decide (48≤c)=true:=by simp;omega);(have p4:decide (c≤57)=false:=by simp;omega);(have p5:decide (c=45)=false:=by simp;omega);rw[p1]at q1;rw[p2]at q2;rw[p3]at q3;rw[p4]at q4;rw[p5]at q5;go_wp2_with(fail);go_ret;refine⟨?_,rfl⟩;(have h9:r=false:=by rw[←HRr.out,Bool.eq_false_iff];intro h;have h2:(s.data.toList.take (k+1)).all okC=true:=List.all_eq_true.2 (fun x hx=>List.all_eq_true.1 h x (List.mem_of_mem_take hx));rw[HTs.out]at h2;simp[p1,p2,p3,p4,p5]at h2);rw[h9];rfl):p:=h
theorem zUb{p:Prop}(h:p:=by rw[p1]at q1;rw[p2]at q2;rw[p3]at q3;rw[p4]at q4;rw[p5]at q5;go_wp2_with(fail);go_roundw;(case rel=>exact⟨k+1,by omega,by go_num,trivial,by rw[HTs.out];simp[p1,p2,p3,p4,p5]⟩);case measure=>simp[intOf];omega):p:=h
theorem zUc{p:Prop}(h:p:=by (have p5:decide (c=45)=false:=by simp;omega);rw[p1]at q1;rw[p2]at q2;rw[p3]at q3;rw[p4]at q4;rw[p5]at q5;go_wp2_with(fail);go_ret;refine⟨?_,rfl⟩;(have h9:r=false:=by rw[←HRr.out,Bool.eq_false_iff];intro h;have h2:(s.data.toList.take (k+1)).all okC=true:=List.all_eq_true.2 (fun x hx=>List.all_eq_true.1 h x (List.mem_of_mem_take hx));rw[HTs.out]at h2;simp[p1,p2,p3,p4,p5]at h2);rw[h9];rfl):p:=h
theorem k8(s:QB)(hs:s.size≤1000000)(w:World):Calls prog 75 #[.string s] w fun e w'=>e= .returned (.bool (zG1 s))∧w=w':=by
 obtain⟨n,hn⟩:=qN s.size
 have HN:=Hd hn
 obtain⟨r,hr⟩:=qN (zG1 s)
 have HR:=Hd hr
 rw[hr]
 clear hr
 by_cases h3:n<3
 ·(have d3:decide ((n:Int)<3)=true:=by simp;omega);(have d3':decide (n<3)=true:=by simpa using h3);(have hr:r=false:=by rw[←HR.out];unfold zG1;(have:decide (3≤s.size)=false:=by simp;omega);rw[this];rfl);exact zPb
 have d3:decide ((n:Int)<3)=false:=by simp;omega
 have d3':decide (n<3)=false:=by simp;omega
 by_cases h16:16<n
 ·(have d4:decide ((16:Int)<(n:Int))=true:=by simp;omega);(have d4':decide (16<n)=true:=by simpa using h16);(have hr:r=false:=by rw[←HR.out];unfold zG1;(have:decide (s.size≤16)=false:=by simp;omega);rw[this];simp);exact zPb
 have d4:decide ((16:Int)<(n:Int))=false:=by simp;omega
 have d4':decide (16<n)=false:=by simp;omega
 have hs0:0<s.size:=by omega
 have hk0:=zL s 0 hs0
 have hkl:=zL s (n-1) (by omega)
 have HF:=Hd (zNa hs0 (c:=45) (by decide))
 have HL:=Hd (zNb hs0 (c:=45) (by decide))
 obtain⟨c0,hc0⟩:∃c,zG s 0=c:=⟨_,rfl⟩
 obtain⟨cl,hcl⟩:∃c,zG s (n-1)=c:=⟨_,rfl⟩
 rw[hc0]at hk0 HF
 rw[hn,hcl]at HL
 rw[hcl]at hkl
 have b1:IntKind.i64.wrap ((n:Int)-1)=((n-1:Nat):Int):=by rw[IntKind.wrap_i64];omega
 have b2:(n:Int)-1=((n-1:Nat):Int):=by omega
 have b3:((n-1:Nat):Int)<(n:Int):=by omega
 have b4:(0:Int)<(n:Int):=by omega
 have b5:(0:Int)≤((n-1:Nat):Int):=by omega
 have b6:n-1<n:=by omega
 have b7:IntKind.i64.wrap ((n-1:Nat):Int)=((n-1:Nat):Int):=by rw[IntKind.wrap_i64];omega
 have b8:0<n:=by omega
 clear hc0 hcl
 by_cases h0:c0=45
 ·(have e0:((c0:Int)==45)=true:=by simp;omega);(have hr:r=false:=by rw[←HR.out];unfold zG1;(have:decide (s.data.toList.head? =some 45)=true:=by rw[decide_eq_true_eq];exact HF.out.2 h0);rw[this];simp);exact zPb
 have e0:((c0:Int)==45)=false:=by simp;omega
 by_cases h1:cl=45
 ·(have e1:((cl:Int)==45)=true:=by simp;omega);(have hr:r=false:=by rw[←HR.out];unfold zG1;(have:decide (s.data.toList.getLast? =some 45)=true:=by rw[decide_eq_true_eq];exact HL.out.2 h1);rw[this];simp);exact zPb
 have e1:((cl:Int)==45)=false:=by simp;omega
 have hrr:s.data.toList.all okC=r:=by rw[←HR.out];unfold zG1;(have g1:decide (3≤s.size)=true:=by simp;omega);(have g2:decide (s.size≤16)=true:=by simp;omega);(have g3:decide (s.data.toList.head? =some 45)=false:=by rw[decide_eq_false_iff_not];exact fun e=>h0 (HF.out.1 e));(have g4:decide (s.data.toList.getLast? =some 45)=false:=by rw[decide_eq_false_iff_not];exact fun e=>h1 (HL.out.1 e));rw[g1,g2,g3,g4];simp
 have HRr:=Hd hrr
 clear hrr
 go_enter func75,ntmps75
 go_wp2_with(fail)
 go_loopw [3](fun i wr=>∃k:Nat,k≤n∧i= .int .i64 k∧wr=w∧(s.data.toList.take k).all okC=true)(fun i _=>n-(intOf i).toNat)
 case atStart=>exact⟨0,by omega,rfl,rfl,by simp⟩
 case round=>obtain⟨k,hk,rfl,rfl,hz⟩:=hrel;have HZ:=Hd hz;clear hz hk0 hkl b1 b2 b3 b5 b6 b7 e0 e1;by_cases hlt:k<n;(·(have hks:k<s.size:=by omega);(have g1:decide ((k:Int)<(n:Int))=true:=by simp;omega);(have g1':decide (k<n)=true:=by simpa using hlt);(have k0:(0:Int)≤(k:Int):=by omega);(have k1:(k:Int)<(n:Int):=by omega);have hkx:=zL s k hks;have hts:=zFM hks;rw[HZ.out,Bool.true_and]at hts;obtain⟨c,hc⟩:=qN (zG s k);rw[hc]at hkx;(have hok:okC s[k]=((decide (97≤c)&&decide (c≤122))||((decide (48≤c)&&decide (c≤57))||decide (c=45))):=by unfold okC;rw[hkx]);(have hc256:c<256:=by rw[←hkx];exact s[k].toNat_lt);rw[hok]at hts;have HTs:=Hd hts;clear hok hts hc;(have q1:decide ((97:Int)≤(c:Int))=decide (97≤c):=by rw[decide_eq_decide];omega);(have q2:decide ((c:Int)≤122)=decide (c≤122):=by rw[decide_eq_decide];omega);(have q3:decide ((48:Int)≤(c:Int))=decide (48≤c):=by rw[decide_eq_decide];omega);(have q4:decide ((c:Int)≤57)=decide (c≤57):=by rw[decide_eq_decide];omega);(have q5:((c:Int)==45)=decide (c=45):=by rw[Bool.eq_iff_iff];simp;omega);by_cases x1:97≤c;(·by_cases x2:c≤122;(·have x0:=x1;(have p1:decide (97≤c)=true:=by simp;omega);(have p2:decide (c≤122)=true:=by simp;omega);(have p3:decide (48≤c)=true:=by simp;omega);(have p4:decide (c≤57)=false:=by simp;omega);exact zT4);·have x0:=x1;(have p1:decide (97≤c)=true:=by simp;omega);(have p2:decide (c≤122)=false:=by simp;omega);exact zT5);·by_cases x2:48≤c;(·by_cases x3:c≤57;(·have x0:=x1;(have p1:decide (97≤c)=false:=by simp;omega);(have p2:decide (c≤122)=true:=by simp;omega);(have p3:decide (48≤c)=true:=by simp;omega);(have p4:decide (c≤57)=true:=by simp;omega);exact zT4);·have x0:=x1;(have p1:decide (97≤c)=false:=by simp;omega);(have p2:decide (c≤122)=true:=by simp;omega);exact zT5);·by_cases x3:c=45;(·have x0:=x1;(have p1:decide (97≤c)=false:=by simp;omega);(have p2:decide (c≤122)=true:=by simp;omega);(have p3:decide (48≤c)=false:=by simp;omega);(have p4:decide (c≤57)=true:=by simp;omega);(have p5:decide (c=45)=true:=by simp;omega);exact zUb);·have x0:=x1;(have p1:decide (97≤c)=false:=by simp;omega);(have p2:decide (c≤122)=true:=by simp;omega);(have p3:decide (48≤c)=false:=by simp;omega);(have p4:decide (c≤57)=true:=by simp;omega);exact zUc);·(obtain rfl:k=n:=by omega);(have g1:decide ((k:Int)<(k:Int))=false:=by simp);go_wp2_with(fail);go_ret;(have h9:r=true:=by have:=HZ.out;rw[Qk (by exact zT1)]at this;rw[←HRr.out];exact this);exact⟨by rw[h9];rfl,rfl⟩
theorem zUd{p:Prop}(h:p:=by exact⟨rfl,qA⟩):p:=h
theorem zNc(w:World):Calls prog 58 #[] w fun e w'=>e= .returned (.agg #[.slice none 0 0,.int .u64 1])∧Below w.heap.size w w':=by
 have hx:=qH w (.cells #[.slice none 0 0,.int .u64 0] 53)
 obtain⟨⟨d0,d1⟩,y0,y1⟩:=zj hx
 go_enter func58,ntmps58
 go_wp2_with(fail)
 refine bodyPost_ret (xW rfl _ _ w.heap.size _ _ _ _ rfl (qH w _) underlying53 rfl (by kernel_rfl)) rfl ?_
 exact zUd
def zLp(Bs:List Bk)(name:QB):Int:=if zK name then(if atF name Bs 0<0 then 20 else 0)else 28
theorem zT6{p:Prop}(h:p:=by go_enter func67,ntmps67;go_wp2_with(first|(go_at_call 75;refine(HB.out _).mono ?_;rintro e w1⟨rfl,rfl⟩)|(go_at_call 70;refine(HAt.out).mono ?_;rintro e w2⟨rfl,hb2⟩));go_ret;exact⟨rfl,qT HB0.out hb2⟩):p:=h
theorem zIY{w:World}{v:Value}{Bs:List Bk}(h:BksAt w v Bs)(hl:Bs.length≤1000)(nx:Nat)(name:QB)(hs:name.size≤1000000):Calls prog 67 #[.agg #[v,.int .u64 nx],.string name] w fun e w'=>e= .returned (.int .i64 (zLp Bs name))∧Below w.heap.size w w':=by
 have HB:=Hd (k8 name hs)
 rw[zG3]at HB
 have hb0:Below w.heap.size w (w.alloc (.cells #[v,.int .u64 nx] 53)):=qA
 have HAt:=Hd (zAw (h.still hb0) hl nx name)
 have hx:=qH w (.cells #[v,.int .u64 nx] 53)
 obtain⟨⟨d0,d1⟩,y0,y1⟩:=zj hx
 have HB0:=Hd hb0
 unfold zLp
 obtain⟨a,ha⟩:=qN (atF name Bs 0)
 rw[ha]at HAt⊢
 clear h hb0 hx ha
 cases hb:zK name with|false=>rw[hb]at HB;go_enter func67,ntmps67;go_wp2_with(go_at_call 75;refine(HB.out _).mono ?_;rintro e w1⟨rfl,rfl⟩);go_ret;exact⟨rfl,HB0.out⟩|true=>rw[hb]at HB;by_cases hlt:a<0;(·(have e1:decide (a<0)=true:=by simpa using hlt);rw[if_pos hlt];exact zT6);·(have e1:decide (a<0)=false:=by simpa using hlt);rw[if_neg hlt];exact zT6
theorem zQ7{p:Prop}(h:p:=by unfold zK at hb;simp only[Bool.and_eq_true,decide_eq_true_eq]at hb;exact hb.2.1):p:=h
theorem zCo{w:World}{v:Value}{b0:Bk}(h:BksAt w v [b0])(hb:zK b0.name=true)(nx:Nat)(item:QB)(hs:item.size≤1000000):Calls prog 121 #[.agg #[v,.int .u64 nx],.string b0.name,.string item] w fun e w'=>e= .returned (.int .i64 (if zP item then 0 else 28))∧Below w.heap.size w w':=by
 have z1:b0.name.size≤16:=by exact zQ7
 have HB:=Hd (k8 b0.name (by omega))
 rw[zG3,hb]at HB
 have HI:=Hd (zIX item hs)
 have hb0:Below w.heap.size w (w.alloc (.cells #[v,.int .u64 nx] 53)):=qA
 have HE:=Hd (fun(u:World)(hu:Below w.heap.size w u)=>zIY (h.still hu) (by simp) nx b0.name (by omega))
 have e0:zLp [b0] b0.name=0:=by unfold zLp;rw[hb];simp[atF]
 rw[e0]at HE
 have HX:=Hd (qH w (.cells #[v,.int .u64 nx] 53))
 have HB0:=Hd hb0
 obtain⟨bn,hbn⟩:=qN b0.name
 rw[hbn]at HB HE⊢
 clear h hb0 hb z1 e0 hbn
 cases hi:zP item with|false=>rw[hi]at HI;go_enter func121,ntmps121;go_wp2_with(first|(go_at_call 75;refine(HB.out _).mono ?_;rintro e w1⟨rfl,rfl⟩)|(go_at_call 184;refine(HI.out _).mono ?_;rintro e w2⟨rfl,hb2⟩));go_ret;exact⟨rfl,qT HB0.out hb2⟩|true=>rw[hi]at HI;go_enter func121,ntmps121;go_wp2_with(first|(go_at_call 75;refine(HB.out _).mono ?_;rintro e w1⟨rfl,rfl⟩)|(go_at_call 184;refine(HI.out _).mono ?_;rintro e w2⟨rfl,hb2⟩;have hb2':=qT HB0.out hb2;have HB2:=Hd hb2';have hx2:=qB hb2 HX.out;obtain⟨⟨d0,d1⟩,y0,y1⟩:=zj hx2;clear hb2 hb2' hx2)|(go_at_call 67;refine(HE.out _ HB2.out).mono ?_;rintro e w3⟨rfl,hb3⟩));go_ret;exact⟨rfl,qT HB2.out hb3⟩
theorem zTW{p:Prop}(h:p:=by (have hp':tmps[p]?.getD undef= .pointer (some ⟨g,0,none⟩):=by simpa using hp);(have e:(results fn tmps).run P w=((asAddr (tmps.getD p undef)).run P w).andThen fun a w₁=>((loadVar ty a).run P w₁).andThen fun x w₂=>.ok (.tuple #[x,tmps.getD u undef]) w₂:=by exact zOo);rw[e];simp[hp',asAddr,run_loadVar_row w g t ty cs fr d hg hu hd hi,Result.andThen]):p:=h
theorem zBp{P:Program}{fn:Func}{p u:Tmp}{ty:TypeId}(h:fn.results= #[.cell p ty,.tmp u])(tmps:Array Value)(w:World)(g:Nat)(t:TypeId)(cs:Array Value)(fr:Nat×Nat)(d:TypeDesc)(hp:tmps.getD p undef= .pointer (some ⟨g,0,none⟩))(hg:w.heap[g]? =some (.cells cs t fr))(hu:P.underlying ty=some d)(hd:(match d with| .struct _| .array _ _=>true|_=>false)=true)(hi:(P.info? ty).map (·.size)=some cs.size):(results fn tmps).run P w= .ok (.tuple #[.agg cs,tmps.getD u undef]) w:=by
 exact zTW
theorem zAA{P:Program}{fn:Func}{p q u:Tmp}{ty ty2:TypeId}(h:fn.results= #[.cell p ty,.cell q ty2,.tmp u])(tmps:Array Value)(w:World)(g g2:Nat)(t t2:TypeId)(cs cs2:Array Value)(fr fr2:Nat×Nat)(d d2:TypeDesc)(hp:tmps.getD p undef= .pointer (some ⟨g,0,none⟩))(hg:w.heap[g]? =some (.cells cs t fr))(hq:tmps.getD q undef= .pointer (some ⟨g2,0,none⟩))(hg2:w.heap[g2]? =some (.cells cs2 t2 fr2))(hu:P.underlying ty=some d)(hd:(match d with| .struct _| .array _ _=>true|_=>false)=true)(hi:(P.info? ty).map (·.size)=some cs.size)(hu2:P.underlying ty2=some d2)(hd2:(match d2 with| .struct _| .array _ _=>true|_=>false)=true)(hi2:(P.info? ty2).map (·.size)=some cs2.size):(results fn tmps).run P w= .ok (.tuple #[.agg cs,.agg cs2,tmps.getD u undef]) w:=by
 have hp':tmps[p]?.getD undef= .pointer (some ⟨g,0,none⟩):=by simpa using hp
 have hq':tmps[q]?.getD undef= .pointer (some ⟨g2,0,none⟩):=by simpa using hq
 have e:(results fn tmps).run P w=((asAddr (tmps.getD p undef)).run P w).andThen fun a w₁=>((loadVar ty a).run P w₁).andThen fun x w₂=>((asAddr (tmps.getD q undef)).run P w₂).andThen fun a2 w₃=>((loadVar ty2 a2).run P w₃).andThen fun y w₄=>.ok (.tuple #[x,y,tmps.getD u undef]) w₄:=by exact zOo
 rw[e]
 simp[hp',hq',asAddr,run_loadVar_row w g t ty cs fr d hg hu hd hi,run_loadVar_row w g2 t2 ty2 cs2 fr2 d2 hg2 hu2 hd2 hi2,Result.andThen]
theorem zLq(nx:Nat){name:QB}(hb:zK name=true)(now:Nat)(w:World):Calls prog 24 #[.agg #[.slice none 0 0,.int .u64 nx],.string name,.int .u64 now] w fun e w'=>∃v',e= .returned (.tuple #[.agg #[v',.int .u64 nx],.int .i64 0])∧BksAt w' v' [⟨name,0,now,.slice none 0 0⟩]∧(∀g,v'.ownBlock=some g→w.heap.size≤g)∧Below w.heap.size w w':=by
 obtain⟨i0,hi0,hz0,hz1,hz2⟩:=info_parts zNU
 have HI:=Hd hi0
 have Hz0:=Hd hz0
 have Hz1:=Hd hz1
 have Hz2:=Hd hz2
 have hn16:name.size≤16:=by exact zQ7
 have HB:=Hd (k8 name (by omega))
 rw[zG3,hb]at HB
 have HAt:=Hd (fun(u:World)=>zAw (w:=u) (v:=.slice none 0 0) (Bs:=[]) (qO) (by simp) nx name)
 have e0:atF name [] 0= -1:=rfl
 rw[e0]at HAt
 have hx0:((w.alloc (.cells #[.slice none 0 0,.int .u64 nx] 53)).alloc (.cells #[.slice none 0 0,.int .u64 0] 53)).heap[w.heap.size]? =some (.cells #[.slice none 0 0,.int .u64 nx] 53 (0,0)):=alloc_old (zN rfl)
 have hx1:((w.alloc (.cells #[.slice none 0 0,.int .u64 nx] 53)).alloc (.cells #[.slice none 0 0,.int .u64 0] 53)).heap[w.heap.size+1]? =some (.cells #[.slice none 0 0,.int .u64 0] 53 (0,0)):=zN (by simp)
 have hb1:Below w.heap.size w ((w.alloc (.cells #[.slice none 0 0,.int .u64 nx] 53)).alloc (.cells #[.slice none 0 0,.int .u64 0] 53)):=(qA).alloc (by simp) _
 obtain⟨⟨m0,m1⟩,-⟩:=zj hx0
 have HX0:=Hd hx0
 have HX1:=Hd hx1
 have HB1:=Hd hb1
 clear hi0 hz0 hz1 hz2 hb hn16 e0 hx0 hx1 hb1
 go_enter func24,ntmps24
 go_wp2_with(first|(go_at_call 75;refine(HB.out _).mono ?_;rintro e w1⟨rfl,rfl⟩)|(go_at_call 70;refine(HAt.out _).mono ?_;rintro e w2⟨rfl,hb2⟩;have hb2':=qT HB1.out hb2;have HX0':=Hd (qB hb2 HX0.out);have HX1':=Hd (qB hb2 HX1.out);have HB2:=Hd hb2';have hsz:w.heap.size≤w2.heap.size:=hb2'.size;have hlt1:w.heap.size+1<w2.heap.size:=(Gl HX1'.out);clear hb2 hb2'))
 clear m0 m1
 obtain⟨xb,hxb⟩:=qN w2.heap.size
 rw[hxb]at hsz hlt1⊢
 obtain⟨u9,hu9⟩:=qN (w2.alloc (.cells #[.string name,.int .i64 0,.int .u64 now,.bool false,.string ⟨#[]⟩,.int .u64 0,.slice none 0 0,.slice none 0 0] 153))
 have hxs:u9.heap[xb]? =some (.cells #[.string name,.int .i64 0,.int .u64 now,.bool false,.string ⟨#[]⟩,.int .u64 0,.slice none 0 0,.slice none 0 0] 153 (0,0)):=by rw[←hu9];exact zN hxb
 have hbs:Below w.heap.size w u9:=by rw[←hu9];exact HB2.out.alloc HB2.out.size _
 have hx0:u9.heap[w.heap.size]? =some (.cells #[.slice none 0 0,.int .u64 nx] 53 (0,0)):=by rw[←hu9];exact alloc_old HX0'.out
 have hx1:u9.heap[w.heap.size+1]? =some (.cells #[.slice none 0 0,.int .u64 0] 53 (0,0)):=by rw[←hu9];exact alloc_old HX1'.out
 rw[hu9]
 have HX9:=Hd hxs
 have HM9:=Hd hx0
 have HR9:=Hd hx1
 have HB9:=Hd hbs
 have HXl:=Hd (Gl hxs)
 obtain⟨⟨m0,m1⟩,m2,m3⟩:=zj hx0
 obtain⟨⟨d0,d1,d2,d3,d4,d5,d6,d7⟩,y0,y1,y2,y3,y4,y5,y6,y7⟩:=zEz hxs
 have hge:w.heap.size+1<u9.heap.size:=by have:=HXl.out;omega
 clear hxs hbs hx0 hx1 hu9 hxb HX0' HX1' HB2
 refine wp_loop_rounds 1 ?_
 rw[rounds_succ]
 go_wp2_with(at_builtin;refine wpList_append_own_at _ (by rfl) _ _ 51 (by rfl) u9.heap.size 153 i0 (.agg #[.string ⟨#[]⟩,.int .i64 0,.int .u64 0,.bool false,.string ⟨#[]⟩,.int .u64 0,.slice none 0 0,.slice none 0 0]) 8 112 underlying51 HI.out Hz0.out Hz1.out Hz2.out (by rfl) (by decide) (.slice none 0 0) _ _ (by rfl) ((World.ownsRow_nil u9 _ _ _).alloc _) ⟨u9.heap.size,0,none⟩ 1 1 [.string name,.int .i64 0,.int .u64 now,.bool false,.string ⟨#[]⟩,.int .u64 0,.slice none 0 0,.slice none 0 0] (by rfl) (by rfl) (World.news_of_block (cs:= #[.string name,.int .i64 0,.int .u64 now,.bool false,.string ⟨#[]⟩,.int .u64 0,.slice none 0 0,.slice none 0 0]) (t:=153) (fr:=(0,0)) (qH u9 _)) (by simp[Value.oneCell']) (by unfold maxLen;omega) (by omega) ?_ ?_;(·simp);intro v8 w8 hown8 hg8 hnil8 hloc8;have hk8:=((Keep.refl (fun q=>Value.ownBlock (.slice none 0 0)=some q) u9).alloc (.cells #[.string name,.int .i64 0,.int .u64 now,.bool false,.string ⟨#[]⟩,.int .u64 0,.slice none 0 0,.slice none 0 0] 153)).grown hg8 (fun q _ e=>e);have HB8:=Hd (show Below u9.heap.size u9 w8 from hk8.below (Qn _) (fun z hz e=>by cases e));obtain⟨p8,c8,hv8⟩:=zA hown8;subst hv8;have HO8:=Hd (show w8.ownsRow u9.heap.size 153 8 (.slice p8 1 c8) 1 (bkR ⟨name,0,now,.slice none 0 0⟩)from hown8);have xm:=qB HB8.out HM9.out;have xr:=qB HB8.out HR9.out;have HXm:=Hd xm;have HXr:=Hd xr;obtain⟨⟨m0,m1⟩,m2,m3⟩:=zj xm;obtain⟨⟨r0,r1⟩,r2,r3⟩:=zj xr;clear hown8 hg8 hnil8 hloc8 hk8 xm xr)
 have hk1:Keep (fun q=>q=w.heap.size) w8 (w8.setCell ⟨w.heap.size,0,none⟩ (.slice p8 1 c8)):=(Keep.refl (fun q=>q=w.heap.size) w8).setCell (p:=⟨w.heap.size,0,none⟩) (fun _=>rfl) _
 have x1:=hk1.at HXr.out (by omega)
 have x2:=heap_setCell_same _ (w.heap.size+1) 0 _ _ (.slice p8 1 c8) x1
 have x3:=heap_setCell_same _ (w.heap.size+1) 1 _ _ (.int .u64 nx) x2
 have q1:=ownsRow_setCell_other HO8.out (a:=⟨w.heap.size,0,none⟩) (fun e=>by have h9:u9.heap.size≤w.heap.size:=(HO8.out.lt _ e).1;omega) (.slice p8 1 c8)
 have q2:=ownsRow_setCell_other q1 (a:=⟨w.heap.size+1,0,none⟩) (fun e=>by have h9:u9.heap.size≤w.heap.size+1:=(HO8.out.lt _ e).1;omega) (.slice p8 1 c8)
 have q3:=ownsRow_setCell_other q2 (a:=⟨w.heap.size+1,1,none⟩) (fun e=>by have h9:u9.heap.size≤w.heap.size+1:=(HO8.out.lt _ e).1;omega) (.int .u64 nx)
 have hb2:=(((qT HB9.out HB8.out).setCell (p:=⟨w.heap.size,0,none⟩) (Qn _) (.slice p8 1 c8)).setCell (p:=⟨w.heap.size+1,0,none⟩) (by show w.heap.size≤w.heap.size+1;omega) (.slice p8 1 c8)).setCell (p:=⟨w.heap.size+1,1,none⟩) (by show w.heap.size≤w.heap.size+1;omega) (.int .u64 nx)
 refine bodyPost_ret (zBp rfl _ _ (w.heap.size+1) _ _ _ _ rfl x3 underlying53 rfl (by kernel_rfl)) rfl ?_
 exact⟨_,rfl,zBJ q3,fun g e=>by have:=(HO8.out.lt g e).1;omega,hb2⟩
theorem zJw{w:World}{v:Value}{b0:Bk}(h:BksAt w v [b0])(hb:zK b0.name=true)(hits:∃a n c,b0.its= .slice a n c)(nx:Nat):Calls prog 59 #[.agg #[v,.int .u64 nx],.string b0.name,.int .i64 1] w fun e w'=>∃v',e= .returned (.tuple #[.agg #[v',.int .u64 nx],.int .i64 0])∧BksAt w' v' [⟨b0.name,1,b0.born,b0.its⟩]∧(∀g,v'.ownBlock=some g→w.heap.size≤g)∧Below w.heap.size w w':=by
 have HH:=Hd h
 have hrow:w.ownsRow 0 153 8 v 1 (bkR b0):=h
 obtain⟨gs,cs,hv,hc1,hc2,hgB⟩:=zH hrow (by decide)
 subst hv
 have HRow:=Hd hrow
 have z1:b0.name.size≤16:=by exact zQ7
 have HE:=Hd (fun(u:World)(hu:Below w.heap.size w u)=>zIY (h.still hu) (by simp) nx b0.name (by omega))
 have e0:zLp [b0] b0.name=0:=by unfold zLp;rw[hb];simp[atF]
 rw[e0]at HE
 have HAt:=Hd (fun(u:World)(hu:Below w.heap.size w u)=>zAw (h.still hu) (by simp) nx b0.name)
 have e1:atF b0.name [b0] 0=0:=by simp[atF]
 rw[e1]at HAt
 obtain⟨bn,bst,bo,its⟩:=b0
 obtain⟨ia,n,ic,hits⟩:=hits
 obtain rfl:its= .slice ia n ic:=hits
 have HW:=Hd (fun(u:World)(hu:Below w.heap.size w u)=>zF4 (b0:=⟨bn,bst,bo,.slice ia n ic⟩) (b:=⟨bn,1,bo,.slice ia n ic⟩) (HH.out.still hu) rfl ⟨_,_,_,rfl⟩ nx)
 unfold bkA at HW
 simp only at HW HE HAt
 have hb1:Below w.heap.size w ((w.alloc (.cells #[.slice (some ⟨gs,0,none⟩) 1 cs,.int .u64 nx] 53)).alloc (.cells #[.slice none 0 0,.int .u64 0] 53)):=(qA).alloc (by simp) _
 have hx0:((w.alloc (.cells #[.slice (some ⟨gs,0,none⟩) 1 cs,.int .u64 nx] 53)).alloc (.cells #[.slice none 0 0,.int .u64 0] 53)).heap[w.heap.size]? =some (.cells #[.slice (some ⟨gs,0,none⟩) 1 cs,.int .u64 nx] 53 (0,0)):=alloc_old (zN rfl)
 have hx1:((w.alloc (.cells #[.slice (some ⟨gs,0,none⟩) 1 cs,.int .u64 nx] 53)).alloc (.cells #[.slice none 0 0,.int .u64 0] 53)).heap[w.heap.size+1]? =some (.cells #[.slice none 0 0,.int .u64 0] 53 (0,0)):=zN (by simp)
 have HB1:=Hd hb1
 have HX0:=Hd hx0
 have HX1:=Hd hx1
 obtain⟨⟨m0,m1⟩,-⟩:=zj hx0
 clear h hrow hb z1 e0 e1 hb1 hx0 hx1
 go_enter func59,ntmps59
 go_wp2_with(first|(go_at_call 67;refine(HE.out _ HB1.out).mono ?_;rintro e w2⟨rfl,hb2⟩;have hb2':=qT HB1.out hb2;have hx0:=qB hb2 HX0.out;have hx1:=qB hb2 HX1.out;have HX02:=Hd hx0;have HX12:=Hd hx1;have HB2:=Hd hb2';obtain⟨⟨m0,m1⟩,-⟩:=zj hx0;clear hb2 hb2' hx0 hx1)|(go_at_call 70;refine(HAt.out _ HB2.out).mono ?_;rintro e w3⟨rfl,hb3⟩;have hb3':=qT HB2.out hb3;have hx0:=qB hb3 HX02.out;have hx1:=qB hb3 HX12.out;have HX03:=Hd hx0;have HX13:=Hd hx1;have HB3:=Hd hb3';have hx4:=qH w3 (.cells #[.string ⟨#[]⟩,.int .i64 0,.int .u64 0,.bool false,.string ⟨#[]⟩,.int .u64 0,.slice none 0 0,.slice none 0 0] 153);have hlt1:w.heap.size+1<w3.heap.size:=(Gl hx1);obtain⟨⟨m0,m1⟩,-⟩:=zj hx0;obtain⟨d0,d1,d2,d3,d4,d5,d6,d7⟩:=zG0 ((Keep.still hb3').ownsRow HRow.out (fun _ _ e=>e));simp only at d0 d1 d2 d6;obtain⟨⟨n0,n1⟩,-⟩:=zj (alloc_old (o:=.cells #[.string bn,.int .i64 1,.int .u64 bo,.bool false,.string ⟨#[]⟩,.int .u64 0,.slice ia n ic,.slice none 0 0] 153) hx0);have HX15:=Hd (alloc_old (o:=.cells #[.string bn,.int .i64 1,.int .u64 bo,.bool false,.string ⟨#[]⟩,.int .u64 0,.slice ia n ic,.slice none 0 0] 153) hx1);have HB5:=Hd (hb3'.alloc hb3'.size (.cells #[.string bn,.int .i64 1,.int .u64 bo,.bool false,.string ⟨#[]⟩,.int .u64 0,.slice ia n ic,.slice none 0 0] 153));obtain⟨⟨z0,z1,z2,z3,z4,z5,z6,z7⟩,y0,y1,y2,y3,y4,y5,y6,y7⟩:=zEz hx4;clear hb3 hb3' hx0 hx1 hx4)|(go_at_call 120;refine(HW.out _ HB5.out).mono ?_;rintro e w10⟨v10,rfl,hbk,hnew,hb10⟩;have hr2:=qB hb10 HX15.out;have HR10:=Hd hr2;have HB10:=Hd (qT HB5.out hb10);(have hsz5:w3.heap.size≤(w3.alloc (.cells #[.string bn,.int .i64 1,.int .u64 bo,.bool false,.string ⟨#[]⟩,.int .u64 0,.slice ia n ic,.slice none 0 0] 153)).heap.size:=by simp);have HV10:=Hd (show∀g,v10.ownBlock=some g→w3.heap.size≤g from fun g e=>Nat.le_trans hsz5 (hnew g e));obtain⟨pa10,pc10,hv10⟩:=zA (show w10.ownsRow 0 153 8 v10 1 _ from hbk);subst hv10;have HK10:=Hd hbk;obtain⟨⟨r0,r1⟩,s0,s1⟩:=zj hr2;clear hbk hnew hb10 hr2 m0 m1 n0 n1 d0 d1 d2 d3 d4 d5 d6 d7 z0 z1 z2 z3 z4 z5 z6 z7 y0 y1 y2 y3 y4 y5 y6 y7))
 have hs3:w.heap.size≤w3.heap.size:=by omega
 have x2:=heap_setCell_same _ (w.heap.size+1) 0 _ _ (.slice pa10 1 pc10) HR10.out
 have x3:=heap_setCell_same _ (w.heap.size+1) 1 _ _ (.int .u64 nx) x2
 have r2:=ownsRow_setCell_other (ownsRow_setCell_other (show w10.ownsRow 0 153 8 (.slice pa10 1 pc10) 1 _ from HK10.out) (a:=⟨w.heap.size+1,0,none⟩) (fun e=>by have h9:w3.heap.size≤w.heap.size+1:=HV10.out _ e;omega) (.slice pa10 1 pc10)) (a:=⟨w.heap.size+1,1,none⟩) (fun e=>by have h9:w3.heap.size≤w.heap.size+1:=HV10.out _ e;omega) (.int .u64 nx)
 have hb2:=(HB10.out.setCell (p:=⟨w.heap.size+1,0,none⟩) (by show w.heap.size≤w.heap.size+1;omega) (.slice pa10 1 pc10)).setCell (p:=⟨w.heap.size+1,1,none⟩) (by show w.heap.size≤w.heap.size+1;omega) (.int .u64 nx)
 refine bodyPost_ret (zBp rfl _ _ (w.heap.size+1) _ _ _ _ rfl x3 underlying53 rfl (by kernel_rfl)) rfl ?_
 exact⟨_,rfl,r2,fun g e=>Nat.le_trans hs3 (HV10.out g e),hb2⟩
theorem vM{P:Program}{o:Oper}{a:Act}{w:World}{K:Act→World→Prop}{Q:Exit→Act→World→Prop}(s x:Operand)(t:TypeId)(ho:o.op= .call {callee:=.builtin .append,args:= #[s,x],argTypes:= #[t,t]})(base:Nat)(e:TypeId)(i:TypeInfo)(z:Value)(size bytes:Nat)(ht:P.underlying t=some (.slice e))(hi:P.info? e=some i)(hz:i.zero=some z)(hsize:i.size=size)(hby:i.bytes=bytes)(hzs:z.cells.size=size)(hsz:0<size)(v:Value)(n:Nat)(xs:List Value)(hs:a.eval s=v)(hown:w.ownsRow base e size v n xs)(xv:Value)(m B2:Nat)(news:List Value)(hx:a.eval x=xv)(hrow:w.ownsRow B2 e size xv m news)(h1:∀u∈news,u.oneCell'=true)(h63:n+m≤maxLen)(hbytes:(n+m)*bytes≤140737488355328)(hbase:base≤w.heap.size)(h:∀v' w',w'.ownsRow base e size v' (n+m) (xs++news)→w.grownBy w' v.ownBlock→(v'.ownBlock=v.ownBlock∨v'.ownBlock=some w.heap.size)→K (a.put o.dst v') w'):o.wp P a w K Q:=by
 rcases hrow.2 with⟨rfl,rfl⟩|⟨g,cap,cur,rfl,_,hg,hnc,_⟩
 ·have hnews:news=[]:=List.eq_nil_of_length_eq_zero (by have:=hrow.1;simpa using this);subst hnews;have hr:=run_append_owned_none (P:=P) w base t o.type e i size ht hi v n xs hown;unfold Oper.wp execOp;simp only[ho,resolve,invoke,builtin,Sem.run_bind,Sem.run_pure,Result.andThen_ok,List.map_toArray,List.map_cons,List.map_nil,hs,hx,hr];exact h v w (by simpa using hown) (World.grownBy.refl _ _) (.inl rfl)
 ·exact yF s x t ho base e i z size bytes ht hi hz hsize hby hzs hsz v n xs hs hown ⟨g,0,none⟩ m cap news hx hrow.1 (fun j u hu=>by rw[yJ];exact zC hrow j u hu) h1 h63 hbytes hbase h
theorem zBK{w:World}{b T:Nat}{c0 c1 c2 c3 c4:Value}(h:w.heap[b]? =some (.cells #[c0,c1,c2,c3,c4] T (0,0))):(w.cell? ⟨b,0,none⟩=some c0∧w.cell? ⟨b,1,none⟩=some c1∧w.cell? ⟨b,2,none⟩=some c2∧w.cell? ⟨b,3,none⟩=some c3∧w.cell? ⟨b,4,none⟩=some c4)∧(w.frozen? ⟨b,0,none⟩=false∧w.frozen? ⟨b,1,none⟩=false∧w.frozen? ⟨b,2,none⟩=false∧w.frozen? ⟨b,3,none⟩=false∧w.frozen? ⟨b,4,none⟩=false):=⟨⟨Qc h 0,Qc h 1,Qc h 2,Qc h 3,Qc h 4⟩,by simp[World.frozen?,h],by simp[World.frozen?,h],by simp[World.frozen?,h],by simp[World.frozen?,h],by simp[World.frozen?,h]⟩
theorem zh{w:World}{B e n k:Nat}{v:Value}{l:List Value}(h:w.ownsRow B e n v k l){b T:Nat}{cs:Array Value}{fr:Nat×Nat}(hb:w.heap[b]? =some (.cells cs T fr))(hT:T≠e):v.ownBlock≠some b:=by
 intro h0
 rcases h.2 with⟨rfl,_⟩|⟨g,c,cur,rfl,_,hg,_⟩
 ·cases h0
 ·have e2:g=b:=Option.some.inj h0;rw[e2,hb]at hg;have h3:=Option.some.inj hg;injection h3 with _ h5;exact hT h5
theorem ItsAt.aside{w w':World}{v:Value}{L:List It}(h:ItsAt w v L){b T:Nat}{cs:Array Value}{fr:Nat×Nat}(hb:w.heap[b]? =some (.cells cs T fr))(h1:T≠156)(h2:T≠135)(hk:Keep (fun q=>q=b) w w'):ItsAt w' v L:=⟨hk.ownsRow h.row (fun q e e2=>zh h.row hb h1 (by rw[e,e2])),fun it hi=>hk.ownsRow (show w.ownsRow 0 135 5 it.val it.vs.length (vdV it.vs)from h.vs it hi) (fun q e e2=>zh (show w.ownsRow 0 135 5 it.val it.vs.length (vdV it.vs)from h.vs it hi) hb h2 (by rw[e,e2]))⟩
theorem BksAt.aside{w w':World}{v:Value}{L:List Bk}(h:BksAt w v L){b T:Nat}{cs:Array Value}{fr:Nat×Nat}(hb:w.heap[b]? =some (.cells cs T fr))(h1:T≠153)(hk:Keep (fun q=>q=b) w w'):BksAt w' v L:=hk.ownsRow (show w.ownsRow 0 153 8 v L.length (bkV L)from h) (fun q e e2=>zh (show w.ownsRow 0 153 8 v L.length (bkV L)from h) hb h1 (by rw[e,e2]))
theorem zPc{n it:It}{d:Bool}{L:List It}(h:it∈goL n d L):it=n∨it∈L:=by
 induction L generalizing d with|nil=>rw[goL]at h;split at h;(·cases h);(·exact .inl (List.mem_singleton.1 h))|cons a t ih=>rw[goL]at h;rcases List.mem_append.1 h with e|e;(·split at e;(·exact .inl (List.mem_singleton.1 e));·cases e);·rcases List.mem_append.1 e with e|e;(·split at e;(·cases e);·exact .inr (by rw[List.mem_singleton.1 e];simp));·exact(ih e).imp id (fun e2=>List.mem_cons_of_mem _ e2)
theorem ItsAt.apart{w0 w w':World}{v:Value}{L:List It}{n:It}(h:ItsAt w v (goL n false L))(h0:∀it∈L,VsAt w0 it.val it.vs){b:Nat}{cs:Array Value}{fr:Nat×Nat}(hb:w.heap[b]? =some (.cells cs 135 fr))(hlt:w0.heap.size≤b)(hn:n.val.ownBlock≠some b)(hk:Keep (fun q=>q=b) w w'):ItsAt w' v (goL n false L):=by
 refine⟨hk.ownsRow h.row (fun q e e2=>zh h.row hb (by decide) (by rw[e,e2])),fun it hi=>hk.ownsRow (show w.ownsRow 0 135 5 it.val it.vs.length (vdV it.vs)from h.vs it hi) (fun q e e2=> ?_)⟩
 rcases zPc hi with e3|e3
 ·rw[e3,e2]at e;exact hn e
 ·have:=((show w0.ownsRow 0 135 5 it.val it.vs.length (vdV it.vs)from h0 it e3).lt q e).2;omega
theorem zPd(l:List Vd):∀u∈vdV l,u.oneCell'=true:=by
 intro u hu
 obtain⟨x,_,hx⟩:=List.mem_flatMap.1 hu
 unfold vdC at hx
 simp only[List.mem_cons,List.not_mem_nil,or_false]at hx
 rcases hx with rfl|rfl|rfl|rfl|rfl<;>rfl
theorem zIZ{w:World}{v:Value}{b0:Bk}{L:List It}(h:BksAt w v [b0])(hi:ItsAt w b0.its L)(hl:L.length≤1000){nx:Nat}(hnx:nx+1<18446744073709551616)(item:QB)(id0:Nat)(gone:Bool)(born:Nat)(body:QB)(page:Nat)(hvs:(zZ L item).length≤1000):Calls prog 122 #[.agg #[v,.int .u64 nx],.string b0.name,.string item,.agg #[.int .u64 id0,.bool false,.bool gone,.int .u64 born,.string body]] w fun e w'=>∃v' its' val,e= .returned (.agg #[v',.int .u64 (nx+1:Nat)])∧BksAt w' v' [⟨b0.name,b0.state,b0.born,its'⟩]∧ItsAt w' its' (goL ⟨item,⟨nx,gone,born,body,page⟩::zZ L item,val⟩ false L)∧(∀g,its'.ownBlock=some g→w.heap.size≤g)∧(∀g,val.ownBlock=some g→w.heap.size≤g)∧(∀g,v'.ownBlock=some g→w.heap.size≤g)∧Below w.heap.size w w':=by
 obtain⟨i0,hi0,hz0,hz1,hz2⟩:=info_parts zQ3
 have HI:=Hd hi0
 have Hz0:=Hd hz0
 have Hz1:=Hd hz1
 have Hz2:=Hd hz2
 obtain⟨va,vc,hv⟩:=zA (show w.ownsRow 0 153 8 v 1 (bkR b0)from h)
 subst hv
 have HItem:=Hd (fun(u:World)(hu:Below w.heap.size w u)=>zLn (h.still hu) (hi.still hu) hl (nx+1) item)
 have HSet:=Hd (fun(u:World)(hu:Below w.heap.size w u)(all:Value)(hal:VsAt u all (⟨nx,gone,born,body,page⟩::zZ L item))=>zNX (h.still hu) (hi.still hu) hl (nx+1) item hal (by simp))
 obtain⟨old,hold⟩:=qN (zZ L item)
 rw[hold]at HItem HSet hvs⊢
 obtain⟨m,hm⟩:=qN old.length
 obtain⟨bn,hbn⟩:=qN b0.name
 obtain⟨y,hy⟩:=qN (nx+1)
 rw[hbn]at HItem HSet⊢
 rw[hy]at HItem HSet hnx⊢
 rw[hm]at hvs
 have HM:=Hd hm
 have ew:IntKind.u64.wrap ((nx:Int)+1)=(y:Int):=by rw[IntKind.wrap_u64];omega
 have ew2:((nx:Int)+1)%18446744073709551616=(y:Int):=by omega
 clear hi0 hz0 hz1 hz2 h hi hl hold hbn hy hm
 go_enter func122,ntmps122
 go_wp2_with(fail)
 have hb3:Below w.heap.size w (((w.alloc (.cells #[.slice va 1 vc,.int .u64 y] 53)).alloc (.cells #[.int .u64 nx,.bool false,.bool gone,.int .u64 born,.string body] 135)).alloc (.cells #[.slice none 0 0,.int .u64 0] 53)):=((qA).alloc (by simp) _).alloc (by simp;omega) _
 have hx0:(((w.alloc (.cells #[.slice va 1 vc,.int .u64 y] 53)).alloc (.cells #[.int .u64 nx,.bool false,.bool gone,.int .u64 born,.string body] 135)).alloc (.cells #[.slice none 0 0,.int .u64 0] 53)).heap[w.heap.size]? =some (.cells #[.slice va 1 vc,.int .u64 y] 53 (0,0)):=alloc_old (alloc_old (zN rfl))
 have hx1:(((w.alloc (.cells #[.slice va 1 vc,.int .u64 y] 53)).alloc (.cells #[.int .u64 nx,.bool false,.bool gone,.int .u64 born,.string body] 135)).alloc (.cells #[.slice none 0 0,.int .u64 0] 53)).heap[w.heap.size+1]? =some (.cells #[.int .u64 nx,.bool false,.bool gone,.int .u64 born,.string body] 135 (0,0)):=alloc_old (zN (by simp))
 have hx2:(((w.alloc (.cells #[.slice va 1 vc,.int .u64 y] 53)).alloc (.cells #[.int .u64 nx,.bool false,.bool gone,.int .u64 born,.string body] 135)).alloc (.cells #[.slice none 0 0,.int .u64 0] 53)).heap[w.heap.size+1+1]? =some (.cells #[.slice none 0 0,.int .u64 0] 53 (0,0)):=zN (by simp)
 obtain⟨w3,hw3⟩:=qN (((w.alloc (.cells #[.slice va 1 vc,.int .u64 y] 53)).alloc (.cells #[.int .u64 nx,.bool false,.bool gone,.int .u64 born,.string body] 135)).alloc (.cells #[.slice none 0 0,.int .u64 0] 53))
 rw[hw3]at hb3 hx0 hx1 hx2⊢
 have HB3:=Hd hb3
 have HX0:=Hd hx0
 have HX1:=Hd hx1
 have HX2:=Hd hx2
 clear hw3 hb3 hx0 hx1 hx2
 refine(HItem.out _ HB3.out).mono ?_
 rintro e w4⟨val,rfl,hval,hb4⟩
 obtain⟨la,lc,hvl⟩:=zA (show w4.ownsRow 0 135 5 val old.length (vdV old)from hval)
 have hval2:w4.ownsRow 0 135 5 val old.length (vdV old):=hval
 rw[HM.out]at hvl hval2
 subst hvl
 have HVal:=Hd hval2
 have HB4:=Hd (qT HB3.out hb4)
 have HX04:=Hd (qB hb4 HX0.out)
 have HX14:=Hd (qB hb4 HX1.out)
 have HX24:=Hd (qB hb4 HX2.out)
 have hsz4:w.heap.size≤w4.heap.size:=HB4.out.size
 have hlt4:w.heap.size+1+1<w4.heap.size:=(Gl HX24.out)
 obtain⟨⟨p0,p1,p2,p3,p4⟩,-⟩:=zBK HX14.out
 clear hval hval2 hb4
 go_wp2_with(fail)
 clear p0 p1 p2 p3 p4
 obtain⟨S,HS⟩:=mkS (Keep (fun _=>False) (w4))
 have FR:=Hd (fun u(hu:S u)=>have hu:=(HS.out u).1 hu;have o09:=zj (hu.at HX04.out (fun e=>e));have o19:=zBK (hu.at HX14.out (fun e=>e));And.intro o09 o19)
 refine rgo 8 [tR 0,tR 1,tR 2,tR 3,tR 5,tD 4,tD 6,tD 7] HS (Keep.refl _ _).drew ?_
 iterate 5 refine rd1 ?_
 refine doH ?_
 intro K hK
 go_simp
 have ka:Keep (fun _=>False) w4 (w4.alloc (.cells #[.int .u64 nx,.bool false,.bool gone,.int .u64 born,.string body] 135)).drew:=((Keep.refl _ w4).alloc _).drew
 have HKa:=Hd ka
 have HRa:=Hd (show((w4.alloc (.cells #[.int .u64 nx,.bool false,.bool gone,.int .u64 born,.string body] 135)).drew).ownsRow w.heap.size 135 5 (.slice (some ⟨w4.heap.size,0,none⟩) 1 1) 1 (vdC ⟨nx,gone,born,body,page⟩)from⟨rfl,.inr ⟨w4.heap.size,1,_,rfl,hsz4,qH w4 _,Qn _,by unfold maxLen;omega,rfl,rfl⟩⟩)
 refine hK _ _ ((HS.out _).2 ka) ?_
 clear hK K ka
 refine doH ?_
 intro K hK
 refine vM _ _ 154 (by rfl) w.heap.size 135 i0 (.agg #[.int .u64 0,.bool false,.bool false,.int .u64 0,.string ⟨#[]⟩]) 5 40 underlying154 HI.out Hz0.out Hz1.out Hz2.out (by rfl) (by decide) (.slice (some ⟨w4.heap.size,0,none⟩) 1 1) 1 _ (by rfl) HRa.out (.slice la m lc) m 0 (vdV old) (by rfl) (HKa.out.ownsRow HVal.out (fun _ _ e=>e)) (zPd _) (by unfold maxLen;omega) (by omega) (by simp;omega) ?_
 intro v6 w6 hown6 hg6 hl6
 have k6:=HKa.out.grown hg6 (fun q hq e=>by have e2:w4.heap.size=q:=Option.some.inj e;omega)
 have HK6:=Hd k6
 have HO6:=Hd hown6
 refine hK _ _ ((HS.out _).2 k6) ?_
 clear hK K k6 hown6 hg6 hl6
 refine doH ?_
 intro K hK
 go_simp
 go_at_call 123
 have hb6:Below w.heap.size w w6:=HB4.out.trans ((HK6.out.below (Qn _) (fun i _ e=>e.elim)).mono HB4.out.size)
 have hal:VsAt w6 v6 (⟨nx,gone,born,body,page⟩::old):=by have h0:=zBJ HO6.out;show w6.ownsRow 0 135 5 v6 (old.length+1) (vdC ⟨nx,gone,born,body,page⟩++vdV old);rw[HM.out,Nat.add_comm];exact h0
 have HB6:=Hd hb6
 refine(HSet.out _ hb6 _ hal).mono ?_
 rintro e w7⟨v7,its7,rfl,hbk,hit,hni,hnew,hb7⟩
 obtain⟨pa7,pc7,hv7⟩:=zA (show w7.ownsRow 0 153 8 v7 1 _ from hbk)
 subst hv7
 have HK7:=Hd hbk
 have HI7:=Hd hit
 have HN7:=Hd (fun g e=>Nat.le_trans hb6.size (hnew g e))
 have h46:=HK6.out.size
 have HNi:=Hd (fun g e=>Nat.le_trans hb6.size (hni g e))
 have HN7':=Hd (show∀g,Value.ownBlock (.slice pa7 1 pc7)=some g→w.heap.size+1+1<g from fun g e=>by have h9:=hnew g e;omega)
 have HB7:=Hd (qT hb6 hb7)
 have hr7:=(hb7.block _ (Array.getElem?_eq_some_iff.1 (HK6.out.at HX24.out (fun e=>e))).1).trans (HK6.out.at HX24.out (fun e=>e))
 have HR7:=Hd hr7
 have k7:=HK6.out.trans (Keep.ofBelow (S:=fun _=>False) hb7) (fun _ _ e=>e)
 refine hK _ _ ((HS.out _).2 k7) ?_
 clear hK K hb6 hal hbk hit hni hnew hb7 k7
 refine zl ?_
 clear FR
 clear S HS
 obtain⟨⟨r0,r1⟩,s0,s1⟩:=zj HR7.out
 go_wp2_with(fail)
 have x2:=heap_setCell_same _ (w.heap.size+1+1) 0 _ _ (.slice pa7 1 pc7) HR7.out
 have x3:=heap_setCell_same _ (w.heap.size+1+1) 1 _ _ (.int .u64 y) x2
 have r2:=ownsRow_setCell_other (ownsRow_setCell_other (show w7.ownsRow 0 153 8 (.slice pa7 1 pc7) 1 _ from HK7.out) (a:=⟨w.heap.size+1+1,0,none⟩) (fun e=>by have h9:w.heap.size+1+1<w.heap.size+1+1:=HN7'.out _ e;omega) (.slice pa7 1 pc7)) (a:=⟨w.heap.size+1+1,1,none⟩) (fun e=>by have h9:w.heap.size+1+1<w.heap.size+1+1:=HN7'.out _ e;omega) (.int .u64 y)
 have hk9:Keep (fun q=>q=w.heap.size+1+1) w7 ((w7.setCell ⟨w.heap.size+1+1,0,none⟩ (.slice pa7 1 pc7)).setCell ⟨w.heap.size+1+1,1,none⟩ (.int .u64 y)):=((Keep.refl (fun q=>q=w.heap.size+1+1) w7).setCell (p:=⟨w.heap.size+1+1,0,none⟩) (fun _=>rfl) _).setCell (p:=⟨w.heap.size+1+1,1,none⟩) (fun _=>rfl) _
 have hb2:=(HB7.out.setCell (p:=⟨w.heap.size+1+1,0,none⟩) (by exact zPU) (.slice pa7 1 pc7)).setCell (p:=⟨w.heap.size+1+1,1,none⟩) (by exact zPU) (.int .u64 y)
 refine bodyPost_ret (xW rfl _ _ (w.heap.size+1+1) _ _ _ _ rfl x3 underlying53 rfl (by kernel_rfl)) rfl ?_
 exact⟨_,its7,v6,rfl,r2,HI7.out.aside HR7.out (by decide) (by decide) hk9,HNi.out,fun g e=>(HO6.out.lt g e).1,HN7.out,hb2⟩
def zNi(w:World)(rb ob:Nat)(c0 c1 d0 d1 d2 d3 d4:Value):World:=((((((w.setCell ⟨rb,0,none⟩ c0).setCell ⟨rb,1,none⟩ c1).setCell ⟨ob,0,none⟩ d0).setCell ⟨ob,1,none⟩ d1).setCell ⟨ob,2,none⟩ d2).setCell ⟨ob,3,none⟩ d3).setCell ⟨ob,4,none⟩ d4
theorem zLy{w:World}{rb ob T1 T2:Nat}{a0 a1 b0 b1 b2 b3 b4:Value}(hr:w.heap[rb]? =some (.cells #[a0,a1] T1 (0,0)))(ho:w.heap[ob]? =some (.cells #[b0,b1,b2,b3,b4] T2 (0,0)))(hne:rb≠ob)(c0 c1 d0 d1 d2 d3 d4:Value):(zNi w rb ob c0 c1 d0 d1 d2 d3 d4).heap[rb]? =some (.cells #[c0,c1] T1 (0,0))∧(zNi w rb ob c0 c1 d0 d1 d2 d3 d4).heap[ob]? =some (.cells #[d0,d1,d2,d3,d4] T2 (0,0))∧Keep (fun q=>q=rb∨q=ob) w (zNi w rb ob c0 c1 d0 d1 d2 d3 d4):=by
 have r1:=heap_setCell_same _ rb 1 _ _ c1 (heap_setCell_same _ rb 0 _ _ c0 hr)
 have k1:Keep (fun q=>q=rb) w ((w.setCell ⟨rb,0,none⟩ c0).setCell ⟨rb,1,none⟩ c1):=((Keep.refl (fun q=>q=rb) w).setCell (p:=⟨rb,0,none⟩) (fun _=>rfl) _).setCell (p:=⟨rb,1,none⟩) (fun _=>rfl) _
 have o1:=k1.at ho (fun e=>hne e.symm)
 unfold zNi
 generalize(w.setCell ⟨rb,0,none⟩ c0).setCell ⟨rb,1,none⟩ c1=u at*
 have o2:=heap_setCell_same _ ob 4 _ _ d4 (heap_setCell_same _ ob 3 _ _ d3 (heap_setCell_same _ ob 2 _ _ d2 (heap_setCell_same _ ob 1 _ _ d1 (heap_setCell_same _ ob 0 _ _ d0 o1))))
 have k2:Keep (fun q=>q=ob) u (((((u.setCell ⟨ob,0,none⟩ d0).setCell ⟨ob,1,none⟩ d1).setCell ⟨ob,2,none⟩ d2).setCell ⟨ob,3,none⟩ d3).setCell ⟨ob,4,none⟩ d4):=(((((Keep.refl (fun q=>q=ob) u).setCell (p:=⟨ob,0,none⟩) (fun _=>rfl) _).setCell (p:=⟨ob,1,none⟩) (fun _=>rfl) _).setCell (p:=⟨ob,2,none⟩) (fun _=>rfl) _).setCell (p:=⟨ob,3,none⟩) (fun _=>rfl) _).setCell (p:=⟨ob,4,none⟩) (fun _=>rfl) _
 exact⟨k2.at r1 hne,o2,(k1.mono (fun q _ e=>.inl e)).trans k2 (fun q _ e=>.inr e)⟩
theorem zUE{p:Prop}(h:p:=by go_wp2_with(go_at_call 121;refine(HE.out _ HB1.out).mono ?_;rintro e w2⟨rfl,hb2⟩;have hb2':=qT HB1.out hb2;have hx0:=qB hb2 HX0.out;have hx1:=qB hb2 HX1.out;have hx2:=qB hb2 HX2.out;have HB2:=Hd hb2';have HX12:=Hd hx1;have HX22:=Hd hx2;obtain⟨⟨m0,m1⟩,-⟩:=zj hx0;obtain⟨⟨r0,r1⟩,r2,r3⟩:=zj hx1;obtain⟨⟨p0,p1,p2,p3,p4⟩,q0,q1,q2,q3,q4⟩:=zBK hx2;clear hb2 hb2' hx0 hx1 hx2);obtain⟨f1,f2,f3⟩:=zLy HX12.out HX22.out (by omega) (.slice va 1 vc) (.int .u64 nx) (.int .u64 0) (.bool false) (.bool false) (.int .u64 0) (.string ⟨#[]⟩);have f4:=HB2.out.trans (f3.below (B:=w.heap.size) HB2.out.size (fun i hi e=>by omega));unfold zNi at f1 f2 f3 f4;refine bodyPost_ret (zAA rfl _ _ (w.heap.size+1) (w.heap.size+1+1) _ _ _ _ _ _ _ _ rfl f1 rfl f2 underlying53 rfl (by kernel_rfl) underlying135 rfl (by kernel_rfl)) rfl ?_;exact⟨rfl,f4⟩):p:=h
theorem zNj{w:World}{v:Value}{b0:Bk}(h:BksAt w v [b0])(hb:zK b0.name=true)(nx:Nat){item:QB}(hs:item.size≤1000000)(hi:zP item=false)(body:Value)(now:Value):Calls prog 60 #[.agg #[v,.int .u64 nx],.string b0.name,.string item,body,now] w fun e w'=>e= .returned (.tuple #[.agg #[v,.int .u64 nx],.agg #[.int .u64 0,.bool false,.bool false,.int .u64 0,.string ⟨#[]⟩],.int .i64 28])∧Below w.heap.size w w':=by
 have HE:=Hd (fun(u:World)(hu:Below w.heap.size w u)=>zCo (h.still hu) hb nx item hs)
 rw[hi]at HE
 obtain⟨va,vc,hv⟩:=zA (show w.ownsRow 0 153 8 v 1 (bkR b0)from h)
 subst hv
 obtain⟨bn,hbn⟩:=qN b0.name
 rw[hbn]at HE⊢
 have hb1:Below w.heap.size w (((w.alloc (.cells #[.slice va 1 vc,.int .u64 nx] 53)).alloc (.cells #[.slice none 0 0,.int .u64 0] 53)).alloc (.cells #[.int .u64 0,.bool false,.bool false,.int .u64 0,.string ⟨#[]⟩] 135)):=((qA).alloc (by simp) _).alloc (by simp;omega) _
 have hx0:(((w.alloc (.cells #[.slice va 1 vc,.int .u64 nx] 53)).alloc (.cells #[.slice none 0 0,.int .u64 0] 53)).alloc (.cells #[.int .u64 0,.bool false,.bool false,.int .u64 0,.string ⟨#[]⟩] 135)).heap[w.heap.size]? =some (.cells #[.slice va 1 vc,.int .u64 nx] 53 (0,0)):=alloc_old (alloc_old (zN rfl))
 have hx1:(((w.alloc (.cells #[.slice va 1 vc,.int .u64 nx] 53)).alloc (.cells #[.slice none 0 0,.int .u64 0] 53)).alloc (.cells #[.int .u64 0,.bool false,.bool false,.int .u64 0,.string ⟨#[]⟩] 135)).heap[w.heap.size+1]? =some (.cells #[.slice none 0 0,.int .u64 0] 53 (0,0)):=alloc_old (zN (by simp))
 have hx2:(((w.alloc (.cells #[.slice va 1 vc,.int .u64 nx] 53)).alloc (.cells #[.slice none 0 0,.int .u64 0] 53)).alloc (.cells #[.int .u64 0,.bool false,.bool false,.int .u64 0,.string ⟨#[]⟩] 135)).heap[w.heap.size+1+1]? =some (.cells #[.int .u64 0,.bool false,.bool false,.int .u64 0,.string ⟨#[]⟩] 135 (0,0)):=zN (by simp)
 have HB1:=Hd hb1
 have HX0:=Hd hx0
 have HX1:=Hd hx1
 have HX2:=Hd hx2
 obtain⟨⟨m0,m1⟩,-⟩:=zj hx0
 clear h hb hs hi hbn hb1 hx0 hx1 hx2
 go_enter func60,ntmps60
 exact zUE
theorem zNk{w:World}{v:Value}{b0:Bk}(h:BksAt w v [b0])(hb:zK b0.name=true)(nx:Nat){item:QB}(hs:item.size≤1000000)(hi:zP item=false)(now:Value):Calls prog 61 #[.agg #[v,.int .u64 nx],.string b0.name,.string item,now] w fun e w'=>e= .returned (.tuple #[.agg #[v,.int .u64 nx],.agg #[.int .u64 0,.bool false,.bool false,.int .u64 0,.string ⟨#[]⟩],.int .i64 28])∧Below w.heap.size w w':=by
 have HE:=Hd (fun(u:World)(hu:Below w.heap.size w u)=>zCo (h.still hu) hb nx item hs)
 rw[hi]at HE
 obtain⟨va,vc,hv⟩:=zA (show w.ownsRow 0 153 8 v 1 (bkR b0)from h)
 subst hv
 obtain⟨bn,hbn⟩:=qN b0.name
 rw[hbn]at HE⊢
 have hb1:Below w.heap.size w (((w.alloc (.cells #[.slice va 1 vc,.int .u64 nx] 53)).alloc (.cells #[.slice none 0 0,.int .u64 0] 53)).alloc (.cells #[.int .u64 0,.bool false,.bool false,.int .u64 0,.string ⟨#[]⟩] 135)):=((qA).alloc (by simp) _).alloc (by simp;omega) _
 have hx0:(((w.alloc (.cells #[.slice va 1 vc,.int .u64 nx] 53)).alloc (.cells #[.slice none 0 0,.int .u64 0] 53)).alloc (.cells #[.int .u64 0,.bool false,.bool false,.int .u64 0,.string ⟨#[]⟩] 135)).heap[w.heap.size]? =some (.cells #[.slice va 1 vc,.int .u64 nx] 53 (0,0)):=alloc_old (alloc_old (zN rfl))
 have hx1:(((w.alloc (.cells #[.slice va 1 vc,.int .u64 nx] 53)).alloc (.cells #[.slice none 0 0,.int .u64 0] 53)).alloc (.cells #[.int .u64 0,.bool false,.bool false,.int .u64 0,.string ⟨#[]⟩] 135)).heap[w.heap.size+1]? =some (.cells #[.slice none 0 0,.int .u64 0] 53 (0,0)):=alloc_old (zN (by simp))
 have hx2:(((w.alloc (.cells #[.slice va 1 vc,.int .u64 nx] 53)).alloc (.cells #[.slice none 0 0,.int .u64 0] 53)).alloc (.cells #[.int .u64 0,.bool false,.bool false,.int .u64 0,.string ⟨#[]⟩] 135)).heap[w.heap.size+1+1]? =some (.cells #[.int .u64 0,.bool false,.bool false,.int .u64 0,.string ⟨#[]⟩] 135 (0,0)):=zN (by simp)
 have HB1:=Hd hb1
 have HX0:=Hd hx0
 have HX1:=Hd hx1
 have HX2:=Hd hx2
 obtain⟨⟨m0,m1⟩,-⟩:=zj hx0
 clear h hb hs hi hbn hb1 hx0 hx1 hx2
 go_enter func61,ntmps61
 exact zUE
end
end Go.Proofs.YtaokjeokpifjgaaGreatDoor
