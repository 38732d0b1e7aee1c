/-
  Texts of this claim, one behind the other: Bl1 Bl2 StPV PkRV PkV PkWV HeldA PkDV ScanV ScanIV Bl3 StMV StFV StGV StWV StKV Sm1 Sm2.
-/
import Derived.Test.YtaokjeokpifjgaaGreatDoorM3
import Derived.Shelf.Strings.SlTrimAscii
open Go.Proofs.Tryz
set_option maxRecDepth 100000
set_option maxHeartbeats 4000000
namespace Go.Proofs.YtaokjeokpifjgaaGreatDoor
section
open Go.RowKit Go.MapKept
attribute [local go_sem] yo yg
theorem zS0{p:Prop}(h:p:=by rw[e2];clear e2;go_enter func171,ntmps171;go_wp2;go_ret;exact⟨rfl,rfl⟩):p:=h
theorem zFK(n:Nat)(hn:n≤9223372036854775807)(w:World):Calls prog 171 #[.int .i64 n] w fun e w'=>e= .returned (.int .i64 (zc n))∧w=w':=by
 by_cases h:n≤506
 ·(have e1:decide ((n:Int)≤506)=true:=by simp;omega);(have e2:zc n=1:=by unfold zc;rw[if_pos h]);exact zS0
 ·(have e1:decide ((n:Int)≤506)=false:=by simp;omega);(have e2:((zc n:Nat):Int)=((n:Int)-1)/506+1:=by unfold zc;rw[if_neg h];omega);exact zS0
theorem zS1{p:Prop}(h:p:=by go_wp2;go_ret;exact⟨rfl,qA⟩):p:=h
theorem zMm(next:Nat)(hn:next<4294967296)(s:QB)(hs:s.size≤506)(w:World):Calls prog 174 #[.int .i64 next,.string s] w fun e w'=>e= .returned (.string (ye next s))∧Below w.heap.size w w':=by
 have hcv:∀u,Lib.Bytes u w.heap.size 0 (kK next s.size)→∀c,(convert 121 9 (.slice (some ⟨w.heap.size,0,none⟩) 6 c)).run prog u= .ok (.string (kK next s.size)) u:=fun u hu c=>by have:=Lib.run_convert_whole (P:=prog) u 121 5 9 underlying121 underlying5 underlying9 w.heap.size 0 (kK next s.size) hu c;rwa [kL]at this
 have hby:Lib.Bytes (w.alloc (Obj.cells #[Value.int IntKind.u8 ((next:Int)/16777216),Value.int IntKind.u8 ((next:Int)/65536 %256),Value.int IntKind.u8 ((next:Int)/256 %256),Value.int IntKind.u8 ((next:Int)%256),Value.int IntKind.u8 ((s.size:Int)/256),Value.int IntKind.u8 ((s.size:Int)%256)] 5)) w.heap.size 0 (kK next s.size):=by(have hn2:next/16777216<256:=by omega);(have hs2:s.size/256<256:=by omega);intro i hi;rw[kL]at hi;rw[Nat.zero_add];have e:∀j,(w.alloc (Obj.cells #[Value.int IntKind.u8 ((next:Int)/16777216),Value.int IntKind.u8 ((next:Int)/65536 %256),Value.int IntKind.u8 ((next:Int)/256 %256),Value.int IntKind.u8 ((next:Int)%256),Value.int IntKind.u8 ((s.size:Int)/256),Value.int IntKind.u8 ((s.size:Int)%256)] 5)).cell? ⟨w.heap.size,j,none⟩=(#[Value.int IntKind.u8 ((next:Int)/16777216),Value.int IntKind.u8 ((next:Int)/65536 %256),Value.int IntKind.u8 ((next:Int)/256 %256),Value.int IntKind.u8 ((next:Int)%256),Value.int IntKind.u8 ((s.size:Int)/256),Value.int IntKind.u8 ((s.size:Int)%256)]:Array Value)[j]? :=fun j=>Qc (qH w _) j;rw[e,zL _ i (by rw[kL];exact hi)];match i,hi with|0,_=>simp[zG,kK,zBl];omega|1,_=>simp[zG,kK,zBl]|2,_=>simp[zG,kK,zBl]|3,_=>simp[zG,kK,zBl]|4,_=>simp[zG,kK,zBl];omega|5,_=>simp[zG,kK,zBl]
 have l1:=hcv _ hby 6
 have hcat:=run_string_add_sum (P:=prog) (w.alloc (Obj.cells #[Value.int IntKind.u8 ((next:Int)/16777216),Value.int IntKind.u8 ((next:Int)/65536 %256),Value.int IntKind.u8 ((next:Int)/256 %256),Value.int IntKind.u8 ((next:Int)%256),Value.int IntKind.u8 ((s.size:Int)/256),Value.int IntKind.u8 ((s.size:Int)%256)] 5)) (kK next s.size) s (by rw[kL];omega)
 unfold ye
 generalize kK next s.size=hb at*
 clear hby hcv
 go_enter func174,ntmps174
 exact zS1
theorem zHq(a b m n:Nat)(ha:a*m<2^62)(hb:b*n<2^62):bits .or .i64 ((a:Int)*(m:Int)) ((b:Int)*(n:Int))=((a*m|||b*n:Nat):Int):=by
 have h:=kj (a*m) (b*n) ha hb
 rwa [Int.natCast_mul,Int.natCast_mul]at h
theorem zGc(y b n:Nat)(ha:y<2^62)(hb:b*n<2^62):bits .or .i64 (y:Int) ((b:Int)*(n:Int))=((y|||b*n:Nat):Int):=by
 have h:=kj y (b*n) ha hb
 rwa [Int.natCast_mul]at h
theorem zGd(a b m:Nat)(ha:a*m<2^62)(hb:b<2^62):bits .or .i64 ((a:Int)*(m:Int)) (b:Int)=((a*m|||b:Nat):Int):=by
 have h:=kj (a*m) b ha hb
 rwa [Int.natCast_mul]at h
theorem zHr{w:World}{br:Nat}{R:RoomS}(h:RoomAt w br R)(p:Nat)(hp:p<R.pages)(h1:R.has p=true)(next:Nat)(c:QB)(hn:next<4294967296)(hc:c.size≤506)(ht:R.text p=zS (ye next c)):Calls prog 180 #[.pointer (some ⟨br,0,none⟩),.int .i64 p] w fun e w'=>e= .returned (.tuple #[.int .i64 next,.string c,.int .i64 0])∧Below w.heap.size w w':=by
 have H1:=Hd (zKD h p hp h1)
 rw[ht]at H1
 have hz:(zS (ye next c)).size=512:=vz _ (by rw[zBz];omega)
 obtain⟨b0,b1,b2,b3,b4,b5⟩:=zJL next c
 have hpp:=zK0 next c hc
 generalize zS (ye next c)=t at*
 have g0:0<t.size:=by omega
 have g1:1<t.size:=by omega
 have g2:2<t.size:=by omega
 have g3:3<t.size:=by omega
 have g4:4<t.size:=by omega
 have g5:5<t.size:=by omega
 have x0:=zL t 0 g0
 have x1:=zL t 1 g1
 have x2:=zL t 2 g2
 have x3:=zL t 3 g3
 have x4:=zL t 4 g4
 have x5:=zL t 5 g5
 rw[b0]at x0
 rw[b1]at x1
 rw[b2]at x2
 rw[b3]at x3
 rw[b4]at x4
 rw[b5]at x5
 have r4:=or4 next hn
 have r2:=or2 c.size (by omega)
 have k0:next/16777216 %256<256:=Nat.mod_lt _ (by decide)
 have k1:next/65536 %256<256:=Nat.mod_lt _ (by decide)
 have k2:next/256 %256<256:=Nat.mod_lt _ (by decide)
 have k3:next %256<256:=Nat.mod_lt _ (by decide)
 have k4:c.size/256 %256<256:=Nat.mod_lt _ (by decide)
 have k5:c.size %256<256:=Nat.mod_lt _ (by decide)
 generalize next/16777216 %256=a0 at*
 generalize next/65536 %256=a1 at*
 generalize next/256 %256=a2 at*
 generalize next %256=a3 at*
 generalize c.size/256 %256=a4 at*
 generalize c.size %256=a5 at*
 have o1:=zHq a0 a1 16777216 65536 (by omega) (by omega)
 have y1:a0*16777216|||a1*65536<2^62:=Nat.or_lt_two_pow (by omega) (by omega)
 have o2:=zGc (a0*16777216|||a1*65536) a2 256 y1 (by omega)
 have y2:a0*16777216|||a1*65536|||a2*256<2^62:=Nat.or_lt_two_pow y1 (by omega)
 have o3:=kj (a0*16777216|||a1*65536|||a2*256) a3 y2 (by omega)
 rw[r4]at o3
 have o4:=zGd a4 a5 256 (by omega) (by omega)
 rw[r2]at o4
 clear y1 y2 r4 r2
 generalize a0*16777216|||a1*65536=z1 at*
 generalize z1|||a2*256=z2 at*
 have w6:IntKind.i64.wrap (6+(c.size:Int))=6+(c.size:Int):=zv (by omega) (by omega)
 have e6:(6+(c.size:Int)).toNat=6+c.size:=by omega
 have n6:(0:Int)≤6+(c.size:Int):=by omega
 have m6:(6:Int)≤6+(c.size:Int):=by omega
 have l6:(6+(c.size:Int))≤512:=by omega
 have c6:decide ((506:Int)<(c.size:Int))=false:=by simp;omega
 have O1:bits .or .i64 ((a0:Int)*16777216) ((a1:Int)*65536)=(z1:Int):=o1
 have O2:bits .or .i64 (z1:Int) ((a2:Int)*256)=(z2:Int):=o2
 have O4:bits .or .i64 ((a4:Int)*256) (a5:Int)=(c.size:Int):=o4
 have HPP:=Hd hpp
 clear b0 b1 b2 b3 b4 b5 ht hpp h1 o1 o2 o4 h
 go_enter func180,ntmps180
 go_wp2_with(go_at_call 204;refine(H1.out).mono ?_;rintro e w1⟨rfl,hb⟩)
 go_quiet(fail)
 go_wp2
 go_quiet(fail)
 go_wp2
 go_quiet(fail)
 rw[HPP.out]
 go_wp2
 go_ret3
 exact⟨rfl,hb.trans ⟨rfl,rfl,rfl,Qn _,fun _ _=>rfl⟩⟩
theorem RoomStep.foreign{br:Nat}{w w1 w2:World}{R R1:RoomS}(h:RoomStep br w R w1 R1){S:Nat→Prop}(hk:Keep S w1 w2)(hS:∀k,S k→w.heap.size≤k∧¬R1.foot br k):RoomStep br w R w2 R1:=by
 refine⟨h.at_.keep hk (fun k hf hs=>(hS k hs).2 hf),h.bt,h.maps,h.pages,?_⟩
 have h1:=h.tx
 refine⟨(h.at_.keep hk (fun k hf hs=>(hS k hs).2 hf)).tx|>fun x=>by rw[←h.bt];exact x,h1.bl,h1.n,h1.f,h1.Fl,h1.keep.trans hk (fun i hi hs=>by have:=(hS i hs).1;omega),h1.own⟩
theorem RoomStep.apart_{br:Nat}{w w':World}{R R':RoomS}(h:RoomStep br w R w' R'){k:Nat}(hk:k<w.heap.size)(hn:¬R.foot br k):¬R'.foot br k:=by
 intro hf
 rcases hf with hf|hf
 ·exact hn (.inl hf)
 ·rw[h.bt]at hf;rcases h.tx.foot hf with e|e;(·exact hn (.inr e));·omega
theorem RoomStep.keep{br:Nat}{w w':World}{R R':RoomS}(h:RoomStep br w R w' R'):Keep (R.foot br) w w':=h.tx.keep.mono (fun _ _ e=>.inr (TxS.own_foot e))
theorem zGe{w:World}{br:Nat}{R:RoomS}(h:RoomAt w br R){k:Nat}(hk:R.foot br k):k<w.heap.size:=by
 rcases hk with rfl|hk
 ·exact(Gl h.cells)
 ·exact h.tx.foot_lt hk
theorem RoomStep.size{br:Nat}{w w':World}{R R':RoomS}(h:RoomStep br w R w' R'):w.heap.size≤w'.heap.size:=h.tx.keep.size
structure Took(R R':RoomS)(ps:List Nat):Prop where
 nodup:ps.Nodup
 new:∀p∈ps,p<R.pages∧R.has p=false
 has:∀q,q<R.maps*4096→R'.has q=(decide (q∈ps)||R.has q)
 text:∀q,q<R.pages→q∉ps→R'.text q=R.text q
 zero:R'.home 0=R.home 0
theorem Took.nil(R:RoomS):Took R R []:=⟨List.nodup_nil,fun p hp=>(by cases hp),fun q _=>by simp,fun q _ _=>rfl,rfl⟩
theorem RoomAt.pages_le{w:World}{br:Nat}{R:RoomS}(h:RoomAt w br R):R.pages≤R.maps*4096:=by
 have:=h.fit.1
 omega
theorem Took.alloc{R R1 R2:RoomS}{ps:List Nat}{p:Nat}(h:Took R R1 ps)(hm:R1.maps=R.maps)(hg:R1.pages=R.pages)(hle:R.pages≤R.maps*4096)(hp:p<R.pages)(h0:R1.has p=false)(ha:Alloced R1 R2 p):Took R R2 (ps++[p]):=by
 have h1:=h.has p (by omega)
 rw[h0]at h1
 have hnp:p∉ps:=fun e=>by rw[decide_eq_true e]at h1;cases h1
 have hp0:R.has p=false:=by rw[decide_eq_false hnp,Bool.false_or]at h1;exact h1.symm
 refine⟨?_,fun q hq=> ?_,fun q hq=> ?_,fun q hq hn=> ?_,ha.zero.trans h.zero⟩
 ·refine List.nodup_append.2 ⟨h.nodup,by simp,fun x hx y hy e=> ?_⟩;(have hyp:y=p:=by simpa using hy);exact hnp (by rw[←hyp,←e];exact hx)
 ·rcases List.mem_append.1 hq with hq|hq;(·exact h.new q hq);·(obtain rfl:q=p:=by simpa using hq);exact⟨hp,hp0⟩
 ·rw[ha.has q (by rw[hm];exact hq),h.has q hq];by_cases e:q=p<;>simp[e,List.mem_append]
 ·rw[ha.text q (by omega),if_neg (fun e=>hn (by simp[e])),h.text q hq (fun e=>hn (Qm _ e))]
theorem Took.wrote{R R1 R2:RoomS}{ps:List Nat}{p:Nat}{s:QB}(h:Took R R1 ps)(hm:R1.maps=R.maps)(hg:R1.pages=R.pages)(hp:p∈ps)(ha:Wrote R1 R2 p s):Took R R2 ps:=by
 refine⟨h.nodup,h.new,fun q hq=> ?_,fun q hq hn=> ?_,ha.zero.trans h.zero⟩
 ·rw[ha.has q (by rw[hm];exact hq),h.has q hq]
 ·rw[ha.text q (by omega),if_neg (show¬q=p from fun e=>hn (e▸hp)),h.text q hq hn]
theorem Took.count{R R1:RoomS}{ps:List Nat}(h:Took R R1 ps)(hle:R.pages≤R.maps*4096):cnt R1.has R.pages=cnt R.has R.pages+ps.length:=by
 rw[←zOA ps R.has R.pages h.nodup (fun p hp=>(h.new p hp).1) (fun p hp=>(h.new p hp).2)]
 exact zBQ (fun q hq=>h.has q (by omega))
theorem zOg(f:Nat→Bool)(n:Nat)(h:∀q,q<n→f q=true):cnt f n=n:=by
 induction n with|zero=>rfl|succ n ih=>rw[zA6,ih (fun q hq=>h q (by omega)),h n (by omega)];rfl
theorem zJR{f:Nat→Bool}{n:Nat}(h:¬∀q,q<n→f q=true):∃p,p<n∧f p=false∧∀q,q<p→f q=true:=by
 have hex:∃q,q<n∧f q=false:=by refine Classical.byContradiction (fun hno=>h (fun q hq=> ?_));cases hc:f q with|true=>rfl|false=>exact absurd ⟨q,hq,hc⟩ hno
 obtain⟨q,hq,hq0⟩:=hex
 induction q using Nat.strongRecOn with|_ q ih=>by_cases hb:∃i,i<q∧f i=false;(·obtain⟨i,hi,hi0⟩:=hb;exact ih i hi (by omega) hi0);·refine⟨q,hq,hq0,fun i hi=> ?_⟩;cases hc:f i with|true=>rfl|false=>exact absurd ⟨i,hi,hc⟩ hb
theorem Took.snoc{br:Nat}{w w2 w3:World}{R R2:RoomS}{v v':Value}{n:Nat}{xs:List Value}{o:Obj}(hst:RoomStep br w R w2 R2)(hrow:w2.ownsRow w.heap.size 3 1 v n xs)(hap:∀g,v.ownBlock=some g→¬R2.foot br g)(hg:(w2.alloc o).grownBy w3 v.ownBlock)(hloc:v'.ownBlock=v.ownBlock∨v'.ownBlock=some (w2.alloc o).heap.size):RoomStep br w R w3 R2∧∀g,v'.ownBlock=some g→¬R2.foot br g:=by
 have hk:Keep (fun k=>v.ownBlock=some k) w2 w3:=((Keep.refl _ w2).alloc o).grown hg (fun k _ e=>e)
 refine⟨hst.foreign hk (fun k e=>⟨(hrow.lt k e).1,hap k e⟩),fun g hgv=> ?_⟩
 rcases hloc with e|e
 ·exact hap g (e▸hgv)
 ·rw[e]at hgv;have hgg:(w2.alloc o).heap.size=g:=Option.some.inj hgv;intro hf;have:=zGe hst.at_ hf;rw[World.size_alloc]at hgg;omega
def zEW(ps:List Nat):List Value:=ps.map (fun k=>Value.int .i64 (k:Nat))
def zQU(br:Nat)(w:World)(R:RoomS)(v:Value)(ps:List Nat)(c:Nat)(wr:World):Prop:=∃R1,RoomStep br w R wr R1∧Took R R1 ps∧wr.ownsRow w.heap.size 3 1 v ps.length (zEW ps)∧(∀g,v.ownBlock=some g→¬R1.foot br g)∧∃a,R1.T.puts=R.T.puts++a∧a.length≤c
theorem zK3{w:World}{br:Nat}{R:RoomS}(h:RoomAt w br R)(hlen:R.T.puts.length<1000000000000)(p:Nat)(hp:p<R.pages)(h1:R.has p=true)(s:QB)(hs:s.size≤512):Calls prog 173 #[.pointer (some ⟨br,0,none⟩),.int .i64 p,.string s] w fun e w'=>e= .returned (.int .i64 0)∧∃R',RoomStep br w R w' R'∧Wrote R R' p (zS s):=(zHg h hlen p hp h1 s (by omega)).mono fun _ _⟨he,R',hst,ha⟩=>by rw[if_neg (by omega)]at he;exact⟨he,R',hst,ha.elim (fun h=>by omega) (fun h=>h.2)⟩
theorem Wrote.texts{R R1 R2:RoomS}{ps:List Nat}{k:Nat}{s t:QB}(ht:Took R R1 ps)(hg:R1.pages=R.pages)(hk:k<ps.length)(hw:Wrote R1 R2 (ps.getD k 0) t)(h0:t=zS (ye (zAk ps k) (yi s k)))(h1:∀j,j<k→R1.text (ps.getD j 0)=zS (ye (zAk ps j) (yi s j))):∀j,j<k+1→R2.text (ps.getD j 0)=zS (ye (zAk ps j) (yi s j)):=by
 intro j hj
 have hjl:j<ps.length:=by omega
 have hp:=(ht.new _ (vu hjl)).1
 rw[hw.text _ (by omega)]
 by_cases e:j=k
 ·subst e;rw[if_pos rfl,h0]
 ·rw[if_neg (fun e2=>e (getD_inj ht.nodup hjl hk e2))];exact h1 j (by omega)
theorem Took.taken{R R1:RoomS}{ps:List Nat}(h:Took R R1 ps)(hle:R.pages≤R.maps*4096){p:Nat}(hp:p∈ps):R1.has p=true:=by
 rw[h.has p (by have:=(h.new p hp).1;omega),decide_eq_true hp]
 rfl
def zKG(br:Nat)(w:World)(R:RoomS)(v:Value)(ps:List Nat)(n:Nat)(s:QB)(k:Nat)(wr:World):Prop:=∃R1,RoomStep br w R wr R1∧Took R R1 ps∧wr.ownsRow w.heap.size 3 1 v n (zEW ps)∧(∀g,v.ownBlock=some g→¬R1.foot br g)∧(∀j,j<k→R1.text (ps.getD j 0)=zS (ye (zAk ps j) (yi s j)))∧∃a,R1.T.puts=R.T.puts++a∧a.length≤2*n+k
theorem zD0(ps:List Nat)(j:Nat)(h:j<ps.length):(zEW ps)[j]? =some (.int .i64 (ps.getD j 0:Nat)):=by
 unfold zEW
 rw[List.getElem?_map,Qg h,List.getD_eq_getElem?_getD,Qg h]
 rfl
def zOh(br:Nat)(w:World)(R:RoomS)(s:QB)(e:Ending)(w':World):Prop:=(∃R' ps,e= .returned (.tuple #[.int .i64 (ps.getD 0 0:Nat),.int .i64 0])∧RoomStep br w R w' R'∧Took R R' ps∧BlobIn R' s ps∧∃a,R'.T.puts=R.T.puts++a∧a.length≤3*zc s.size)∨(∃R',e= .returned (.tuple #[.int .i64 0,.int .i64 4])∧RoomStep br w R w' R'∧R.pages<cnt R.has R.pages+zc s.size∧∃a,R'.T.puts=R.T.puts++a∧a.length≤3*zc s.size)
theorem zS2{p:Prop}(h:p:=by by_cases h0:k=0;(·omega);·have:=HLeast.out (k-1) (by omega);omega):p:=h
theorem zS3{p:Prop}(h:p:=by go_wp2_with(first|(go_at_call 174;refine(HPage.out _).mono ?_;rintro e w4⟨rfl,hb4⟩)|(go_at_call 173;refine(HWr.out _ (HR1.out.still hb4)).mono ?_;rintro e w5⟨rfl,R2,hst2,hw2⟩));have hst5:=(RoomStep.still HR1.out hb4).trans hst2;refine⟨⟨k+1,by omega,by go_num,by rw[HT1.out],R2,HST.out.trans hst5,HTo.out.wrote HM1.out HG1.out HMem.out hw2,hst5.keep.ownsRow HRow.out HAp.out,fun g hg=>hst5.apart_ (HRow.out.lt g hg).2 (HAp.out g hg),HTexts.out R2 hw2,?_⟩,by simp only[intOf];omega⟩;obtain⟨x,hx1,hx2⟩:=hw2.puts;exact⟨a++x,by rw[hx1,HAl.out,Qa],by rw[Ql];omega⟩):p:=h
theorem zHs{w:World}{br:Nat}{R:RoomS}(h:RoomAt w br R)(hlen:R.T.puts.length<100000000000)(s:QB)(hs:s.size≤131072):Calls prog 104 #[.pointer (some ⟨br,0,none⟩),.string s] w (zOh br w R s):=by
 have HPg:=Hd (fun w=>zFK s.size (by omega) w)
 have hn:=zFf s.size hs
 obtain⟨n,hnn⟩:=qN (zc s.size)
 rw[hnn]at HPg hn
 have HN:=Hd hnn
 have HR:=Hd h
 have hple:=h.pages_le
 obtain⟨i0,hi0,hz0,hz1,hz2⟩:=info_parts zGP
 have HI:=Hd hi0
 have Hz0:=Hd hz0
 have Hz1:=Hd hz1
 have Hz2:=Hd hz2
 clear h hnn hi0 hz0 hz1 hz2
 go_enter func104,ntmps104
 go_wp2_with(first|(go_at_call 171;refine(HPg.out _).mono ?_;rintro e w1⟨rfl,rfl⟩))
 go_loopw [6,7,8,17](fun v _ _ i wr=>∃ps:List Nat,ps.length≤n∧i= .int .i64 ps.length∧zQU br w R v ps (2*ps.length) wr)(fun _ _ _ i _=>n-(intOf i).toNat)
 case atStart=>exact⟨[],by simp,rfl,R,RoomStep.refl HR.out,Took.nil R,qO,fun g hg=>(by cases hg),[],by simp,by simp⟩
 case round=>obtain⟨ps,hpl,rfl,R1,hst,htook,hrow,hap,a,ha,hal⟩:=hrel;by_cases hlt:ps.length<n;(·(have g1:decide ((ps.length:Int)<(n:Int))=true:=by simp;omega);have hA:=hst.at_;have hcount:=htook.count hple;have hm1:=hst.maps;have hg1:=hst.pages;by_cases hall:∀q,q<R1.pages→R1.has q=true;(·have HF:=Hd (zJD hA hall);have hc:=zOg R1.has R1.pages hall;rw[hg1]at hc;have HST:=Hd hst;(have HC:R.pages<cnt R.has R.pages+n:=by omega);have HCC:=Hd HC;have HAl:=Hd ha;clear hall hc hcount hA hst htook hrow hap ha HC hm1 hg1;go_wp2_with(go_at_call 172;refine(HF.out).mono ?_;rintro e w2⟨rfl,hb2⟩);go_ret2;refine .inr ⟨R1,rfl,HST.out.trans (RoomStep.still HST.out.at_ hb2),by rw[HN.out];exact HCC.out,a,HAl.out,?_⟩;rw[HN.out];omega);·obtain⟨p,hp,hp0,hp1⟩:=zJR hall;have HF:=Hd (zHf hA (by rw[ha,Ql];omega) p hp hp0 hp1);have HST:=Hd hst;have HTo:=Hd htook;have HRow:=Hd hrow;have HAp:=Hd hap;have HAl:=Hd ha;have HP0:=Hd hp0;have HM1:=Hd hm1;have HG1:=Hd hg1;clear hall hp0 hp1 hcount hA hst htook hrow hap ha hm1 hg1;go_wp2_with(first|(go_at_call 172;refine(HF.out).mono ?_;rintro e w2⟨rfl,R2,hst2,hall2⟩;have hst3:=HST.out.trans hst2;have hrow2:=hst2.keep.ownsRow HRow.out HAp.out;have hap2:∀g,u6.ownBlock=some g→¬R2.foot br g:=fun g hg=>hst2.apart_ (HRow.out.lt g hg).2 (HAp.out g hg);have HST3:=Hd hst3;have HRow2:=Hd hrow2;have HAp2:=Hd hap2;have HAll2:=Hd hall2;clear hst2 hall2 hst3 hrow2 hap2)|(at_builtin;refine wpList_append_own_at _ (by rfl) _ _ 68 (by rfl) w.heap.size 3 i0 (.int .i64 0) 1 8 underlying68 HI.out Hz0.out Hz1.out Hz2.out (by rfl) (by decide) u6 _ _ (by rfl) (HRow2.out.alloc _) ⟨w2.heap.size,0,none⟩ 1 1 [.int .i64 (p:Nat)] (by rfl) (by rfl) (cell_one_new _ _ _) (ints_oneCell .i64 [(p:Int)]) (by unfold maxLen;omega) (by omega) ?_ ?_;(·have:=HST3.out.size;simp;omega);intro v' w3 hown3 hg3 hnil hloc;have hk:=Took.snoc HST3.out HRow2.out HAp2.out hg3 hloc;have HK:=Hd hk;have HO3:=Hd hown3;clear hown3 hg3 hnil hloc hk));go_roundw;(case rel=>(have e1:(ps++[p]).length=ps.length+1:=by simp);refine⟨ps++[p],by omega,by rw[e1];go_num,R2,HK.out.1,HTo.out.alloc HM1.out HG1.out hple (by have:=HG1.out;omega) HP0.out HAll2.out,?_,HK.out.2,?_⟩;(·have:=HO3.out;rw[e1];unfold zEW at this⊢;rw[List.map_append];exact this);·obtain⟨x,hx1,hx2⟩:=HAll2.out.puts;refine⟨a++x,by rw[hx1,HAl.out,Qa],?_⟩;rw[Ql,e1];omega);case measure=>simp[intOf];omega);·(have hpn:ps.length=n:=by omega);(have g1:decide (ps.length<n)=false:=by simp;omega);(have hn1:1≤n:=by rw[←HN.out];exact zBy _);have hsm:=HR.out.tx.log.small;have hfit:=HR.out.fit;rw[hpn]at hrow;obtain⟨gb,c,rfl,hc1,hc2,hgB⟩:=zH hrow (by omega);have hfill:zKG br w R (.slice (some ⟨gb,0,none⟩) n c) ps n s 0 wr:=⟨R1,hst,htook,hrow,hap,fun j hj=>by omega,a,ha,by omega⟩;have HFill:=Hd hfill;have HPN:=Hd hpn;have hcov:=zBk s.size;have hleast:=zCZ s.size;rw[HN.out]at hcov hleast;have HLeast:=Hd hleast;(have hpg:R.pages≤65536:=by omega);clear hst htook hrow hap ha hal hpl hfill hpn hleast hfit hsm;(have hn0:(0:Int)<(n:Int):=by omega);unfold maxLen at hc2;have HRest:=Hd (zJM s);go_wp2;go_loopw [1,34](fun sv i wr2=>∃k:Nat,k≤n∧i= .int .i64 k∧sv= .string (xQ s k)∧zKG br w R (.slice (some ⟨gb,0,none⟩) n c) ps n s k wr2)(fun _ i _=>n-(intOf i).toNat);(case atStart=>exact⟨0,by omega,rfl,by rw[HRest.out],HFill.out⟩);case round=>obtain⟨k,hk,rfl,rfl,R1,hst,htook,hrow,hap,htext,a,ha,hal⟩:=hrel;by_cases hlt:k<n;(·(have g2:decide ((k:Int)<(n:Int))=true:=by simp;omega);(have hkl:k<ps.length:=by rw[HPN.out];exact hlt);have q1:=zC hrow k _ (zD0 ps k hkl);have hpk:=htook.new _ (vu hkl);have hmem:=vu hkl;(have hk6:506*k≤s.size:=by exact zS2);(obtain⟨nx,hnx,hnx2⟩:∃nx,zAk ps k=nx∧((k+1<n∧∃np,nx=np+1∧np≤65536∧wr.cell? ⟨gb,k+1,none⟩=some (.int .i64 np))∨(¬k+1<n∧nx=0)):=by refine⟨_,rfl,?_⟩;unfold zAk;rw[HPN.out];by_cases h1:k+1<n;(·rw[if_pos h1];(have h2:k+1<ps.length:=by rw[HPN.out];exact h1);have h3:=(htook.new _ (vu h2)).1;exact .inl ⟨h1,_,rfl,by omega,zC hrow (k+1) _ (zD0 ps (k+1) h2)⟩);·rw[if_neg h1];exact .inr ⟨h1,rfl⟩);have hpg1:=hst.pages;have hR1:=hst.at_;(have hlen1:R1.T.puts.length<1000000000000:=by rw[ha,Ql];omega);have htk:=htook.taken hple hmem;have hck:=zDT s k;have htz:=zB0 s k;obtain⟨m,hm⟩:∃m,m=min 506 (s.size-506*k):=⟨_,rfl⟩;have he1:=zJN s k m hk6 hm;have he2:=zJO s k m hm;(have hnx3:nx<4294967296:=by rcases hnx2 with⟨_,np,h1,h2,_⟩|⟨_,h1⟩<;>omega);have HPage:=Hd (fun u=>zMm nx hnx3 (yi s k) (by omega) u);have HWr:=Hd (fun u(hu:RoomAt u br R1)=>zK3 hu hlen1 (ps.getD k 0) (by rw[hpg1];exact hpk.1) htk (ye nx (yi s k)) (by rw[zBz];omega));have HTexts:=Hd (fun R2(hw:Wrote R1 R2 (ps.getD k 0) (zS (ye nx (yi s k))))=>hw.texts htook hpg1 hkl (by rw[hnx]) htext);(have hmt:m≤(xQ s k).size:=by omega);(have hmI:(m:Int)≤((xQ s k).size:Nat):=by omega);(have hmin:min (((xQ s k).size:Nat):Int) 506=(m:Int):=by omega);have HST:=Hd hst;have HTo:=Hd htook;have HRow:=Hd hrow;have HAp:=Hd hap;have HAl:=Hd ha;have HMem:=Hd hmem;have HG1:=Hd hpg1;have HM1:=Hd hst.maps;have HR1:=Hd hR1;have HTZ:=Hd htz;(have htzb:(xQ s k).size≤9223372036854775807:=by omega);generalize ps.getD k 0=pk at*;generalize yi s k=ck at*;generalize xQ s k=t at*;generalize ht1:xQ s (k+1)=t1 at*;have HT1:=Hd ht1;clear ht1;(have hk0:(0:Int)≤(k:Int):=by omega);(have hk1:(k:Int)<(n:Int):=by omega);(have hk2:(k:Int)<(c:Int):=by omega);(have hkb:(k:Int)≤1000:=by omega);clear hst htook hrow hap htext ha hpk hmem hpg1 hR1 hlen1 htk hck htz hm hk6 hnx hnx3;rcases hnx2 with⟨hk3,np,rfl,hnp,q2⟩|⟨hk3,rfl⟩;(·(have g3:decide ((k:Int)+1<(n:Int))=true:=by simp;omega);(have e3:(k:Int)+1=((k+1:Nat):Int):=by omega);(have e4:((k:Int)+1).toNat=k+1:=by omega);(have hk4:(k:Int)+1<(n:Int):=by omega);(have hk5:(0:Int)≤(k:Int)+1:=by omega);(have hnpi:(np:Int)≤65536:=by omega);clear e3;exact zS3);·(have g3:decide ((k:Int)+1<(n:Int))=false:=by simp;omega);exact zS3);·(obtain rfl:k=n:=by omega);(have hl0:0<ps.length:=by rw[HPN.out];omega);have q1:=zC hrow 0 _ (zD0 ps 0 hl0);(have g2:decide ((k:Int)<(k:Int))=false:=by simp);have hb:BlobIn R1 s ps:=⟨by rw[HPN.out,HN.out],htook.nodup,fun p hp=>⟨by rw[hst.pages];exact(htook.new p hp).1,htook.taken hple hp⟩,fun i hi=>htext i (by rw[←HPN.out];exact hi)⟩;have HB:=Hd hb;have HST:=Hd hst;have HTo:=Hd htook;have HAl:=Hd ha;(have hkb:(k:Int)≤1000:=by omega);clear hst htook hrow hap htext ha hb hl0;generalize hpk:ps.getD 0 0=pk at*;have HPK:=Hd hpk;clear hpk;go_wp2;go_ret2;refine .inl ⟨R1,ps,by rw[HPK.out];rfl,HST.out,HTo.out,HB.out,a,HAl.out,?_⟩;rw[HN.out];omega
def eS:QB:=⟨#[]⟩
def zHt:QB:=⟨#[104,98,110]⟩
def brK:QB:=⟨#[98,114]⟩
def nK:QB:=⟨#[110]⟩
def ku(p n c:Nat):QB:=packed zHt [(p,eS),(n,eS),(c,eS)]
def zAl(s:Nat)(id:QB):QB:=packed brK [(s,eS),(0,id)]
def zMn(n:Nat):QB:=packed nK [(n,eS)]
theorem zEX{p n c:Nat}(hp:p<4294967296)(hn:n<256)(hc:c<18446744073709551616):Fields zHt [(p,eS),(n,eS),(c,eS)]:=by
 refine⟨rfl,by show 3≤64;decide,fun i hi=> ?_,fun i hi=> ?_⟩
 ·match i,hi with|0,_=>exact .inl ⟨by decide,rfl,hp⟩|1,_=>exact .inl ⟨by decide,rfl,hn⟩|2,_=>exact .inl ⟨by decide,rfl,hc⟩
 ·match i,hi with|0,_=>intro e;exact absurd e (by decide)|1,_=>intro e;exact absurd e (by decide)|2,_=>intro e;exact absurd e (by decide)
theorem zFh{s:Nat}{id:QB}(hs:s<256)(hi:id.size≤1000000):Fields brK [(s,eS),(0,id)]:=by
 refine⟨rfl,by show 2≤64;decide,fun i hi=> ?_,fun i hi=> ?_⟩
 ·match i,hi with|0,_=>exact .inl ⟨by decide,rfl,hs⟩|1,_=>exact .inr (.inr ⟨by decide,rfl,by assumption⟩)
 ·match i,hi with|0,_=>intro e;exact absurd e (by decide)|1,_=>intro _;rfl
theorem zMo{n:Nat}(hn:n<18446744073709551616):Fields nK [(n,eS)]:=by
 refine⟨rfl,by show 1≤64;decide,fun i hi=> ?_,fun i hi=> ?_⟩
 ·match i,hi with|0,_=>exact .inl ⟨by decide,rfl,hn⟩
 ·match i,hi with|0,_=>intro e;exact absurd e (by decide)
theorem zHu(p n c:Nat):(ku p n c).size=13:=by
 show(yf zHt _ 3).toArray.size=13
 rw[List.size_toArray,zU,zU,zU,vF,List.nil_append,Ql,Ql]
 show(beW 4 p 4).length+(beW 1 n 1).length+(beW 8 c 8).length=13
 rw[zO,zO,zO]
theorem zHv(s:Nat)(id:QB):(zAl s id).size=1+id.size:=by
 show(yf brK _ 2).toArray.size=_
 rw[List.size_toArray,zU,zU,vF,List.nil_append,Ql]
 show(beW 1 s 1).length+id.data.toList.length=_
 rw[zO]
 simp
theorem zK4(n:Nat):(zMn n).size=8:=by
 show(yf nK _ 1).toArray.size=_
 rw[List.size_toArray,zU,vF,List.nil_append]
 show(beW 8 n 8).length=_
 rw[zO]
structure Kept(R R':RoomS)(ps:List Nat):Prop where
 has:∀q∈ps,q<R.pages→R.has q=true→R'.has q=true
 text:∀q∈ps,q<R.pages→R'.text q=R.text q
 pages:R'.pages=R.pages
theorem Kept.sub{R R':RoomS}{ps qs:List Nat}(h:Kept R R' ps)(hq:∀q∈qs,q∈ps):Kept R R' qs:=⟨fun q hm=>h.has q (hq q hm),fun q hm=>h.text q (hq q hm),h.pages⟩
theorem TreeIs.kept{R R':RoomS}{pl:Nat}{kv:KV}{ps:List Nat}(h:TreeIs R pl kv ps)(hk:Kept R R' ps)(hr:R'.root pl=R.root pl):TreeIs R' pl kv ps:=by
 rcases h with⟨h1,h2,h3⟩|⟨h,p,h1,h2⟩
 ·exact .inl ⟨hr.trans h1,h2,h3⟩
 ·exact .inr ⟨h,p,hr.trans h1,h2.mono (fun q hq x hx=>hx.of hk.pages (hk.has q hq hx.1 hx.2.1) (hk.text q hq hx.1))⟩
theorem TreeIs.has{R:RoomS}{pl:Nat}{kv:KV}{ps:List Nat}(h:TreeIs R pl kv ps):∀q∈ps,q<R.pages∧R.has q=true:=by
 rcases h with⟨_,_,h3⟩|⟨h,p,h1,h2⟩
 ·intro q hq;rw[h3]at hq;cases hq
 ·exact h2.page_has
theorem TreeIs.count{R:RoomS}{pl:Nat}{kv:KV}{ps:List Nat}(h:TreeIs R pl kv ps):ps.length≤2*kv.length:=by
 rcases h with⟨_,h2,h3⟩|⟨h,p,h1,h2⟩
 ·rw[h3];exact Nat.zero_le _
 ·have:=h2.count;omega
theorem BlobIn.kept{R R':RoomS}{t:QB}{ps:List Nat}(h:BlobIn R t ps)(hk:Kept R R' ps):BlobIn R' t ps:=h.congr hk.pages (fun p hp=>by rw[hk.has p hp (h.pages p hp).1 (h.pages p hp).2,(h.pages p hp).2]) (fun p hp=>hk.text p hp (h.pages p hp).1)
theorem TurnR.kept{R R':RoomS}{pl:Nat}{ps new qs:List Nat}{m:Nat}(h:TurnR R R' pl ps new m)(hq:∀q∈qs,q∉ps∧R.has q=true):Kept R R' qs:=⟨fun q hm hp hh=>by rw[h.has q hp,hh,Bool.or_true],fun q hm hp=>h.text q hp (hq q hm).1 (fun e=>by have:=(h.free q e).2;rw[(hq q hm).2]at this;cases this),h.pages⟩
theorem Took.kept{R R':RoomS}{ps qs:List Nat}(h:Took R R' ps)(hfit:R.pages≤R.maps*4096)(hp:R'.pages=R.pages)(hq:∀q∈qs,R.has q=true):Kept R R' qs:=⟨fun q hm hp hh=>by rw[h.has q (by omega),hh,Bool.or_true],fun q hm hp=>h.text q hp (fun e=>by have:=(h.new q e).2;rw[hq q hm]at this;cases this),hp⟩
theorem Rooted.kept{R R':RoomS}{k n:Nat}{qs:List Nat}(h:Rooted R R' k n)(hfit:R.pages≤R.maps*4096)(hp:R'.pages=R.pages):Kept R R' qs:=⟨fun q hm hp hh=>by rw[h.has q (by omega),hh],fun q hm hp=>h.text q hp,hp⟩
abbrev Dict:=QB→Option QB
def Dict.upd(D:Dict)(id t:QB):Dict:=fun k=>if k=id then some t else D k
structure Rest where
 kvM:KV
 psM:List Nat
 vb:List (QB×List Nat)
 next:Nat
def Rest.vp(X:Rest):List Nat:=X.vb.flatMap Prod.snd
def Rest.pages(X:Rest):List Nat:=X.psM++X.vp
structure Out(R:RoomS)(X:Rest):Prop where
 tm:TreeIs R 4 X.kvM X.psM
 bl:∀b∈X.vb,BlobIn R b.1 b.2
 nx:R.root 5=X.next
theorem Out.kept{R R':RoomS}{X:Rest}(h:Out R X)(hk:Kept R R' X.pages)(h4:R'.root 4=R.root 4)(h5:R'.root 5=R.root 5):Out R' X:=⟨h.tm.kept (hk.sub (fun _ hq=>Qm _ hq)) h4,fun b hb=>(h.bl b hb).kept (hk.sub (fun _ hq=>Qr _ (List.mem_flatMap.2 ⟨b,hb,hq⟩))),h5.trans h.nx⟩
theorem Out.has{R:RoomS}{X:Rest}(h:Out R X):∀q∈X.pages,q<R.pages∧R.has q=true:=fun q hq=>by
 rcases List.mem_append.1 hq with e|e
 ·exact h.tm.has q e
 ·obtain⟨b,hb,e2⟩:=List.mem_flatMap.1 e;exact(h.bl b hb).pages q e2
structure Cont(R:RoomS)(D:Dict)(kvI kvL:KV)(psI psL bp:List Nat)(X:Rest):Prop where
 ti:TreeIs R 0 kvI psI
 tl:TreeIs R 1 kvL psL
 nd:(psI++(psL++bp)).Nodup
 all:∀q,q<R.pages→R.has q=true→q∈psI++(psL++bp)
 bh:∀q∈bp,q<R.pages∧R.has q=true
 here:∀id t,D id=some t→∃p,p∈bp∧look kvI id=some (ku p t.size 0)∧BlobIn R t [p]∧1≤t.size∧t.size≤128∧p∉X.pages
 gone:∀id,D id=none→look kvI id=none
 log:∀x∈kvL,∃s id,s<2∧id.size≤60∧x.2=zAl s id
 out:Out R X
 xin:∀q∈X.pages,q∈bp
 xnd:X.pages.Nodup
structure Sized(R:RoomS)(kvI kvL:KV)(bp:List Nat)(X:Rest)(nz:Nat):Prop where
 i:kvI.length≤nz
 l:kvL.length≤nz
 b:bp.length≤4*nz
 m:X.kvM.length≤nz
 pages:R.pages≤65536
 puts:R.T.puts.length≤1000*nz
 root:R.root 2≤nz
 bx:bp.length≤nz+X.pages.length
 v:X.vp.length≤nz
theorem zAm(l:KV)(k v:QB):(ins l k v).length≤l.length+1:=by
 induction l with|nil=>exact Qn _|cons x t ih=>obtain⟨a,b⟩:=x;simp only[ins];split;(·simp);·split;(·simp);·simp only[List.length_cons];omega
section
variable {R R' : RoomS} {D : Dict} {kvI kvL : KV} {psI psL bp new ps' : List Nat} {X : Rest} {n m : Nat}
theorem Cont.len(h:Cont R D kvI kvL psI psL bp X):(psI++(psL++bp)).length≤2*kvI.length+2*kvL.length+bp.length:=by
 have h1:=h.ti.count
 have h2:=h.tl.count
 rw[Ql,Ql]
 omega
theorem Cont.taken(h:Cont R D kvI kvL psI psL bp X):∀q∈psI++(psL++bp),q<R.pages∧R.has q=true:=by
 intro q hq
 rcases List.mem_append.1 hq with e|e
 ·exact h.ti.has q e
 ·rcases List.mem_append.1 e with e|e;(·exact h.tl.has q e);·exact h.bh q e
theorem Cont.blob(h:Cont R D kvI kvL psI psL bp X){p:Nat}(hk:Took R R' [p])(hfit:R.pages≤R.maps*4096)(hp:R'.pages=R.pages):Cont R' D kvI kvL psI psL (bp++[p]) X:=by
 have ht:=h.taken
 have hz:∀j,R'.root j=R.root j:=vt hk.zero
 have hI:Kept R R' psI:=hk.kept hfit hp (fun q hq=>(ht q (Qm _ hq)).2)
 have hL:Kept R R' psL:=hk.kept hfit hp (fun q hq=>(ht q (Qr _ (Qm _ hq))).2)
 have hB:Kept R R' bp:=hk.kept hfit hp (fun q hq=>(ht q (Qr _ (Qr _ hq))).2)
 have hnew:=hk.new p (by simp)
 refine⟨h.ti.kept hI (hz 0),h.tl.kept hL (hz 1),?_,fun q hq hh=> ?_,fun q hq=> ?_,fun id t ht=> ?_,h.gone,h.log,h.out.kept (hB.sub h.xin) (hz 4) (hz 5),fun q hq=>Qm _ (h.xin q hq),h.xnd⟩
 ·rw[←Qa,←Qa,Qa psI];refine List.nodup_append.2 ⟨h.nd,by simp,fun x hx y hy e=> ?_⟩;(have hyp:y=p:=by simpa using hy);have:=(ht x hx).2;rw[e,hyp,hnew.2]at this;cases this
 ·rw[hp]at hq;rw[hk.has q (by omega)]at hh;rw[←Qa,←Qa,Qa psI];by_cases e:q=p;(·exact Qr _ (by simp[e]));·refine Qm _ (h.all q hq ?_);simpa[e]using hh
 ·rw[hp];rcases List.mem_append.1 hq with e|e;(·exact⟨(h.bh q e).1,hB.has q e (h.bh q e).1 (h.bh q e).2⟩);·(obtain rfl:q=p:=by simpa using e);refine⟨hnew.1,?_⟩;rw[hk.has q (by have:=hnew.1;omega)];simp
 ·obtain⟨p1,h1,h2,h3,h4⟩:=h.here id t ht;exact⟨p1,Qm _ h1,h2,h3.kept (hB.sub (fun q hq=>by rw[List.mem_singleton.1 hq];exact h1)),h4⟩
theorem zB1{a b ps' new:List Nat}(hnd:(a++b).Nodup)(hp:ps'.Perm (a++new))(hn:new.Nodup)(hd:∀q∈new,q∉a++b):(ps'++b).Nodup:=by
 have h1:(ps'++b).Perm ((a++b)++new):=(hp.append_right b).trans (by rw[Qa,Qa];exact List.Perm.append_left a List.perm_append_comm)
 rw[h1.nodup_iff]
 exact List.nodup_append.2 ⟨hnd,hn,fun x hx y hy e=>hd y hy (e▸hx)⟩
theorem zQV{p:Prop}(h:p:=by have:=(htk q e).2;rw[(ht.free q hq).2]at this;cases this):p:=h
theorem zS4{p:Prop}(h:p:=by exact Qm _ (hpm.mem_iff.2 (Qr _ e))):p:=h
theorem zS5{p:Prop}(h:p:=by rcases List.mem_append.1 this with e1|e1;(·exact Qm _ (hpm.mem_iff.2 (Qm _ e1)));·exact Qr _ e1):p:=h
theorem zS6{p:Prop}(h:p:=by rw[ht.pages];exact⟨(h.bh q hq).1,hB.has q hq (h.bh q hq).1 (h.bh q hq).2⟩):p:=h
theorem zS7{p:Prop}(h:p:=by exact⟨p1,k1,k2,k3.kept (hB.sub (fun q hq=>by rw[List.mem_singleton.1 hq];exact k1)),k4⟩):p:=h
theorem Cont.index(h:Cont R D kvI kvL psI psL bp X){id t:QB}{p:Nat}(hp:p∈bp)(hb:BlobIn R t [p])(h1:1≤t.size)(h2:t.size≤128)(hpx:p∉X.pages)(ht:TurnR R R' 0 psI new m)(hT:TreeIs R' 0 (ins kvI id (ku p t.size 0)) ps')(hpm:ps'.Perm (psI++new)):Cont R' (D.upd id t) (ins kvI id (ku p t.size 0)) kvL ps' psL bp X:=by
 have htk:=h.taken
 have hdj:=List.nodup_append.1 h.nd
 have hL:Kept R R' psL:=ht.kept (fun q hq=>⟨fun e=>hdj.2.2 q e q (Qm _ hq) rfl,(htk q (Qr _ (Qm _ hq))).2⟩)
 have hB:Kept R R' bp:=ht.kept (fun q hq=>⟨fun e=>hdj.2.2 q e q (Qr _ hq) rfl,(htk q (Qr _ (Qr _ hq))).2⟩)
 have hnew:∀q∈new,q∉psI++(psL++bp):=fun q hq e=>by exact zQV
 refine⟨hT,h.tl.kept hL (ht.root 1 (by decide)),zB1 h.nd hpm ht.nodup hnew,fun q hq hh=> ?_,fun q hq=> ?_,fun i s hi=> ?_,fun i hi=> ?_,h.log,h.out.kept (hB.sub h.xin) (ht.root 4 (by decide)) (ht.root 5 (by decide)),h.xin,h.xnd⟩
 ·rw[ht.pages]at hq;rw[ht.has q hq]at hh;by_cases e:q∈new;(·exact zS4);·have:=h.all q hq (by simpa[e]using hh);exact zS5
 ·exact zS6
 ·unfold Dict.upd at hi;rw[zHE];by_cases e:i=id;(·rw[if_pos e]at hi⊢;cases hi;exact⟨p,hp,rfl,hb.kept (hB.sub (fun q hq=>by rw[List.mem_singleton.1 hq];exact hp)),h1,h2,hpx⟩);·rw[if_neg e]at hi⊢;obtain⟨p1,k1,k2,k3,k4⟩:=h.here i s hi;exact zS7
 ·unfold Dict.upd at hi;rw[zHE];by_cases e:i=id;(·rw[if_pos e]at hi;cases hi);·rw[if_neg e]at hi⊢;exact h.gone i hi
theorem zS8{p:Prop}(h:p:=by rw[←Qa,←Qa];exact List.perm_append_comm.append_right bp):p:=h
theorem Cont.entry(h:Cont R D kvI kvL psI psL bp X){k id:QB}{s:Nat}(hs:s<2)(hi:id.size≤60)(ht:TurnR R R' 1 psL new m)(hT:TreeIs R' 1 (ins kvL k (zAl s id)) ps')(hpm:ps'.Perm (psL++new)):Cont R' D kvI (ins kvL k (zAl s id)) psI ps' bp X:=by
 have htk:=h.taken
 have hdj:=List.nodup_append.1 h.nd
 have hdk:=List.nodup_append.1 hdj.2.1
 have hI:Kept R R' psI:=ht.kept (fun q hq=>⟨fun e=>hdj.2.2 q hq q (Qm _ e) rfl,(htk q (Qm _ hq)).2⟩)
 have hB:Kept R R' bp:=ht.kept (fun q hq=>⟨fun e=>hdk.2.2 q e q hq rfl,(htk q (Qr _ (Qr _ hq))).2⟩)
 have hnew:∀q∈new,q∉psI++(psL++bp):=fun q hq e=>by exact zQV
 have hperm:(psI++(psL++bp)).Perm (psL++(psI++bp)):=by exact zS8
 have hperm2:(psI++(ps'++bp)).Perm (ps'++(psI++bp)):=by exact zS8
 refine⟨h.ti.kept hI (ht.root 0 (by decide)),hT,?_,fun q hq hh=> ?_,fun q hq=> ?_,fun i t hi=> ?_,h.gone,fun x hx=> ?_,h.out.kept (hB.sub h.xin) (ht.root 4 (by decide)) (ht.root 5 (by decide)),h.xin,h.xnd⟩
 ·rw[hperm2.nodup_iff];exact zB1 (hperm.nodup_iff.1 h.nd) hpm ht.nodup (fun q hq e=>hnew q hq (hperm.mem_iff.2 e))
 ·rw[ht.pages]at hq;rw[ht.has q hq]at hh;rw[hperm2.mem_iff];by_cases e:q∈new;(·exact zS4);·have:=hperm.mem_iff.1 (h.all q hq (by simpa[e]using hh));exact zS5
 ·exact zS6
 ·obtain⟨p1,k1,k2,k3,k4⟩:=h.here i t hi;exact zS7
 ·rcases zCG hx with e|e;(·exact⟨s,id,hs,hi,by rw[e]⟩);·exact h.log x e
theorem zS9{p:Prop}(h:p:=by rw[hp];exact⟨(h.bh q hq).1,(hk bp).has q hq (h.bh q hq).1 (h.bh q hq).2⟩):p:=h
theorem Cont.next(h:Cont R D kvI kvL psI psL bp X){v:Nat}(hr:Rooted R R' 2 v)(hfit:R.pages≤R.maps*4096)(hp:R'.pages=R.pages):Cont R' D kvI kvL psI psL bp X:=by
 have hk:∀qs,Kept R R' qs:=fun qs=>hr.kept hfit hp
 refine⟨h.ti.kept (hk _) (by rw[hr.root,if_neg (by decide)]),h.tl.kept (hk _) (by rw[hr.root,if_neg (by decide)]),h.nd,fun q hq hh=> ?_,fun q hq=> ?_,fun i t hi=> ?_,h.gone,h.log,h.out.kept (hk _) (by rw[hr.root,if_neg (by decide)]) (by rw[hr.root,if_neg (by decide)]),h.xin,h.xnd⟩
 ·rw[hp]at hq;rw[hr.has q (by omega)]at hh;exact h.all q hq hh
 ·exact zS9
 ·obtain⟨p1,k1,k2,k3,k4⟩:=h.here i t hi;exact⟨p1,k1,k2,k3.kept (hk _),k4⟩
theorem zUh{p:Prop}(h:p:=by exact Qm _ (h.all q hq (by simpa[e]using hh))):p:=h
theorem Cont.meta_(h:Cont R D kvI kvL psI psL bp X){kvM:KV}(ht:TurnR R R' 4 X.psM new m)(hT:TreeIs R' 4 kvM ps')(hpm:ps'.Perm (X.psM++new)):Cont R' D kvI kvL psI psL (bp++new) ⟨kvM,ps',X.vb,X.next⟩:=by
 have htk:=h.taken
 have hdj:=List.nodup_append.1 h.nd
 have hdk:=List.nodup_append.1 hdj.2.1
 have hxd:=List.nodup_append.1 h.xnd
 have hin:∀q∈X.psM,q∈bp:=fun q hq=>h.xin q (Qm _ hq)
 have hI:Kept R R' psI:=ht.kept (fun q hq=>⟨fun e=>hdj.2.2 q hq q (Qr _ (hin q e)) rfl,(htk q (Qm _ hq)).2⟩)
 have hL:Kept R R' psL:=ht.kept (fun q hq=>⟨fun e=>hdk.2.2 q hq q (hin q e) rfl,(htk q (Qr _ (Qm _ hq))).2⟩)
 have hV:Kept R R' X.vp:=ht.kept (fun q hq=>⟨fun e=>hxd.2.2 q e q hq rfl,(h.out.has q (Qr _ hq)).2⟩)
 have hnew:∀q∈new,q∉psI++(psL++bp):=fun q hq e=>by exact zQV
 have hnb:∀q∈new,q∉bp:=fun q hq e=>hnew q hq (Qr _ (Qr _ e))
 refine⟨h.ti.kept hI (ht.root 0 (by decide)),h.tl.kept hL (ht.root 1 (by decide)),?_,fun q hq hh=> ?_,fun q hq=> ?_,fun i t hi=> ?_,h.gone,h.log,⟨hT,fun b hb=>(h.out.bl b hb).kept (hV.sub (fun q hq=>List.mem_flatMap.2 ⟨b,hb,hq⟩)),(ht.root 5 (by decide)).trans h.out.nx⟩,fun q hq=> ?_,?_⟩
 ·rw[←Qa,←Qa,Qa psI];exact List.nodup_append.2 ⟨h.nd,ht.nodup,fun x hx y hy e=>hnew y hy (e▸hx)⟩
 ·rw[ht.pages]at hq;rw[ht.has q hq]at hh;rw[←Qa,←Qa,Qa psI];by_cases e:q∈new;(·exact Qr _ e);·exact zUh
 ·rw[ht.pages];rcases List.mem_append.1 hq with e|e;(·refine⟨(h.bh q e).1,?_⟩;rw[ht.has q (h.bh q e).1,(h.bh q e).2,Bool.or_true]);·refine⟨(ht.free q e).1,?_⟩;rw[ht.has q (ht.free q e).1];simp[e]
 ·obtain⟨p1,k1,k2,k3,k4,k5,k6⟩:=h.here i t hi;have hk1:Kept R R' [p1]:=ht.kept (fun q hq=>by rw[List.mem_singleton.1 hq];exact⟨fun e=>k6 (Qm _ e),(h.bh p1 k1).2⟩);refine⟨p1,Qm _ k1,k2,k3.kept hk1,k4,k5,fun e=> ?_⟩;rcases List.mem_append.1 e with e|e;(·rcases List.mem_append.1 (hpm.mem_iff.1 e)with e|e;(·exact k6 (Qm _ e));·exact hnb p1 e k1);·exact k6 (Qr _ e)
 ·rcases List.mem_append.1 hq with e|e;(·rcases List.mem_append.1 (hpm.mem_iff.1 e)with e|e;(·exact Qm _ (hin q e));·exact Qr _ e);·exact Qm _ (h.xin q (Qr _ e))
 ·exact zB1 h.xnd hpm ht.nodup (fun q hq e=>hnb q hq (h.xin q e))
theorem zTB{p:Prop}(h:p:=by unfold Rest.pages Rest.vp;rw[List.flatMap_append,←Qa];simp):p:=h
theorem Cont.vblob(h:Cont R D kvI kvL psI psL bp X){t:QB}{ps:List Nat}(hk:Took R R' ps)(hb:BlobIn R' t ps)(hfit:R.pages≤R.maps*4096)(hp:R'.pages=R.pages):Cont R' D kvI kvL psI psL (bp++ps) ⟨X.kvM,X.psM,X.vb++[(t,ps)],X.next⟩:=by
 have ht:=h.taken
 have hz:∀j,R'.root j=R.root j:=vt hk.zero
 have hA:Kept R R' (psI++(psL++bp)):=hk.kept hfit hp (fun q hq=>(ht q hq).2)
 have hI:Kept R R' psI:=hA.sub (fun q hq=>Qm _ hq)
 have hL:Kept R R' psL:=hA.sub (fun q hq=>Qr _ (Qm _ hq))
 have hB:Kept R R' bp:=hA.sub (fun q hq=>Qr _ (Qr _ hq))
 have hX:Kept R R' X.pages:=hB.sub h.xin
 have hnew:∀q∈ps,q∉psI++(psL++bp):=fun q hq e=>by have:=(ht q e).2;rw[(hk.new q hq).2]at this;cases this
 have hnb:∀q∈ps,q∉bp:=fun q hq e=>hnew q hq (Qr _ (Qr _ e))
 have hpg:(⟨X.kvM,X.psM,X.vb++[(t,ps)],X.next⟩:Rest).pages=X.pages++ps:=by exact zTB
 refine⟨h.ti.kept hI (hz 0),h.tl.kept hL (hz 1),?_,fun q hq hh=> ?_,fun q hq=> ?_,fun i s hi=> ?_,h.gone,h.log,⟨h.out.tm.kept (hX.sub (fun q hq=>Qm _ hq)) (hz 4),fun b hb2=> ?_,(hz 5).trans h.out.nx⟩,fun q hq=> ?_,?_⟩
 ·rw[←Qa,←Qa,Qa psI];exact List.nodup_append.2 ⟨h.nd,hk.nodup,fun x hx y hy e=>hnew y hy (e▸hx)⟩
 ·rw[hp]at hq;rw[hk.has q (by omega)]at hh;rw[←Qa,←Qa,Qa psI];by_cases e:q∈ps;(·exact Qr _ e);·exact zUh
 ·rw[hp];rcases List.mem_append.1 hq with e|e;(·exact⟨(h.bh q e).1,hB.has q e (h.bh q e).1 (h.bh q e).2⟩);·refine⟨(hk.new q e).1,?_⟩;rw[hk.has q (by have:=(hk.new q e).1;omega)];simp[e]
 ·obtain⟨p1,k1,k2,k3,k4,k5,k6⟩:=h.here i s hi;refine⟨p1,Qm _ k1,k2,k3.kept (hB.sub (fun q hq=>by rw[List.mem_singleton.1 hq];exact k1)),k4,k5,fun e=> ?_⟩;rw[hpg]at e;rcases List.mem_append.1 e with e|e;(·exact k6 e);·exact hnb p1 e k1
 ·rcases List.mem_append.1 hb2 with e|e;(·exact(h.out.bl b e).kept (hX.sub (fun q hq=>Qr _ (List.mem_flatMap.2 ⟨b,e,hq⟩))));·rw[List.mem_singleton.1 e];exact hb
 ·rw[hpg]at hq;rcases List.mem_append.1 hq with e|e;(·exact Qm _ (h.xin q e));·exact Qr _ e
 ·rw[hpg];exact List.nodup_append.2 ⟨h.xnd,hk.nodup,fun x hx y hy e=>hnb y hy (e▸h.xin x hx)⟩
theorem Cont.number(h:Cont R D kvI kvL psI psL bp X){v:Nat}(hr:Rooted R R' 5 v)(hfit:R.pages≤R.maps*4096)(hp:R'.pages=R.pages):Cont R' D kvI kvL psI psL bp ⟨X.kvM,X.psM,X.vb,v⟩:=by
 have hk:∀qs,Kept R R' qs:=fun qs=>hr.kept hfit hp
 refine⟨h.ti.kept (hk _) (by rw[hr.root,if_neg (by decide)]),h.tl.kept (hk _) (by rw[hr.root,if_neg (by decide)]),h.nd,fun q hq hh=> ?_,fun q hq=> ?_,fun i t hi=> ?_,h.gone,h.log,⟨h.out.tm.kept (hk _) (by rw[hr.root,if_neg (by decide)]),fun b hb=>(h.out.bl b hb).kept (hk _),by rw[hr.root,if_pos rfl]⟩,h.xin,h.xnd⟩
 ·rw[hp]at hq;rw[hr.has q (by omega)]at hh;exact h.all q hq hh
 ·exact zS9
 ·obtain⟨p1,h1,h2,h3,h4,h5,h6⟩:=h.here i t hi;exact⟨p1,h1,h2,h3.kept (hk _),h4,h5,h6⟩
end
def kindsB:QB:=⟨#[110,104,98,116]⟩
theorem vw(ks t:QB)(h:Lib.trimSuffix ks.data.toList [114]=t.data.toList)(h2:Lib.trimS t.data.toList kindsB.data.toList=[])(ht:t.size≤1000)(hks:ks.size≤1000)(w:World):Calls prog 150 #[.string ks] w fun e w'=>e= .returned (.bool true)∧Below w.heap.size w w':=by
 have h1:=Tryz.strings_TrimSuffix ks ⟨#[114]⟩ w (by omega)
 have e1:(⟨(Lib.trimSuffix ks.data.toList (⟨#[114]⟩:QB).data.toList).toArray⟩:QB)=t:=by show(⟨(Lib.trimSuffix ks.data.toList [114]).toArray⟩:QB)=t;rw[h]
 rw[e1]at h1
 have h3:=Any.strings_Trim_laid Tryz.lays160 (by kernel_rfl) t kindsB w (by omega) (by decide) (ascii_of_all rfl)
 rw[h2]at h3
 clear h h2 e1
 go_enter func150,ntmps150
 go_wp2_with(first|(go_at_call 209;refine h1.mono ?_;rintro e w1⟨rfl,rfl⟩)|(go_at_call 141;refine h3.mono ?_;rintro e w2⟨rfl,hb⟩))
 go_ret
 exact⟨rfl,hb⟩
theorem zFi(w:World):Calls prog 150 #[.string zHt] w fun e w'=>e= .returned (.bool true)∧Below w.heap.size w w':=vw zHt zHt (by decide) (by decide) (by decide) (by decide) w
theorem zHw(w:World):Calls prog 150 #[.string brK] w fun e w'=>e= .returned (.bool true)∧Below w.heap.size w w':=vw brK ⟨#[98]⟩ (by decide) (by decide) (by decide) (by decide) w
theorem zOi(w:World):Calls prog 150 #[.string nK] w fun e w'=>e= .returned (.bool true)∧Below w.heap.size w w':=vw nK nK (by decide) (by decide) (by decide) (by decide) w
theorem zUU{p:Prop}(h:p:=by go_enter func151,ntmps151;go_wp2;go_ret;exact⟨rfl,rfl⟩):p:=h
theorem zQW{p:Prop}(h:p:=by rw[e1];go_enter func151,ntmps151;go_wp2;go_ret;exact⟨rfl,rfl⟩):p:=h
theorem yj(c:Nat)(hc:c<256)(w:World):Calls prog 151 #[.int .u8 c] w fun e w'=>e= .returned (.int .i64 (wid c))∧w=w':=by
 by_cases h1:c=110
 ·subst h1;have e1:((wid 110:Nat):Int)=8:=rfl;exact zQW
 by_cases h2:c=104
 ·subst h2;have e1:((wid 104:Nat):Int)=4:=rfl;exact zQW
 by_cases h3:c=98
 ·subst h3;have e1:((wid 98:Nat):Int)=1:=rfl;exact zQW
 have e0:((wid c:Nat):Int)=0:=by unfold wid;rw[if_neg h1,if_neg h2,if_neg h3];rfl
 have e1:((c:Int)==110)=false:=by simp;omega
 have e2:((c:Int)==104)=false:=by simp;omega
 have e3:((c:Int)==98)=false:=by simp;omega
 rw[e0]
 exact zUU
theorem kM{w:World}{B b:Nat}{bs:List Value}(h:IsB B b bs w)(hB:B≤w.heap.size)(hlen:bs.length≤100000000)(n wd:Nat)(hw:wd≤8):Calls prog 153 #[.pointer (some ⟨b,0,none⟩),.int .u64 n,.int .i64 wd] w fun e w'=>e= .returned (.tuple #[])∧IsB B b (bs++Lib.byteCells (beW wd n wd)) w'∧Below B w w'∧Lib.OthersKept 5 (some b) w w':=by
 have HIB:=Hd h
 have HBS:=Hd hB
 have HLen:=Hd hlen
 have HBL:=Hd (zCy h)
 have hwi:(wd:Int)≤8:=by omega
 have hw0:(0:Int)≤(wd:Int):=by omega
 clear h hB hlen
 go_enter func153,ntmps153
 go_wp2_with(fail)
 go_loopw [6](fun i wr=>∃j:Nat,j≤wd∧i= .int .i64 (8*((wd:Int)-1)-8*(j:Int))∧IsB B b (bs++Lib.byteCells (beW wd n j)) wr∧Below B w wr∧Lib.OthersKept 5 (some b) w wr)(fun i _=>(intOf i+16).toNat)
 case atStart=>exact⟨0,by omega,by go_num,by have:=HIB.out;simpa[beW,Lib.byteCells]using this,Below.refl _ _,Lib.OthersKept.refl _ _ _⟩
 case round=>obtain⟨j,hj,rfl,hib,hbj,hoj⟩:=hrel;have HI1:=Hd hib;have HB1:=Hd hbj;have HO1:=Hd hoj;clear hib hbj hoj;by_cases hlt:j<wd;(·obtain⟨sh,hsh⟩:∃sh:Nat,8*((wd:Int)-1)-8*(j:Int)=(sh:Int):=⟨8*(wd-1-j),by omega⟩;rw[hsh];(have hshn:sh=8*(wd-1-j):=by omega);(have f1:decide ((0:Int)≤(sh:Int))=true:=by simp);(have hsh56:(sh:Int)≤56:=by omega);have HSH:=Hd hsh;have HSN:=Hd hshn;clear hsh hshn;(have hcl:(bs++Lib.byteCells (beW wd n j)).length≤100000100:=by have:=HLen.out;rw[Ql];simp[Lib.byteCells,zO];omega);have A2:=Hd (vK HI1.out (Nat.le_trans HBS.out HB1.out.size) (by omega) ((n:Int)/2^sh %256));(have hce:((n:Int)/2^sh %256)=((UInt8.ofNat (n/2^sh %256)).toNat:Int):=by exact zRr);have HCE:=Hd hce;clear hcl hce;go_wp2_with(fail);refine(A2.out).mono ?_;rintro e w3⟨rfl,hi3,hb3,ho3⟩;rw[HCE.out,Qa,←xk]at hi3;(have hi4:IsB B b (bs++Lib.byteCells (beW wd n (j+1))) w3:=by rw[zHp,←HSN.out];exact hi3);have HI4:=Hd hi4;have HB4:=Hd (HB1.out.trans hb3);have HO4:=Hd (HO1.out.trans ho3);clear hi3 hi4 hb3 ho3;go_wp2;go_roundw;(case rel=>exact⟨j+1,by omega,by have:=HSH.out;congr 1;omega,HI4.out,HB4.out,HO4.out⟩);case measure=>simp[intOf];omega);·(obtain rfl:j=wd:=by omega);(have e8:8*((j:Int)-1)-8*(j:Int)= -8:=by omega);rw[e8];go_wp2;go_end0;exact⟨rfl,HI1.out,HB1.out,HO1.out⟩
theorem zK5(x c:Nat)(hx:x<72057594037927936)(hc:c<256):bits .or .u64 ((x:Int)*256) (c:Int)=((x*256+c:Nat):Int):=by
 have h1:=orR x c hc
 have h2:IntKind.u64.wrap ((x:Int)*256)=(x:Int)*256:=by rw[IntKind.wrap_u64];omega
 rw[h2]at h1
 rw[h1]
 congr 2
 omega
theorem zAP(s:QB)(hs:s.size≤8)(w:World):Calls prog 152 #[.string s] w fun e w'=>e= .returned (.int .u64 (beN s.data.toList))∧Below w.heap.size w w':=by
 obtain⟨cc,wc,hcv,hbc,_,_,_,hcc⟩:=zBt (P:=prog) w 9 121 5 s underlying9 underlying121 underlying5
 have HCc:=Hd hcc
 have HBc:=Hd hbc
 clear hcc hbc
 obtain⟨n,hn⟩:=qN s.size
 rw[hn]at hcv hs
 have HN:=Hd hn
 have hl:s.data.toList.length=n:=by rw[Array.length_toList];exact hn
 have HL:=Hd hl
 clear hn hl
 go_enter func152,ntmps152
 go_wp2
 go_loop [3,5,9](fun x _ i=>∃j:Nat,j≤n∧i= .int .i64 j∧x= .int .u64 (beN (s.data.toList.take j)))(fun _ _ i=>n-(intOf i).toNat)
 case atStart=>exact⟨0,by omega,rfl,rfl⟩
 case round=>obtain⟨j,hj,rfl,rfl⟩:=hrel;by_cases hlt:j<n;(·(have g1:decide ((j:Int)<(n:Int))=true:=by simp;omega);(have g1':decide (j<n)=true:=by simpa using hlt);(have hj1:(j:Int)<(n:Int):=by omega);(have hs2:j<s.size:=by rw[HN.out];exact hlt);have q0:=HCc.out j hs2;(have hA:s.data.toList[j]? =some s[j]:=by rw[Array.getElem?_toList];exact Array.getElem?_eq_getElem hs2);(have hA2:s.data.toList.take (j+1)=s.data.toList.take j++[s[j]]:=by rw[List.take_add_one,hA];rfl);obtain⟨x,hx⟩:=qN (beN (s.data.toList.take j));(have hx2:x<72057594037927936:=by have h1:=zIt (s.data.toList.take j);(have h2:(s.data.toList.take j).length=j:=by rw[List.length_take,HL.out];omega);rw[hx,h2]at h1;have h3:256^j≤256^7:=Nat.pow_le_pow_right (by decide) (by omega);have h4:(256:Nat)^7=72057594037927936:=rfl;omega);obtain⟨c,hc⟩:=qN (s[j].toNat);(have hc2:c<256:=by rw[←hc];exact s[j].toNat_lt);(have hnew:beN (s.data.toList.take (j+1))=x*256+c:=by rw[hA2,zCE,hx,hc]);rw[hc]at q0;rw[hx];have o1:=zK5 x c hx2 hc2;(have hw1:IntKind.u64.wrap ((x:Int)*256)=(x:Int)*256:=by rw[IntKind.wrap_u64];omega);(have hw3:(x:Int)*256 %18446744073709551616=(x:Int)*256:=by omega);(have hw2:IntKind.u64.wrap (c:Int)=(c:Int):=by rw[IntKind.wrap_u64];omega);(have x1:(x:Int)<72057594037927936:=by omega);exact zRs);·(have g1:decide ((j:Int)<(n:Int))=false:=by simp;omega);(have g1':decide (j<n)=false:=by simpa using hlt);(have hjn:j=n:=by omega);(have hA:s.data.toList.take j=s.data.toList:=by rw[hjn,←HL.out,List.take_length]);rw[hA];go_wp2;go_ret;exact⟨rfl,HBc.out⟩
def FldsAt(w:World)(fb:Nat)(fs:List Fld):Prop:=fb<w.heap.size∧∀j,j<fs.length→w.cell? ⟨fb,j*2,none⟩=some (.int .u64 (fs.getD j (0,⟨#[]⟩)).1)∧w.cell? ⟨fb,j*2+1,none⟩=some (.string (fs.getD j (0,⟨#[]⟩)).2)
theorem FldsAt.below{w u:World}{fb B:Nat}{fs:List Fld}(h:FldsAt w fb fs)(hb:Below B w u)(hB:fb<B):FldsAt u fb fs:=⟨Qt h.1 hb.size,fun j hj=>⟨(hb.cell (p:=⟨fb,j*2,none⟩) hB).trans (h.2 j hj).1,(hb.cell (p:=⟨fb,j*2+1,none⟩) hB).trans (h.2 j hj).2⟩⟩
theorem byteCells_length(l:List UInt8):(Lib.byteCells l).length=l.length:=by
 simp[Lib.byteCells]
theorem zOj{p:Prop}(h:p:=by exact qA):p:=h
theorem zQX{p:Prop}(h:p:=by clear HW hn8;go_wp2_with(first|(go_at_call 151;with_reducible refine(hw8 _).mono ?_;rintro e w3⟨rfl,rfl⟩)|(go_at_call 153;refine(HN8.out _ rfl).mono ?_;rintro e w4⟨rfl,hi4,hb4,-⟩;have HI4:=Hd hi4;have HB4:=Hd (HA'.out.trans hb4);clear hi4 hb4));(have hi5:IsB bb bb (Lib.byteCells (yf ks fs (k+1))) w4:=by rw[HSn.out,byteCells_append];exact HI4.out);go_roundw;(case rel=>exact⟨k+1,by omega,by go_num,hi5,HB4.out⟩);case measure=>simp[intOf];omega):p:=h
theorem zMp{p:Prop}(h:p:=by rw[byteCells_length];have:=HLe.out;omega):p:=h
theorem zTC{p:Prop}(h:p:=by go_roundw;(case rel=>exact⟨k+1,by omega,by go_num,hi6,HB5.out⟩);case measure=>simp[intOf];omega):p:=h
theorem vG{ks:QB}{fs:List Fld}(hf:Fields ks fs)(hr:∀w:World,Calls prog 150 #[.string ks] w fun e w'=>e= .returned (.bool true)∧Below w.heap.size w w'){w:World}{fb c:Nat}(hfs:FldsAt w fb fs):Calls prog 90 #[.string ks,.slice (some ⟨fb,0,none⟩) fs.length c] w fun e w'=>e= .returned (.tuple #[.string (packed ks fs),.bool true])∧Below w.heap.size w w':=by
 have hz:=hf.len
 have hfew:=hf.few
 obtain⟨n,hn⟩:=qN fs.length
 rw[hn]at hz hfew⊢
 have HF:=Hd hf
 have HN:=Hd hn
 have HFs:=Hd hfs
 have e1:(((n:Nat):Int) !=(n:Int))=false:=by simp
 clear hf hn hfs
 go_enter func90,ntmps90
 go_wp2_with(go_at_call 150;refine(hr _).mono ?_;rintro e w1⟨rfl,hb1⟩)
 obtain⟨bb,hbb⟩:=qN w1.heap.size
 have HBb:=Hd hbb
 have hf0:IsB bb bb [] (w1.alloc (.cells #[.pointer none,.slice none 0 0] 123)):=by rw[←hbb];exact Lib.fresh_isBuilder _ _ w1
 have HI0:=Hd hf0
 have HF1:=Hd (HFs.out.below hb1 HFs.out.1)
 rw[hbb]
 have HBe1:=Hd hb1
 clear hf0 hb1 hbb
 go_loopw [7,8,9,22](fun _ _ _ i wr=>∃k:Nat,k≤n∧i= .int .i64 k∧IsB bb bb (Lib.byteCells (yf ks fs k)) wr∧Below bb w1 wr)(fun _ _ _ i _=>n-(intOf i).toNat)
 case atStart=>exact⟨0,by omega,rfl,HI0.out,by rw[←HBb.out];exact zOj⟩
 case round=>obtain⟨k,hk,rfl,hib,hbel⟩:=hrel;have HI:=Hd hib;have HB:=Hd hbel;by_cases hlt:k<n;(·(have g1:decide ((k:Int)<(n:Int))=true:=by simp;omega);(have g1':decide (k<n)=true:=by simpa using hlt);obtain⟨q0,q1⟩:=(HF1.out.below hbel (by rw[←HBb.out];exact HF1.out.1)).2 k (by rw[HN.out];exact hlt);have hfit:=HF.out.fit k (by rw[HN.out];exact hlt);have hsnoc:=zU ks fs k;have hlen:=zGa HF.out k (by rw[HN.out];omega);(have hki:k<ks.size:=by omega);have hkx:=zL ks k hki;have hlet:zG ks k=letter ks k:=rfl;rw[hlet]at hkx;obtain⟨f,hfe⟩:=qN (fs.getD k (0,⟨#[]⟩));rw[hfe]at q0 q1 hfit hsnoc;obtain⟨f1,f2⟩:=f;clear hfe;obtain⟨kd,hkd⟩:=qN (letter ks k);(have hkd2:kd<256:=by rw[←hkd,←hkx];exact ks[k].toNat_lt);rw[hkd]at hkx hfit hsnoc;have HSn:=Hd hsnoc;have HW:=Hd (yj kd hkd2);(have hkl:(k:Int)<(n:Int):=by omega);(have hnl:(n:Int)≤64:=by omega);have HZ:=Hd hz;have HLe:=Hd hlen;clear hib hbel hsnoc hlet hkd hlen;have hba:Below wr.heap.size wr (wr.alloc (.cells #[.int .u64 f1,.string f2] 182)):=qA;have HA:=Hd hba;have HA':=Hd (show Below bb w1 (wr.alloc (.cells #[.int .u64 f1,.string f2] 182))from HB.out.alloc (by rw[←HBb.out];exact HB.out.size) _);have HBS:=Hd (show bb≤wr.heap.size by rw[←HBb.out];exact HB.out.size);have HBL:=Hd (show bb<wr.heap.size by obtain⟨p,v,h⟩:=zCy HI.out;exact(Gl h));clear hba;rcases hfit with⟨hkk,rfl,hf1⟩|⟨⟨rfl,hs2⟩,rfl⟩|⟨rfl,rfl,hs2⟩;(·rcases hkk with rfl|rfl|rfl;(·have hw8:∀w:World,Calls prog 151 #[.int .u8 110] w fun e w'=>e= .returned (.int .i64 8)∧w=w':=fun w=>yj 110 (by decide) w;have hf8:f1<2^(8*8):=hf1;have hn8:=kM (yx HI.out HA.out) (Nat.le_trans HBS.out HA.out.size) (by exact zMp) f1 8 (by decide);have HN8:=Hd (show∀u,u=wr.alloc (.cells #[.int .u64 f1,.string ⟨#[]⟩] 182)→Calls prog 153 #[.pointer (some ⟨bb,0,none⟩),.int .u64 f1,.int .i64 8] u fun e w'=>e= .returned (.tuple #[])∧IsB bb bb (Lib.byteCells (yf ks fs k)++Lib.byteCells (beW 8 f1 8)) w'∧Below bb u w'∧Lib.OthersKept 5 (some bb) u w' from fun u hu=>by rw[hu];exact hn8);exact zQX);(·have hw8:∀w:World,Calls prog 151 #[.int .u8 104] w fun e w'=>e= .returned (.int .i64 4)∧w=w':=fun w=>yj 104 (by decide) w;have hf8:f1<2^(8*4):=hf1;(have hz4:(f1:Int)/4294967296=0:=by omega);have hn8:=kM (yx HI.out HA.out) (Nat.le_trans HBS.out HA.out.size) (by exact zMp) f1 4 (by decide);have HN8:=Hd (show∀u,u=wr.alloc (.cells #[.int .u64 f1,.string ⟨#[]⟩] 182)→Calls prog 153 #[.pointer (some ⟨bb,0,none⟩),.int .u64 f1,.int .i64 4] u fun e w'=>e= .returned (.tuple #[])∧IsB bb bb (Lib.byteCells (yf ks fs k)++Lib.byteCells (beW 4 f1 4)) w'∧Below bb u w'∧Lib.OthersKept 5 (some bb) u w' from fun u hu=>by rw[hu];exact hn8);exact zQX);·have hw8:∀w:World,Calls prog 151 #[.int .u8 98] w fun e w'=>e= .returned (.int .i64 1)∧w=w':=fun w=>yj 98 (by decide) w;have hf8:f1<2^(8*1):=hf1;(have hz1:(f1:Int)/256=0:=by omega);have hn8:=kM (yx HI.out HA.out) (Nat.le_trans HBS.out HA.out.size) (by exact zMp) f1 1 (by decide);have HN8:=Hd (show∀u,u=wr.alloc (.cells #[.int .u64 f1,.string ⟨#[]⟩] 182)→Calls prog 153 #[.pointer (some ⟨bb,0,none⟩),.int .u64 f1,.int .i64 1] u fun e w'=>e= .returned (.tuple #[])∧IsB bb bb (Lib.byteCells (yf ks fs k)++Lib.byteCells (beW 1 f1 1)) w'∧Below bb u w'∧Lib.OthersKept 5 (some bb) u w' from fun u hu=>by rw[hu];exact hn8);exact zQX);(·have hw8:∀w:World,Calls prog 151 #[.int .u8 116] w fun e w'=>e= .returned (.int .i64 0)∧w=w':=fun w=>yj 116 (by decide) w;have hs3:f2.size≤65535:=hs2;(have hc8:decide ((65535:Int)<(f2.size:Int))=false:=by simp;omega);(have hw64:IntKind.u64.wrap (f2.size:Int)=(f2.size:Int):=by rw[IntKind.wrap_u64];omega);(have hf9:f2.size≤9223372036854775807:=by omega);have hn8:=kM (yx HI.out HA.out) (Nat.le_trans HBS.out HA.out.size) (by exact zMp) f2.size 2 (by decide);have HN8:=Hd (show∀u,u=wr.alloc (.cells #[.int .u64 (0:Nat),.string f2] 182)→Calls prog 153 #[.pointer (some ⟨bb,0,none⟩),.int .u64 f2.size,.int .i64 2] u fun e w'=>e= .returned (.tuple #[])∧IsB bb bb (Lib.byteCells (yf ks fs k)++Lib.byteCells (beW 2 f2.size 2)) w'∧Below bb u w'∧Lib.OthersKept 5 (some bb) u w' from fun u hu=>by rw[hu];exact hn8);have HWS:=Hd (show∀(u:World)(bs:List Value),bs=Lib.byteCells (yf ks fs k)++Lib.byteCells (beW 2 f2.size 2)→IsB bb bb bs u→bb≤u.heap.size→Calls prog 56 #[.pointer (some ⟨bb,0,none⟩),.string f2] u fun e w'=>e= .returned (.tuple #[.int .i64 f2.size,.nilIface])∧IsB bb bb (bs++Lib.strCells f2) w'∧Below bb u w'∧Lib.OthersKept 5 (some bb) u w' from fun u bs hbs hi hu=>zn hi hu f2 (by rw[hbs,Ql,byteCells_length,byteCells_length,zO];have:=HLe.out;omega));clear HW hn8;go_wp2_with(first|(go_at_call 151;with_reducible refine(hw8 _).mono ?_;rintro e w3⟨rfl,rfl⟩)|(go_at_call 153;refine(HN8.out _ rfl).mono ?_;rintro e w4⟨rfl,hi4,hb4,ho4⟩;have HI4:=Hd hi4;have HB4:=Hd (HA'.out.trans hb4);have c0:w4.cell? ⟨wr.heap.size,0,none⟩=some (.int .u64 0):=Qc (ho4 _ _ (qH wr _) (fun e=>by cases e;have:=HBL.out;omega) (fun c fz e=>by cases e)) 0;have c1:w4.cell? ⟨wr.heap.size,1,none⟩=some (.string f2):=Qc (ho4 _ _ (qH wr _) (fun e=>by cases e;have:=HBL.out;omega) (fun c fz e=>by cases e)) 1;clear hi4 hb4 ho4)|(go_at_call 56;refine(HWS.out _ _ rfl HI4.out (by have:=HB4.out.size;have:=HBb.out;omega)).mono ?_;rintro e w5⟨rfl,hi5,hb5,-⟩;have HI5:=Hd hi5;have HB5:=Hd (HB4.out.trans hb5);clear hi5 hb5));(have hi6:IsB bb bb (Lib.byteCells (yf ks fs (k+1))) w5:=by rw[HSn.out,byteCells_append];have:=HI5.out;rw[strCells_eq,Qa,←byteCells_append]at this;exact this);exact zTC);·have hw8:∀w:World,Calls prog 151 #[.int .u8 114] w fun e w'=>e= .returned (.int .i64 0)∧w=w':=fun w=>yj 114 (by decide) w;have hs3:f2.size≤1000000:=hs2;have hws:=zn (yx HI.out HA.out) (Nat.le_trans HBS.out HA.out.size) f2 (by exact zMp);have HWS:=Hd (show∀u,u=wr.alloc (.cells #[.int .u64 (0:Nat),.string f2] 182)→Calls prog 56 #[.pointer (some ⟨bb,0,none⟩),.string f2] u fun e w'=>e= .returned (.tuple #[.int .i64 f2.size,.nilIface])∧IsB bb bb (Lib.byteCells (yf ks fs k)++Lib.strCells f2) w'∧Below bb u w'∧Lib.OthersKept 5 (some bb) u w' from fun u hu=>by rw[hu];exact hws);clear HW hws;go_wp2_with(first|(go_at_call 151;with_reducible refine(hw8 _).mono ?_;rintro e w3⟨rfl,rfl⟩)|(go_at_call 56;refine(HWS.out _ rfl).mono ?_;rintro e w5⟨rfl,hi5,hb5,-⟩;have HI5:=Hd hi5;have HB5:=Hd (HA'.out.trans hb5);clear hi5 hb5));(have hi6:IsB bb bb (Lib.byteCells (yf ks fs (k+1))) w5:=by rw[HSn.out,byteCells_append];have:=HI5.out;rw[strCells_eq]at this;exact this);exact zTC);·(obtain rfl:k=n:=by omega);(have hib2:IsB bb bb (Lib.byteCells (yf ks fs fs.length)) wr:=by rw[HN.out];exact hib);have HSt:=Hd (Tryz.Builder_String_any_k bb bb (yf ks fs fs.length) wr (Lib.IsBuilderF.of hib2) (by have:=HB.out.size;have:=HBb.out;omega));clear hib hbel hib2;go_wp2_with(go_at_call 57;refine(HSt.out).mono ?_;rintro e w5⟨rfl,hi5,hb5,ho5⟩;have HB5:=Hd (HB.out.trans hb5);clear hi5 hb5 ho5);go_ret2;refine⟨rfl,?_⟩;have h5:=HB5.out;rw[←HBb.out]at h5;exact qT HBe1.out h5
section
variable {P : Program} {ops : Array Oper} {md : Region.Mode} {S : World → Prop}
theorem zJS{n i:Nat}{oi:Oper}{v:Value}{L:Array Bool→Act→World→Prop}(hi:ops[i]? =some oi)(hsel:∀(j:Nat)(o:Oper)cs b,ops[j]? =some o→o.op≠ .select cs b)(hn:n=ops.size)(hin:i<n)(hdone:∀listed a w,L listed a w→∀j∈Region.ready md ops listed,n≤j):∀(f:Nat)(listed:Array Bool)(a:Act)(w:World),HeadInv md ops n listed→(∀j oj,ops[j]? =some oj→j≠i→listed.getD j true=false→(∀e∈oj.after,Region.binds md e=true→e.on≠i)→oi.apart ops oj=true)→i∈Region.ready md ops listed→YieldsIf P ops S oi v a→S w→wpZ P md ops S n L f (listed.setIfInBounds i true) (a.put oi.dst v) w→wpZ P md ops S n L (f+1) listed a w:=by
 intro f
 induction f with|zero=>intro listed a w inv _ hr hy hS H;refine⟨fun h=>(by rw[h]at hr;cases hr),fun j hj=> ?_⟩;(have hjn:j<n:=by obtain⟨_,oj,hoj,_⟩:=mem_ready.1 hj;have:=(Gl hoj);omega);exact zRX|succ f ih=>intro listed a w inv hfree hr hy hS H;refine⟨fun h=>(by rw[h]at hr;cases hr),fun j hj=> ?_⟩;(have hjn:j<n:=by obtain⟨_,oj,hoj,_⟩:=mem_ready.1 hj;have:=(Gl hoj);omega);exact zRY
theorem kl{n g:Nat}{l:List Oper}{Lq:Act→World→Prop}(hl:ops=l.toArray)(hsel:Region.noSelect ops=true)(hn:n=ops.size):∀(r:List (Nat×Bool))(listed:Array Bool)(a:Act)(w:World),HeadInv md ops n listed→zCN md ops n g r listed=true→S w→wpH P ops S l Lq r a w→wpZ P md ops S n (fun listed' a' w'=>Region.seqB md ops g n listed'=true∧Lq a' w') r.length listed a w|[],listed,a,w,_,hB,_,h=>⟨by simpa[zCN]using hB,h⟩|(k,p)::r,listed,a,w,inv,hB,hS,h=>by simp only[zCN,Bool.and_eq_true,decide_eq_true_eq]at hB;obtain⟨⟨hkn,hp⟩,hB'⟩:=hB;(have hlk:l[k]? =ops[k]? :=by rw[hl];simp);(have hlt:k<ops.size:=by omega);unfold wpH at h;rw[hlk]at h;cases ho:ops[k]? with|none=>rw[ho]at h;exact h.elim|some o=>rw[ho]at h;simp only at h;cases p with|true=>simp only[if_true,Bool.and_eq_true]at hp;(have hr:k∈Region.ready md ops listed:=by simpa using hp.1);have hfree:=Region.free_spec ho hp.2;have fin:∀v,YieldsIf P ops S o v a→wpH P ops S l Lq r (a.put o.dst v) w→wpZ P md ops S n (fun listed' a' w'=>Region.seqB md ops g n listed'=true∧Lq a' w') (r.length+1) listed a w:=fun v hy hK=>zJS ho (Region.noSelect_spec hsel) hn hkn (fun listed' a' w' hL=>seqB_ready hL.1) r.length listed a w inv hfree hr hy hS (kl hl hsel hn r _ _ w (inv.set hr hkn) hB' hS hK);exact zRb|false=>simp only[Bool.false_eq_true,if_false,decide_eq_true_eq]at hp;(have hr:k∈Region.ready md ops listed:=by rw[hp];simp);refine⟨fun h0=>(by rw[hp]at h0;cases h0),fun j hj=> ?_⟩;rw[hp]at hj;(obtain rfl:j=k:=by simpa using hj);refine⟨hkn,?_⟩;unfold opW;simp only[ho];by_cases hw:Region.wanted o (yielded ops a.tmps)=true;(·simp only[hw,if_true,Bool.false_eq_true,if_false]at h⊢;exact Oper.wp_mono (fun a' w' h'=>⟨h'.1,kl hl hsel hn r _ a' w' (inv.set hr hkn) hB' h'.1 h'.2⟩) h);·simp only[hw]at h⊢;exact⟨hS,kl hl hsel hn r _ _ w (inv.set hr hkn) hB' hS h⟩
def zEY(md:Region.Mode)(ops:Array Oper)(n:Nat)(r:List (Nat×Bool)):Bool:=Region.noSelect ops&&decide (n=ops.size)&&decide (r.length=n)&&zCN md ops n (ops.size-n) r (Array.replicate ops.size false)
theorem zDr{id:Nat}{Q:Exit→Act→World→Prop}{a:Act}{w:World}{l:List Oper}(n:Nat)(r:List (Nat×Bool))(S:World→Prop)(hm:P.follows .mixedOrders=true)(hB:zEY .any l.toArray n r=true)(hS:S w.drew)(h:wpH P l.toArray S l (fun a' w'=>wpList P l.toArray Q (l.drop n) a' w') r a w.drew):(Code.region id l.toArray true).wp P Q a w:=by
 simp only[zEY,Bool.and_eq_true,decide_eq_true_eq]at hB
 obtain⟨⟨⟨hsel,hn⟩,hlen⟩,hheld⟩:=hB
 have hdl:(l.drop n).length=l.toArray.size-n:=by simp
 have inv0:HeadInv .any l.toArray n (Array.replicate l.toArray.size false):=⟨by simp,fun j oj _ hl=>(by rw[getD_replicate_false]at hl;cases hl),fun t _ ht=>getD_in (by simpa using ht) (getD_replicate_false _ _)⟩
 have H:=kl (md:=.any) (g:=l.toArray.size-n) rfl hsel hn r _ a w.drew inv0 hheld hS h
 exact zQC
end
theorem rgw{P:Program}{id:Nat}{Q:Exit→Act→World→Prop}{a:Act}{w:World}{l:List Oper}{S T:World→Prop}(n:Nat)(r:List (Nat×Bool))(HS:RowKit.Hid (∀u,S u↔T u))(ht:T w.drew)(h:wpH P l.toArray S l (fun a' w'=>wpList P l.toArray Q (l.drop n) a' w') r a w.drew)(hm:P.follows .mixedOrders=true:=by kernel_rfl)(hB:zEY .any l.toArray n r=true:=by kernel_rfl):(Code.region id l.toArray true).wp P Q a w:=zDr n r S hm hB ((HS.out _).2 ht) h
def zEZ(l:List Fld):List Value:=l.flatMap (fun f=>[Value.int .u64 f.1,Value.string f.2])
theorem zC7(l:List Fld)(f:Fld):zEZ (l++[f])=zEZ l++[Value.int .u64 f.1,Value.string f.2]:=by
 unfold zEZ
 rw[List.flatMap_append]
 simp
theorem zOk:(prog.info? 182).map (fun i=>(i.zero,i.size,i.bytes))=some (some (.agg #[.int .u64 0,.string ⟨#[]⟩]),2,24):=by
 kernel_rfl
theorem zQY{p:Prop}(h:p:=by have h1:=HB.out.size;have h2:=HS5.out.size;show w.heap.size≤(w5.alloc _).heap.size;simp;omega):p:=h
theorem zQZ{p:Prop}(h:p:=by clear he hel hbn htold;go_wp2_with(first|(go_at_call 151;with_reducible refine(hw8 _).mono ?_;rintro e w3⟨rfl,rfl⟩)|(go_at_call 152;refine(HTold.out _).mono ?_;rintro e w4⟨rfl,hb4⟩;have hbx:w4.heap[wr.heap.size]? =some (.cells #[.int .u64 0,.string sf] 182 (0,0)):=(hb4.block _ (by simp)).trans (qH wr _);have d0:w4.cell? ⟨wr.heap.size,0,none⟩=some (.int .u64 0):=Qc hbx 0;have d1:w4.cell? ⟨wr.heap.size,1,none⟩=some (.string sf):=Qc hbx 1;(have y0:w4.frozen? ⟨wr.heap.size,0,none⟩=false:=by simp[World.frozen?,hbx]);(have y1:w4.frozen? ⟨wr.heap.size,1,none⟩=false:=by simp[World.frozen?,hbx]);have HBx:=Hd hbx;have HB4:=Hd (show Below wr.heap.size wr w4 from(qA).trans (hb4.mono (by simp)));clear hb4 hbx));clear d0 d1 y0 y1;have hbx5:((w4.setCell ⟨wr.heap.size,0,none⟩ (.int .u64 f1)).setCell ⟨wr.heap.size,1,none⟩ (.string ⟨#[]⟩)).heap[wr.heap.size]? =some (.cells #[.int .u64 f1,.string ⟨#[]⟩] 182 (0,0)):=heap_setCell_same _ _ _ _ _ _ (heap_setCell_same _ _ _ _ _ _ HBx.out);have hb5:Below wr.heap.size wr ((w4.setCell ⟨wr.heap.size,0,none⟩ (.int .u64 f1)).setCell ⟨wr.heap.size,1,none⟩ (.string ⟨#[]⟩)):=(HB4.out.setCell (p:=⟨wr.heap.size,0,none⟩) (Qn _) _).setCell (p:=⟨wr.heap.size,1,none⟩) (Qn _) _;obtain⟨w5,hw5⟩:=qN ((w4.setCell ⟨wr.heap.size,0,none⟩ (.int .u64 f1)).setCell ⟨wr.heap.size,1,none⟩ (.string ⟨#[]⟩));rw[hw5]at hbx5 hb5⊢;clear hw5 HBx HB4;have HS5:=Hd hb5;have HX5:=Hd hbx5;have HRow5:=Hd ((Keep.ofBelow (S:=fun _=>False) hb5).ownsRow HRow.out (fun _ _ e=>e));have hz5:wr.heap.size<w5.heap.size:=(Gl hbx5);have HZ5:=Hd hz5;have HAp:=Hd (show∀q,(Value.slice sa k sc).ownBlock=some q→q≠wr.heap.size from fun q e=>by have:=(HRow.out.lt q e).2;omega);clear hb5 hbx5 hz5;obtain⟨wb,hwb⟩:=qN wr.heap.size;rw[hwb]at HX5 HZ5 HAp⊢;have HWb:=Hd hwb;clear hwb;obtain⟨S,HS⟩:=mkS (Keep (fun q=>(Value.slice sa k sc).ownBlock=some q) (w5));have FR:=Hd (fun u(hu:S u)=>have hu:=(HS.out u).1 hu;have hbu:=(hu.at HX5.out (fun e=>HAp.out _ e rfl));have d0:u.cell? ⟨wb,0,none⟩=some (.int .u64 f1):=Qc hbu 0;have d1:u.cell? ⟨wb,1,none⟩=some (.string ⟨#[]⟩):=Qc hbu 1;And.intro d0 d1);refine rgw 9 [tR 0,tR 1,tR 4,tR 5,tR 6,tD 2,tD 3,tR 7,tR 8] HS (Keep.refl _ _).drew ?_;(iterate 5 refine rd1 ?_);refine doH ?_;intro K hK;go_simp;have ka:Keep (fun q=>(Value.slice sa k sc).ownBlock=some q) w5 (w5.alloc (.cells #[.int .u64 f1,.string ⟨#[]⟩] 182)).drew:=((Keep.refl _ w5).alloc _).drew;refine hK _ _ ((HS.out _).2 ka) ?_;clear hK K;have hrb:((w5.alloc (.cells #[.int .u64 f1,.string ⟨#[]⟩] 182)).drew).ownsRow w.heap.size 182 2 (.slice sa k sc) k (zEZ (fs.take k)):=(HRow5.out.alloc _).drew;have HRb:=Hd hrb;have HKa:=Hd ka;clear hrb ka;refine doH ?_;intro K hK;refine yF _ _ 178 (by rfl) w.heap.size 182 i0 _ 2 24 underlying178 HI.out Hz0.out Hz1.out Hz2.out (by rfl) (by decide) _ _ _ (by rfl) HRb.out ⟨w5.heap.size,0,none⟩ 1 1 [.int .u64 f1,.string ⟨#[]⟩] (by rfl) (by rfl) (World.news_of_block (cs:= #[.int .u64 f1,.string ⟨#[]⟩]) (t:=182) (fr:=(0,0)) (qH w5 _)) (by simp[Value.oneCell']) (by unfold maxLen;omega) (by omega) (by exact zQY) ?_;intro v8 w8 hown8 hg8 hloc;have hown9:w8.ownsRow w.heap.size 182 2 v8 (k+1) (zEZ (fs.take k)++[.int .u64 f1,.string ⟨#[]⟩]):=hown8;rw[←zC7 _ (f1,⟨#[]⟩),←HTk.out]at hown9;obtain⟨p8,c8,hsl⟩:=zA hown9;subst hsl;have kg:=HKa.out.trans ((Keep.refl (fun q=>(Value.slice sa k sc).ownBlock=some q) _).grown hg8 (fun q _ e=>e)) (fun _ _ e=>e);have HOw:=Hd hown9;have HB8:=Hd (HB.out.trans ((HS5.out.mono HB.out.size).trans (kg.below (Nat.le_trans HB.out.size HS5.out.size) (fun q hq e=>by have:=(HRow.out.lt q e).1;omega))));refine hK _ _ ((HS.out _).2 kg) ?_;clear hK K hown8 hown9 hg8 hloc kg;(iterate 2 refine rd1 ?_);refine zl ?_;clear FR;clear S HS;go_wp2;go_roundw;(case rel=>exact⟨k+1,by omega,by go_num,by rw[HT2.out],HOw.out,HB8.out⟩);case measure=>simp[intOf];omega):p:=h
theorem zQa{p:Prop}(h:p:=by show(List.toArray _).size≤8;rw[List.size_toArray,hel];decide):p:=h
theorem zUV{p:Prop}(h:p:=by obtain⟨p8,c8,hsl⟩:=zA hown9;subst hsl;have kg:=HKa.out.trans ((Keep.refl (fun q=>(Value.slice sa k sc).ownBlock=some q) _).grown hg8 (fun q _ e=>e)) (fun _ _ e=>e);have HOw:=Hd hown9;have HB8:=Hd (HB.out.trans ((HS5.out.mono HB.out.size).trans (kg.below (Nat.le_trans HB.out.size HS5.out.size) (fun q hq e=>by have:=(HRow.out.lt q e).1;omega))));refine hK _ _ ((HS.out _).2 kg) ?_;clear hK K hown8 hown9 hg8 hloc kg;(iterate 2 refine rd1 ?_);refine zl ?_;clear FR;clear S HS;go_wp2;go_roundw;(case rel=>exact⟨k+1,by omega,by go_num,by rw[HT2.out],HOw.out,HB8.out⟩);case measure=>simp[intOf];omega):p:=h
theorem zBS{ks:QB}{fs:List Fld}(hf:Fields ks fs)(hr:∀w:World,Calls prog 150 #[.string ks] w fun e w'=>e= .returned (.bool true)∧Below w.heap.size w w')(w:World):Calls prog 89 #[.string ks,.string (packed ks fs)] w fun e w'=>∃v,e= .returned (.tuple #[v,.bool true])∧w'.ownsRow w.heap.size 182 2 v fs.length (zEZ fs)∧Below w.heap.size w w':=by
 have hz:=hf.len
 have hfew:=hf.few
 obtain⟨n,hn⟩:=qN fs.length
 rw[hn]at hz hfew⊢
 rw[←zJQ]
 have HF:=Hd hf
 have HN:=Hd hn
 obtain⟨i0,hi0,hz0,hz1,hz2⟩:=info_parts zOk
 have HI:=Hd hi0
 have Hz0:=Hd hz0
 have Hz1:=Hd hz1
 have Hz2:=Hd hz2
 obtain⟨t0,ht0⟩:∃t,zA0 ks fs 0=t:=⟨_,rfl⟩
 rw[ht0]
 have HT0:=Hd ht0
 clear hf hn hi0 hz0 hz1 hz2 ht0
 go_enter func89,ntmps89
 go_wp2_with(go_at_call 150;refine(hr _).mono ?_;rintro e w1⟨rfl,hb1⟩)
 have HB1:=Hd hb1
 clear hb1
 go_loopw [1,6,7,8,9,10,16](fun s v _ _ _ _ i wr=>∃k:Nat,k≤n∧i= .int .i64 k∧s= .string (zA0 ks fs k)∧wr.ownsRow w.heap.size 182 2 v k (zEZ (fs.take k))∧Below w.heap.size w wr)(fun _ _ _ _ _ _ i _=>n-(intOf i).toNat)
 case atStart=>exact⟨0,by omega,rfl,by rw[HT0.out],qO,HB1.out⟩
 case round=>obtain⟨k,hk,rfl,rfl,hrow,hbel⟩:=hrel;have HRow:=Hd hrow;have HB:=Hd hbel;obtain⟨sa,sc,hsv⟩:=zA hrow;subst hsv;clear hbel;by_cases hlt:k<n;(·(have g1:decide ((k:Int)<(n:Int))=true:=by simp;omega);(have g1':decide (k<n)=true:=by simpa using hlt);(have hkn:k<fs.length:=by rw[HN.out];exact hlt);have hfit:=HF.out.fit k hkn;have hrl:=zEV ks fs k hkn;have hlast:=HF.out.last k hkn;have hsp:=zBF (zEV ks fs k hkn);(have htake:fs.take (k+1)=fs.take k++[fs.getD k (0,⟨#[]⟩)]:=by rw[List.take_succ_eq_append_getElem hkn,List.getD_eq_getElem?_getD,Qg hkn];rfl);(have hki:k<ks.size:=by omega);have hkx:=zL ks k hki;have hlet:zG ks k=letter ks k:=rfl;rw[hlet]at hkx;have hend:=fun(e:k+1=fs.length)=>(show zA0 ks fs (k+1)=⟨#[]⟩by rw[e];exact zFg ks fs);obtain⟨f,hfe⟩:=qN (fs.getD k (0,⟨#[]⟩));rw[hfe]at hfit hsp htake hrl;obtain⟨f1,f2⟩:=f;obtain⟨kd,hkd⟩:=qN (letter ks k);rw[hkd]at hkx hfit hsp hrl hlast;obtain⟨t,ht⟩:=qN (zA0 ks fs k);obtain⟨t2,ht2⟩:∃t,zA0 ks fs (k+1)=t:=⟨_,rfl⟩;rw[ht,ht2]at hsp hrl;have HRl:=Hd hrl;rw[ht2]at hend;rw[ht];have HT2:=Hd ht2;have HTk:=Hd htake;(have hkl:(k:Int)<(n:Int):=by omega);(have hnl:(n:Int)≤64:=by omega);have HZ:=Hd hz;have HEnd:=Hd hend;have HLast:=Hd hlast;clear hlet hkd hfe ht ht2 htake hrow hend hlast hrl;obtain⟨s1,s2,s3⟩:=hsp;rcases hfit with⟨hkk,rfl,hf1⟩|⟨⟨rfl,hs2⟩,rfl⟩|⟨rfl,rfl,hs2⟩;(·rcases hkk with rfl|rfl|rfl;(·have hw8:∀w:World,Calls prog 151 #[.int .u8 110] w fun e w'=>e= .returned (.int .i64 8)∧w=w':=fun w=>yj 110 (by decide) w;have he:enc 110 (f1,⟨#[]⟩)=beW 8 f1 8:=rfl;(have hel:(enc 110 (f1,⟨#[]⟩)).length=8:=by rw[he,zO]);rw[hel]at s1 s2 s3;have htold:=zAP ⟨(enc 110 (f1,⟨#[]⟩)).toArray⟩ (by exact zQa);(have hbn:beN (⟨(enc 110 (f1,⟨#[]⟩)).toArray⟩:QB).data.toList=f1:=by rw[he];exact zBE hf1);rw[hbn]at htold;generalize(⟨(enc 110 (f1,⟨#[]⟩)).toArray⟩:QB)=sf at*;have HTold:=Hd htold;(have hts:(8:Int)≤(t.size:Int):=by omega);(have htc:decide ((t.size:Int)<8)=false:=by simp;omega);exact zQZ);(·have hw8:∀w:World,Calls prog 151 #[.int .u8 104] w fun e w'=>e= .returned (.int .i64 4)∧w=w':=fun w=>yj 104 (by decide) w;have he:enc 104 (f1,⟨#[]⟩)=beW 4 f1 4:=rfl;(have hel:(enc 104 (f1,⟨#[]⟩)).length=4:=by rw[he,zO]);rw[hel]at s1 s2 s3;have htold:=zAP ⟨(enc 104 (f1,⟨#[]⟩)).toArray⟩ (by exact zQa);(have hbn:beN (⟨(enc 104 (f1,⟨#[]⟩)).toArray⟩:QB).data.toList=f1:=by rw[he];exact zBE hf1);rw[hbn]at htold;generalize(⟨(enc 104 (f1,⟨#[]⟩)).toArray⟩:QB)=sf at*;have HTold:=Hd htold;(have hts:(4:Int)≤(t.size:Int):=by omega);(have htc:decide ((t.size:Int)<4)=false:=by simp;omega);exact zQZ);·have hw8:∀w:World,Calls prog 151 #[.int .u8 98] w fun e w'=>e= .returned (.int .i64 1)∧w=w':=fun w=>yj 98 (by decide) w;have he:enc 98 (f1,⟨#[]⟩)=beW 1 f1 1:=rfl;(have hel:(enc 98 (f1,⟨#[]⟩)).length=1:=by rw[he,zO]);rw[hel]at s1 s2 s3;have htold:=zAP ⟨(enc 98 (f1,⟨#[]⟩)).toArray⟩ (by exact zQa);(have hbn:beN (⟨(enc 98 (f1,⟨#[]⟩)).toArray⟩:QB).data.toList=f1:=by rw[he];exact zBE hf1);rw[hbn]at htold;generalize(⟨(enc 98 (f1,⟨#[]⟩)).toArray⟩:QB)=sf at*;have HTold:=Hd htold;(have hts:(1:Int)≤(t.size:Int):=by omega);(have htc:decide ((t.size:Int)<1)=false:=by simp;omega);exact zQZ);(·have hw8:∀w:World,Calls prog 151 #[.int .u8 116] w fun e w'=>e= .returned (.int .i64 0)∧w=w':=fun w=>yj 116 (by decide) w;have he:enc 116 (0,f2)=beW 2 f2.size 2++f2.data.toList:=rfl;have hrl:=HRl.out;rw[he,Qa]at hrl;obtain⟨t',ht'⟩:∃t':QB,t'.data.toList=f2.data.toList++t2.data.toList:=⟨⟨(f2.data.toList++t2.data.toList).toArray⟩,by simp⟩;rw[←ht']at hrl;obtain⟨u1,u2,u3⟩:=zBF hrl;obtain⟨v1,v2,v3⟩:=zBF ht';rw[zO]at u1 u2 u3;(have hf2l:f2.data.toList.length=f2.size:=by simp);have hf2e:(⟨f2.data.toList.toArray⟩:QB)=f2:=rfl;rw[hf2l]at v1 v2 v3;rw[hf2e]at v1;have hs3:f2.size≤65535:=hs2;have htold:=zAP ⟨(beW 2 f2.size 2).toArray⟩ (by show(List.toArray _).size≤8;rw[List.size_toArray,zO];decide);have hbn:beN (⟨(beW 2 f2.size 2).toArray⟩:QB).data.toList=f2.size:=zBE (w:=2) (by omega);rw[hbn]at htold;generalize(⟨(beW 2 f2.size 2).toArray⟩:QB)=sf at*;obtain⟨fz,hfz⟩:=qN f2.size;rw[hfz]at htold v1 v2 v3 hs3;have HTold:=Hd htold;(have hts:(2:Int)≤(t.size:Int):=by omega);(have htc:decide ((t.size:Int)<2)=false:=by simp;omega);(have hts':(fz:Int)≤(t'.size:Int):=by omega);(have htc':decide ((t'.size:Int)<(fz:Int))=false:=by simp;omega);have hfw:IntKind.i64.wrap (fz:Int)=(fz:Int):=zv (by omega) (by omega);clear he hrl ht' hf2l hf2e hbn htold s1 s2 s3 hs2 hfz;go_wp2_with(go_at_call 151;with_reducible refine(hw8 _).mono ?_;rintro e w3⟨rfl,rfl⟩);obtain⟨S,HS⟩:=mkS (Keep (fun _=>False) (wr));refine rgw 8 [tR 0,tR 1,tR 4,tR 5,tD 2,tR 3,tR 6,tR 7] HS (Keep.refl _ _).drew ?_;(iterate 4 refine rd1 ?_);refine doH ?_;intro K hK;go_simp;go_at_call 152;refine(HTold.out _).mono ?_;rintro e w4⟨rfl,hb4⟩;have hb4':Below wr.heap.size wr w4:=⟨hb4.os,hb4.tape,hb4.output,hb4.size,hb4.block⟩;have HBw:=Hd hb4';refine hK _ _ ((HS.out _).2 (Keep.ofBelow hb4')) ?_;clear hK K hb4 hb4';(iterate 3 refine rd1 ?_);refine zl ?_;clear S HS;go_wp2;obtain⟨f1,hf10⟩:∃f1:Nat,f1=0:=⟨0,rfl⟩;(have e0:(0:Int)=(f1:Int):=by omega);(have hbx5:(w4.alloc (.cells #[.int .u64 0,.string f2] 182)).heap[w4.heap.size]? =some (.cells #[.int .u64 f1,.string f2] 182 (0,0)):=by rw[←e0];exact qH w4 _);have hb5:Below wr.heap.size wr (w4.alloc (.cells #[.int .u64 0,.string f2] 182)):=HBw.out.alloc HBw.out.size _;rw[←hf10]at HTk;have hz4:=HBw.out.size;obtain⟨w5,hw5⟩:=qN (w4.alloc (.cells #[.int .u64 0,.string f2] 182));rw[hw5]at hbx5 hb5⊢;clear hw5 e0 hf10;have HS5:=Hd hb5;have HX5:=Hd hbx5;have HZ4:=Hd hz4;clear hz4;have HRow5:=Hd ((Keep.ofBelow (S:=fun _=>False) hb5).ownsRow HRow.out (fun _ _ e=>e));have hz5:w4.heap.size<w5.heap.size:=(Gl hbx5);have HZ5:=Hd hz5;have HAp:=Hd (show∀q,(Value.slice sa k sc).ownBlock=some q→q≠w4.heap.size from fun q e=>by have:=(HRow.out.lt q e).2;have:=HZ4.out;omega);clear hb5 hbx5 hz5;obtain⟨wb,hwb⟩:=qN w4.heap.size;rw[hwb]at HX5 HZ5 HAp⊢;have HWb:=Hd hwb;clear hwb;obtain⟨S,HS⟩:=mkS (Keep (fun q=>(Value.slice sa k sc).ownBlock=some q) (w5));have FR:=Hd (fun u(hu:S u)=>have hu:=(HS.out u).1 hu;have hbu:=(hu.at HX5.out (fun e=>HAp.out _ e rfl));have d0:u.cell? ⟨wb,0,none⟩=some (.int .u64 f1):=Qc hbu 0;have d1:u.cell? ⟨wb,1,none⟩=some (.string f2):=Qc hbu 1;And.intro d0 d1);refine rgw 9 [tR 0,tR 1,tR 4,tR 5,tR 6,tD 2,tD 3,tR 7,tR 8] HS (Keep.refl _ _).drew ?_;(iterate 5 refine rd1 ?_);refine doH ?_;intro K hK;go_simp;have ka:Keep (fun q=>(Value.slice sa k sc).ownBlock=some q) w5 (w5.alloc (.cells #[.int .u64 f1,.string f2] 182)).drew:=((Keep.refl _ w5).alloc _).drew;refine hK _ _ ((HS.out _).2 ka) ?_;clear hK K;have hrb:((w5.alloc (.cells #[.int .u64 f1,.string f2] 182)).drew).ownsRow w.heap.size 182 2 (.slice sa k sc) k (zEZ (fs.take k)):=(HRow5.out.alloc _).drew;have HRb:=Hd hrb;have HKa:=Hd ka;clear hrb ka;refine doH ?_;intro K hK;refine yF _ _ 178 (by rfl) w.heap.size 182 i0 _ 2 24 underlying178 HI.out Hz0.out Hz1.out Hz2.out (by rfl) (by decide) _ _ _ (by rfl) HRb.out ⟨w5.heap.size,0,none⟩ 1 1 [.int .u64 f1,.string f2] (by rfl) (by rfl) (World.news_of_block (cs:= #[.int .u64 f1,.string f2]) (t:=182) (fr:=(0,0)) (qH w5 _)) (by simp[Value.oneCell']) (by unfold maxLen;omega) (by omega) (by exact zQY) ?_;intro v8 w8 hown8 hg8 hloc;have hown9:w8.ownsRow w.heap.size 182 2 v8 (k+1) (zEZ (fs.take k)++[.int .u64 f1,.string f2]):=hown8;rw[←zC7 _ (f1,f2),←HTk.out]at hown9;exact zUV);·have hw8:∀w:World,Calls prog 151 #[.int .u8 114] w fun e w'=>e= .returned (.int .i64 0)∧w=w':=fun w=>yj 114 (by decide) w;have he:enc 114 (0,f2)=f2.data.toList:=rfl;(have hel:(enc 114 (0,f2)).length=f2.size:=by rw[he,Array.length_toList];rfl);(have hst:(⟨(enc 114 (0,f2)).toArray⟩:QB)=f2:=by rw[he]);rw[hel]at s1 s2 s3;rw[hst]at s1;(have htz:t.size=f2.size:=by have h1:=HEnd.out (HLast.out rfl);have h2:=congrArg ByteArray.size s2;rw[h1,ByteArray.size_extract]at h2;have h3:(⟨#[]⟩:QB).size=0:=rfl;omega);rw[←htz]at s1 s2;(have htl:t.size≤9223372036854775807:=by rw[htz];have:f2.size≤1000000:=hs2;omega);have HT2e:=Hd (show t2=⟨#[]⟩from HEnd.out (HLast.out rfl));clear he hel hst htz s3 hs2;go_wp2_with(go_at_call 151;with_reducible refine(hw8 _).mono ?_;rintro e w3⟨rfl,rfl⟩);obtain⟨f1,hf10⟩:∃f1:Nat,f1=0:=⟨0,rfl⟩;(have e0:(0:Int)=(f1:Int):=by omega);(have hbx5:(wr.alloc (.cells #[.int .u64 0,.string f2] 182)).heap[wr.heap.size]? =some (.cells #[.int .u64 f1,.string f2] 182 (0,0)):=by rw[←e0];exact qH wr _);have hb5:Below wr.heap.size wr (wr.alloc (.cells #[.int .u64 0,.string f2] 182)):=qA;rw[←hf10]at HTk;obtain⟨w5,hw5⟩:=qN (wr.alloc (.cells #[.int .u64 0,.string f2] 182));rw[hw5]at hbx5 hb5⊢;clear hw5 e0 hf10;have HS5:=Hd hb5;have HX5:=Hd hbx5;have HRow5:=Hd ((Keep.ofBelow (S:=fun _=>False) hb5).ownsRow HRow.out (fun _ _ e=>e));have hz5:wr.heap.size<w5.heap.size:=(Gl hbx5);have HZ5:=Hd hz5;have HAp:=Hd (show∀q,(Value.slice sa k sc).ownBlock=some q→q≠wr.heap.size from fun q e=>by have:=(HRow.out.lt q e).2;omega);clear hb5 hbx5 hz5;obtain⟨wb,hwb⟩:=qN wr.heap.size;rw[hwb]at HX5 HZ5 HAp⊢;have HWb:=Hd hwb;clear hwb;obtain⟨S,HS⟩:=mkS (Keep (fun q=>(Value.slice sa k sc).ownBlock=some q) (w5));have FR:=Hd (fun u(hu:S u)=>have hu:=(HS.out u).1 hu;have hbu:=(hu.at HX5.out (fun e=>HAp.out _ e rfl));have d0:u.cell? ⟨wb,0,none⟩=some (.int .u64 f1):=Qc hbu 0;have d1:u.cell? ⟨wb,1,none⟩=some (.string f2):=Qc hbu 1;And.intro d0 d1);refine rgw 9 [tR 0,tR 1,tR 4,tR 5,tR 6,tD 2,tD 3,tR 7,tR 8] HS (Keep.refl _ _).drew ?_;(iterate 5 refine rd1 ?_);refine doH ?_;intro K hK;go_simp;have ka:Keep (fun q=>(Value.slice sa k sc).ownBlock=some q) w5 (w5.alloc (.cells #[.int .u64 f1,.string f2] 182)).drew:=((Keep.refl _ w5).alloc _).drew;refine hK _ _ ((HS.out _).2 ka) ?_;clear hK K;have hrb:((w5.alloc (.cells #[.int .u64 f1,.string f2] 182)).drew).ownsRow w.heap.size 182 2 (.slice sa k sc) k (zEZ (fs.take k)):=(HRow5.out.alloc _).drew;have HRb:=Hd hrb;have HKa:=Hd ka;clear hrb ka;refine doH ?_;intro K hK;refine yF _ _ 178 (by rfl) w.heap.size 182 i0 _ 2 24 underlying178 HI.out Hz0.out Hz1.out Hz2.out (by rfl) (by decide) _ _ _ (by rfl) HRb.out ⟨w5.heap.size,0,none⟩ 1 1 [.int .u64 f1,.string f2] (by rfl) (by rfl) (World.news_of_block (cs:= #[.int .u64 f1,.string f2]) (t:=182) (fr:=(0,0)) (qH w5 _)) (by simp[Value.oneCell']) (by unfold maxLen;omega) (by omega) (by exact zQY) ?_;intro v8 w8 hown8 hg8 hloc;have hown9:w8.ownsRow w.heap.size 182 2 v8 (k+1) (zEZ (fs.take k)++[.int .u64 f1,.string f2]):=hown8;rw[←zC7 _ (f1,f2),←HTk.out]at hown9;obtain⟨p8,c8,hsl⟩:=zA hown9;subst hsl;have kg:=HKa.out.trans ((Keep.refl (fun q=>(Value.slice sa k sc).ownBlock=some q) _).grown hg8 (fun q _ e=>e)) (fun _ _ e=>e);have HOw:=Hd hown9;have HB8:=Hd (HB.out.trans ((HS5.out.mono HB.out.size).trans (kg.below (Nat.le_trans HB.out.size HS5.out.size) (fun q hq e=>by have:=(HRow.out.lt q e).1;omega))));refine hK _ _ ((HS.out _).2 kg) ?_;clear hK K hown8 hown9 hg8 hloc kg;(iterate 2 refine rd1 ?_);refine zl ?_;clear FR;clear S HS;go_wp2;go_roundw;(case rel=>exact⟨k+1,by omega,by go_num,by rw[HT2.out,HT2e.out];rfl,HOw.out,HB8.out⟩);case measure=>simp[intOf];omega);·(obtain rfl:k=n:=by omega);(have he:zA0 ks fs k=⟨#[]⟩:=by rw[←HN.out];exact zFg ks fs);rw[he];(have hft:fs.take k=fs:=by rw[←HN.out,List.take_length]);rw[hft]at HRow;clear he hft hrow;go_wp2;go_ret2;exact⟨_,rfl,HRow.out,HB.out⟩
theorem zMq:(prog.info? 202).map (fun i=>(i.zero,i.size,i.bytes))=some (some (.agg #[.string ⟨#[]⟩,.string ⟨#[]⟩]),2,32):=by
 kernel_rfl
def prV(l:KV):List Value:=l.flatMap (fun x=>[Value.string x.1,Value.string x.2])
theorem zJT(a b:KV):prV (a++b)=prV a++prV b:=by
 unfold prV
 rw[List.flatMap_append]
structure PrsAt(w:World)(lb:Nat)(v:Value)(l:KV):Prop where
 cells:w.heap[lb]? =some (.cells #[v] 198 (0,0))
 row:w.ownsRow 0 202 2 v l.length (prV l)
 ne:v.ownBlock≠some lb
def zCa(lb:Nat)(v:Value)(k:Nat):Prop:=k=lb∨v.ownBlock=some k
theorem PrsAt.keep{S:Nat→Prop}{w w':World}{lb:Nat}{v:Value}{l:KV}(h:PrsAt w lb v l)(hk:Keep S w w')(hn:∀k,zCa lb v k→¬S k):PrsAt w' lb v l:=⟨hk.at h.cells (hn _ (.inl rfl)),hk.ownsRow h.row (fun k e=>hn k (.inr e)),h.ne⟩
theorem PrsAt.still{w w':World}{lb:Nat}{v:Value}{l:KV}(h:PrsAt w lb v l)(hb:Below w.heap.size w w'):PrsAt w' lb v l:=h.keep (Keep.still hb) (fun _ _ e=>e)
theorem PrsAt.lt{w:World}{lb:Nat}{v:Value}{l:KV}(h:PrsAt w lb v l){k:Nat}(hk:zCa lb v k):k<w.heap.size:=by
 rcases hk with e|e
 ·subst e;exact(Gl h.cells)
 ·exact(h.row.lt k e).2
structure PrsStep(lb:Nat)(w:World)(v:Value)(w':World)(v':Value)(l':KV):Prop where
 at_:PrsAt w' lb v' l'
 keep:Keep (zCa lb v) w w'
 own:∀k,zCa lb v' k→zCa lb v k∨w.heap.size≤k
theorem PrsStep.refl{lb:Nat}{w:World}{v:Value}{l:KV}(h:PrsAt w lb v l):PrsStep lb w v w v l:=⟨h,Keep.refl _ _,fun _ e=>.inl e⟩
theorem PrsStep.still{lb:Nat}{w w':World}{v:Value}{l:KV}(h:PrsAt w lb v l)(hb:Below w.heap.size w w'):PrsStep lb w v w' v l:=⟨h.still hb,Keep.ofBelow hb,fun _ e=>.inl e⟩
theorem PrsStep.trans{lb:Nat}{w w1 w2:World}{v v1 v2:Value}{l1 l2:KV}(h:PrsStep lb w v w1 v1 l1)(k:PrsStep lb w1 v1 w2 v2 l2):PrsStep lb w v w2 v2 l2:=⟨k.at_,h.keep.trans k.keep (fun i hi e=>(h.own i e).elim id (fun e2=>by omega)),fun i e=>(k.own i e).elim (h.own i) (fun e2=>.inr (Nat.le_trans h.keep.size e2))⟩
theorem PrsAt.push{lb:Nat}{w w8:World}{v v8:Value}{l:KV}{a b:QB}(h:PrsAt w lb v l)(K1:Keep (fun k=>v.ownBlock=some k) w w8)(hrow:w8.ownsRow 0 202 2 v8 (l.length+1) (prV l++[.string a,.string b]))(hloc:∀k,v8.ownBlock=some k→v.ownBlock=some k∨w.heap.size≤k):PrsStep lb w v (w8.setCell ⟨lb,0,none⟩ v8) v8 (l++[(a,b)]):=by
 have hlt:=h.lt (.inl rfl)
 have hb':v8.ownBlock≠some lb:=fun e=>(hloc lb e).elim (fun n=>h.ne n) (fun n=>by omega)
 have K2:Keep (fun k=>k=lb) w8 (w8.setCell ⟨lb,0,none⟩ v8):=(Keep.refl (fun k=>k=lb) w8).setCell (p:=⟨lb,0,none⟩) (fun _=>rfl) _
 have hc:=K1.at h.cells (fun e=>h.ne e)
 refine⟨⟨by exact zOR,?_,hb'⟩,(K1.mono (S':=zCa lb v) (fun k _ e=>.inr e)).trans K2 (fun k _ e=>.inl e),fun k e=>e.elim (fun e=>.inl (.inl e)) (fun e=>(hloc k e).imp .inr id)⟩
 have e1:prV (l++[(a,b)])=prV l++[.string a,.string b]:=by rw[zJT];rfl
 rw[Ql,e1]
 exact K2.ownsRow hrow (fun k e e2=>hb' (by rw[←e2];exact e))
def pick(f t:QB)(limit:Int):KV→KV→Bool×KV|l,[]=>(true,l)|l,x::r=>if bLt x.1 f then pick f t limit l r else if(l.length:Int)=limit∨(t≠⟨#[]⟩∧¬bLt x.1 t)then(false,l)else pick f t limit (l++[x]) r
section
variable {f t : QB} {limit : Int}
theorem zAQ:∀{a:KV}(l b:KV),(∀x∈a,bLt x.1 f)→pick f t limit l (a++b)=pick f t limit l b|[],l,b,_=>rfl|x::a,l,b,h=>by show pick f t limit l (x::(a++b))=_;rw[pick,if_pos (h x (by simp))];exact zAQ l b (fun y hy=>h y (by simp[hy]))
theorem zBT(l r:KV)(x:QB×QB)(h:¬bLt x.1 f)(hs:(l.length:Int)=limit∨(t≠⟨#[]⟩∧¬bLt x.1 t)):pick f t limit l (x::r)=(false,l):=by
 rw[pick,if_neg h,if_pos hs]
theorem zHx(l r:KV)(x:QB×QB)(h:¬bLt x.1 f)(hs:¬((l.length:Int)=limit∨(t≠⟨#[]⟩∧¬bLt x.1 t))):pick f t limit l (x::r)=pick f t limit (l++[x]) r:=by
 rw[pick,if_neg h,if_neg hs]
theorem zBG:∀(a l b:KV),pick f t limit l (a++b)=if(pick f t limit l a).1=true then pick f t limit (pick f t limit l a).2 b else pick f t limit l a|[],l,b=>by show pick f t limit l b=_;rw[pick,if_pos rfl]|x::a,l,b=>by show pick f t limit l (x::(a++b))=_;rw[pick,pick];split;(·exact zBG a l b);·split;(·rw[if_neg (by simp)]);·exact zBG a _ b
theorem zFj(a l:KV):∃r,(pick f t limit l a).2=l++r∧(∀x∈r,x∈a)∧r.length≤a.length:=by
 induction a generalizing l with|nil=>exact⟨[],by rw[pick,List.append_nil],by simp,by simp⟩|cons x a ih=>rw[pick];split;(·obtain⟨r,h1,h2,h3⟩:=ih l;exact⟨r,h1,fun y hy=>List.mem_cons_of_mem _ (h2 y hy),by simp;omega⟩);·split;(·exact⟨[],by rw[List.append_nil],by simp,by simp⟩);·obtain⟨r,h1,h2,h3⟩:=ih (l++[x]);refine⟨x::r,by rw[h1,Qa];rfl,fun y hy=> ?_,by simp;omega⟩;rcases List.mem_cons.1 hy with e|e;(·rw[e];simp);·exact List.mem_cons_of_mem _ (h2 y e)
end
def zD1(lb:Nat)(f t:QB)(limit:Int)(w:World)(v:Value)(l kv:KV)(e:Ending)(w':World):Prop:=e= .returned (.bool (pick f t limit l kv).1)∧∃v',PrsStep lb w v w' v' (pick f t limit l kv).2
theorem zQb(s t:QB):(!(Op.bytesLess s.toList t.toList))=decide (¬bLt s t):=by
 rw[xE]
 by_cases h:bLt s t
 ·rw[decide_eq_true h,decide_eq_false (fun e=>e h)];rfl
 ·rw[decide_eq_false h,decide_eq_true h];rfl
theorem isEmpty_eq(s:QB):s.toList.isEmpty=decide (s=⟨#[]⟩):=by
 rw[Lib.toList_data]
 by_cases h:s=⟨#[]⟩
 ·subst h;rfl
 ·rw[decide_eq_false h];cases hc:s.data.toList with|nil=>exact absurd (ByteArray.ext (Array.toList_inj.1 hc)) h|cons a b=>rfl
theorem zTD{p:Prop}(h:p:=by rw[List.getD_eq_getElem?_getD,List.getElem?_map,Qg hjm];rfl):p:=h
theorem zQc{p:Prop}(h:p:=by exact⟨by rw[hp];rfl,_,by rw[hp];exact(PrsStep.still HL.out HB2.out).trans HSt.out⟩):p:=h
theorem zK6{w:World}{tb br pl deep p lb:Nat}{R:RoomS}{kv l:KV}{v:Value}{from_ to_:QB}{limit:Int}(ht:TreeAt w tb br pl)(hr:RoomAt w br R)(hp:PageIs R p (zF kv))(hsr:zAa kv)(hl:PrsAt w lb v l)(hn:l.length+kv.length≤1000000)(hd:deep≤20):Calls prog 177 #[.pointer (some ⟨tb,0,none⟩),.int .i64 p,.string from_,.string to_,.int .i64 limit,.pointer (some ⟨lb,0,none⟩),.int .i64 deep] w fun e w'=>zD1 lb from_ to_ limit w v l kv e w':=by
 obtain⟨i0,hi0,hz0,hz1,hz2⟩:=info_parts zMq
 have HI:=Hd hi0
 have Hz0:=Hd hz0
 have Hz1:=Hd hz1
 have Hz2:=Hd hz2
 have HRd:=Hd (vr ht hr hp)
 obtain⟨l1,l2,he,h1,h2⟩:=zDu hsr from_
 have hlen6:=(zF kv).keys_lt hp.2.2.2.1 (by have:=hp.2.2.2.2.2;omega)
 have HFd:=Hd (fun u b(hu:NdR u b (zF kv))=>zEQ (key:=from_) (l1:=l1.map Prod.fst) (l2:=l2.map Prod.fst) hu (by rw[yP,he,List.map_append]) (fun k hk=>by exact zOa) (fun k hk=>by exact zOb) hlen6)
 rw[List.length_map]at HFd
 have hkl:(zF kv).keys.length=kv.length:=by rw[yP,List.length_map]
 have hvl:(zF kv).vals.length=kv.length:=by show(kv.map Prod.snd).length=_;rw[List.length_map]
 have hil0:l1.length≤kv.length:=by rw[he,Ql];omega
 have hd0:kv.drop l1.length=l2:=by rw[he,List.drop_left]
 have HP0:=Hd (show pick from_ to_ limit l kv=pick from_ to_ limit l (kv.drop l1.length)by rw[hd0,he];exact zAQ l l2 h1)
 have HG0:=Hd (show∀x∈kv.drop l1.length,¬bLt x.1 from_ by rw[hd0];exact h2)
 clear hd0
 obtain⟨m,hm⟩:=qN kv.length
 rw[hm]at hkl hvl hil0 hn
 rw[hkl]at hlen6
 have HM:=Hd hm
 have HKl:=Hd hkl
 have HVl:=Hd hvl
 have d0:¬((20:Int)<(deep:Int)):=by omega
 obtain⟨i,hil⟩:=qN l1.length
 rw[hil]at HFd hil0 HP0 HG0
 obtain⟨bb,hbb⟩:∃bb,decide ((l2.map Prod.fst).head? =some from_)=bb:=⟨_,rfl⟩
 rw[hbb]at HFd
 have HL:=Hd hl
 clear ht hr hp hsr he h1 h2 hi0 hz0 hz1 hz2 hl hkl hvl hm hbb hil
 go_enter func177,ntmps177
 go_wp2_with(fail)
 refine(HRd.out).mono ?_
 rintro e w1⟨nb,ka,va,ca,rfl,hnd,hnw,hb1⟩
 have c0:w1.cell? ⟨nb,0,none⟩=some (.bool true):=Qc hnd.cells 0
 have HF1:=Hd (HFd.out w1 nb hnd.read)
 have HN1:=Hd hnd
 have HNw1:=Hd hnw
 have HB1:=Hd hb1
 clear hnd hnw hb1
 go_wp2_with(fail)
 refine(HF1.out).mono ?_
 rintro e w2⟨rfl,hb2⟩
 have HN2:=Hd (HN1.out.still hb2)
 have HB2:=Hd (qT HB1.out hb2)
 have HL2:=Hd (HL.out.still HB2.out)
 clear hb2 c0
 have hkr:=HN2.out.keys
 have hvr:=HN2.out.vals
 rw[HKl.out]at hkr
 rw[HVl.out]at hvr
 obtain⟨ksa,ksc,hka⟩:=zA hkr
 obtain⟨vsa,vsc,hva⟩:=zA hvr
 subst hka hva
 clear hkr hvr
 go_wp2_with(fail)
 go_loopw [18](fun i wr=>∃(j:Nat)(v':Value)(lx:KV),i= .int .i64 j∧j≤m∧PrsStep lb w2 v wr v' lx∧pick from_ to_ limit l kv=pick from_ to_ limit lx (kv.drop j)∧(∀x∈kv.drop j,¬bLt x.1 from_)∧lx.length≤l.length+j)(fun i _=>m-(intOf i).toNat)
 case atStart=>exact⟨i,v,l,rfl,hil0,PrsStep.refl HL2.out,HP0.out,HG0.out,by omega⟩
 case round=>obtain⟨j,v',lx,rfl,hj,hst,hpk,hge,hlx⟩:=hrel;have hnr:=HN2.out.keep hst.keep (fun k hk e=>by have h3:=HL.out.lt e;rcases hk with hk|hk;(·have:=HNw1.out k (.inl hk);omega);·have:=HNw1.out k (.inr hk);omega);have c1:wr.cell? ⟨nb,1,none⟩=some (.slice ksa m ksc):=Qc hnr.cells 1;have c2:wr.cell? ⟨nb,2,none⟩=some (.slice vsa m vsc):=Qc hnr.cells 2;obtain⟨psa,psc,hpv⟩:=zA hst.at_.row;subst hpv;have q0:wr.cell? ⟨lb,0,none⟩=some (.slice psa lx.length psc):=Qc hst.at_.cells 0;have HSt:=Hd hst;have HNr:=Hd hnr;have HPk:=Hd hpk;have HGe:=Hd hge;by_cases hjm:j<m;(·(have j1:(j:Int)<(m:Int):=by omega);have hkr2:=hnr.keys;have hvr2:=hnr.vals;rw[HKl.out]at hkr2;rw[HVl.out]at hvr2;obtain⟨kg,kc,hke,_,hkb,_⟩:=zH hkr2 (by omega);obtain⟨vg,vc,hve,_,hvb,_⟩:=zH hvr2 (by omega);injection hke with e1 _ e2;injection hve with e3 _ e4;subst e1 e2 e3 e4;(have k1:wr.cell? ⟨kg,j,none⟩=some (.string ((zF kv).keys.getD j ⟨#[]⟩)):=by have:=hkr2.cells rfl j _ (yW _ _ (by rw[HKl.out];exact hjm));rwa [yJ]at this);(have v1:wr.cell? ⟨vg,j,none⟩=some (.string ((zF kv).vals.getD j ⟨#[]⟩)):=by have:=hvr2.cells rfl j _ (yW _ _ (by rw[HVl.out];exact hjm));rwa [yJ]at this);obtain⟨key,hkey⟩:=qN ((zF kv).keys.getD j ⟨#[]⟩);obtain⟨val,hval⟩:=qN ((zF kv).vals.getD j ⟨#[]⟩);rw[hkey]at k1;rw[hval]at v1;(have hin:kv.drop j=(key,val)::kv.drop (j+1):=by rw[←HM.out]at hjm;(have h5:kv[j]=(key,val):=by(have e5:(zF kv).keys.getD j ⟨#[]⟩=kv[j].1:=by show(kv.map Prod.fst).getD j ⟨#[]⟩=_;exact zTD);(have e6:(zF kv).vals.getD j ⟨#[]⟩=kv[j].2:=by show(kv.map Prod.snd).getD j ⟨#[]⟩=_;exact zTD);rw[←hkey,←hval,e5,e6]);rw[←h5];exact List.drop_eq_getElem_cons hjm);have hkf:¬bLt key from_:=hge (key,val) (by rw[hin];simp);have hg2:∀x∈kv.drop (j+1),¬bLt x.1 from_:=fun x hx=>hge x (by rw[hin];exact List.mem_cons_of_mem _ hx);have HK1:=Hd k1;have HV1:=Hd v1;have HC1:=Hd c1;have HC2:=Hd c2;have HQ0:=Hd q0;have HIn:=Hd hin;have HBx:=Hd (show nb<wr.heap.size∧kg<wr.heap.size∧vg<wr.heap.size∧lb<wr.heap.size from⟨hnr.lt (.inl rfl),(hkr2.lt kg rfl).2,(hvr2.lt vg rfl).2,hst.at_.lt (.inl rfl)⟩);have HAp:=Hd (show∀k,(Value.slice psa lx.length psc).ownBlock=some k→k≠nb∧k≠kg∧k≠vg∧k≠lb from fun k e=>by(have h7:∀q,yK nb (.slice (some ⟨kg,0,none⟩) m ksc) (.slice (some ⟨vg,0,none⟩) m vsc) ca q→q≠k:=fun q hq e2=>by have h8:=HNw1.out q hq;have h9:=HN2.out.lt hq;rcases hst.own k (.inr e)with h|h;(·have:=HL.out.lt h;omega);·omega);exact⟨(h7 nb (.inl rfl)).symm,(h7 kg (.inr (.inl rfl))).symm,(h7 vg (.inr (.inr (.inl rfl)))).symm,fun e2=>hst.at_.ne (by rw[←e2];exact e)⟩);have HLen:=Hd (show lx.length≤1000000 by omega);have HKf:=Hd hkf;have HG2:=Hd hg2;clear hst hnr hpk hge hkf hg2 hkr2 hvr2 hkey hval hin;obtain⟨ln,hln⟩:=qN lx.length;rw[hln]at q0 HQ0 HAp HLen;have HLn:=Hd hln;(have hcase:((ln:Int)==limit)=true∧(ln:Int)=limit∨((ln:Int)==limit)=false∧to_.toList.isEmpty=false∧(!(Op.bytesLess key.toList to_.toList))=true∧(to_≠⟨#[]⟩∧¬bLt key to_)∨((ln:Int)==limit)=false∧to_.toList.isEmpty=true∧¬((ln:Int)=limit∨(to_≠⟨#[]⟩∧¬bLt key to_))∨((ln:Int)==limit)=false∧to_.toList.isEmpty=false∧(!(Op.bytesLess key.toList to_.toList))=false∧¬((ln:Int)=limit∨(to_≠⟨#[]⟩∧¬bLt key to_)):=by rw[isEmpty_eq,zQb];by_cases q1:(ln:Int)=limit;(·exact .inl ⟨by simp[q1],q1⟩);(have q1':((ln:Int)==limit)=false:=by simp[q1]);by_cases q2:to_=⟨#[]⟩;(·exact .inr (.inr (.inl ⟨q1',by simp[q2],fun e=>e.elim q1 (fun e=>e.1 q2)⟩)));by_cases q3:bLt key to_;(·exact .inr (.inr (.inr ⟨q1',by simp[q2],by simp[q3],fun e=>e.elim q1 (fun e=>e.2 q3)⟩)));·exact .inr (.inl ⟨q1',by simp[q2],by simp[q3],q2,q3⟩));rcases hcase with⟨g1,g9⟩|⟨g1,g2,g3,g9⟩|⟨g1,g2,g9⟩|⟨g1,g2,g3,g9⟩;(·have HG9:=Hd g9;clear g9;go_wp2_with(fail);go_ret;have hp:=HPk.out;rw[HIn.out,zBT _ _ _ HKf.out (.inl (by rw[HLn.out];exact HG9.out))]at hp;exact zQc);(·have HG9:=Hd g9;clear g9;go_wp2_with(fail);go_ret;have hp:=HPk.out;rw[HIn.out,zBT _ _ _ HKf.out (.inr HG9.out)]at hp;exact zQc);(all_goals have HGo:=Hd g9;clear g9;go_wp2_with(fail));all_goals obtain⟨S,HS⟩:=mkS (Keep (fun k=>(Value.slice psa ln psc).ownBlock=some k) (wr));have FR:=Hd (fun u(hu:S u)=>have hu:=(HS.out u).1 hu;have c1:u.cell? ⟨nb,1,none⟩=some (.slice (some ⟨kg,0,none⟩) m ksc):=(by rw[hu.cell (p:=⟨nb,1,none⟩) HBx.out.1 (fun e=>(HAp.out _ e).1 rfl)];exact HC1.out);have c2:u.cell? ⟨nb,2,none⟩=some (.slice (some ⟨vg,0,none⟩) m vsc):=(by rw[hu.cell (p:=⟨nb,2,none⟩) HBx.out.1 (fun e=>(HAp.out _ e).1 rfl)];exact HC2.out);have k1:u.cell? ⟨kg,j,none⟩=some (.string key):=(by rw[hu.cell (p:=⟨kg,j,none⟩) HBx.out.2.1 (fun e=>(HAp.out _ e).2.1 rfl)];exact HK1.out);have v1:u.cell? ⟨vg,j,none⟩=some (.string val):=(by rw[hu.cell (p:=⟨vg,j,none⟩) HBx.out.2.2.1 (fun e=>(HAp.out _ e).2.2.1 rfl)];exact HV1.out);have q0:u.cell? ⟨lb,0,none⟩=some (.slice psa ln psc):=(by rw[hu.cell (p:=⟨lb,0,none⟩) HBx.out.2.2.2 (fun e=>(HAp.out _ e).2.2.2 rfl)];exact HQ0.out);And.intro c1 (And.intro c2 (And.intro k1 (And.intro v1 q0))));refine rgo 21 [tR 0,tR 1,tR 2,tR 3,tR 4,tR 5,tR 6,tR 7,tR 8,tR 9,tR 10,tR 11,tR 12,tR 13,tR 14,tR 15,tR 16,tR 17,tR 18,tD 19,tD 20] HS (Keep.refl _ _).drew ?_;(iterate 19 refine rd1 ?_);refine doH ?_;intro K hK;go_simp;have ka:Keep (fun k=>(Value.slice psa ln psc).ownBlock=some k) wr (wr.alloc (.cells #[.string key,.string val] 202)).drew:=((Keep.refl _ wr).alloc _).drew;refine hK _ _ ((HS.out _).2 ka) ?_;clear hK K;have hra:=HSt.out.at_.row;rw[HLn.out]at hra;have hrb:((wr.alloc (.cells #[.string key,.string val] 202)).drew).ownsRow 0 202 2 (.slice psa ln psc) ln (prV lx):=(hra.alloc _).drew;have HRb:=Hd hrb;have HKa:=Hd ka;clear hra hrb ka;refine doH ?_;intro K hK;refine yF _ _ 198 (by rfl) 0 202 i0 _ 2 32 underlying198 HI.out Hz0.out Hz1.out Hz2.out (by rfl) (by decide) _ _ _ (by rfl) HRb.out ⟨wr.heap.size,0,none⟩ 1 1 [.string key,.string val] (by rfl) (by rfl) (World.news_of_block (cs:= #[.string key,.string val]) (t:=202) (fr:=(0,0)) (qH wr _)) (by simp[Value.oneCell']) (by have:=HLen.out;unfold maxLen;omega) (by have:=HLen.out;omega) (Nat.zero_le _) ?_;intro v8 w8 hown8 hg8 hloc;have hown9:w8.ownsRow 0 202 2 v8 (ln+1) (prV lx++[.string key,.string val]):=hown8;obtain⟨p8,c8,hsl⟩:=zA hown9;subst hsl;have kg:=HKa.out.trans ((Keep.refl (fun k=>(Value.slice psa ln psc).ownBlock=some k) _).grown hg8 (fun q _ e=>e)) (fun _ _ e=>e);have HOw:=Hd hown9;have HKg:=Hd kg;have HLc:=Hd (show∀k,(Value.slice p8 (ln+1) c8).ownBlock=some k→(Value.slice psa ln psc).ownBlock=some k∨wr.heap.size≤k from fun k e=>hloc.imp (fun e2=>by rw[←e2];exact e) (fun e2=>by exact zMZ));(have q8:w8.heap[lb]? =some (.cells #[.slice psa ln psc] 198 (0,0)):=by have:=HSt.out.at_.cells;rw[HLn.out]at this;exact kg.at this (fun e=>(HAp.out _ e).2.2.2 rfl));have z8:w8.cell? ⟨lb,0,none⟩=some (.slice psa ln psc):=Qc q8 0;have y8:w8.frozen? ⟨lb,0,none⟩=false:=zM q8;refine hK _ _ ((HS.out _).2 kg) ?_;clear hK K hown8 hown9 hg8 hloc kg q8;refine zl ?_;clear FR;clear S HS;go_wp2_with(fail);go_roundw;(case rel=>have hat:=HSt.out.at_;rw[←HLn.out]at HKg HOw HLc;have hpush:=hat.push HKg.out HOw.out HLc.out;refine⟨j+1,.slice p8 (ln+1) c8,lx++[(key,val)],by go_num,by omega,?_,?_,HG2.out,by rw[Ql];simp;omega⟩;(·rw[HLn.out]at hpush;have hst9:=HSt.out;rw[HLn.out]at hst9;exact hst9.trans hpush);·have hgo:=HGo.out;rw[←HLn.out]at hgo;rw[HPk.out,HIn.out,zHx _ _ _ HKf.out hgo]);case measure=>simp[intOf];omega);·(have j1:¬((j:Int)<(m:Int)):=by omega);clear hst hnr hpk hge;go_wp2_with(fail);go_ret;have hp:=HPk.out;rw[List.drop_eq_nil_of_le (by rw[HM.out];omega),pick]at hp;exact zQc
theorem zEa{cs:List Kid}{j:Nat}(h:j<cs.length):((cs.take (j+1)).flatMap Kid.kv).length=((cs.take j).flatMap Kid.kv).length+cs[j].kv.length:=by
 rw[List.take_succ_eq_append_getElem h,List.flatMap_append,Ql]
 simp
theorem zJU{cs:List Kid}(hb:cs.Pairwise kB)(key:QB):∃l1 l2:List Kid,cs=l1++l2∧(∀d∈l1,¬bLt key d.key)∧∀d∈l2,bLt key d.key:=by
 induction cs with|nil=>exact⟨[],[],rfl,by simp,by simp⟩|cons a t ih=>have hp:=List.pairwise_cons.1 hb;by_cases hk:bLt key a.key;(·refine⟨[],a::t,rfl,by simp,fun d hd=> ?_⟩;rcases List.mem_cons.1 hd with e|e;(·rw[e];exact hk);·exact zV hk (hp.1 d e).1);·obtain⟨l1,l2,e,h1,h2⟩:=ih hp.2;refine⟨a::l1,l2,by rw[e];rfl,fun d hd=> ?_,h2⟩;rcases List.mem_cons.1 hd with e1|e1;(·rw[e1];exact hk);·exact h1 d e1
theorem zK7{cs l1 l2:List Kid}{key:QB}(he:cs=l1++l2)(hb:cs.Pairwise kB)(h1:∀d∈l1,¬bLt key d.key):∀x∈(cs.take (l1.length-1)).flatMap Kid.kv,bLt x.1 key:=by
 rcases List.eq_nil_or_concat l1 with e|⟨l,d,e⟩
 ·subst e;intro x hx;simp at hx
 ·rw[List.concat_eq_append]at e;subst e;(have e1:cs.take ((l++[d]).length-1)=l:=by rw[he,Ql];simp);rw[e1];intro x hx;obtain⟨c,hc,hxc⟩:=List.mem_flatMap.1 hx;rw[he,Qa]at hb;have h2:=(List.pairwise_append.1 hb).2.2 c hc d (by simp);exact xS (h2.2 x hxc) (h1 d (by simp))
theorem zK8{cs:List Kid}{j:Nat}(h:j<cs.length):(cs.drop j).flatMap Kid.kv=cs[j].kv++(cs.drop (j+1)).flatMap Kid.kv:=by
 rw[List.drop_eq_getElem_cons h,List.flatMap_cons]
theorem zJV{w:World}{tb br pl deep p lb:Nat}{R:RoomS}{cs:List Kid}{l:KV}{v:Value}{from_ to_:QB}{limit:Int}(ht:TreeAt w tb br pl)(hr:RoomAt w br R)(hp:PageIs R p (zJ cs))(hpk:∀c∈cs,c.page<65536)(hne:0<cs.length)(hbf:cs.Pairwise kB)(hl:PrsAt w lb v l)(hsep:∀k,zCa lb v k→¬R.foot br k∧k≠tb)(hn:l.length+(cs.flatMap Kid.kv).length≤1000000)(hd:deep+1≤20)(hrec:∀c∈cs,∀(w1:World)(v1:Value)(l1:KV),TreeAt w1 tb br pl→RoomAt w1 br R→PrsAt w1 lb v1 l1→(∀k,zCa lb v1 k→¬R.foot br k∧k≠tb)→l1.length+c.kv.length≤1000000→Calls prog 177 #[.pointer (some ⟨tb,0,none⟩),.int .i64 c.page,.string from_,.string to_,.int .i64 limit,.pointer (some ⟨lb,0,none⟩),.int .i64 ((deep:Int)+1)] w1 fun e w'=>zD1 lb from_ to_ limit w1 v1 l1 c.kv e w'):Calls prog 177 #[.pointer (some ⟨tb,0,none⟩),.int .i64 p,.string from_,.string to_,.int .i64 limit,.pointer (some ⟨lb,0,none⟩),.int .i64 deep] w fun e w'=>zD1 lb from_ to_ limit w v l (cs.flatMap Kid.kv) e w':=by
 have HRd:=Hd (vr ht hr hp)
 have hlen6:=(zJ cs).keys_lt hp.2.2.2.1 (by have:=hp.2.2.2.2.2;omega)
 obtain⟨l1,l2,he,h1,h3⟩:=zJU hbf from_
 have HWy:=Hd (fun u b(hu:NdR u b (zJ cs))=>zGZ (key:=from_) (l1:=l1.map Kid.key) (l2:=l2.map Kid.key) hu (by show cs.map Kid.key=_;rw[he,List.map_append]) (fun k hk=>by exact zOa) (fun k hk=>by obtain⟨x,hx,rfl⟩:=List.mem_map.1 hk;exact h3 x hx) hlen6)
 rw[List.length_map]at HWy
 have hkl:(zJ cs).keys.length=cs.length:=by exact zQR
 have hcl:(zJ cs).kids.length=cs.length:=by show(cs.map Kid.page).length=_;rw[List.length_map]
 have hil0:l1.length-1<cs.length:=by rw[he,Ql]at hne⊢;omega
 have HP0:=Hd (show pick from_ to_ limit l (cs.flatMap Kid.kv)=pick from_ to_ limit l ((cs.drop (l1.length-1)).flatMap Kid.kv)by(have e9:cs.flatMap Kid.kv=(cs.take (l1.length-1)).flatMap Kid.kv++(cs.drop (l1.length-1)).flatMap Kid.kv:=by exact zQT);rw[e9];exact zAQ l _ (zK7 he hbf h1))
 obtain⟨m,hm⟩:=qN cs.length
 rw[hm]at hcl hil0 hne
 rw[hkl,hm]at hlen6
 have HM:=Hd hm
 have HCl:=Hd hcl
 have d0:¬((20:Int)<(deep:Int)):=by omega
 have d1:(0:Int)≤(deep:Int):=by omega
 have d2:(deep:Int)<20:=by omega
 obtain⟨i,hil⟩:=qN (l1.length-1)
 rw[hil]at HWy hil0 HP0
 have HL:=Hd hl
 have HR:=Hd hr
 have HT:=Hd ht
 have HSep:=Hd hsep
 have HRec:=Hd hrec
 have HPk:=Hd hpk
 clear ht hr hp he h1 h3 hbf hl hkl hcl hm hil hrec hsep hpk
 go_enter func177,ntmps177
 go_wp2_with(fail)
 refine(HRd.out).mono ?_
 rintro e w1⟨nb,ka,va,ca,rfl,hnd,hnw,hb1⟩
 have c0:w1.cell? ⟨nb,0,none⟩=some (.bool false):=Qc hnd.cells 0
 have hkr:=hnd.kids
 rw[HCl.out]at hkr
 obtain⟨g2,p2,hca,hnp,hmx,_⟩:=zH hkr (by omega)
 subst hca
 have c3:w1.cell? ⟨nb,3,none⟩=some (.slice (some ⟨g2,0,none⟩) m p2):=Qc hnd.cells 3
 have hdw:Below w1.heap.size w1 w1.drew:=⟨rfl,rfl,rfl,Qn _,fun _ _=>rfl⟩
 have HW1:=Hd (HWy.out w1.drew nb (hnd.read.still hdw))
 have HN1:=Hd hnd
 have HNw1:=Hd hnw
 have HB1:=Hd hb1
 have HC3:=Hd c3
 have HNB:=Hd (show nb<w1.heap.size from hnd.lt (.inl rfl))
 have i0:(0:Int)≤(i:Int):=by omega
 have i1:(i:Int)≤(m:Int):=by omega
 have i2:(i:Int)≤(p2:Int):=by omega
 have i3:(m:Int)≤(p2:Int):=by omega
 clear hnd hnw hb1 hkr hdw
 go_wp2_with(fail)
 obtain⟨S,HS⟩:=mkS (Keep (fun _=>False) (w1))
 have FR:=Hd (fun u(hu:S u)=>have hu:=(HS.out u).1 hu;have c3:u.cell? ⟨nb,3,none⟩=some (.slice (some ⟨g2,0,none⟩) m p2):=(by exact zSr);c3)
 refine rgw 10 [tR 0,tR 1,tR 2,tR 3,tR 4,tR 5,tR 9,tD 6,tR 7,tR 8] HS (Keep.refl _ _).drew ?_
 iterate 7 refine rd1 ?_
 refine doH ?_
 intro K hK
 go_simp
 go_at_call 149
 refine(HW1.out).mono ?_
 rintro e w2⟨rfl,hb2⟩
 have HB2:=Hd (show Below w1.heap.size w1 w2 from⟨hb2.os,hb2.tape,hb2.output,hb2.size,hb2.block⟩)
 refine hK _ _ ((HS.out _).2 (Keep.ofBelow HB2.out)) ?_
 clear hK K hb2
 iterate 2 refine rd1 ?_
 refine zl ?_
 clear FR
 clear S HS
 have HL2:=Hd (HL.out.still (qT HB1.out HB2.out))
 have HBa:=Hd (qT HB1.out HB2.out)
 have HN2:=Hd (HN1.out.still HB2.out)
 clear c0 c3
 obtain⟨n,hni⟩:=qN (m-i)
 have hni2:(m:Int)-(i:Int)=(n:Int):=by omega
 go_wp2_with(fail)
 go_loopw [40](fun kx wr=>∃(k:Nat)(v':Value)(lx:KV),kx= .int .i64 k∧i+k≤m∧PrsStep lb w2 v wr v' lx∧pick from_ to_ limit l (cs.flatMap Kid.kv)=pick from_ to_ limit lx ((cs.drop (i+k)).flatMap Kid.kv)∧lx.length≤l.length+((cs.take (i+k)).flatMap Kid.kv).length)(fun kx _=>m-(intOf kx).toNat)
 case atStart=>exact⟨0,v,l,rfl,by omega,PrsStep.refl HL2.out,HP0.out,by omega⟩
 case round=>obtain⟨k,v',lx,rfl,hk,hst,hpk,hlx⟩:=hrel;have HSt:=Hd hst;have HPk':=Hd hpk;by_cases hkn:k<n;(·have hnr:=HN2.out.keep hst.keep (fun q hq e=>by have h3:=HL.out.lt e;have:=HNw1.out q hq;omega);have hc:=HM.out;(have hix:i+k<cs.length:=by omega);obtain⟨c9,hc9⟩:=qN (cs[i+k]);(have hm9:c9∈cs:=by rw[←hc9];exact List.getElem_mem hix);have hpg9:=HPk.out c9 hm9;(have q1:wr.cell? ⟨g2,i+k,none⟩=some (.int .i64 (c9.page:Nat)):=by have:=hnr.kids.cells rfl (i+k) (.int .i64 (c9.page:Nat)) (by show((cs.map Kid.page).map _)[i+k]? =_;rw[List.getElem?_map,List.getElem?_map,Qg hix,hc9];rfl);rwa [yJ]at this);have hts:=zEa hix;rw[hc9]at hts;have hdr:=zK8 hix;rw[hc9]at hdr;(have hsum:((cs.take (i+k+1)).flatMap Kid.kv).length≤(cs.flatMap Kid.kv).length:=by(have e:cs.flatMap Kid.kv=(cs.take (i+k+1)).flatMap Kid.kv++(cs.drop (i+k+1)).flatMap Kid.kv:=by exact zQT);rw[e,Ql];omega);have htb2:tb<w.heap.size:=(Gl HT.out.cells);have HRc:=Hd (HRec.out c9 hm9 wr v' lx ⟨hst.keep.at ((HBa.out.block tb htb2).trans HT.out.cells) (fun e=>(HSep.out tb e).2 rfl)⟩ ((HR.out.still HBa.out).keep hst.keep (fun q hq e=>(HSep.out q e).1 hq)) hst.at_ (fun q e=>(hst.own q e).elim (HSep.out q) (fun h=>by have:=HBa.out.size;exact⟨fun hf=>by have:=HR.out.foot_lt9 hf;omega,fun e2=>by omega⟩)) (by omega));have HDr:=Hd hdr;have HTs:=Hd hts;have HM9:=Hd hm9;obtain⟨pg,hpg⟩:=qN c9.page;rw[hpg]at q1 HRc;(have k0:(0:Int)≤(k:Int):=by omega);(have k1:(k:Int)<(n:Int):=by omega);clear hst hpk hnr hc hc9 hm9 hpg9 hts hpg htb2 hdr;go_wp2_with(fail);refine(HRc.out).mono ?_;rintro e w3⟨rfl,v2,hst2⟩;obtain⟨r9,hr9,-,hrl9⟩:=zFj (f:=from_) (t:=to_) (limit:=limit) c9.kv lx;have hp9:=HPk'.out;rw[HDr.out,zBG]at hp9;obtain⟨pr,hpr⟩:=qN (pick from_ to_ limit lx c9.kv);rw[hpr]at hr9 hp9 hst2⊢;obtain⟨b,l3⟩:=pr;(have hl3:l3.length≤lx.length+c9.kv.length:=by have e8:l3=lx++r9:=hr9;rw[e8,Ql];omega);have HSt2:=Hd (HSt.out.trans hst2);have HP9:=Hd hp9;have HLl:=Hd (show l3.length≤l.length+((cs.take (i+k+1)).flatMap Kid.kv).length by rw[HTs.out];omega);clear hst2 hr9 hrl9 hp9 hpr hl3;cases b with|false=>go_wp2_with(fail);go_ret;have hp:=HP9.out;rw[if_neg (by simp)]at hp;exact⟨by rw[hp];rfl,v2,by rw[hp];exact(PrsStep.still HL.out HBa.out).trans HSt2.out⟩|true=>go_wp2_with(fail);go_roundw;(case rel=>have hp:=HP9.out;rw[if_pos trivial]at hp;exact⟨k+1,v2,l3,by go_num,by omega,HSt2.out,hp,by rw[←Nat.add_assoc];exact HLl.out⟩);case measure=>simp[intOf];omega);·(have k1:¬((k:Int)<(n:Int)):=by omega);clear hst hpk;go_wp2_with(fail);go_ret;have hp:=HPk'.out;rw[List.drop_eq_nil_of_le (by have:=HM.out;omega),List.flatMap_nil,pick]at hp;exact⟨by rw[hp];rfl,v',by rw[hp];exact(PrsStep.still HL.out HBa.out).trans HSt.out⟩
theorem zMr{tb br pl lb:Nat}{R:RoomS}{from_ to_:QB}{limit:Int}(h16:R.pages≤65536)(h:Nat):∀{w:World}{p deep:Nat}{lo:QB}{kv l:KV}{ps:List Nat}{v:Value},TreeAt w tb br pl→RoomAt w br R→Sub (PageIs R) h p lo kv ps→PrsAt w lb v l→(∀k,zCa lb v k→¬R.foot br k∧k≠tb)→l.length+kv.length≤1000000→deep+h≤20→Calls prog 177 #[.pointer (some ⟨tb,0,none⟩),.int .i64 p,.string from_,.string to_,.int .i64 limit,.pointer (some ⟨lb,0,none⟩),.int .i64 deep] w fun e w'=>zD1 lb from_ to_ limit w v l kv e w':=by
 induction h with|zero=>intro w p deep lo kv l ps v ht hr hs hl hsep hn hd;obtain⟨_,_,hP,_,hsr⟩:=hs;exact zK6 ht hr hP hsr hl hn (by omega)|succ h ih=>intro w p deep lo kv l ps v ht hr hs hl hsep hn hd;obtain⟨cs,hks,h2,hP,rfl,rfl⟩:=hs.kids;refine zJV ht hr hP (fun c hc=>by have:=(hks.sub c hc).p16;omega) (by omega) hks.bef hl hsep hn (by omega) (fun c hc w1 v1 l1 ht1 hr1 hl1 hsep1 hn1=> ?_);exact ih (deep:=deep+1) ht1 hr1 (hks.sub c hc) hl1 hsep1 hn1 (by omega)
theorem zEb(q pl:Addr)(w:World)(he:w.cell? q=some (.int .i64 0))(u:FrameMode):CallsD prog 176 #[.pointer (some q),.pointer (some pl)] u w fun e u' w'=>u'=u∧(e= .returned (.tuple #[])∧w'=w):=by
 go_enter_d func176,ntmps176
 go_wp2
 go_end0
 exact⟨rfl,rfl⟩
def xw(f t:QB)(limit:Int)(kv:KV):KV:=if 0<limit then(pick f t limit [] kv).2 else[]
theorem zB2(f t:QB)(limit:Int)(kv:KV):(∀x∈xw f t limit kv,x∈kv)∧(xw f t limit kv).length≤kv.length:=by
 unfold xw
 split
 ·obtain⟨r,h1,h2,h3⟩:=zFj (f:=f) (t:=t) (limit:=limit) kv [];rw[h1,List.nil_append];exact⟨h2,h3⟩
 ·exact⟨by simp,by simp⟩
def zQd(w:World)(L:KV)(e:Ending)(w':World):Prop:=∃v',e= .returned (.tuple #[v',.int .i64 0])∧w'.ownsRow 0 202 2 v' L.length (prV L)∧(∀k,v'.ownBlock=some k→w.heap.size≤k)∧Below w.heap.size w w'
def zOl(w:World)(kv:KV)(e:Ending)(w':World):Prop:=∃v' l2,e= .returned (.tuple #[v',.int .i64 0])∧w'.ownsRow 0 202 2 v' l2.length (prV l2)∧(∀k,v'.ownBlock=some k→w.heap.size≤k)∧(∀x∈l2,x∈kv)∧l2.length≤kv.length∧Below w.heap.size w w'
theorem zTE{p:Prop}(h:p:=by obtain⟨v4,hv40⟩:∃v4,v4=Value.slice none 0 0:=⟨_,rfl⟩;rw[←hlx,←hv40]at HP4;have HOwn:=Hd (show∀k,v4.ownBlock=some k→w.heap.size≤k from fun k e=>by rw[hv40]at e;cases e);have HNe:=Hd (show∀k,v4.ownBlock=some k→k≠ws+1 from fun k e=>by rw[hv40]at e;cases e);clear hlx hv40 hb4;have z8:w4.cell? ⟨ws,0,none⟩=some v4:=Qc HP4.out.cells 0;have y8:w4.frozen? ⟨ws,0,none⟩=false:=zM HP4.out.cells;have z9:w4.cell? ⟨ws+1,0,none⟩=some (.int .i64 0):=Qc HE4.out 0;have y9:w4.frozen? ⟨ws+1,0,none⟩=false:=zM HE4.out;obtain⟨sa4,sc4,hv4⟩:=zA HP4.out.row;obtain⟨n4,hn4⟩:=qN lx.length;rw[hn4]at hv4;subst hv4;go_wp2_with(fail);have K4:Keep (fun k=>k=ws∨k=ws+1) w4 ((w4.setCell ⟨ws,0,none⟩ (.slice sa4 n4 sc4)).setCell ⟨ws+1,0,none⟩ (.int .i64 0)):=((Keep.refl (fun k=>k=ws∨k=ws+1) w4).setCell (p:=⟨ws,0,none⟩) (fun _=>.inl rfl) _).setCell (p:=⟨ws+1,0,none⟩) (fun _=>.inr rfl) _;have e9:((w4.setCell ⟨ws,0,none⟩ (.slice sa4 n4 sc4)).setCell ⟨ws+1,0,none⟩ (.int .i64 0)).cell? ⟨ws+1,0,none⟩=some (.int .i64 0):=World.cell?_setCell_same _ _ _ (by rw[World.cell?_setCell_other _ _ _ _ (by simp)];exact z9);(have e8:((w4.setCell ⟨ws,0,none⟩ (.slice sa4 n4 sc4)).setCell ⟨ws+1,0,none⟩ (.int .i64 0)).cell? ⟨ws,0,none⟩=some (.slice sa4 n4 sc4):=by rw[World.cell?_setCell_other _ _ _ _ (by simp)];exact World.cell?_setCell_same _ _ _ z8);obtain⟨w5,hw5⟩:=qN ((w4.setCell ⟨ws,0,none⟩ (.slice sa4 n4 sc4)).setCell ⟨ws+1,0,none⟩ (.int .i64 0));rw[hw5]at K4 e8 e9;rw[hw5];refine leaves_cons (f:=145) (args:= #[.pointer (some ⟨ws+1,0,none⟩)]) (by simp) (by simp[go_sem]) ?_;refine(xF _ _).mono ?_;rintro e u' w''⟨rfl,rfl,rfl⟩;simp only[settle];refine leaves_cons (f:=176) (args:= #[.pointer (some ⟨ws+1,0,none⟩),.pointer (some ⟨ws,0,none⟩)]) (by simp) (by simp[go_sem]) ?_;refine(zEb _ _ _ e9 _).mono ?_;rintro e u' w''⟨rfl,rfl,rfl⟩;simp[Leaves,settle,results,results109,go_sem,e9,e8];rw[HEq.out];refine⟨_,rfl,?_,fun k e=> ?_,?_⟩;(·rw[hn4];have hrw:=HP4.out.row;rw[hn4]at hrw;exact K4.ownsRow hrw (fun k e e2=>e2.elim (fun e3=>HP4.out.ne (by rw[←e3];exact e)) (fun e3=>HNe.out k e e3)));(·exact HOwn.out k e);·exact HB4.out.trans (K4.below HB4.out.size (fun k _ e=>by have:=HWs.out;omega))):p:=h
theorem zUW{p:Prop}(h:p:=by have z8:w4.cell? ⟨ws,0,none⟩=some v4:=Qc HP4.out.cells 0;have y8:w4.frozen? ⟨ws,0,none⟩=false:=zM HP4.out.cells;have z9:w4.cell? ⟨ws+1,0,none⟩=some (.int .i64 0):=Qc HE4.out 0;have y9:w4.frozen? ⟨ws+1,0,none⟩=false:=zM HE4.out;obtain⟨sa4,sc4,hv4⟩:=zA HP4.out.row;obtain⟨n4,hn4⟩:=qN lx.length;rw[hn4]at hv4;subst hv4;go_wp2_with(fail);have K4:Keep (fun k=>k=ws∨k=ws+1) w4 ((w4.setCell ⟨ws,0,none⟩ (.slice sa4 n4 sc4)).setCell ⟨ws+1,0,none⟩ (.int .i64 0)):=((Keep.refl (fun k=>k=ws∨k=ws+1) w4).setCell (p:=⟨ws,0,none⟩) (fun _=>.inl rfl) _).setCell (p:=⟨ws+1,0,none⟩) (fun _=>.inr rfl) _;have e9:((w4.setCell ⟨ws,0,none⟩ (.slice sa4 n4 sc4)).setCell ⟨ws+1,0,none⟩ (.int .i64 0)).cell? ⟨ws+1,0,none⟩=some (.int .i64 0):=World.cell?_setCell_same _ _ _ (by rw[World.cell?_setCell_other _ _ _ _ (by simp)];exact z9);(have e8:((w4.setCell ⟨ws,0,none⟩ (.slice sa4 n4 sc4)).setCell ⟨ws+1,0,none⟩ (.int .i64 0)).cell? ⟨ws,0,none⟩=some (.slice sa4 n4 sc4):=by rw[World.cell?_setCell_other _ _ _ _ (by simp)];exact World.cell?_setCell_same _ _ _ z8);obtain⟨w5,hw5⟩:=qN ((w4.setCell ⟨ws,0,none⟩ (.slice sa4 n4 sc4)).setCell ⟨ws+1,0,none⟩ (.int .i64 0));rw[hw5]at K4 e8 e9;rw[hw5];refine leaves_cons (f:=145) (args:= #[.pointer (some ⟨ws+1,0,none⟩)]) (by simp) (by simp[go_sem]) ?_;refine(xF _ _).mono ?_;rintro e u' w''⟨rfl,rfl,rfl⟩;simp only[settle];refine leaves_cons (f:=176) (args:= #[.pointer (some ⟨ws+1,0,none⟩),.pointer (some ⟨ws,0,none⟩)]) (by simp) (by simp[go_sem]) ?_;refine(zEb _ _ _ e9 _).mono ?_;rintro e u' w''⟨rfl,rfl,rfl⟩;simp[Leaves,settle,results,results109,go_sem,e9,e8];rw[HEq.out];refine⟨_,rfl,?_,fun k e=> ?_,?_⟩;(·rw[hn4];have hrw:=HP4.out.row;rw[hn4]at hrw;exact K4.ownsRow hrw (fun k e e2=>e2.elim (fun e3=>HP4.out.ne (by rw[←e3];exact e)) (fun e3=>HNe.out k e e3)));(·exact HOwn.out k e);·exact HB4.out.trans (K4.below HB4.out.size (fun k _ e=>by have:=HWs.out;omega))):p:=h
theorem zEc{w:World}{tb br pl:Nat}{R:RoomS}{kv:KV}{ps:List Nat}{from_ to_:QB}{limit:Int}(ht:TreeAt w tb br pl)(hr:RoomAt w br R)(h16:R.pages≤65536)(hpl:pl<16)(hT:TreeIs R pl kv ps)(hn:kv.length≤100000):Calls prog 109 #[.pointer (some ⟨tb,0,none⟩),.string from_,.string to_,.int .i64 limit] w fun e w'=>zQd w (xw from_ to_ limit kv) e w':=by
 have hmf:∀(fn:Fn)(first cap:Array Value)(w:World),(Instr.makeFunc fn first cap).run prog w= .ok (.func fn first cap) w:=fun _ _ _ _=>rfl
 have HT:=Hd ht
 have HR:=Hd hr
 have htl:=(Gl ht.cells)
 have HTl:=Hd htl
 have hrt:R.root pl≤65536:=by rcases hT with⟨e,_⟩|⟨h,p,e,hs⟩;(·omega);·have:=hs.p16;omega
 clear ht hr htl
 go_enter_defers func109,ntmps109
 go_wp2_with(fail)
 have hb2:Below w.heap.size w ((w.alloc (.cells #[.slice none 0 0] 198)).alloc (.cells #[.int .i64 0] 29)):=(qA).alloc (by simp) _
 have q1:((w.alloc (.cells #[.slice none 0 0] 198)).alloc (.cells #[.int .i64 0] 29)).heap[w.heap.size]? =some (.cells #[.slice none 0 0] 198 (0,0)):=(Keep.still ((Below.refl _ _).alloc (Qn _) (.cells #[.int .i64 0] 29))).at (qH w _) (fun e=>e)
 have q2:((w.alloc (.cells #[.slice none 0 0] 198)).alloc (.cells #[.int .i64 0] 29)).heap[w.heap.size+1]? =some (.cells #[.int .i64 0] 29 (0,0)):=by have:=qH (w.alloc (.cells #[.slice none 0 0] 198)) (.cells #[.int .i64 0] 29);rw[World.size_alloc]at this;exact this
 obtain⟨w2,hw2⟩:=qN ((w.alloc (.cells #[.slice none 0 0] 198)).alloc (.cells #[.int .i64 0] 29))
 rw[hw2]at hb2 q1 q2
 rw[hw2]
 have HB2:=Hd hb2
 obtain⟨ws,hws⟩:=qN w.heap.size
 rw[hws]at q1 q2
 rw[hws]
 have HWs:=Hd hws
 have HQ2:=Hd q2
 have hz2:ws+1<w2.heap.size:=(Gl q2)
 have HL2:=Hd (show PrsAt w2 ws (.slice none 0 0) []from⟨q1,⟨rfl,.inl ⟨rfl,rfl⟩⟩,fun e=>by cases e⟩)
 have HRt:=Hd (zAN (w:=w2) ⟨(HB2.out.block tb HTl.out).trans HT.out.cells⟩ (HR.out.still HB2.out) hpl hrt)
 clear hw2 hws q1 q2 hb2
 refine(HRt.out).mono ?_
 rintro e w4⟨rfl,hb4⟩
 rcases hT with⟨e0,hkv0,-⟩|⟨h,p,e0,hs⟩
 ·rw[e0];(have r0:(((0:Nat):Int)-1)= -1:=by omega);rw[r0];clear e0 r0;have HP4:=Hd (HL2.out.still hb4);have HE4:=Hd (show w4.heap[ws+1]? =some (.cells #[.int .i64 0] 29 (0,0))from(hb4.block _ (by omega)).trans HQ2.out);have HB4:=Hd (qT HB2.out hb4);obtain⟨lx,hlx⟩:∃lx:KV,lx=[]:=⟨_,rfl⟩;have HEq:=Hd (show xw from_ to_ limit kv=lx by rw[hlx,hkv0];unfold xw;split<;>rfl);clear hkv0;exact zTE
 ·rw[e0];(have r0:(((p+1:Nat):Int)-1)=(p:Int):=by omega);rw[r0];(have p0:(0:Int)≤(p:Int):=by omega);by_cases hlim:0<limit;(·clear r0;(have hh:h<20:=by rcases Nat.lt_or_ge h 20 with e|e;(·exact e);·have h1:=hs.height;have h2:=Nat.pow_le_pow_right (n:=2) (by omega) e;omega);have hsc:=zMr (tb:=tb) (br:=br) (pl:=pl) (lb:=ws) (from_:=from_) (to_:=to_) (limit:=limit) h16 h (w:=w4) (deep:=0) (l:=[]) ⟨((qT HB2.out hb4).block tb HTl.out).trans HT.out.cells⟩ (HR.out.still (qT HB2.out hb4)) hs (HL2.out.still hb4) (fun k e=>by have e2:k=ws:=e.elim id (fun e=>by cases e);have:=HWs.out;have:=HTl.out;exact⟨fun e3=>by have:=HR.out.foot_lt9 e3;omega,by omega⟩) (by simp;omega) (by omega);rw[show(((0:Nat)):Int)=0 from rfl]at hsc;have HSc:=Hd hsc;have HB3:=Hd (qT HB2.out hb4);have HE3:=Hd (show w4.heap[ws+1]? =some (.cells #[.int .i64 0] 29 (0,0))from(hb4.block _ (by omega)).trans HQ2.out);have HZ3:=Hd (show ws+1<w4.heap.size from Qt hz2 hb4.size);clear hsc hb4 hs;go_wp2_with(fail);refine(HSc.out).mono ?_;rintro e w4⟨rfl,v4,hst⟩;obtain⟨lx,hlx⟩:=qN ((pick from_ to_ limit [] kv).2);rw[hlx]at hst;have HEq:=Hd (show xw from_ to_ limit kv=lx by unfold xw;rw[if_pos hlim];exact hlx);generalize(pick from_ to_ limit [] kv).1=b at*;clear hlx;have HP4:=Hd hst.at_;have HE4:=Hd (hst.keep.at HE3.out (fun e=>e.elim (fun e=>by omega) (fun e=>by cases e)));have HB4:=Hd (HB3.out.trans (hst.keep.below HB3.out.size (fun k _ e=>e.elim (fun e=>by have:=HWs.out;omega) (fun e=>by cases e))));have HOwn:=Hd (show∀k,v4.ownBlock=some k→w.heap.size≤k from fun k e=>by rcases hst.own k (.inr e)with e2|e2;(·have:=HWs.out;rcases e2 with e2|e2;(·omega);·cases e2);·have:=HB3.out.size;omega);have HNe:=Hd (show∀k,v4.ownBlock=some k→k≠ws+1 from fun k e e9=>by rcases hst.own k (.inr e)with e2|e2;(·rcases e2 with e2|e2;(·omega);·cases e2);·have:=HZ3.out;omega);clear hst;exact zUW);·clear r0;have HP4:=Hd (HL2.out.still hb4);have HE4:=Hd (show w4.heap[ws+1]? =some (.cells #[.int .i64 0] 29 (0,0))from(hb4.block _ (by omega)).trans HQ2.out);have HB4:=Hd (qT HB2.out hb4);obtain⟨lx,hlx⟩:∃lx:KV,lx=[]:=⟨_,rfl⟩;have HEq:=Hd (show xw from_ to_ limit kv=lx by rw[hlx];unfold xw;rw[if_neg hlim]);exact zTE
theorem zFk{w:World}{tb br pl:Nat}{R:RoomS}{kv:KV}{ps:List Nat}{from_ to_:QB}{limit:Int}(ht:TreeAt w tb br pl)(hr:RoomAt w br R)(h16:R.pages≤65536)(hpl:pl<16)(hT:TreeIs R pl kv ps)(hn:kv.length≤100000):Calls prog 109 #[.pointer (some ⟨tb,0,none⟩),.string from_,.string to_,.int .i64 limit] w fun e w'=>zOl w kv e w':=(zEc (from_:=from_) (to_:=to_) (limit:=limit) ht hr h16 hpl hT hn).mono fun _ _⟨v',h1,h2,h3,h4⟩=>⟨v',_,h1,h2,h3,(zB2 _ _ _ _).1,(zB2 _ _ _ _).2,h4⟩
theorem zGf{w:World}{B n g c:Nat}{ps:List Nat}(h:w.ownsRow B 3 1 (.slice (some ⟨g,0,none⟩) n c) n (zEW ps))(hl:ps.length=n)(hn:n≤1000000)(x:Nat):Calls prog 181 #[.slice (some ⟨g,0,none⟩) n c,.int .i64 x] w fun e w'=>e= .returned (.bool (decide (x∈ps)))∧w=w':=by
 have hz:∀j,j<(ps.map (fun k:Nat=>(k:Int))).length→w.cell? ⟨g,0+j,none⟩=some (.int .i64 ((ps.map (fun k:Nat=>(k:Int))).getD j 0)):=fun j hj=>by rw[List.length_map]at hj;rw[Nat.zero_add,zC h j _ (zD0 ps j hj),List.getD_eq_getElem?_getD,List.getD_eq_getElem?_getD,List.getElem?_map,Qg hj];rfl
 have:=Tryz.slices_Contains_int g 0 n c (ps.map (fun k:Nat=>(k:Int))) x w (by rw[List.length_map];omega) (by omega) hz
 refine this.mono fun e w'⟨he,hw⟩=>⟨?_,hw.symm⟩
 rw[he,Qk (by rw[List.length_map];omega)]
 congr 2
 rw[Bool.eq_iff_iff]
 simp
 exact⟨fun⟨a,h,e⟩=>(show a=x by omega)▸h,fun h=>⟨x,h,rfl⟩⟩
def zUX:Value→Nat| .slice _ k _=>k|_=>0
def zOm(w:World)(s:QB)(ps:List Nat)(v:Value)(k:Nat)(wr:World):Prop:=Below w.heap.size w wr∧wr.ownsRow w.heap.size 3 1 v k (zEW (ps.take k))∧IsB w.heap.size w.heap.size (Lib.byteCells (s.data.toList.take (506*k))) wr
theorem zOn{w:World}{br:Nat}{R:RoomS}(h:RoomAt w br R){s:QB}{ps:List Nat}(hb:BlobIn R s ps)(hs:s.size≤131072):Calls prog 116 #[.pointer (some ⟨br,0,none⟩),.int .i64 (ps.getD 0 0:Nat)] w fun e w'=>∃v,e= .returned (.tuple #[v,.string s,.int .i64 0])∧w'.ownsRow w.heap.size 3 1 v ps.length (zEW ps)∧Below w.heap.size w w':=by
 have hn:=zFf s.size hs
 have hn1:=zBy s.size
 obtain⟨n,hnn⟩:=qN ps.length
 have hnp:zc s.size=n:=by rw[←hb.len];exact hnn
 rw[hnp]at hn hn1
 have hcov:=zBk s.size
 have hleast:=zCZ s.size
 rw[hnp]at hcov hleast
 obtain⟨i0,hi0,hz0,hz1,hz2⟩:=info_parts zGP
 have HI:=Hd hi0
 have Hz0:=Hd hz0
 have Hz1:=Hd hz1
 have Hz2:=Hd hz2
 have HR:=Hd h
 have HBl:=Hd hb
 have HNN:=Hd hnn
 have HLeast:=Hd hleast
 have hsm:=h.tx.log.small
 have hfit:=h.fit
 have hpg:R.pages≤65536:=by omega
 obtain⟨p0,hp0⟩:=qN (ps.getD 0 0)
 rw[hp0]
 have HP0:=Hd hp0
 clear hp0
 have HF:=Hd (Lib.fresh_isBuilder 123 5 w)
 clear h hb hnn hnp hleast hi0 hz0 hz1 hz2 hsm hfit
 go_enter func116,ntmps116
 go_wp2
 go_loopw [7,9](fun v at_ wr=>∃k:Nat,k<n∧at_= .int .i64 (ps.getD k 0:Nat)∧zOm w s ps v k wr)(fun v _ _=>n-zUX v)
 case atStart=>exact⟨0,by omega,by rw[HP0.out],qA,qO,by simpa[Lib.byteCells]using HF.out⟩
 case round=>obtain⟨k,hk,rfl,hbl,hrow,hib⟩:=hrel;obtain⟨a0,c0,rfl⟩:=zA hrow;(have hkl:k<ps.length:=by rw[HNN.out];exact hk);have hpk:=HBl.out.pages _ (vu hkl);have htx:=HBl.out.text k hkl;have hck:=zDT s k;(have hk6:506*k≤s.size:=by exact zS2);have hcat:=zK2 s k hk6;(obtain⟨nx,hnx,hnx2⟩:∃nx,zAk ps k=nx∧((k+1<n∧∃np,nx=np+1∧np≤65536∧np=ps.getD (k+1) 0∧np∉ps.take (k+1))∨(k+1=n∧nx=0)):=by refine⟨_,rfl,?_⟩;unfold zAk;rw[HNN.out];by_cases h1:k+1<n;(·rw[if_pos h1];(have h2:k+1<ps.length:=by rw[HNN.out];exact h1);have h3:=(HBl.out.pages _ (vu h2)).1;refine .inl ⟨h1,_,rfl,by omega,rfl,fun hm=> ?_⟩;obtain⟨j,hj,hj2⟩:=List.getElem_of_mem hm;(have hj3:j<k+1:=by rw[List.length_take]at hj;omega);(have h4:ps.getD j 0=ps.getD (k+1) 0:=by rw[←hj2,List.getElem_take,List.getD_eq_getElem?_getD,Qg (by omega)];rfl);have:=getD_inj HBl.out.nodup (by omega) h2 h4;omega);·rw[if_neg h1];exact .inr ⟨by omega,rfl⟩);rw[hnx]at htx;(have hnx3:nx<4294967296:=by rcases hnx2 with⟨_,np,h1,h2,_⟩|⟨_,h1⟩<;>omega);have HRd:=Hd (zHr (HR.out.still hbl) (ps.getD k 0) hpk.1 hpk.2 nx (yi s k) hnx3 (by omega) htx);(have hbsl:(Lib.byteCells (s.data.toList.take (506*k))).length=506*k:=by simp[Lib.byteCells];omega);(have hnum:zEW (ps.take k)++[.int .i64 (ps.getD k 0:Nat)]=zEW (ps.take (k+1)):=by unfold zEW;rw[List.take_succ_eq_append_getElem hkl,List.map_append,List.getD_eq_getElem?_getD,Qg hkl];rfl);(have hstr:Lib.byteCells (s.data.toList.take (506*k))++Lib.strCells (yi s k)=Lib.byteCells (s.data.toList.take (506*(k+1))):=by rw[strCells_eq,←byteCells_append,hcat]);(have hcl:(Lib.byteCells (s.data.toList.take (506*k))).length+(yi s k).size≤140737488355328:=by omega);have HBL:=Hd hbl;have HRow:=Hd hrow;have HIB:=Hd hib;have HNum:=Hd hnum;have HStr:=Hd hstr;have HCl:=Hd hcl;have HCk:=Hd hck;have HKl:=Hd hkl;(have hk26:k≤260:=by omega);generalize ps.getD k 0=pk at*;generalize yi s k=ck at*;clear hbl hrow hib hpk htx hck hk6 hcat hnx hnx3 hbsl hnum hstr hcl hkl;rcases hnx2 with⟨hk1,np,rfl,hnp,hnpe,hnin⟩|⟨rfl,rfl⟩;(·(have g1:(((np+1:Nat):Int)==0)=false:=by simp;omega);(have e1:((np+1:Nat):Int)-1=(np:Int):=by omega);(have hl5:(Lib.byteCells (s.data.toList.take (506*(k+1)))).length=506*(k+1):=by have:=HLeast.out k hk1;simp[Lib.byteCells];omega);(have hl6:506*(k+1)≤131072:=by have:=HLeast.out k hk1;omega);(have g2:decide ((131072:Int)<((506*(k+1):Nat):Int))=false:=by simp;omega);(have htl:(ps.take (k+1)).length=k+1:=by rw[List.length_take];have:=HKl.out;omega);have HL5:=Hd hl5;have HTL:=Hd htl;have HNin:=Hd hnin;have HNpe:=Hd hnpe;(have hnpi:(np:Int)≤65536:=by omega);clear hl5 htl hnin hnpe;generalize hbs:Lib.byteCells (s.data.toList.take (506*(k+1)))=bs1 at*;have HBS:=Hd hbs;clear hbs;generalize hLe:506*(k+1)=L at*;have HLe:=Hd hLe;clear hLe;go_wp2_with(first|(go_at_call 180;refine(HRd.out).mono ?_;rintro e w1⟨rfl,hb1⟩;have HB1:=Hd (qT HBL.out hb1);have HRow1:=Hd ((Keep.ofBelow (S:=fun _=>False) hb1).ownsRow HRow.out (fun _ _ e=>e));have HIB1:=Hd (yx HIB.out hb1);clear hb1)|(at_builtin;refine wpList_append_own_at _ (by rfl) _ _ 68 (by rfl) w.heap.size 3 i0 (.int .i64 0) 1 8 underlying68 HI.out Hz0.out Hz1.out Hz2.out (by rfl) (by decide) (.slice a0 k c0) _ _ (by rfl) (HRow1.out.alloc _) ⟨w1.heap.size,0,none⟩ 1 1 [.int .i64 (pk:Nat)] (by rfl) (by rfl) (cell_one_new _ _ _) (ints_oneCell .i64 [(pk:Int)]) (by unfold maxLen;omega) (by omega) ?_ ?_;(·have:=HB1.out.size;simp;omega);intro v' w3 hown3 hg3 hnil hloc;rw[HNum.out]at hown3;obtain⟨gb,c3,rfl,hc31,hc32,hgB⟩:=zH hown3 (by omega);have hk3:Keep (fun j=>(Value.slice a0 k c0).ownBlock=some j) w1 w3:=((Keep.refl _ w1).alloc _).grown hg3 (fun k _ e=>e);have HB3:=Hd (HB1.out.trans (hk3.below HB1.out.size (fun i hi e=>by have:=(HRow1.out.lt i e).1;omega)));have HIB3:=Hd (zEL HIB1.out hk3 (fun j e=>xM HRow1.out j e));have HO3:=Hd hown3;clear hown3 hg3 hnil hloc hk3)|(go_at_call 56;refine(zn HIB3.out HB3.out.size ck HCl.out).mono ?_;rintro e w4⟨rfl,hib4,hb4,ho4⟩;rw[HStr.out]at hib4;have HB4:=Hd (HB3.out.trans hb4);have HO4:=Hd (zBv HO3.out (zCy HIB3.out) ho4);have HIB4:=Hd hib4;clear hib4 hb4 ho4)|(go_at_call 181;refine(zGf HO4.out HTL.out (by omega) np).mono ?_;rintro e w5⟨rfl,rfl⟩;rw[decide_eq_false HNin.out])|(go_at_call 182;refine(Tryz.Builder_Len _ _ _ _ HIB4.out).mono ?_;rintro e w6⟨rfl,hw6⟩;subst hw6;rw[HL5.out]));refine⟨⟨k+1,by omega,by rw[HNpe.out],HB4.out,HO4.out,by rw[HLe.out,HBS.out];exact HIB4.out⟩,?_⟩;show n-(k+1)<n-k;omega);·have g1:(((0:Nat):Int)==0)=true:=rfl;have hall:s.data.toList.take (506*(k+1))=s.data.toList:=Qk (by simp;omega);have htl:ps.take (k+1)=ps:=Qk (by rw[HNN.out];exact Qn _);rw[hall]at HStr;have HTL:=Hd htl;clear hall htl;go_wp2_with(first|(go_at_call 180;refine(HRd.out).mono ?_;rintro e w1⟨rfl,hb1⟩;have HB1:=Hd (qT HBL.out hb1);have HRow1:=Hd ((Keep.ofBelow (S:=fun _=>False) hb1).ownsRow HRow.out (fun _ _ e=>e));have HIB1:=Hd (yx HIB.out hb1);clear hb1)|(at_builtin;refine wpList_append_own_at _ (by rfl) _ _ 68 (by rfl) w.heap.size 3 i0 (.int .i64 0) 1 8 underlying68 HI.out Hz0.out Hz1.out Hz2.out (by rfl) (by decide) (.slice a0 k c0) _ _ (by rfl) (HRow1.out.alloc _) ⟨w1.heap.size,0,none⟩ 1 1 [.int .i64 (pk:Nat)] (by rfl) (by rfl) (cell_one_new _ _ _) (ints_oneCell .i64 [(pk:Int)]) (by unfold maxLen;omega) (by omega) ?_ ?_;(·have:=HB1.out.size;simp;omega);intro v' w3 hown3 hg3 hnil hloc;rw[HNum.out]at hown3;obtain⟨gb,c3,rfl,hc31,hc32,hgB⟩:=zH hown3 (by omega);have hk3:Keep (fun j=>(Value.slice a0 k c0).ownBlock=some j) w1 w3:=((Keep.refl _ w1).alloc _).grown hg3 (fun k _ e=>e);have HB3:=Hd (HB1.out.trans (hk3.below HB1.out.size (fun i hi e=>by have:=(HRow1.out.lt i e).1;omega)));have HIB3:=Hd (zEL HIB1.out hk3 (fun j e=>xM HRow1.out j e));have HO3:=Hd hown3;clear hown3 hg3 hnil hloc hk3)|(go_at_call 56;refine(zn HIB3.out HB3.out.size ck HCl.out).mono ?_;rintro e w4⟨rfl,hib4,hb4,ho4⟩;rw[HStr.out]at hib4;have HB4:=Hd (HB3.out.trans hb4);have HO4:=Hd (zBv HO3.out (zCy HIB3.out) ho4);have HIB4:=Hd hib4;clear hib4 hb4 ho4)|(go_at_call 57;refine(Tryz.Builder_String_any_k _ _ _ _ (Lib.IsBuilderF.of HIB4.out) HB4.out.size).mono ?_;rintro e w5⟨rfl,_,hb5,ho5⟩;have HB5:=Hd (HB4.out.trans hb5);have HO5:=Hd (zBv HO4.out (zCy HIB4.out) ho5);clear hb5 ho5));go_ret3;refine⟨_,rfl,?_,HB5.out⟩;have:=HO5.out;rw[HTL.out]at this;rw[HNN.out];exact this
theorem zQe{w:World}{br:Nat}{R:RoomS}(h:RoomAt w br R){s:QB}{ps:List Nat}(hb:BlobIn R s ps)(hs:s.size≤131072):Calls prog 50 #[.pointer (some ⟨br,0,none⟩),.int .i64 (ps.getD 0 0:Nat)] w fun e w'=>e= .returned (.tuple #[.string s,.int .i64 0])∧Below w.heap.size w w':=by
 have H:=Hd (zOn h hb hs)
 generalize ps.getD 0 0=p0 at*
 go_enter func50,ntmps50
 go_wp2_with(go_at_call 116;refine(H.out).mono ?_;rintro e w1⟨v,rfl,ho,hb1⟩)
 go_ret2
 exact⟨rfl,hb1⟩
theorem kN(br pl:Nat)(w:World):Calls prog 83 #[.pointer (some ⟨br,0,none⟩),.int .i64 pl] w fun e w'=>e= .returned (.pointer (some ⟨w.heap.size,0,none⟩))∧w'=w.alloc (.cells #[.pointer (some ⟨br,0,none⟩),.int .i64 pl] 242):=by
 go_enter func83,ntmps83
 go_wp2
 go_ret
 exact⟨rfl,rfl⟩
theorem zK9{w:World}{tb br pl:Nat}{R:RoomS}{key:QB}(ht:TreeAt w tb br pl)(hr:RoomAt w br R)(hpl:pl<16)(hk:R.root pl=0):Calls prog 87 #[.pointer (some ⟨tb,0,none⟩),.string key] w fun e w'=>e= .returned (.tuple #[.string ⟨#[]⟩,.bool false,.int .i64 0])∧Below w.heap.size w w':=by
 have hb0:Below w.heap.size w (w.alloc (.cells #[.int .i64 0] 29)):=qA
 have HR:=Hd (zAN (w:=w.alloc (.cells #[.int .i64 0] 29)) ⟨qB hb0 ht.cells⟩ (hr.still hb0) hpl (by omega))
 rw[hk]at HR
 have he1:(((0:Nat):Int)-1)= -1:=by omega
 rw[he1]at HR
 have HB0:=Hd hb0
 have hz:(w.alloc (.cells #[.int .i64 0] 29)).heap.size=w.heap.size+1:=by simp
 have q0:=qH w (.cells #[.int .i64 0] 29)
 have HQ0:=Hd q0
 clear ht hr hb0 he1 hk
 go_enter_defers func87,ntmps87
 go_wp2_with(fail)
 refine(HR.out).mono ?_
 rintro e w1⟨rfl,hb1⟩
 have HB1:=Hd (qT HB0.out hb1)
 have q1:w1.heap[w.heap.size]? =some (.cells #[.int .i64 0] 29 (0,0)):=(hb1.block _ (by rw[hz];omega)).trans HQ0.out
 have hz1:w.heap.size<w1.heap.size:=by have:=hb1.size;omega
 have HQ1:=Hd q1
 clear q0 q1 hb1
 obtain⟨we,hwe⟩:=qN w.heap.size
 rw[hwe]at HQ1 hz1
 have HWe:=Hd hwe
 clear hz
 go_wp2_with(fail)
 have f3:w1.frozen? ⟨we,0,none⟩=false:=zM HQ1.out
 have c3:w1.cell? ⟨we,0,none⟩=some (.int .i64 0):=Qc HQ1.out 0
 refine wp_loop_rounds 1 ?_
 rw[rounds_succ]
 go_wp2_with(fail)
 refine leaves_cons (f:=145) (args:= #[.pointer (some ⟨we,0,none⟩)]) (by simp) (by simp[go_sem]) ?_
 refine(xF _ _).mono ?_
 rintro e u' w''⟨rfl,rfl,rfl⟩
 have e9:(w1.setCell ⟨we,0,none⟩ (.int .i64 0)).cell? ⟨we,0,none⟩=some (.int .i64 0):=World.cell?_setCell_same _ _ _ c3
 simp[Leaves,settle,results,results87,go_sem,e9]
 exact HB1.out.setCell (by rw[HWe.out];exact Qn _) _
theorem zFl{h n:Nat}(h1:2^h≤n)(h2:n≤2000):h≤10:=by
 rcases Nat.lt_or_ge h 11 with e|e
 ·omega
 ·have:=Nat.pow_le_pow_right (n:=2) (by decide) e;omega
theorem zD2{w:World}{tb br pl:Nat}{R:RoomS}{kv:KV}{ps:List Nat}{key:QB}(ht:TreeAt w tb br pl)(hr:RoomAt w br R)(hpl:pl<16)(hT:TreeIs R pl kv ps)(h16:R.pages≤65536)(hkv:kv.length≤2000):Calls prog 87 #[.pointer (some ⟨tb,0,none⟩),.string key] w fun e w'=>e= .returned (.tuple #[.string ((look kv key).getD ⟨#[]⟩),.bool (look kv key).isSome,.int .i64 0])∧Below w.heap.size w w':=by
 rcases hT with⟨h1,rfl,rfl⟩|⟨h,p,h1,h2⟩
 ·exact zK9 ht hr hpl h1
 ·exact zOd ht hr hpl h1 h16 h2 (by have:=zFl h2.height hkv;omega)
theorem zGg{w:World}{tb br pl:Nat}{R:RoomS}{kv:KV}{ps L:List Nat}{key val:QB}(ht:TreeAt w tb br pl)(htb:¬R.foot br tb)(hr:RoomAt w br R)(hlen:R.T.puts.length+2000<1000000000000)(h16:R.pages≤65536)(hpl:pl<16)(hk:key.size≤96)(hv:val.size≤56)(hT:TreeIs R pl kv ps)(hnd:ps.Nodup)(hL:∀q,q<R.pages→R.has q=true→q∈L)(hkv:kv.length≤2000)(hn:L.length+12≤R.pages):Calls prog 92 #[.pointer (some ⟨tb,0,none⟩),.string key,.string val] w fun e w'=>e= .returned (.int .i64 0)∧∃R' ps' new,RoomStep br w R w' R'∧TreeIs R' pl (ins kv key val) ps'∧ps'.Perm (ps++new)∧TurnR R R' pl ps new 200:=by
 rcases hT with⟨h1,rfl,rfl⟩|⟨h,p,h1,h2⟩
 ·exact(zKy ht htb hr hlen h16 hpl hk hv h1 hL (by omega)).mono fun e w'⟨e1,R',p,hst,hrt,hsub,htu⟩=>⟨e1,R',[p],[p],hst,.inr ⟨0,p,hrt,hsub⟩,by simp,htu⟩
 ·have h5:=zFl h2.height hkv;exact(zKz ht htb hr hlen h16 hpl hk hv h1 h2 (by omega) hnd hL (by omega)).mono fun e w'⟨e1,R',h',p',ps',new,hst,hrt,hsub,hpm,_,htu⟩=>⟨e1,R',ps',new,hst,.inr ⟨h',p',hrt,hsub⟩,hpm,htu⟩
structure Sto where
 br:Nat
 ib:Nat
 lb:Nat
 R:RoomS
 kvI:KV
 kvL:KV
 psI:List Nat
 psL:List Nat
 bp:List Nat
 X:Rest
def Sto.foot(s:Sto)(k:Nat):Prop:=s.R.foot s.br k
structure StAt(w:World)(sb:Nat)(s:Sto)(D:Dict)(nz:Nat):Prop where
 cells:w.heap[sb]? =some (.cells #[.pointer (some ⟨s.br,0,none⟩),.pointer (some ⟨s.ib,0,none⟩),.pointer (some ⟨s.lb,0,none⟩)] 173 (0,0))
 ti:TreeAt w s.ib s.br 0
 tl:TreeAt w s.lb s.br 1
 room:RoomAt w s.br s.R
 nsb:¬s.foot sb
 nib:¬s.foot s.ib
 nlb:¬s.foot s.lb
 cont:Cont s.R D s.kvI s.kvL s.psI s.psL s.bp s.X
 sized:Sized s.R s.kvI s.kvL s.bp s.X nz
theorem StAt.keep{S:Nat→Prop}{w w':World}{sb:Nat}{s:Sto}{D:Dict}{nz:Nat}(h:StAt w sb s D nz)(hk:Keep S w w')(h0:¬S sb)(h1:¬S s.ib)(h2:¬S s.lb)(h3:∀k,s.foot k→¬S k):StAt w' sb s D nz:=⟨hk.at h.cells h0,⟨hk.at h.ti.cells h1⟩,⟨hk.at h.tl.cells h2⟩,h.room.keep hk h3,h.nsb,h.nib,h.nlb,h.cont,h.sized⟩
theorem StAt.still{w u:World}{sb:Nat}{s:Sto}{D:Dict}{nz:Nat}(h:StAt w sb s D nz)(hb:Below w.heap.size w u):StAt u sb s D nz:=h.keep (Keep.still hb) (fun e=>e) (fun e=>e) (fun e=>e) (fun _ _ e=>e)
structure VStep(w:World)(s:Sto)(w':World)(s':Sto):Prop where
 keep:Keep s.foot w w'
 foot:∀k,s'.foot k→s.foot k∨w.heap.size≤k
 ib:s'.ib=s.ib
 lb:s'.lb=s.lb
 br:s'.br=s.br
 pg:s'.R.pages=s.R.pages
theorem VStep.still{w u:World}{s:Sto}(hb:Below w.heap.size w u):VStep w s u s:=⟨Keep.ofBelow hb,fun _ e=>.inl e,rfl,rfl,rfl,rfl⟩
theorem VStep.trans{w w' w'':World}{s s' s'':Sto}(h:VStep w s w' s')(k:VStep w' s' w'' s''):VStep w s w'' s'':=⟨h.keep.trans k.keep (fun i hi e=>(h.foot i e).elim id (fun e2=>absurd hi (by omega))),fun i e=>(k.foot i e).elim (h.foot i) (fun e2=>.inr (Nat.le_trans h.keep.size e2)),k.ib.trans h.ib,k.lb.trans h.lb,k.br.trans h.br,k.pg.trans h.pg⟩
structure StStep(w:World)(s:Sto)(w':World)(s':Sto):Prop where
 keep:Keep s.foot w w'
 foot:∀k,s'.foot k→s.foot k∨w.heap.size≤k
 ib:s'.ib=s.ib
 lb:s'.lb=s.lb
 br:s'.br=s.br
 pg:s'.R.pages=s.R.pages
 X:s'.X=s.X
theorem StStep.v{w w':World}{s s':Sto}(h:StStep w s w' s'):VStep w s w' s':=⟨h.keep,h.foot,h.ib,h.lb,h.br,h.pg⟩
theorem StStep.refl(w:World)(s:Sto):StStep w s w s:=⟨Keep.refl _ _,fun _ e=>.inl e,rfl,rfl,rfl,rfl,rfl⟩
theorem StStep.still{w u:World}{s:Sto}(hb:Below w.heap.size w u):StStep w s u s:=⟨Keep.ofBelow hb,fun _ e=>.inl e,rfl,rfl,rfl,rfl,rfl⟩
theorem StStep.trans{w w' w'':World}{s s' s'':Sto}(h:StStep w s w' s')(k:StStep w' s' w'' s''):StStep w s w'' s'':=⟨h.keep.trans k.keep (fun i hi e=>(h.foot i e).elim id (fun e2=>absurd hi (by omega))),fun i e=>(k.foot i e).elim (h.foot i) (fun e2=>.inr (Nat.le_trans h.keep.size e2)),k.ib.trans h.ib,k.lb.trans h.lb,k.br.trans h.br,k.pg.trans h.pg,k.X.trans h.X⟩
theorem RoomStep.sto{w w':World}{s:Sto}{R':RoomS}(h:RoomStep s.br w s.R w' R')(kvI kvL:KV)(psI psL bp:List Nat):StStep w s w' ⟨s.br,s.ib,s.lb,R',kvI,kvL,psI,psL,bp,s.X⟩:=⟨h.keep9,fun _ e=>h.foot9 e,rfl,rfl,rfl,h.pages,rfl⟩
theorem RoomStep.vsto{w w':World}{s:Sto}{R':RoomS}(h:RoomStep s.br w s.R w' R')(kvI kvL:KV)(psI psL bp:List Nat)(X:Rest):VStep w s w' ⟨s.br,s.ib,s.lb,R',kvI,kvL,psI,psL,bp,X⟩:=⟨h.keep9,fun _ e=>h.foot9 e,rfl,rfl,rfl,h.pages⟩
theorem StAt.step{w w':World}{sb:Nat}{s:Sto}{D D':Dict}{nz nz':Nat}{R':RoomS}(h:StAt w sb s D nz)(hs:RoomStep s.br w s.R w' R'){kvI kvL:KV}{psI psL bp:List Nat}{X:Rest}(hc:Cont R' D' kvI kvL psI psL bp X)(hz:Sized R' kvI kvL bp X nz'):StAt w' sb ⟨s.br,s.ib,s.lb,R',kvI,kvL,psI,psL,bp,X⟩ D' nz':=by
 have hk:=hs.keep9
 have hf:∀k,k<w.heap.size→¬s.foot k→¬R'.foot s.br k:=fun k hk hn e=>(hs.foot9 e).elim hn (fun e2=>by omega)
 have l0:=(Gl h.cells)
 have l1:=(Gl h.ti.cells)
 have l2:=(Gl h.tl.cells)
 exact⟨hk.at h.cells h.nsb,⟨hk.at h.ti.cells h.nib⟩,⟨hk.at h.tl.cells h.nlb⟩,hs.at_,hf _ l0 h.nsb,hf _ l1 h.nib,hf _ l2 h.nlb,hc,hz⟩
theorem zTF{p:Prop}(h:p:=by rw[e];simp[hp',asAddr,run_loadVar_row w g t ty cs fr d hg hu hd hi,Result.andThen]):p:=h
theorem zOo{p:Prop}(h:p:=by simp only[results,h];simp[Sem.run_bind,Result.andThen]):p:=h
theorem xx{P:Program}{fn:Func}{p u v:Tmp}{ty:TypeId}(h:fn.results= #[.cell p ty,.tmp u,.tmp v])(tmps:Array Value)(w:World)(g:Nat)(t:TypeId)(cs:Array Value)(fr:Nat×Nat)(d:TypeDesc)(hp:tmps.getD p undef= .pointer (some ⟨g,0,none⟩))(hg:w.heap[g]? =some (.cells cs t fr))(hu:P.underlying ty=some d)(hd:(match d with| .struct _| .array _ _=>true|_=>false)=true)(hi:(P.info? ty).map (·.size)=some cs.size):(results fn tmps).run P w= .ok (.tuple #[.agg cs,tmps.getD u undef,tmps.getD v undef]) w:=by
 have hp':tmps[p]?.getD undef= .pointer (some ⟨g,0,none⟩):=by simpa using hp
 have e:(results fn tmps).run P w=((asAddr (tmps.getD p undef)).run P w).andThen fun a w₁=>((loadVar ty a).run P w₁).andThen fun x w₂=>.ok (.tuple #[x,tmps.getD u undef,tmps.getD v undef]) w₂:=by exact zOo
 exact zTF
theorem zBU(sb:Nat)(mark:Int)(q:Addr)(w:World)(he:w.cell? q=some (.int .i64 0))(u:FrameMode):CallsD prog 160 #[.pointer (some ⟨sb,0,none⟩),.int .i64 mark,.pointer (some q)] u w fun e u' w'=>u'=u∧(e= .returned (.tuple #[])∧w'=w):=by
 go_enter_d func160,ntmps160
 go_wp2
 go_end0
 exact⟨rfl,rfl⟩
section
variable {w : World} {sb : Nat} {s : Sto} {D : Dict} {nz : Nat}
theorem StAt.c0(h:StAt w sb s D nz):w.cell? ⟨sb,0,none⟩=some (.pointer (some ⟨s.br,0,none⟩)):=Qc h.cells 0
theorem StAt.c1(h:StAt w sb s D nz):w.cell? ⟨sb,1,none⟩=some (.pointer (some ⟨s.ib,0,none⟩)):=Qc h.cells 1
theorem StAt.c2(h:StAt w sb s D nz):w.cell? ⟨sb,2,none⟩=some (.pointer (some ⟨s.lb,0,none⟩)):=Qc h.cells 2
theorem zAn(h:StAt w sb s D nz):Calls prog 36 #[.pointer (some ⟨sb,0,none⟩)] w fun e w'=>e= .returned (.int .i64 s.R.T.puts.length)∧w=w':=by
 have c0:=h.c0
 have H:=Hd (xN h.room)
 clear h
 go_enter func36,ntmps36
 go_wp2_with(go_at_call 40;refine(H.out).mono ?_;rintro e w1⟨rfl,rfl⟩)
 go_ret
 exact⟨rfl,rfl⟩
def xU(p:QB)(k:Nat):QB:=p++⟨#[UInt8.ofNat k]⟩
theorem vH(p:QB)(k:Nat):(xU p k).size=p.size+1:=by
 unfold xU
 rw[ByteArray.size_append]
 rfl
theorem zWK{p:Prop}(h:p:=by intro i hi;have h1:(⟨#[UInt8.ofNat k]⟩:QB).size=1:=rfl;(obtain rfl:i=0:=by omega);rw[Qc (qH w _) (0+0)];show some (Value.int IntKind.u8 (k:Int))=some (Value.int IntKind.u8 (((UInt8.ofNat k).toNat:Nat):Int));simp;omega):p:=h
theorem zCb(p:QB)(hp:p.size≤1000)(k:Nat)(hk:k<256)(w:World):Calls prog 162 #[.string p,.int .i64 k] w fun e w'=>e= .returned (.string (xU p k))∧Below w.heap.size w w':=by
 have hby:Lib.Bytes (w.alloc (.cells #[.int .u8 k] 5)) w.heap.size 0 ⟨#[UInt8.ofNat k]⟩:=by exact zWK
 have l1:∀c,(convert 121 9 (.slice (some ⟨w.heap.size,0,none⟩) 1 c)).run prog (w.alloc (.cells #[.int .u8 k] 5))= .ok (.string ⟨#[UInt8.ofNat k]⟩) (w.alloc (.cells #[.int .u8 k] 5)):=fun c=>Lib.run_convert_whole (P:=prog) _ 121 5 9 underlying121 underlying5 underlying9 w.heap.size 0 ⟨#[UInt8.ofNat k]⟩ hby c
 have hcat:=run_string_add_sum (P:=prog) (w.alloc (.cells #[.int .u8 k] 5)) p ⟨#[UInt8.ofNat k]⟩ (by show p.size+1≤_;omega)
 have hk1:IntKind.u8.wrap (k:Int)=(k:Int):=by rw[IntKind.wrap_u8];omega
 have hk2:(k:Int)%256=(k:Int):=by omega
 have hk3:(k:Int)<256:=by omega
 unfold xU
 clear hby
 generalize(⟨#[UInt8.ofNat k]⟩:QB)=kb at*
 go_enter func162,ntmps162
 exact zS1
theorem Sized.kv(h:Sized s.R s.kvI s.kvL s.bp s.X nz)(hn:nz≤2000∧8*nz+200≤s.R.pages):s.kvI.length≤2000∧s.kvL.length≤2000∧s.R.pages≤65536:=by
 have:=h.i
 have:=h.l
 have:=h.pages
 omega
theorem zFm(h:StAt w sb s D nz)(hn:nz≤2000∧8*nz+200≤s.R.pages){id:QB}(hid:id.size≤96)(hD:D id=none):Calls prog 118 #[.pointer (some ⟨sb,0,none⟩),.string id] w fun e w'=>e= .returned (.tuple #[.agg #[.int .i64 0,.int .i64 0,.int .i64 0],.bool false,.int .i64 0])∧Below w.heap.size w w':=by
 obtain⟨k1,k2,k3⟩:=h.sized.kv hn
 have hlk:=h.cont.gone id hD
 have hb0:Below w.heap.size w (w.alloc (.cells #[.int .i64 0,.int .i64 0,.int .i64 0] 212)):=qA
 have h0:=h.still hb0
 have HG:=Hd (zD2 (key:=id) h0.ti h0.room (by decide) h0.cont.ti k3 k1)
 rw[hlk]at HG
 have c1:=h0.c1
 have e1:decide ((96:Int)<(id.size:Int))=false:=by simp;omega
 have HB0:=Hd hb0
 clear h h0 hlk hb0
 go_enter func118,ntmps118
 go_wp2_with(go_at_call 87;refine(HG.out).mono ?_;rintro e w1⟨rfl,hb1⟩;have hx:w1.heap[w.heap.size]? =some (.cells #[.int .i64 0,.int .i64 0,.int .i64 0] 212 (0,0)):=(hb1.block _ (by simp)).trans (qH w _);have d0:w1.cell? ⟨w.heap.size,0,none⟩=some (.int .i64 0):=Qc hx 0;have d1:w1.cell? ⟨w.heap.size,1,none⟩=some (.int .i64 0):=Qc hx 1;have d2:w1.cell? ⟨w.heap.size,2,none⟩=some (.int .i64 0):=Qc hx 2;(have y0:w1.frozen? ⟨w.heap.size,0,none⟩=false:=by simp[World.frozen?,hx]);(have y1:w1.frozen? ⟨w.heap.size,1,none⟩=false:=by simp[World.frozen?,hx]);(have y2:w1.frozen? ⟨w.heap.size,2,none⟩=false:=by simp[World.frozen?,hx]);have HX:=Hd hx;have HB1:=Hd (qT HB0.out hb1);clear hb1 hx)
 have hx1:=heap_setCell_same w1 w.heap.size 0 _ _ (.int .i64 0) HX.out
 have hx2:=heap_setCell_same _ w.heap.size 1 _ _ (.int .i64 0) hx1
 have hx3:=heap_setCell_same _ w.heap.size 2 _ _ (.int .i64 0) hx2
 refine bodyPost_ret (xx rfl _ _ w.heap.size _ _ _ _ rfl hx3 underlying212 rfl (by kernel_rfl)) rfl ?_
 exact⟨rfl,((HB1.out.setCell (p:=⟨w.heap.size,0,none⟩) (Qn _) _).setCell (p:=⟨w.heap.size,1,none⟩) (Qn _) _).setCell (p:=⟨w.heap.size,2,none⟩) (Qn _) _⟩
theorem zC8(h:StAt w sb s D nz)(hn:nz≤2000∧8*nz+200≤s.R.pages){id t:QB}(hid:id.size≤96)(hD:D id=some t):∃p,p∈s.bp∧BlobIn s.R t [p]∧1≤t.size∧t.size≤128∧Calls prog 118 #[.pointer (some ⟨sb,0,none⟩),.string id] w fun e w'=>e= .returned (.tuple #[.agg #[.int .i64 p,.int .i64 t.size,.int .i64 0],.bool true,.int .i64 0])∧Below w.heap.size w w':=by
 obtain⟨k1,k2,k3⟩:=h.sized.kv hn
 obtain⟨p,hp,hlk,hbl,ht1,ht2,-⟩:=h.cont.here id t hD
 refine⟨p,hp,hbl,ht1,ht2,?_⟩
 have hp16:p<65536:=by have:=(h.cont.bh p hp).1;omega
 have hb0:Below w.heap.size w (w.alloc (.cells #[.int .i64 0,.int .i64 0,.int .i64 0] 212)):=qA
 have h0:=h.still hb0
 have HG:=Hd (zD2 (key:=id) h0.ti h0.room (by decide) h0.cont.ti k3 k1)
 rw[hlk]at HG
 have c1:=h0.c1
 have e1:decide ((96:Int)<(id.size:Int))=false:=by simp;omega
 have HB0:=Hd hb0
 have HRd:=Hd (fun u=>zBS (zEX (p:=p) (n:=t.size) (c:=0) (by omega) (by omega) (by decide)) zFi u)
 have HV:=Hd (show packed zHt [(p,eS),(t.size,eS),(0,eS)]=ku p t.size 0 from rfl)
 rw[HV.out]at HRd
 clear h h0 hlk hb0 hbl hp
 obtain⟨tz,htz⟩:=qN t.size
 rw[htz]at HG HRd ht1 ht2⊢
 generalize ku p tz 0=cv at*
 clear HV htz
 go_enter func118,ntmps118
 go_wp2_with(first|(go_at_call 87;refine(HG.out).mono ?_;rintro e w1⟨rfl,hb1⟩;have hx:w1.heap[w.heap.size]? =some (.cells #[.int .i64 0,.int .i64 0,.int .i64 0] 212 (0,0)):=(hb1.block _ (by simp)).trans (qH w _);have HX:=Hd hx;have HB1:=Hd (qT HB0.out hb1);have HZ1:=Hd (show w.heap.size<w1.heap.size from(Gl hx));clear hb1 hx)|(go_at_call 89;refine(HRd.out _).mono ?_;rintro e w2⟨v,rfl,hrow,hb2⟩;obtain⟨g,c,rfl,hc1,hc2,hgB⟩:=zH hrow (by show 0<3;decide);have HRow:=Hd hrow;have HB2:=Hd (qT HB1.out hb2);have HX2:=Hd ((hb2.block _ HZ1.out).trans HX.out);clear hrow hb2))
 have hr0:w2.cell? ⟨g,0,none⟩=some (.int .u64 p):=zC HRow.out 0 _ rfl
 have hr1:w2.cell? ⟨g,2,none⟩=some (.int .u64 tz):=zC HRow.out 2 _ rfl
 have hr2:w2.cell? ⟨g,4,none⟩=some (.int .u64 0):=zC HRow.out 4 _ rfl
 have HGl:=Hd (show g<w2.heap.size from(HRow.out.lt g rfl).2)
 have HR0:=Hd hr0
 have HR1:=Hd hr1
 have HR2:=Hd hr2
 have p1:IntKind.i64.wrap (p:Int)=(p:Int):=zv (by omega) (by omega)
 have p2:IntKind.i64.wrap (tz:Int)=(tz:Int):=zv (by omega) (by omega)
 clear hr0 hr1 hr2
 obtain⟨wb,hwb⟩:=qN w.heap.size
 rw[hwb]at HX2
 have HWb:=Hd hwb
 obtain⟨S,HS⟩:=mkS (Keep (fun _=>False) (w2))
 have FR:=Hd (fun u(hu:S u)=>have hu:=(HS.out u).1 hu;have hr0:u.cell? ⟨g,0,none⟩=some (.int .u64 p):=(by rw[hu.cell (p:=⟨g,0,none⟩) HGl.out (fun e=>e)];exact HR0.out);have hr1:u.cell? ⟨g,2,none⟩=some (.int .u64 tz):=(by rw[hu.cell (p:=⟨g,2,none⟩) HGl.out (fun e=>e)];exact HR1.out);have hr2:u.cell? ⟨g,4,none⟩=some (.int .u64 0):=(by rw[hu.cell (p:=⟨g,4,none⟩) HGl.out (fun e=>e)];exact HR2.out);And.intro hr0 (And.intro hr1 hr2))
 refine rgo 16 [tR 0,tR 1,tR 2,tR 3,tR 4,tR 5,tR 6,tR 7,tR 8,tR 9,tR 10,tR 11,tR 12,tR 13,tR 14,tR 15] HS (Keep.refl _ _).drew ?_
 iterate 16 refine rd1 ?_
 refine zl ?_
 clear FR
 clear S HS
 have hx2:w2.drew.heap[wb]? =some (.cells #[.int .i64 0,.int .i64 0,.int .i64 0] 212 (0,0)):=HX2.out
 generalize hw3:w2.drew=w3 at*
 have HB3:=Hd (show Below w.heap.size w w3 by rw[←hw3];exact HB2.out.trans ⟨rfl,rfl,rfl,Qn _,fun _ _=>rfl⟩)
 clear hw3
 have d0:w3.cell? ⟨wb,0,none⟩=some (.int .i64 0):=Qc hx2 0
 have d1:w3.cell? ⟨wb,1,none⟩=some (.int .i64 0):=Qc hx2 1
 have d2:w3.cell? ⟨wb,2,none⟩=some (.int .i64 0):=Qc hx2 2
 have y0:w3.frozen? ⟨wb,0,none⟩=false:=by simp[World.frozen?,hx2]
 have y1:w3.frozen? ⟨wb,1,none⟩=false:=by simp[World.frozen?,hx2]
 have y2:w3.frozen? ⟨wb,2,none⟩=false:=by simp[World.frozen?,hx2]
 have HX3:=Hd hx2
 clear hx2
 go_wp2
 have hx4:=heap_setCell_same w3 wb 0 _ _ (.int .i64 p) HX3.out
 have hx5:=heap_setCell_same _ wb 1 _ _ (.int .i64 tz) hx4
 have hx6:=heap_setCell_same _ wb 2 _ _ (.int .i64 0) hx5
 refine bodyPost_ret (xx rfl _ _ wb _ _ _ _ rfl hx6 underlying212 rfl (by kernel_rfl)) rfl ?_
 refine⟨rfl,?_⟩
 rw[←HWb.out]
 exact((HB3.out.setCell (p:=⟨w.heap.size,0,none⟩) (Qn _) _).setCell (p:=⟨w.heap.size,1,none⟩) (Qn _) _).setCell (p:=⟨w.heap.size,2,none⟩) (Qn _) _
end
section
variable {w : World} {sb : Nat} {s : Sto} {D : Dict} {nz : Nat}
theorem zMs(h:StAt w sb s D nz)(hn:nz≤2000∧8*nz+200≤s.R.pages)(p:QB)(hp:p.size≤1000)(k:Nat)(hk:k<256):Calls prog 163 #[.pointer (some ⟨sb,0,none⟩),.string p,.int .i64 k] w fun e w'=>(∃b,e= .returned (.tuple #[.bool b,.int .i64 0]))∧Below w.heap.size w w':=by
 obtain⟨k1,k2,k3⟩:=h.sized.kv hn
 have HN:=Hd (fun u=>zCb p hp k hk u)
 have HSt:=Hd h
 have HSc:=Hd (fun u(hb:Below w.heap.size w u)(f t:QB)(l:Int)=>zFk (from_:=f) (to_:=t) (limit:=l) (h.still hb).ti (h.still hb).room k3 (by decide) (h.still hb).cont.ti (by omega))
 have hcat:=fun u=>run_string_add_sum (P:=prog) u p ⟨#[255,255]⟩ (by show p.size+2≤_;omega)
 have HSl:=Hd (show sb<w.heap.size from(Gl h.cells))
 clear h
 go_enter func163,ntmps163
 go_wp2
 obtain⟨S,HS⟩:=mkS (Keep (fun _=>False) (w))
 have FR:=Hd (fun u(hu:S u)=>have hu:=(HS.out u).1 hu;have c1:u.cell? ⟨sb,1,none⟩=some (.pointer (some ⟨s.ib,0,none⟩)):=(by rw[hu.cell (p:=⟨sb,1,none⟩) HSl.out (fun e=>e)];exact HSt.out.c1);c1)
 refine rgw 15 [tR 0,tR 1,tR 2,tR 3,tR 4,tR 5,tR 7,tR 8,tD 6,tD 9,tR 10,tR 11,tR 12,tR 13,tR 14] HS (Keep.refl _ _).drew ?_
 iterate 8 refine rd1 ?_
 refine doH ?_
 intro K hK
 go_simp
 go_at_call 162
 refine(HN.out w.drew).mono ?_
 rintro e w1⟨rfl,hb1⟩
 have hb1':Below w.heap.size w w1:=⟨hb1.os,hb1.tape,hb1.output,hb1.size,hb1.block⟩
 have HB1:=Hd hb1'
 refine hK _ _ ((HS.out _).2 (Keep.ofBelow hb1')) ?_
 clear hK K hb1 hb1'
 refine doH ?_
 intro K hK
 go_simp
 go_at_call 109
 refine(HSc.out w1 HB1.out _ _ _).mono ?_
 rintro e w2⟨v,l2,rfl,hrow,-,-,-,hb2⟩
 have hb2':Below w.heap.size w w2:=qT HB1.out hb2
 obtain⟨sa,sc,rfl⟩:=zA hrow
 have HB2:=Hd hb2'
 refine hK _ _ ((HS.out _).2 (Keep.ofBelow hb2')) ?_
 clear hK K hb2 hb2' hrow
 iterate 5 refine rd1 ?_
 refine zl ?_
 clear FR
 clear S HS
 go_wp2
 go_ret2
 exact⟨⟨_,rfl⟩,HB2.out⟩
end
theorem zOp:(prog.info? 260).map (fun i=>(i.zero,i.size,i.bytes))=some (some (.agg #[.string ⟨#[]⟩,.string ⟨#[]⟩,.int .i64 0]),3,40):=by
 kernel_rfl
theorem zMt{l:KV}{j:Nat}(hj:j<l.length):(prV l)[j*2]? =some (.string l[j].1)∧(prV l)[j*2+1]? =some (.string l[j].2):=by
 induction l generalizing j with|nil=>simp at hj|cons x t ih=>cases j with|zero=>exact⟨rfl,rfl⟩|succ j=>have:=ih (j:=j) (by simpa using hj);have e:prV (x::t)=Value.string x.1::Value.string x.2::prV t:=rfl;rw[e,show(j+1)*2=j*2+2 by omega,show j*2+2+1=(j*2+1)+2 by omega];exact this
section
variable {w : World} {sb : Nat} {s : Sto} {D : Dict} {nz : Nat}
theorem zLA(h:StAt w sb s D nz)(hn:nz≤2000∧8*nz+200≤s.R.pages)(limit:Int):Calls prog 96 #[.pointer (some ⟨sb,0,none⟩),.int .i64 limit] w fun e w'=>(∃a m c,m≤2000∧e= .returned (.tuple #[.slice a m c,.int .i64 0]))∧Below w.heap.size w w':=by
 obtain⟨k1,k2,k3⟩:=h.sized.kv hn
 have HSc:=Hd (zFk (from_:=⟨#[]⟩) (to_:=⟨#[]⟩) (limit:=limit) h.tl h.room k3 (by decide) h.cont.tl (by omega))
 have HLog:=Hd h.cont.log
 have c2:=h.c2
 have HRd:=Hd (fun(q:Nat)(id:QB)(hq:q<2)(hi:id.size≤60)u=>zBS (zFh (s:=q) (id:=id) (by omega) (by omega)) zHw u)
 have HKV:=Hd k2
 obtain⟨i0,hi0,hz0,hz1,hz2⟩:=info_parts zOp
 have HI:=Hd hi0
 have Hz0:=Hd hz0
 have Hz1:=Hd hz1
 have Hz2:=Hd hz2
 clear h k1 k2 k3 hi0 hz0 hz1 hz2
 go_enter func96,ntmps96
 go_wp2_with(go_at_call 109;refine(HSc.out).mono ?_;rintro e w1⟨v,l2,rfl,hrow,hown,hmem,hlen,hb1⟩;obtain⟨sa,sc,rfl⟩:=zA hrow;have HRow:=Hd hrow;have HB1:=Hd hb1;have HMem:=Hd hmem;have HLen:=Hd (show l2.length≤2000 by have:=HKV.out;omega);clear hrow hown hmem hlen hb1)
 obtain⟨n,hnn⟩:=qN l2.length
 rw[hnn]at HRow HLen⊢
 have HN:=Hd hnn
 have hn60:=HLen.out
 clear hnn
 go_loopw [8,10,11,12,29](fun o _ _ _ i wr=>∃k xs,k≤n∧i= .int .i64 k∧wr.ownsRow w1.heap.size 260 3 o k xs∧Below w1.heap.size w1 wr)(fun _ _ _ _ i _=>n-(intOf i).toNat)
 case atStart=>exact⟨0,[],by omega,rfl,qO,Below.refl _ _⟩
 case round=>obtain⟨k,xs,hk,rfl,hro,hbel⟩:=hrel;have HRo:=Hd hro;have HB:=Hd hbel;obtain⟨oa,oc,hov⟩:=zA hro;subst hov;clear hro;by_cases hlt:k<n;(·(have g1:decide ((k:Int)<(n:Int))=true:=by simp;omega);(have g1':decide (k<n)=true:=by simpa using hlt);have hrw:=HRow.out;obtain⟨gs,cs,hs,hc1,hc2,hgB⟩:=zH hrw (by omega);obtain⟨e1,e2,e3⟩:=Value.slice.inj hs;subst e1;(have hkl:k<l2.length:=by rw[HN.out];exact hlt);obtain⟨pa,pb⟩:=zMt hkl;have hcel:∀j u,(prV l2)[j]? =some u→w1.cell? ⟨gs,j,none⟩=some u:=fun j u hu=>zC hrw j u hu;have hgl:=(hrw.lt gs rfl).2;have q0:wr.cell? ⟨gs,k*2,none⟩=some (.string l2[k].1):=(hbel.cell (p:=⟨gs,k*2,none⟩) hgl).trans (hcel _ _ pa);have q1:wr.cell? ⟨gs,k*2+1,none⟩=some (.string l2[k].2):=(hbel.cell (p:=⟨gs,k*2+1,none⟩) hgl).trans (hcel _ _ pb);obtain⟨q,id,hq,hid,hval⟩:=HLog.out _ (HMem.out _ (List.getElem_mem hkl));have hrd:=HRd.out q id hq hid;have hv2:packed brK [(q,eS),(0,id)]=zAl q id:=rfl;rw[hv2,←hval]at hrd;obtain⟨key,hkey⟩:=qN (l2[k].1);obtain⟨val,hvl⟩:=qN (l2[k].2);rw[hkey]at q0;rw[hvl]at q1 hrd;have HR2:=Hd hrd;(have hk0:(k:Int)<(n:Int):=by omega);(have hnl:(n:Int)≤2000:=by omega);(have hq64:IntKind.u64.wrap (2*(q:Int))=2*(q:Int):=by rw[IntKind.wrap_u64];omega);have hq65:IntKind.i64.wrap (2*(q:Int))=2*(q:Int):=zv (by omega) (by omega);have hq66:IntKind.i64.wrap (2*(q:Int)-1)=2*(q:Int)-1:=zv (by omega) (by omega);(have hq2:(q:Int)<2:=by omega);clear hrd hv2 hval hkey hvl hbel hrw hcel pa pb hs e2 e3;go_wp2_with(go_at_call 89;refine(HR2.out _).mono ?_;rintro e w2⟨v2,rfl,hrow2,hb2⟩;obtain⟨g2,c2',rfl,_,_,hgB2⟩:=zH hrow2 (by show 0<2;decide);have HRow2:=Hd hrow2;have HX2:=Hd ((hb2.block wr.heap.size (by simp)).trans (qH wr _));have HB2:=Hd (show Below wr.heap.size wr w2 from(qA).trans (hb2.mono (by simp)));clear hrow2 hb2);have hr1:w2.cell? ⟨g2,3,none⟩=some (.string id):=zC HRow2.out 3 _ rfl;have hr0:w2.cell? ⟨g2,0,none⟩=some (.int .u64 q):=zC HRow2.out 0 _ rfl;have HR0:=Hd hr0;have HR1:=Hd hr1;have HGl:=Hd (show g2<w2.heap.size∧wr.heap.size≤g2 from⟨(HRow2.out.lt g2 rfl).2,by have:=(HRow2.out.lt g2 rfl).1;simp at this;omega⟩);obtain⟨xb,hxb⟩:=qN wr.heap.size;rw[hxb]at HX2 HGl⊢;have HXb:=Hd hxb;have HXl:=Hd (show xb<w2.heap.size from(Gl HX2.out));have HAp:=Hd (show∀z,(Value.slice oa k oc).ownBlock=some z→z<xb from fun z e=>by rw[←HXb.out];exact(HRo.out.lt z e).2);have HRoB:=Hd ((Keep.ofBelow (S:=fun _=>False) HB2.out).ownsRow HRo.out (fun _ _ e=>e));clear hr0 hr1 hxb;obtain⟨S,HS⟩:=mkS (Keep (fun z=>(Value.slice oa k oc).ownBlock=some z) (w2));have FR:=Hd (fun u(hu:S u)=>have hu:=(HS.out u).1 hu;have hr0:u.cell? ⟨g2,0,none⟩=some (.int .u64 q):=(by rw[hu.cell (p:=⟨g2,0,none⟩) HGl.out.1 (fun e=>by have:=HAp.out g2 e;have:=HGl.out.2;omega)];exact HR0.out);have hr1:u.cell? ⟨g2,3,none⟩=some (.string id):=(by rw[hu.cell (p:=⟨g2,3,none⟩) HGl.out.1 (fun e=>by have:=HAp.out g2 e;have:=HGl.out.2;omega)];exact HR1.out);have d0:u.cell? ⟨xb,0,none⟩=some (.string key):=(by rw[hu.cell (p:=⟨xb,0,none⟩) HXl.out (fun e=>by have:=HAp.out xb e;omega)];exact Qc HX2.out 0);And.intro hr0 (And.intro hr1 d0));refine rgo 17 [tR 0,tR 1,tR 2,tR 3,tR 4,tR 5,tR 6,tR 7,tR 8,tR 9,tR 10,tR 11,tR 12,tR 13,tR 14,tD 15,tD 16] HS (Keep.refl _ _).drew ?_;(iterate 15 refine rd1 ?_);refine doH ?_;intro K hK;go_simp;have ka:Keep (fun z=>(Value.slice oa k oc).ownBlock=some z) w2 (w2.alloc (.cells #[.string key,.string id,.int .i64 (2*(q:Int)-1)] 260)).drew:=((Keep.refl _ w2).alloc _).drew;refine hK _ _ ((HS.out _).2 ka) ?_;clear hK K;have hrb:((w2.alloc (.cells #[.string key,.string id,.int .i64 (2*(q:Int)-1)] 260)).drew).ownsRow w1.heap.size 260 3 (.slice oa k oc) k xs:=(HRoB.out.alloc _).drew;have HRb:=Hd hrb;have HKa:=Hd ka;clear hrb ka;refine doH ?_;intro K hK;refine yF _ _ 188 (by rfl) w1.heap.size 260 i0 _ 3 40 underlying188 HI.out Hz0.out Hz1.out Hz2.out (by rfl) (by decide) _ _ _ (by rfl) HRb.out ⟨w2.heap.size,0,none⟩ 1 1 [.string key,.string id,.int .i64 (2*(q:Int)-1)] (by rfl) (by rfl) (World.news_of_block (cs:= #[.string key,.string id,.int .i64 (2*(q:Int)-1)]) (t:=260) (fr:=(0,0)) (qH w2 _)) (by simp[Value.oneCell']) (by unfold maxLen;omega) (by omega) (by have h1:=HB.out.size;have h2:=HB2.out.size;show w1.heap.size≤(w2.alloc _).heap.size;simp;omega) ?_;intro v8 w8 hown8 hg8 hloc;obtain⟨p8,c8,hsl⟩:=zA hown8;subst hsl;have kg:=HKa.out.trans ((Keep.refl (fun z=>(Value.slice oa k oc).ownBlock=some z) _).grown hg8 (fun z _ e=>e)) (fun _ _ e=>e);have HOw:=Hd hown8;have HB8:=Hd (HB.out.trans ((HB2.out.mono HB.out.size).trans (kg.below (Nat.le_trans HB.out.size HB2.out.size) (fun z hz e=>by have:=(HRo.out.lt z e).1;omega))));refine hK _ _ ((HS.out _).2 kg) ?_;clear hK K hown8 hg8 hloc kg;refine zl ?_;clear FR;clear S HS;go_wp2;go_roundw;(case rel=>exact⟨k+1,_,by omega,by go_num,HOw.out,HB8.out⟩);case measure=>simp[intOf];omega);·(obtain rfl:k=n:=by omega);clear hbel;go_wp2;go_ret2;exact⟨⟨oa,k,oc,by omega,rfl⟩,qT HB1.out HB.out⟩
theorem zLB(h:StAt w sb s D nz)(hn:nz≤2000∧8*nz+200≤s.R.pages):Calls prog 35 #[.pointer (some ⟨sb,0,none⟩)] w fun e w'=>(∃m:Nat,e= .returned (.tuple #[.int .i64 m,.int .i64 0]))∧Below w.heap.size w w':=by
 have H:=Hd (zLA h hn 33554432)
 clear h
 go_enter func35,ntmps35
 go_wp2_with(go_at_call 96;refine(H.out).mono ?_;rintro e w1⟨⟨a,m,c,hm,rfl⟩,hb⟩)
 go_ret2
 exact⟨⟨m,rfl⟩,hb⟩
end
theorem zQf{f:Nat→Bool}{n q:Nat}(hq:q<n)(h0:f q=false):cnt f n<n:=by
 induction n with|zero=>omega|succ n ih=>rw[zA6];have hle:cnt f n≤n:=zMI f n;by_cases e:q=n;(·subst e;rw[h0];simp;omega);·have:=ih (by omega);(have h2:(f n).toNat≤1:=by cases f n<;>decide);split<;>omega
theorem zB3{w:World}{br:Nat}{R:RoomS}(h:RoomAt w br R)(hlen:R.T.puts.length<100000000000)(s:QB)(hs:s.size≤506){q:Nat}(hq:q<R.pages)(h0:R.has q=false):Calls prog 45 #[.pointer (some ⟨br,0,none⟩),.string s] w fun e w'=>∃R' p,e= .returned (.tuple #[.int .i64 (p:Nat),.int .i64 0])∧RoomStep br w R w' R'∧Took R R' [p]∧BlobIn R' s [p]∧∃a,R'.T.puts=R.T.puts++a∧a.length≤3:=by
 have HM:=Hd (xN h)
 have HP:=Hd (zHs h hlen s (by omega))
 have hp1:zc s.size=1:=by unfold zc;rw[if_pos hs]
 have HC:=Hd (zQf hq h0)
 have HP1:=Hd hp1
 have e1:decide ((131072:Int)<(s.size:Int))=false:=by simp;omega
 clear h h0 hp1
 go_enter func45,ntmps45
 go_wp2_with(go_at_call 40;refine(HM.out).mono ?_;rintro e w1⟨rfl,rfl⟩)
 refine(HP.out).mono ?_
 rintro e w1(⟨R1,ps,rfl,hst,htook,hb,a,ha,hal⟩|⟨R1,rfl,hst,hc,a,ha,hal⟩)
 ·(obtain⟨p,rfl⟩:∃p,ps=[p]:=by have:=hb.len;rw[HP1.out]at this;match ps,this with|[p],_=>exact⟨p,rfl⟩);have HST:=Hd hst;have HTo:=Hd htook;have HBl:=Hd hb;have HA:=Hd ha;rw[HP1.out]at hal;have HAl:=Hd hal;have hpk:([p]:List Nat).getD 0 0=p:=rfl;rw[hpk];clear hst htook hb ha hal hpk;go_wp2;go_ret2;exact⟨R1,p,rfl,HST.out,HTo.out,HBl.out,a,HA.out,HAl.out⟩
 ·exfalso;rw[HP1.out]at hc;have:=HC.out;omega
theorem zOq(a:QB)(ks:List QB)(h:ks.Nodup):ks.length≤(ks.filter (fun k=>decide (k≠a))).length+1:=by
 induction ks with|nil=>simp|cons x t ih=>obtain⟨h1,h2⟩:=List.nodup_cons.1 h;by_cases e:x=a;(·subst e;have:t.filter (fun k=>decide (k≠x))=t:=List.filter_eq_self.2 (fun k hk=>decide_eq_true (fun e=>h1 (e▸hk)));rw[List.filter_cons_of_neg (by simp),this,List.length_cons];omega);·rw[List.filter_cons_of_pos (by simpa using e),List.length_cons,List.length_cons];have:=ih h2;omega
theorem zLC(l:KV):∀(ks:List QB),ks.Nodup→(∀k∈ks,look l k≠none)→ks.length≤l.length:=by
 induction l with|nil=>intro ks _ h;(cases ks with|nil=>exact Qn _|cons k t=>exact absurd rfl (h k (by simp)))|cons x t ih=>obtain⟨a,b⟩:=x;intro ks hnd h;have h1:=ih (ks.filter (fun k=>decide (k≠a))) (hnd.sublist List.filter_sublist) (fun k hk=>by obtain⟨hk1,hk2⟩:=List.mem_filter.1 hk;have:=h k hk1;simp only[look]at this;rwa [if_neg (fun e=>(of_decide_eq_true hk2) e.symm)]at this);have h2:=zOq a ks hnd;rw[List.length_cons];omega
theorem zLD{p:QB}{j k:Nat}(hj:j<256)(hk:k<256)(h:xU p j=xU p k):j=k:=by
 have h1:=congrArg (fun b:QB=>b.data.toList) h
 simp only[xU,ByteArray.data_append,Array.toList_append]at h1
 have h2:=List.append_cancel_left h1
 have h3:UInt8.ofNat j=UInt8.ofNat k:=by simpa using h2
 have h4:=congrArg UInt8.toNat h3
 simp at h4
 omega
theorem zJW{R:RoomS}{D:Dict}{kvI kvL:KV}{psI psL bp:List Nat}{X:Rest}(h:Cont R D kvI kvL psI psL bp X)(hk:kvI.length<256)(p:QB)(hall:∀j,j<256→D (xU p j)≠none):False:=by
 have h1:=zLC kvI ((List.range 256).map (xU p)) (by unfold List.Nodup;rw[List.pairwise_map];exact List.pairwise_lt_range.imp_of_mem (fun ha hb hlt e=>by have:=zLD (List.mem_range.1 ha) (List.mem_range.1 hb) e;omega)) (fun k hk=>by obtain⟨j,hj,rfl⟩:=List.mem_map.1 hk;have hd:=hall j (List.mem_range.1 hj);cases hc:D (xU p j)with|none=>exact absurd hc hd|some t=>obtain⟨q,_,h2,_⟩:=h.here _ t hc;rw[h2];exact fun e=>by cases e)
 rw[List.length_map,List.length_range]at h1
 omega
section
variable {w : World} {sb : Nat} {s : Sto} {D : Dict} {nz : Nat}
theorem zHy(h:StAt w sb s D nz)(hn:nz≤2000∧8*nz+200≤s.R.pages)(hki:s.kvI.length+1≤nz)(hpu:s.R.T.puts.length+200≤1000*nz){id t:QB}{p:Nat}(hid:id.size≤96)(hp:p∈s.bp)(hb:BlobIn s.R t [p])(h1:1≤t.size)(h2:t.size≤128)(hpx:p∉s.X.pages):Calls prog 164 #[.pointer (some ⟨sb,0,none⟩),.string id,.agg #[.int .i64 p,.int .i64 t.size,.int .i64 0]] w fun e w'=>e= .returned (.int .i64 0)∧∃s',StAt w' sb s' (D.upd id t) nz∧StStep w s w' s'∧s'.kvI.length≤s.kvI.length+1:=by
 have hp16:p<65536:=by have:=(h.cont.bh p hp).1;have:=h.sized.pages;omega
 obtain⟨k1,k2,k3⟩:=h.sized.kv (by omega)
 have hlen:=h.cont.len
 have hz:=h.sized
 have HW:=Hd (fun(u:World)fb c hfs=>vG (zEX (p:=p) (n:=t.size) (c:=0) (by omega) (by omega) (by decide)) zFi (w:=u) (fb:=fb) (c:=c) hfs)
 have hcv:packed zHt [(p,eS),(t.size,eS),(0,eS)]=ku p t.size 0:=rfl
 rw[hcv]at HW
 have HSt:=Hd h
 have HPut:=Hd (fun u(hb:Below w.heap.size w u)=>zGg (key:=id) (val:=ku p t.size 0) (h.still hb).ti (h.still hb).nib (h.still hb).room (by have:=hz.puts;omega) k3 (by decide) hid (by rw[zHu];decide) (h.still hb).cont.ti (List.nodup_append.1 h.cont.nd).1 h.cont.all k1 (by have:=hz.i;have:=hz.l;have:=hz.b;have:=hz.pages;omega))
 have HX:=Hd (fun(R':RoomS)(ps' new:List Nat)(ht:TurnR s.R R' 0 s.psI new 200)(hT:TreeIs R' 0 (ins s.kvI id (ku p t.size 0)) ps')(hpm:ps'.Perm (s.psI++new))=>h.cont.index (m:=200) hp hb h1 h2 hpx ht hT hpm)
 have HKi:=Hd hki
 have HPu:=Hd hpu
 clear h hb hz hcv hlen hki hpu hp
 obtain⟨tz,htz⟩:=qN t.size
 rw[htz]at HW HPut HX h1 h2⊢
 obtain⟨cv,hcv⟩:=qN (ku p tz 0)
 rw[hcv]at HW HPut HX
 have p1:IntKind.u64.wrap (p:Int)=(p:Int):=by rw[IntKind.wrap_u64];omega
 have p2:IntKind.u64.wrap (tz:Int)=(tz:Int):=by rw[IntKind.wrap_u64];omega
 clear hcv htz
 go_enter func164,ntmps164
 go_wp2_with(fail)
 have hw2:Below w.heap.size w ((w.alloc (.cells #[.int .i64 p,.int .i64 tz,.int .i64 0] 212)).alloc (.cells #[.int .u64 p,.string ⟨#[]⟩,.int .u64 tz,.string ⟨#[]⟩,.int .u64 0,.string ⟨#[]⟩] 182)):=(qA).alloc (by simp) _
 have hh:=qH (w.alloc (.cells #[.int .i64 p,.int .i64 tz,.int .i64 0] 212)) (.cells #[.int .u64 p,.string ⟨#[]⟩,.int .u64 tz,.string ⟨#[]⟩,.int .u64 0,.string ⟨#[]⟩] 182)
 rw[World.size_alloc]at hh
 obtain⟨w2,hw⟩:=qN ((w.alloc (.cells #[.int .i64 p,.int .i64 tz,.int .i64 0] 212)).alloc (.cells #[.int .u64 p,.string ⟨#[]⟩,.int .u64 tz,.string ⟨#[]⟩,.int .u64 0,.string ⟨#[]⟩] 182))
 rw[hw]at hw2 hh⊢
 have hfs:FldsAt w2 (w.heap.size+1) [(p,eS),(tz,eS),(0,eS)]:=by refine⟨(Gl hh),fun j hj=> ?_⟩;match j,hj with|0,_=>exact⟨Qc hh 0,Qc hh 1⟩|1,_=>exact⟨Qc hh 2,Qc hh 3⟩|2,_=>exact⟨Qc hh 4,Qc hh 5⟩
 have HWr:=Hd (HW.out w2 _ 3 hfs)
 have HB2:=Hd hw2
 clear hw hw2 hh hfs
 refine(HWr.out).mono ?_
 rintro e w3⟨rfl,hb3⟩
 have hb3':=qT HB2.out hb3
 have HB3:=Hd hb3'
 have c1:=(HSt.out.still hb3').c1
 clear hb3 hb3'
 go_wp2_with(go_at_call 92;refine(HPut.out w3 HB3.out).mono ?_;rintro e w4⟨rfl,R',ps',new,hst,hT,hpm,htu⟩)
 have hc:=HX.out R' ps' new htu hT hpm
 have hp9:=htu.pages
 have hrt:=htu.root 2 (by decide)
 obtain⟨a,a1,a2⟩:=htu.puts
 have hz:=HSt.out.sized
 have hs3:=HSt.out.still HB3.out
 have hz':Sized R' (ins s.kvI id cv) s.kvL s.bp s.X nz:=⟨by have:=zAm s.kvI id cv;have:=HKi.out;omega,hz.l,hz.b,hz.m,by rw[hp9];exact hz.pages,by rw[a1,Ql];have:=HPu.out;omega,by rw[hrt];exact hz.root,hz.bx,hz.v⟩
 have hstep:=hs3.step hst hc hz'
 have hss:=(StStep.still (s:=s) HB3.out).trans (hst.sto (ins s.kvI id cv) s.kvL ps' s.psL s.bp)
 go_ret
 exact⟨rfl,_,hstep,hss,zAm _ _ _⟩
end
def zFn(p:Int):Prop:=∃s:Nat,0<s∧s<32∧bits .and .u64 (IntKind.u64.wrap p) 31=s
theorem zAR(x p:Int)(hp:zFn p):∃y,∀w:World,Calls prog 293 #[.int .u32 x,.int .i64 p] w fun e w'=>e= .returned (.int .u32 y)∧w=w':=by
 obtain⟨s,h0,h1,hs⟩:=hp
 have e1:IntKind.u64.wrap (32-(s:Int))=((32-s:Nat):Int):=by rw[IntKind.wrap_u64];omega
 have e2:(32-(s:Int))=((32-s:Nat):Int):=by omega
 refine⟨bits BinOp.or IntKind.u32 (x*2^s %4294967296) (x/2^(32-s)),fun w=> ?_⟩
 go_enter func293,ntmps293
 go_wp2
 go_ret
 exact⟨rfl,rfl⟩
theorem zCc(x p q r:Int)(hp:zFn (-p))(hq:zFn (-q))(hr:zFn (-r))(w1:IntKind.i64.wrap (-p)= -p)(w2:IntKind.i64.wrap (-q)= -q)(w3:IntKind.i64.wrap (-r)= -r):∃y,∀w:World,Calls prog 279 #[.int .u32 x,.int .i64 p,.int .i64 q,.int .i64 r] w fun e w'=>e= .returned (.int .u32 y)∧w=w':=by
 obtain⟨y1,h1⟩:=zAR x (-p) hp
 obtain⟨y2,h2⟩:=zAR x (-q) hq
 obtain⟨y3,h3⟩:=zAR x (-r) hr
 refine⟨bits .xor .u32 (bits .xor .u32 y1 y2) y3,fun w=> ?_⟩
 go_enter func279,ntmps279
 go_wp2_with(first|(go_at_call 293;with_reducible refine(h1 _).mono ?_;rintro e w1⟨rfl,rfl⟩)|(go_at_call 293;with_reducible refine(h2 _).mono ?_;rintro e w1⟨rfl,rfl⟩)|(go_at_call 293;with_reducible refine(h3 _).mono ?_;rintro e w1⟨rfl,rfl⟩))
 go_ret
 exact⟨rfl,rfl⟩
theorem zA1{P:Program}(t e:TypeId)(n:Nat)(cs:Array Value)(k:IntKind)(i:Nat)(hi:i<n)(v:Value)(hv:cs[i]? =some v)(w:World)(h:P.underlying t=some (.array n e))(hz:(sizeOf e).run P w= .ok 1 w)(ha:(isAgg e).run P w= .ok false w):(Instr.index t (.agg cs) (.int k i)).run P w= .ok v w:=by
 have hn:(0:Int)≤(i:Int)∧(i:Int)<(n:Int):=by omega
 simp[Instr.index,run_underlying h,asIntOf,hn,go_sem,hi,hz,ha,hv]
def cubeL:Array Value:= #[.int .u64 4794697085070296209,.int .u64 13096744586791213989,.int .u64 4131703405765792241,.int .u64 10538285296827260629,.int .u64 15566598207151758081,.int .u64 2608012711741390275,.int .u64 8268148720858477054,.int .u64 11230858888332702068,.int .u64 16472876343709550470,.int .u64 1135362055407968716,.int .u64 3308224257782482090,.int .u64 6679025011744409818,.int .u64 10970295157772109421,.int .u64 12683024718762704839,.int .u64 14330467156182405447,.int .u64 489312709404862823,.int .u64 2861767655337697592,.int .u64 5560940570391088403,.int .u64 7280758554198936251,.int .u64 9350256978237205637,.int .u64 11727347735703742027,.int .u64 14000437183109681571,.int .u64 15101387698198873636,.int .u64 17586052440550711408,.int .u64 1847814047869135880,.int .u64 2830643534987574453,.int .u64 4115178123771292234,.int .u64 6601373596217405427,.int .u64 8399075790807196527,.int .u64 9568029438005150216,.int .u64 10430055239000288491,.int .u64 13761210420988836082]
theorem zMu(i:Nat)(hi:i<32):∃y:Nat,cubeL[i]? =some (.int .u64 y)∧y<18446744073709551616:=by
 have h:cubeL.toList.all (fun v=>match v with| .int .u64 y=>decide (0≤y∧y<18446744073709551616)|_=>false)=true:=by decide+kernel
 have hz:cubeL.size=32:=by decide+kernel
 have h1:=List.all_eq_true.1 h cubeL[i] (Array.mem_toList_iff.2 (Array.getElem_mem (by omega)))
 rw[Array.getElem?_eq_getElem (by omega)]
 revert h1
 generalize cubeL[i]=v
 intro h1
 split at h1
 ·rename_i y;have h2:=of_decide_eq_true h1;exact⟨y.toNat,by rw[Int.toNat_of_nonneg h2.1],by omega⟩
 ·cases h1
theorem zLE(i:Nat)(hi:i<32):∃y:Nat,y<18446744073709551616∧∀w:World,Calls prog 294 #[.int .i64 i] w fun e w'=>e= .returned (.int .u64 y)∧w=w':=by
 obtain⟨y,hy,hlt⟩:=zMu i hi
 refine⟨y,hlt,fun w=> ?_⟩
 have l1:=zA1 (P:=prog) 372 31 32 cubeL .i64 i hi _ hy w underlying372 (by rfl) (by rfl)
 unfold cubeL at l1
 go_enter func294,ntmps294
 go_wp2
 go_ret
 exact⟨rfl,rfl⟩
theorem zTG{p:Prop}(h:p:=by go_enter func280,ntmps280;go_wp2_with(go_at_call 294;refine(hc _).mono ?_;rintro e w1⟨rfl,rfl⟩);go_ret;exact⟨rfl,rfl⟩):p:=h
theorem zOr(i:Nat)(hi:i<64):∃y,∀w:World,Calls prog 280 #[.int .i64 i] w fun e w'=>e= .returned (.int .u32 y)∧w=w':=by
 obtain⟨c,hc0,hc⟩:=zLE (i/2) (by omega)
 have h2:((i/2:Nat):Int)=(i:Int)/2:=by omega
 rw[h2]at hc
 rcases Nat.mod_two_eq_zero_or_one i with e|e
 ·(have e1:(((i:Int)%2)==0)=true:=by simp;omega);(have e2:(i:Int)%2=0:=by omega);clear h2;refine⟨(c:Int)/4294967296,fun w=> ?_⟩;exact zTG
 ·(have e1:(((i:Int)%2)==0)=false:=by simp;omega);(have e2:(i:Int)%2=1:=by omega);clear h2;refine⟨(c:Int)%4294967296,fun w=> ?_⟩;exact zTG
theorem zCd(x:Int)(p q rr:Int)(r:Nat)(hrr:rr=r)(hp:zFn (-p))(hq:zFn (-q))(hr:r<32)(w1:IntKind.i64.wrap (-p)= -p)(w2:IntKind.i64.wrap (-q)= -q):∃y,∀w:World,Calls prog 292 #[.int .u32 x,.int .i64 p,.int .i64 q,.int .i64 rr] w fun e w'=>e= .returned (.int .u32 y)∧Below w.heap.size w w':=by
 subst hrr
 obtain⟨y1,h1⟩:=zAR x (-p) hp
 obtain⟨y2,h2⟩:=zAR x (-q) hq
 refine⟨bits .xor .u32 (bits .xor .u32 y1 y2) (x/2^r),fun w=> ?_⟩
 go_enter func292,ntmps292
 go_wp2
 obtain⟨C,hC⟩:∃C:World→Prop,∀u,C u↔Below (w).heap.size (w) u:=⟨fun u=>Below (w).heap.size (w) u,fun _=>Iff.rfl⟩
 have F:∀u,C u→True:=fun u hu=>by have hu:=(hC u).1 hu;exact trivial
 have step:∀u u',C u→Below u.heap.size u u'→C u':=fun u u' hu hb=>(hC u').2 (((hC u).1 hu).trans (hb.mono ((hC u).1 hu).size))
 have HC:=Hd hC
 have FF:=Hd F
 clear hC F
 refine yY 13 C (by kernel_rfl) (by kernel_rfl) ((HC.out _).2 (Below.refl _ _).drew) ?_
 simp only[List.take_succ_cons,List.take_zero,List.drop_succ_cons,List.drop_zero]
 repeat first|((first|refine xC rfl (fun K hK=> ?_)|refine yp (by rfl) (fun K hK=> ?_));apply Exists.intro;refine⟨fun u hu=> ?_,?_⟩;(·have HU:=Hd hu;skip;clear hu;go_simp;first|exact⟨HU.out,rfl⟩|(go_at_call 293;with_reducible refine(h1 _).mono ?_;rintro e w'⟨rfl,rfl⟩;exact⟨rfl,HU.out⟩)|(go_at_call 293;with_reducible refine(h2 _).mono ?_;rintro e w'⟨rfl,rfl⟩;exact⟨rfl,HU.out⟩));go_simp;refine hK _ ?_;clear hK K)|(refine yq (by rfl) (fun K hK=> ?_);go_simp;refine hK _ ?_;clear hK K)
 refine vq ?_
 intro w3 hw3
 go_wp2
 go_ret
 exact⟨rfl,(HC.out _).1 hw3⟩
structure PrAt(w:World)(pb n:Nat):Prop where
 ex:∃cs:Array Value,w.heap[pb]? =some (.cells cs 311 (0,0))∧cs.size=25∧(∀i,i<24→∃x:Int,cs[i]? =some (.int .u32 x))∧cs[24]? =some (.int .i64 n)
theorem PrAt.cell{w:World}{pb n:Nat}(h:PrAt w pb n)(i:Nat)(hi:i<24):∃x:Int,w.cell? ⟨pb,i,none⟩=some (.int .u32 x):=by
 obtain⟨cs,h1,h2,h3,h4⟩:=h.ex
 obtain⟨x,hx⟩:=h3 i hi
 exact⟨x,(Qc h1 i).trans hx⟩
theorem PrAt.cellN{w:World}{pb n:Nat}(h:PrAt w pb n):w.cell? ⟨pb,24,none⟩=some (.int .i64 n):=by
 obtain⟨cs,h1,h2,h3,h4⟩:=h.ex
 exact(Qc h1 24).trans h4
theorem PrAt.froz{w:World}{pb n:Nat}(h:PrAt w pb n)(i:Nat):w.frozen? ⟨pb,i,none⟩=false:=by
 obtain⟨cs,h1,h2,h3,h4⟩:=h.ex
 simp[World.frozen?,h1]
theorem PrAt.lt{w:World}{pb n:Nat}(h:PrAt w pb n):pb<w.heap.size:=by
 obtain⟨cs,h1,h2,h3,h4⟩:=h.ex
 exact(Gl h1)
theorem PrAt.set{w:World}{pb n:Nat}(h:PrAt w pb n)(i:Nat)(hi:i<24)(x:Int):PrAt (w.setCell ⟨pb,i,none⟩ (.int .u32 x)) pb n:=by
 obtain⟨cs,h1,h2,h3,h4⟩:=h.ex
 refine⟨_,heap_setCell_same w pb i cs _ _ h1,by simpa using h2,fun j hj=> ?_,?_⟩
 ·rw[Array.getElem?_setIfInBounds];split;(·rename_i e;rw[if_pos (by omega)];exact⟨x,rfl⟩);·exact h3 j hj
 ·rw[Array.getElem?_setIfInBounds,if_neg (by omega)];exact h4
theorem PrAt.setN{w:World}{pb n:Nat}(h:PrAt w pb n)(m:Nat):PrAt (w.setCell ⟨pb,24,none⟩ (.int .i64 m)) pb m:=by
 obtain⟨cs,h1,h2,h3,h4⟩:=h.ex
 refine⟨_,heap_setCell_same w pb 24 cs _ _ h1,by simpa using h2,fun j hj=> ?_,?_⟩
 ·rw[Array.getElem?_setIfInBounds,if_neg (by omega)];exact h3 j hj
 ·rw[Array.getElem?_setIfInBounds,if_pos rfl,if_pos (by omega)]
theorem PrAt.keep{S:Nat→Prop}{w w':World}{pb n:Nat}(h:PrAt w pb n)(hk:Keep S w w')(hn:¬S pb):PrAt w' pb n:=by
 obtain⟨cs,h1,h2⟩:=h.ex
 exact⟨cs,hk.at h1 hn,h2⟩
theorem PrAt.drewN{w:World}{pb n:Nat}(h:PrAt w pb n)(k:Nat):PrAt (w.drewN k) pb n:=⟨h.ex⟩
theorem zLF{w:World}{pb n:Nat}(h:PrAt w pb n)(t:Nat)(ht:t<64):Calls prog 278 #[.pointer (some ⟨pb,0,none⟩),.int .i64 t] w fun e w'=>(∃y,e= .returned (.int .u32 y))∧PrAt w' pb n∧Keep (fun k=>k=pb) w w':=by
 obtain⟨a,ha⟩:=qN (t %16)
 obtain⟨b,hb⟩:=qN ((t+1)%16)
 obtain⟨c,hc⟩:=qN ((t+9)%16)
 obtain⟨d,hd⟩:=qN ((t+14)%16)
 have a1:(t:Int)%16=(a:Int):=by omega
 have b1:((t:Int)+1)%16=(b:Int):=by omega
 have c1:((t:Int)+9)%16=(c:Int):=by omega
 have d1:((t:Int)+14)%16=(d:Int):=by omega
 obtain⟨xa,qa⟩:=h.cell (8+a) (by omega)
 obtain⟨xb,qb⟩:=h.cell (8+b) (by omega)
 obtain⟨xc,qc⟩:=h.cell (8+c) (by omega)
 obtain⟨xd,qd⟩:=h.cell (8+d) (by omega)
 have a2:(a:Int)<16:=by omega
 have b2:(b:Int)<16:=by omega
 have c2:(c:Int)<16:=by omega
 have d2:(d:Int)<16:=by omega
 have t2:(t:Int)<64:=by omega
 have f1:=h.froz (8+a)
 obtain⟨s1,h1⟩:=zCd xb 7 18 3 3 rfl ⟨25,by decide,by decide,by decide+kernel⟩ ⟨14,by decide,by decide,by decide+kernel⟩ (by decide) (by decide) (by decide)
 obtain⟨s2,h2⟩:=zCd xd 17 19 10 10 rfl ⟨15,by decide,by decide,by decide+kernel⟩ ⟨13,by decide,by decide,by decide+kernel⟩ (by decide) (by decide) (by decide)
 have a3:(t:Int).tmod 16=(a:Int):=by rw[Int.tmod_eq_emod_of_nonneg (by omega)];exact a1
 have b3:((t:Int)+1).tmod 16=(b:Int):=by rw[Int.tmod_eq_emod_of_nonneg (by omega)];exact b1
 have c3:((t:Int)+9).tmod 16=(c:Int):=by rw[Int.tmod_eq_emod_of_nonneg (by omega)];exact c1
 have d3:((t:Int)+14).tmod 16=(d:Int):=by rw[Int.tmod_eq_emod_of_nonneg (by omega)];exact d1
 have m1:IntKind.i64.wrap ((t:Int)+1)=(t:Int)+1:=zv (by omega) (by omega)
 have m9:IntKind.i64.wrap ((t:Int)+9)=(t:Int)+9:=zv (by omega) (by omega)
 have m14:IntKind.i64.wrap ((t:Int)+14)=(t:Int)+14:=zv (by omega) (by omega)
 have hlt:=h.lt
 obtain⟨C,hC⟩:∃C:World→Prop,∀u,C u↔Below (w).heap.size (w) u:=⟨fun u=>Below (w).heap.size (w) u,fun _=>Iff.rfl⟩
 have F:∀u,C u→u.cell? ⟨pb,8+a,none⟩=some (.int .u32 xa)∧u.cell? ⟨pb,8+b,none⟩=some (.int .u32 xb)∧u.cell? ⟨pb,8+c,none⟩=some (.int .u32 xc)∧u.cell? ⟨pb,8+d,none⟩=some (.int .u32 xd):=fun u hu=>by have hu:=(hC u).1 hu;exact⟨(hu.cell (p:=⟨pb,8+a,none⟩) hlt).trans qa,(hu.cell (p:=⟨pb,8+b,none⟩) hlt).trans qb,(hu.cell (p:=⟨pb,8+c,none⟩) hlt).trans qc,(hu.cell (p:=⟨pb,8+d,none⟩) hlt).trans qd⟩
 have step:∀u u',C u→Below u.heap.size u u'→C u':=fun u u' hu hb=>(hC u').2 (((hC u).1 hu).trans (hb.mono ((hC u).1 hu).size))
 have HC:=Hd hC
 have FF:=Hd F
 clear hC F
 have HP:=Hd h
 clear h ha hb hc hd
 go_enter func278,ntmps278
 go_wp2
 refine yY 33 C (by kernel_rfl) (by kernel_rfl) ((HC.out _).2 (Below.refl _ _).drew) ?_
 simp only[List.take_succ_cons,List.take_zero,List.drop_succ_cons,List.drop_zero]
 repeat first|((first|refine xC rfl (fun K hK=> ?_)|refine yp (by rfl) (fun K hK=> ?_));apply Exists.intro;refine⟨fun u hu=> ?_,?_⟩;(·have HU:=Hd hu;obtain⟨ua,ub,uc,ud⟩:=FF.out u hu;clear hu;go_simp;first|exact⟨HU.out,rfl⟩|(go_at_call 292;with_reducible refine(h1 _).mono ?_;rintro e w'⟨rfl,hb⟩;exact⟨rfl,step _ _ HU.out hb⟩)|(go_at_call 292;with_reducible refine(h2 _).mono ?_;rintro e w'⟨rfl,hb⟩;exact⟨rfl,step _ _ HU.out hb⟩));go_simp;refine hK _ ?_;clear hK K)|(refine yq (by rfl) (fun K hK=> ?_);go_simp;refine hK _ ?_;clear hK K)
 refine vq ?_
 intro w3 hw3
 have hb3:=(HC.out _).1 hw3
 have hp3:=HP.out.keep (Keep.still hb3) (fun e=>e)
 obtain⟨ua,ub,uc,ud⟩:=FF.out w3 hw3
 have f1:=hp3.froz (8+a)
 have HP3:=Hd hp3
 have HB3:=Hd hb3
 clear hp3 hb3
 go_wp2
 go_ret
 refine⟨⟨_,rfl⟩,HP3.out.set _ (by omega) _,?_⟩
 exact(Keep.ofBelow (S:=fun k=>k=pb) HB3.out).setCell (fun _=>rfl) _
theorem PrAt.cellK{w:World}{pb n:Nat}(h:PrAt w pb n)(i:Nat)(hi:i<24):∃x:Int,∀u,Keep (fun _=>False) w u→u.cell? ⟨pb,i,none⟩=some (.int .u32 x):=by
 obtain⟨cs,h1,h2,h3,h4⟩:=h.ex
 obtain⟨x,hx⟩:=h3 i hi
 exact⟨x,fun u hu=>(Qc (hu.at h1 (fun e=>e)) i).trans hx⟩
theorem zTH(x:Int):∃y,∀w:World,Calls prog 279 #[.int .u32 x,.int .i64 6,.int .i64 11,.int .i64 25] w fun e w'=>e= .returned (.int .u32 y)∧w=w':=zCc x 6 11 25 ⟨26,by decide,by decide,by decide+kernel⟩ ⟨21,by decide,by decide,by decide+kernel⟩ ⟨7,by decide,by decide,by decide+kernel⟩ (by decide) (by decide) (by decide)
theorem zTI(x:Int):∃y,∀w:World,Calls prog 279 #[.int .u32 x,.int .i64 2,.int .i64 13,.int .i64 22] w fun e w'=>e= .returned (.int .u32 y)∧w=w':=zCc x 2 13 22 ⟨30,by decide,by decide,by decide+kernel⟩ ⟨19,by decide,by decide,by decide+kernel⟩ ⟨10,by decide,by decide,by decide+kernel⟩ (by decide) (by decide) (by decide)
theorem zMv{w:World}{pb n:Nat}(h:PrAt w pb n):Calls prog 256 #[.pointer (some ⟨pb,0,none⟩)] w fun e w'=>e= .returned (.tuple #[])∧PrAt w' pb n∧Keep (fun k=>k=pb) w w':=by
 obtain⟨x0,q0⟩:=h.cell 0 (by decide)
 obtain⟨x1,q1⟩:=h.cell 1 (by decide)
 obtain⟨x2,q2⟩:=h.cell 2 (by decide)
 obtain⟨x3,q3⟩:=h.cell 3 (by decide)
 obtain⟨x4,q4⟩:=h.cell 4 (by decide)
 obtain⟨x5,q5⟩:=h.cell 5 (by decide)
 obtain⟨x6,q6⟩:=h.cell 6 (by decide)
 obtain⟨x7,q7⟩:=h.cell 7 (by decide)
 have HP:=Hd h
 clear h
 go_enter func256,ntmps256
 go_wp2
 go_quiet(fail)
 have HK0:=Hd (show∃nd,w.drewN nd=w.drewN nd from⟨0,rfl⟩)
 clear q0 q1 q2 q3 q4 q5 q6 q7
 go_wp2
 go_loopw [2,3,4,5,6,7,8,9,10,11,12,13,56](fun va vb vc vd ve vf vg vh _ _ _ _ i wr=>(∃a b c d e f g h:Int,va= .int .u32 a∧vb= .int .u32 b∧vc= .int .u32 c∧vd= .int .u32 d∧ve= .int .u32 e∧vf= .int .u32 f∧vg= .int .u32 g∧vh= .int .u32 h)∧(∃k:Nat,k≤64∧i= .int .i64 k)∧PrAt wr pb n∧Keep (fun k=>k=pb) w wr)(fun _ _ _ _ _ _ _ _ _ _ _ _ i _=>64-(intOf i).toNat)
 case atStart=>exact⟨⟨_,_,_,_,_,_,_,_,rfl,rfl,rfl,rfl,rfl,rfl,rfl,rfl⟩,⟨0,by omega,rfl⟩,HP.out.drewN _,Keep.ofBelow ⟨rfl,rfl,rfl,Qn _,fun _ _=>rfl⟩⟩
 case round=>obtain⟨⟨a,b,c,d,e,f,g,h,rfl,rfl,rfl,rfl,rfl,rfl,rfl,rfl⟩,⟨k,hk,rfl⟩,hp,hkp⟩:=hrel;have HP1:=Hd hp;have HK1:=Hd hkp;by_cases hlt:k<64;(·(have g1:decide ((k:Int)<64)=true:=by simp;omega);obtain⟨m,hm⟩:=qN (k %16);(have m1:(k:Int).tmod 16=(m:Int):=by rw[Int.tmod_eq_emod_of_nonneg (by omega)];omega);(have m2:(k:Int)%16=(m:Int):=by omega);(have m3:(m:Int)<16:=by omega);obtain⟨xm,qm⟩:=hp.cell (8+m) (by omega);obtain⟨y6,T6⟩:=zTH e;obtain⟨y2,T2⟩:=zTI a;obtain⟨yk,TK⟩:=zOr k hlt;have HL:=Hd (fun u(hu:PrAt u pb n)=>zLF hu k hlt);clear hm hp hkp;(have k64:(k:Int)<64:=by omega);by_cases h15:15<k;(·(have g2:decide ((15:Int)<(k:Int))=true:=by simp;omega);go_wp2_with(first|(go_at_call 278;refine(HL.out _ HP1.out).mono ?_;rintro e w3⟨⟨y,rfl⟩,hp3,hk3⟩;have HP3:=Hd hp3;have HK3:=Hd (HK1.out.trans hk3 (fun _ _ e=>e));clear hp3 hk3)|(go_at_call 279;with_reducible refine(T6 _).mono ?_;rintro e w3⟨rfl,rfl⟩)|(go_at_call 279;with_reducible refine(T2 _).mono ?_;rintro e w3⟨rfl,rfl⟩)|(go_at_call 280;with_reducible refine(TK _).mono ?_;rintro e w3⟨rfl,rfl⟩));exact⟨⟨⟨_,_,_,_,_,_,_,_,rfl,rfl,rfl,rfl,rfl,rfl,rfl,rfl⟩,⟨k+1,by omega,by go_num⟩,HP3.out,HK3.out⟩,by simp[intOf];omega⟩);·(have g2:decide ((15:Int)<(k:Int))=false:=by simp;omega);go_wp2_with(first|(go_at_call 279;with_reducible refine(T6 _).mono ?_;rintro e w3⟨rfl,rfl⟩)|(go_at_call 279;with_reducible refine(T2 _).mono ?_;rintro e w3⟨rfl,rfl⟩)|(go_at_call 280;with_reducible refine(TK _).mono ?_;rintro e w3⟨rfl,rfl⟩));exact⟨⟨⟨_,_,_,_,_,_,_,_,rfl,rfl,rfl,rfl,rfl,rfl,rfl,rfl⟩,⟨k+1,by omega,by go_num⟩,HP1.out,HK1.out⟩,by simp[intOf];omega⟩);·(obtain rfl:k=64:=by omega);clear hp hkp;go_wp2;go_loopw [14,15,122](fun _ _ i wr=>(∃k:Nat,k≤8∧i= .int .i64 k)∧PrAt wr pb n∧Keep (fun k=>k=pb) w wr)(fun _ _ i _=>8-(intOf i).toNat);(case atStart=>exact⟨⟨0,by omega,rfl⟩,HP1.out,HK1.out⟩);case round=>obtain⟨⟨j,hj,rfl⟩,hp,hkp⟩:=hrel;have HP2:=Hd hp;have HK2:=Hd hkp;by_cases hlt:j<8;(·(have g1:decide ((j:Int)<8)=true:=by simp;omega);(have g1':decide (j<8)=true:=by simpa using hlt);obtain⟨xj,qj⟩:=hp.cellK j (by omega);have QJ:=Hd qj;clear qj;(have j8:(j:Int)<8:=by omega);(obtain⟨vj,hvj⟩:∃x:Int,(#[Value.int .u32 a,.int .u32 b,.int .u32 c,.int .u32 d,.int .u32 e,.int .u32 f,.int .u32 g,.int .u32 h]:Array Value)[j]? =some (.int .u32 x):=by match j,hlt with|0,_=>exact⟨_,rfl⟩|1,_=>exact⟨_,rfl⟩|2,_=>exact⟨_,rfl⟩|3,_=>exact⟨_,rfl⟩|4,_=>exact⟨_,rfl⟩|5,_=>exact⟨_,rfl⟩|6,_=>exact⟨_,rfl⟩|7,_=>exact⟨_,rfl⟩);have l1:=zA1 (P:=prog) 308 224 8 _ .i64 j hlt _ hvj wr underlying308 (by rfl) (by rfl);clear hp hkp hvj;go_wp2;obtain⟨S,HS⟩:=mkS (Keep (fun _=>False) (wr));have FR:=Hd (fun u(hu:S u)=>have hu:=(HS.out u).1 hu;have qj:=QJ.out u hu;qj);refine rgo 10 [tR 0,tR 1,tR 2,tR 3,tR 4,tR 5,tR 6,tR 7,tR 8,tR 9] HS (Keep.refl _ _).drew ?_;(iterate 10 refine rd1 ?_);refine zl ?_;clear FR;have hk4:Keep (fun _=>False) wr wr.drew:=(Keep.refl _ _).drew;generalize wr.drew=w4 at*;have hp4:=HP2.out.keep hk4 (fun e=>e);have qj:=QJ.out w4 hk4;have fj:=hp4.froz j;have HP4:=Hd hp4;have HK4:=Hd (HK2.out.trans hk4 (fun _ _ e=>e.elim));clear hp4 hk4 HS S;go_wp2;go_roundw;(case rel=>exact⟨_,_,_,_,_,_,_,_,_,_,_,_,_,_,_,_,_,_,⟨⟨j+1,by omega,by go_num⟩,HP4.out.set j (by omega) _,HK4.out.setCell (p:=⟨pb,j,none⟩) (fun _=>rfl) _⟩,rfl⟩);case measure=>simp[intOf];omega);·(obtain rfl:j=8:=by omega);go_wp2;go_end0;exact⟨rfl,HP2.out,HK2.out⟩
theorem zEd{w:World}{pb n:Nat}(h:PrAt w pb n)(hn:n<64)(c:Int):Calls prog 216 #[.pointer (some ⟨pb,0,none⟩),.int .u8 c] w fun e w'=>e= .returned (.tuple #[])∧PrAt w' pb ((n+1)%64)∧Keep (fun k=>k=pb) w w':=by
 obtain⟨q,hq⟩:=qN (n/4)
 have q1:(n:Int).tdiv 4=(q:Int):=by exact zQE
 have q2:(n:Int)/4=(q:Int):=by omega
 have q3:(q:Int)<16:=by omega
 have qw:IntKind.i64.wrap (q:Int)=(q:Int):=zv (by omega) (by omega)
 have n64:(n:Int)<64:=by omega
 have cn:=h.cellN
 have HP:=Hd h
 have HK:=Hd (show Keep (fun k=>k=pb) w w.drew from(Keep.refl _ _).drew)
 have HPd:=Hd (show PrAt w.drew pb n from⟨h.ex⟩)
 clear h hq
 go_enter func216,ntmps216
 go_wp2
 obtain⟨S,HS⟩:=mkS (Keep (fun _=>False) (w))
 have FR:=Hd (fun u(hu:S u)=>have hu:=(HS.out u).1 hu;have cn:=((HP.out.keep hu (fun e=>e)).cellN);cn)
 refine rgw 10 [tR 0,tR 1,tR 2,tR 3,tR 4,tR 5,tR 6,tR 7,tR 8,tR 9] HS (Keep.refl _ _).drew ?_
 iterate 10 refine rd1 ?_
 refine zl ?_
 clear FR
 clear HS S
 generalize w.drew=w1 at*
 obtain⟨xq,cq⟩:=HPd.out.cell (8+q) (by omega)
 have fq:=HPd.out.froz (8+q)
 have cn1:=HPd.out.cellN
 have fn:=HPd.out.froz 24
 by_cases h63:n=63
 ·subst h63;clear q1 q2;go_wp2_with(fail);refine(zMv (n:=64) ((HPd.out.set (8+q) (by omega) _).setN 64)).mono ?_;rintro e w3⟨rfl,hp3,hk3⟩;have fn3:=hp3.froz 24;have cn3:=hp3.cellN;have HP3:=Hd hp3;have HK3:=Hd (((HK.out.setCell (p:=⟨pb,8+q,none⟩) (fun _=>rfl) _).setCell (p:=⟨pb,24,none⟩) (fun _=>rfl) _).trans hk3 (fun _ _ e=>e));clear hp3 hk3;go_wp2;go_end0;exact⟨rfl,HP3.out.setN 0,HK3.out.setCell (p:=⟨pb,24,none⟩) (fun _=>rfl) _⟩
 ·(have g1:((n:Int)+1==64)=false:=by simp;omega);(have e1:((n+1)%64:Nat)=n+1:=by omega);have HE:=Hd e1;clear e1;go_wp2_with(fail);go_end0;refine⟨rfl,?_,(HK.out.setCell (p:=⟨pb,8+q,none⟩) (fun _=>rfl) _).setCell (p:=⟨pb,24,none⟩) (fun _=>rfl) _⟩;rw[HE.out];exact(HPd.out.set (8+q) (by omega) _).setN (n+1)
end
end Go.Proofs.YtaokjeokpifjgaaGreatDoor
