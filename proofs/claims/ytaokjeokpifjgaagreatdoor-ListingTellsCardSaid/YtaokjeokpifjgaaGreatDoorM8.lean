/-
  Texts of this claim, one behind the other: LsDvV LsDwV LsRtV LsFmV LsBgV LsFhV LsUV LsU2V LsU3V LsJV LsNxV LsEV LsJ2V LsLiV LsRlV LsRmV LsRoV LsRnV.
-/
import Derived.Test.YtaokjeokpifjgaaGreatDoorM7
import Derived.Deep.DeepCutAuto
open Go.Proofs.Tryz
set_option maxRecDepth 100000
set_option maxHeartbeats 16000000
namespace Go.Proofs.YtaokjeokpifjgaaGreatDoor
section
open Go.RowKit Go.MapKept
attribute [local go_sem] yo yg
theorem zVZ{c:UInt8}{x:Nat}(h:zAW c=some x):zVl c=(x:Int):=by
 unfold zVl
 rw[h]
theorem zVa{c:UInt8}(h:zAW c=none):zVl c= -1:=by
 unfold zVl
 rw[h]
theorem zVf{s:QB}{j:Nat}(h:s.size=2*j+1):zDF s=none:=by
 unfold zDF
 cases hl:xZ s.data.toList with|none=>rfl|some l=>have:=zEy hl;rw[xL]at this;omega
theorem zWP{p:Prop}(h:p:=by go_ret2;exact⟨by rw[HR.out];rfl,HB.out⟩):p:=h
theorem zWQ{p:Prop}(h:p:=by clear t1 t2 hva hvb hqn ho hl;go_wp2_with(go_at_call 189;first|(with_reducible refine(HA.out _).mono ?_;rintro e u⟨rfl,rfl⟩)|(with_reducible refine(HBb.out _).mono ?_;rintro e u⟨rfl,rfl⟩));go_ret2;exact⟨by rw[HR.out];rfl,HB.out⟩):p:=h
theorem zVy(s:QB)(hs:s.size≤1000000)(w:World):Calls prog 132 #[.string s] w fun e w'=>e= .returned (.tuple #[.string ((zDF s).getD ⟨#[]⟩),.bool (zDF s).isSome])∧Below w.heap.size w w':=by
 obtain⟨N,hN⟩:=qN s.size
 have HN:=Hd hN
 have hN1:N≤1000000:=by omega
 go_enter func132,ntmps132
 go_wp2_with(fail)
 go_loopw [4,5,6,7](fun o i _ _ wr=>∃(j:Nat)(l:List UInt8),2*j≤N∧i= .int .i64 (2*j:Nat)∧xZ (s.data.toList.take (2*j))=some l∧o= .string ⟨l.toArray⟩∧Below w.heap.size w wr)(fun _ i _ _ _=>N-(intOf i).toNat)
 case atStart=>exact⟨0,[],by omega,rfl,rfl,rfl,Below.refl _ _⟩
 case round=>obtain⟨j,l,hj,rfl,hl,rfl,hb⟩:=hrel;have HB:=Hd hb;clear hb;obtain⟨o,ho⟩:∃o:QB,(⟨l.toArray⟩:QB)=o:=⟨_,rfl⟩;obtain⟨p,hp⟩:=qN (2*j);rw[ho];rw[hp]at hl hj⊢;(have hlz:o.size=j:=by rw[←ho];show l.toArray.size=j;rw[List.size_toArray];have:=zEy hl;rw[List.length_take,xL]at this;omega);by_cases hlt:p<N;(·(have g1:decide ((p:Int)<(N:Int))=true:=by simp;omega);(have g1':decide (p<N)=true:=by simpa using hlt);obtain⟨q,hq⟩:=qN (p+1);(have v1:IntKind.i64.wrap ((p:Int)+1)=(q:Int):=by rw[zv (by omega) (by omega)];omega);by_cases hqn:q=N;(·(have e1:((q:Int)==(N:Int))=true:=by rw[hqn];simp);(have e1':(q==N)=true:=by simpa using hqn);(have e2:(q:Int)=(N:Int):=by omega);have hr:=zVf (s:=s) (j:=j) (by omega);have HR:=Hd hr;clear hqn hr ho hl hq hp;go_wp2_with(fail);exact zWP);·(have e1:((q:Int)==(N:Int))=false:=by simp;omega);(have e1':(q==N)=false:=by simpa using hqn);(have hqs:q<s.size:=by omega);(have hps:p<s.size:=by omega);(have hqN:q<N:=by omega);(have i0:(0:Int)≤(p:Int):=by omega);(have i1:(p:Int)<(N:Int):=by omega);(have i2:(0:Int)≤(q:Int):=by omega);(have i3:(q:Int)<(N:Int):=by omega);obtain⟨t1,t2⟩:=zPe hp hq hqs hl;obtain⟨a,ha⟩:=qN (s[p]);obtain⟨b,hb⟩:=qN (s[q]);rw[ha,hb]at t1 t2;have HA:=Hd (zVU a);have HBb:=Hd (zVU b);cases hva:zAW a with|none=>have HR:=Hd (t2 (.inl hva));rw[zVa hva]at HA;obtain⟨vb,hvb⟩:=qN (zVl b);rw[hvb]at HBb;exact zWQ|some x=>rw[zVZ hva]at HA;have hx16:=zKQ hva;(have x0:decide ((x:Int)<0)=false:=by simp);cases hvb:zAW b with|none=>have HR:=Hd (t2 (.inr hvb));rw[zVa hvb]at HBb;exact zWQ|some y=>rw[zVZ hvb]at HBb;have hy16:=zKQ hvb;(have y0:decide ((y:Int)<0)=false:=by simp);have ht:=t1 x y hva hvb;obtain⟨m,hm⟩:=qN (16*x);obtain⟨z,hz⟩:=qN (m+y);(have hz2:z<256:=by omega);rw[hm,hz]at ht;(have v2:IntKind.i64.wrap (16*(x:Int))=(m:Int):=by rw[zv (by omega) (by omega)];omega);(have v3:IntKind.i64.wrap ((m:Int)+(y:Int))=(z:Int):=by rw[zv (by omega) (by omega)];omega);(have v4:IntKind.u8.wrap (z:Int)=(z:Int):=by rw[IntKind.wrap_u8];omega);obtain⟨p2,hp2⟩:=qN (p+2);(have v5:IntKind.i64.wrap ((p:Int)+2)=(p2:Int):=by rw[zv (by omega) (by omega)];omega);have l1:=zVo hz2 wr;obtain⟨kb,hkb⟩:∃kb:QB,(⟨#[UInt8.ofNat z]⟩:QB)=kb:=⟨_,rfl⟩;(have hks:kb.size=1:=by rw[←hkb];rfl);have hcat:=fun u=>run_string_add_sum (P:=prog) u o kb (by omega);(have hfin:(⟨(l++[UInt8.ofNat z]).toArray⟩:QB)=o++kb:=by apply ByteArray.ext;apply Array.toList_inj.1;rw[←hkb,←ho,ByteArray.data_append,Array.toList_append]);rw[hkb]at l1;have hb8:Below w.heap.size w (wr.alloc (.cells #[.int .u8 z] 5)):=HB.out.alloc HB.out.size _;(have hj2:2*(j+1)=p2:=by omega);rw[hj2]at ht;have HF:=Hd (And.intro hfin (And.intro ht (And.intro hj2 (And.intro hp2 hqN))));have HB8:=Hd hb8;have HP:=Hd (And.intro hp hq);clear t1 t2 hva hvb hqn ho hl hm hz hkb hks hfin hb8 ht hj2 hlz hqN hp2;go_wp2_with(go_at_call 189;first|(with_reducible refine(HA.out _).mono ?_;rintro e u⟨rfl,rfl⟩)|(with_reducible refine(HBb.out _).mono ?_;rintro e u⟨rfl,rfl⟩));go_roundw;(case rel=>exact⟨j+1,_,by have h1:=HF.out.2.2.1;have h2:=HF.out.2.2.2.1;have h3:=HF.out.2.2.2.2;have h4:=HP.out.1;have h5:=HP.out.2;omega,by rw[HF.out.2.2.1],by rw[HF.out.2.2.1];exact HF.out.2.1,by rw[HF.out.1],HB8.out⟩);case measure=>have h2:=HF.out.2.2.2.1;have h3:=HF.out.2.2.2.2;have h5:=HP.out.2;simp[intOf];omega);·(have g1:decide ((p:Int)<(N:Int))=false:=by simp;omega);(have g1':decide (p<N)=false:=by simpa using hlt);(have hfin:zDF s=some o:=by unfold zDF;rw[Qk (by rw[xL];omega)]at hl;rw[hl,←ho];rfl);have HR:=Hd hfin;clear hfin ho hlt hl hp;go_wp2_with(fail);exact zWP
theorem zVV(s:QB)(hs:s.size≤400000)(w:World):Calls prog 73 #[.string s] w fun e w'=>e= .returned (.string (vU s))∧Below w.heap.size w w':=by
 have HCk:=Hd (SealG.refCheck_any s (by unfold maxLen;omega))
 rw[show crc.check (SealG.bl s)=ckL s.data.toList from rfl]at HCk
 have hck:=zRC s
 have hsz:=zDI s
 have htk:=zKT s
 obtain⟨c,hc⟩:=qN (ckL s.data.toList)
 rw[hc]at HCk hck htk
 have HNu:=Hd (fun u=>zVg c (by omega) u)
 have HH1:=Hd (zVh (zFO c) (by rw[zDH];decide))
 have HH2:=Hd (zVh s (by omega))
 have hz1:=zDH c
 have hx1z:(zVT (zFO c).data.toList).size=8:=by show(kW _).toArray.size=8;rw[List.size_toArray,zIS,xL,hz1]
 have hx2z:(zVT s.data.toList).size=2*s.size:=by show(kW _).toArray.size=_;rw[List.size_toArray,zIS,xL]
 have htk2:vU s=zVT (zFO c).data.toList++zVT s.data.toList:=htk
 obtain⟨bc,hbc⟩:=qN (zFO c)
 rw[hbc]at HNu HH1 hx1z htk2
 obtain⟨x1,hx1⟩:∃x,zVT bc.data.toList=x:=⟨_,rfl⟩
 obtain⟨x2,hx2⟩:∃x,zVT s.data.toList=x:=⟨_,rfl⟩
 rw[hx1]at HH1 hx1z htk2
 rw[hx2]at HH2 hx2z htk2
 have hcat:=fun u=>run_string_add_sum (P:=prog) u x1 x2 (by omega)
 rw[←htk2]at hcat
 obtain⟨tk,htk3⟩:=qN (vU s)
 rw[htk3]at hcat⊢
 have v1:IntKind.u64.wrap (c:Int)=(c:Int):=by rw[IntKind.wrap_u64];omega
 clear hck htk hsz hbc hx1 hx2 htk2 htk3 hc hz1 hx1z hx2z
 go_enter func73,ntmps73
 go_wp2_with(first|(go_at_call 135;refine(HCk.out _).mono ?_;rintro e w1⟨rfl,rfl⟩)|(go_at_call 134;refine(HNu.out _).mono ?_;rintro e w2⟨rfl,hb2⟩;have HB2:=Hd hb2;clear hb2)|(go_at_call 133;first|((with_reducible refine(HH1.out _).mono ?_;rintro e w3⟨rfl,hb3⟩);have HB3:=Hd (qT HB2.out hb3);clear hb3)|((with_reducible refine(HH2.out _).mono ?_;rintro e w4⟨rfl,hb4⟩);have HB4:=Hd (qT HB3.out hb4);clear hb4)))
 go_ret
 exact⟨rfl,HB4.out⟩
theorem zWR{p:Prop}(h:p:=by go_enter func69,ntmps69;go_wp2_with(first|(go_at_call 132;refine(HR.out _).mono ?_;rintro e w1⟨rfl,hb1⟩;have HB1:=Hd hb1;clear hb1)|(go_at_call 73;refine(HT.out _).mono ?_;rintro e w2⟨rfl,hb2⟩;have HB2:=Hd (qT HB1.out hb2);clear hb2));go_ret2;exact⟨rfl,HB2.out⟩):p:=h
theorem zVb(t:QB)(ht:t.size≤400000)(w:World):Calls prog 69 #[.string t] w fun e w'=>e= .returned (.tuple #[.string ((ko t).getD ⟨#[]⟩),.bool (ko t).isSome])∧Below w.heap.size w w':=by
 have HR:=Hd (zVy t (by omega))
 have hrz:∀s,zDF t=some s→2*s.size=t.size:=fun s h=>by exact zWN
 rw[zNe]
 obtain⟨rt,hrt⟩:=qN (zDF t)
 rw[hrt]at HR hrz⊢
 clear hrt
 match rt,HR,hrz with|none,HR,_=>go_enter func69,ntmps69;go_wp2_with(go_at_call 132;refine(HR.out _).mono ?_;rintro e w1⟨rfl,hb1⟩);go_ret2;exact⟨rfl,hb1⟩|some s,HR,hrz=>have hz:=hrz s rfl;simp only[Option.getD_some,Option.isSome_some]at HR;clear hrz;dsimp only;by_cases c1:s.size<4;(·rw[if_pos (.inl c1)];(have d1:decide ((s.size:Int)<4)=true:=by simp;omega);(have d1':decide (s.size<4)=true:=by simpa using c1);go_enter func69,ntmps69;go_wp2_with(go_at_call 132;refine(HR.out _).mono ?_;rintro e w1⟨rfl,hb1⟩);go_ret2;exact⟨rfl,hb1⟩);·(have d1:decide ((s.size:Int)<4)=false:=by simp;omega);(have d1':decide (s.size<4)=false:=by simpa using c1);have HT:=Hd (zVV (s.extract 4 s.size) (by rw[ByteArray.size_extract];omega));obtain⟨r,hr⟩:=qN (s.extract 4 s.size);rw[hr]at HT⊢;obtain⟨tk,htk⟩:=qN (vU r);rw[htk]at HT⊢;(have g4:(4:Int)≤(s.size:Int):=by omega);by_cases c2:tk=t;(·rw[if_neg (by rintro(h|h);exact c1 h;exact h c2)];subst c2;have HR2:=Hd hr;(have c3:(tk.toList==tk.toList)=true:=by simp);exact zWR);·rw[if_pos (.inr c2)];(have c3:(tk.toList==t.toList)=false:=by rw[vo];simpa using c2);exact zWR
theorem zWe{p:Prop}(h:p:=by go_wp2_with(go_at_call 131;refine(HC.out).mono ?_;rintro e w1⟨⟨x,y,rfl⟩,hb⟩);go_ret;exact⟨rfl,hb⟩):p:=h
theorem zVN(s:QB)(w:World)(hs:s.size≤1000000):Calls prog 68 #[.string s] w fun e w'=>e= .returned (.bool (!zf s))∧Below w.heap.size w w':=by
 have HC:=Hd (zJv s (by omega) w)
 go_enter func68,ntmps68
 exact zWe
theorem zWG{p:Prop}(h:p:=by go_enter func71,ntmps71;go_wp2_with(fail);go_ret;exact⟨by rw[HB.out];rfl,rfl⟩):p:=h
theorem zVO(s p:QB)(w:World):Calls prog 71 #[.string s,.string p] w fun e w'=>e= .returned (.bool (yD s p))∧w=w':=by
 by_cases h:p.size≤s.size
 ·(have d1:decide ((p.size:Int)≤(s.size:Int))=true:=by simp;omega);(have d1':decide (p.size≤s.size)=true:=by simpa using h);(have d2:(p.size:Int)≤(s.size:Int):=by omega);have hb:=zUw (s:=s) (p:=p);have HB:=Hd hb;by_cases e:s.extract 0 p.size=p;(·(have e1:(p.toList==p.toList)=true:=by simp);rw[decide_eq_true e]at HB;clear hb;exact zWG);·(have e1:((s.extract 0 p.size).toList==p.toList)=false:=by rw[vo];simpa using e);rw[decide_eq_false e]at HB;clear hb e;exact zWG
 ·(have d1:decide ((p.size:Int)≤(s.size:Int))=false:=by simp;omega);(have d1':decide (p.size≤s.size)=false:=by simpa using h);have HB:=Hd (show yD s p=false by rw[Bool.eq_false_iff];exact fun e=>h (zUt e));exact zWG
theorem zWS{p:Prop}(h:p:=by go_enter func72,ntmps72;go_wp2_with(fail);go_ret;exact⟨by rw[HB.out];rfl,rfl⟩):p:=h
theorem zWf{p:Prop}(h:p:=by go_ret;exact⟨by rw[HB.out];rfl,rfl⟩):p:=h
theorem zWT{p:Prop}(h:p:=by clear hl e;go_enter func72,ntmps72;go_wp2_with(fail);go_ret;exact⟨by rw[HB.out];rfl,rfl⟩):p:=h
theorem zVi(key t:QB)(w:World)(ht:t.size≤1000000):Calls prog 72 #[.string key,.string t] w fun e w'=>e= .returned (.bool (zq key t))∧w=w':=by
 by_cases h0:t=⟨#[]⟩
 ·subst h0;have HB:=Hd (show zq key ⟨#[]⟩=true by unfold zq;rw[if_pos rfl]);exact zWS
 have e0:t.toList.isEmpty=false:=by rw[isEmpty_eq,decide_eq_false h0]
 obtain⟨n,hn⟩:=qN t.size
 have hpos:0<t.size:=by rcases Nat.eq_zero_or_pos t.size with e|e;(·exact absurd (zRB.2 (List.length_eq_zero_iff.1 (by rw[xL];exact e))) h0);·exact e
 have i1:(1:Int)≤(n:Int):=by omega
 have i0:(0:Int)<(n:Int):=by omega
 obtain⟨s,hs⟩:=qN (t.extract 1 n)
 obtain⟨c,hc⟩:=qN (t[0])
 have hhd:t.data.toList.head? =some c:=by rw[List.head?_eq_getElem?];have:=byte_at hpos;rw[this,hc]
 have hbt:zq key t=(decide (bLt s key)&& !(decide (c=112)&&yD key s)):=by unfold zq;rw[if_neg h0];simp only;rw[hn,hs,hhd];congr 3;simp
 have HB:=Hd hbt
 have HBg:=Hd (zVO key s)
 clear h0 hhd hbt
 by_cases hl:bLt s key
 ·(have q1:Op.bytesLess key.toList s.toList=false:=by rw[xE];exact decide_eq_false (fun e=>zQ _ (zV e hl)));(have q1b:(key.toList==s.toList)=false:=by rw[vo];exact decide_eq_false (fun e=>by rw[e]at hl;exact zQ _ hl));rw[decide_eq_true hl,Bool.true_and]at HB;by_cases hp:c=112;(·(have q2:((c.toNat:Int)==112)=true:=by rw[hp];rfl);(have q2':c.toNat=112:=by rw[hp];rfl);rw[decide_eq_true hp,Bool.true_and]at HB;obtain⟨b,hb⟩:=qN (yD key s);rw[hb]at HB HBg;clear hp hl hb;go_enter func72,ntmps72;go_wp2_with(go_at_call 71;refine(HBg.out _).mono ?_;rintro e u⟨rfl,rfl⟩);exact zWf);·have hp':¬c.toNat=112:=fun e=>hp (UInt8.toNat_inj.1 (by rw[e];rfl));(have q2:((c.toNat:Int)==112)=false:=by simp;omega);(have q2':(c.toNat==112)=false:=by simpa using hp');rw[decide_eq_false hp,Bool.false_and,Bool.not_false]at HB;clear hp hl;exact zWS
 ·rw[decide_eq_false hl,Bool.false_and]at HB;rcases xX key s with e|e|e;(·(have q1:Op.bytesLess key.toList s.toList=true:=by rw[xE];exact decide_eq_true e);exact zWT);(·(have q1:(key.toList==s.toList)=true:=by rw[e];simp);exact zWT);·exact absurd e hl
def yU(pre delim:QB)(limit:Int)(token:QB)(ok:Bool):Int:=if limit<1∨100<limit∨zk pre=false∨zk delim=false then 30 else if token≠⟨#[]⟩∧ok=false then 29 else 0
theorem zPi{p:Prop}(h:p:=by go_enter func26,ntmps26;go_wp2_with(first|(go_at_call 76;first|(with_reducible refine(HP.out _).mono ?_;rintro e w1⟨rfl,rfl⟩)|(with_reducible refine(HD.out _).mono ?_;rintro e w1⟨rfl,rfl⟩))|(go_at_call 77;refine(HF.out _).mono ?_;rintro e w2⟨rfl,hb2⟩;have HB2:=Hd hb2;clear hb2));go_ret;exact⟨rfl,Below.refl _ _⟩):p:=h
theorem zUe{p:Prop}(h:p:=by go_enter func26,ntmps26;go_wp2_with(first|(go_at_call 76;first|(with_reducible refine(HP.out _).mono ?_;rintro e w1⟨rfl,rfl⟩)|(with_reducible refine(HD.out _).mono ?_;rintro e w1⟨rfl,rfl⟩))|(go_at_call 77;refine(HF.out _).mono ?_;rintro e w2⟨rfl,hb2⟩;have HB2:=Hd hb2;clear hb2));go_ret;exact⟨rfl,HB2.out⟩):p:=h
theorem zUC{p:Prop}(h:p:=by clear ht;go_enter func26,ntmps26;go_wp2_with(first|(go_at_call 76;first|(with_reducible refine(HP.out _).mono ?_;rintro e w1⟨rfl,rfl⟩)|(with_reducible refine(HD.out _).mono ?_;rintro e w1⟨rfl,rfl⟩))|(go_at_call 77;refine(HF.out _).mono ?_;rintro e w2⟨rfl,hb2⟩;have HB2:=Hd hb2;clear hb2));go_ret;exact⟨rfl,HB2.out⟩):p:=h
theorem zJ1{pre delim token t:QB}{ok:Bool}{limit:Int}(w:World)(hf:∀u:World,Calls prog 77 #[.string token] u fun e w'=>e= .returned (.tuple #[.string t,.bool ok])∧Below u.heap.size u w'):Calls prog 26 #[.string pre,.string delim,.int .i64 limit,.string token] w fun e w'=>e= .returned (.int .i64 (yU pre delim limit token ok))∧Below w.heap.size w w':=by
 have HP:=Hd (plain_any pre)
 have HD:=Hd (plain_any delim)
 have HF:=Hd hf
 clear hf
 unfold yU
 generalize zk pre=pp at*
 generalize zk delim=pd at*
 by_cases l1:limit<1
 ·rw[if_pos (.inl l1)];have d1:decide (limit<1)=true:=decide_eq_true l1;exact zPi
 have d1:decide (limit<1)=false:=decide_eq_false l1
 by_cases l2:100<limit
 ·rw[if_pos (.inr (.inl l2))];have d2:decide (100<limit)=true:=decide_eq_true l2;exact zPi
 have d2:decide (100<limit)=false:=decide_eq_false l2
 cases pp with|false=>rw[if_pos (.inr (.inr (.inl rfl)))];exact zPi|true=>cases pd with|false=>rw[if_pos (.inr (.inr (.inr rfl)))];exact zPi|true=>rw[if_neg (by simp[l1,l2])];by_cases ht:token=⟨#[]⟩;(·subst ht;rw[if_neg (by simp)];exact zUe);·(have c':token.toList.isEmpty=false:=by rw[isEmpty_eq,decide_eq_false ht]);cases ok with|false=>rw[if_pos ⟨ht,rfl⟩];exact zUC|true=>rw[if_neg (by simp)];exact zUC
theorem zPj{p:Prop}(h:p:=by go_enter func77,ntmps77;go_wp2_with(go_at_call 137;refine(HT.out _).mono ?_;rintro e w1⟨rfl,hb1⟩;have HB1:=Hd hb1;clear hb1);go_quiet((go_at_call 76;exact Calls.quiet_of_same ((HP.out _).mono fun _ _ h=>⟨h.1,h.2.symm⟩)));go_wp2;go_ret2;exact⟨rfl,below_drewN HB1.out _⟩):p:=h
theorem zIk(t:QB)(ht:t.size≤400000)(w:World):Calls prog 77 #[.string t] w fun e w'=>e= .returned (.tuple #[.string ((ko t).getD ⟨#[]⟩),.bool (yS t).isSome])∧Below w.heap.size w w':=by
 have HT:=Hd (zPh t ht)
 unfold yS
 obtain⟨rt,hrt⟩:=qN (ko t)
 rw[hrt]at HT⊢
 clear hrt
 match rt,HT with|none,HT=>simp only[Option.getD_none,Option.isSome_none]at HT⊢;go_enter func77,ntmps77;go_wp2_with(go_at_call 137;refine(HT.out _).mono ?_;rintro e w1⟨rfl,hb1⟩;have HB1:=Hd hb1;clear hb1);go_quiet(fail);go_wp2;go_ret2;exact⟨rfl,below_drewN HB1.out _⟩|some s,HT=>simp only[Option.getD_some,Option.isSome_some]at HT⊢;have HP:=Hd (plain_any (s.extract 1 s.size));by_cases c1:1<s.size;(·(have d1:decide ((1:Int)<(s.size:Int))=true:=by simp;omega);(have d1':decide (1<s.size)=true:=by simpa using c1);rw[d1'];(have g1:(1:Int)≤(s.size:Int):=by omega);(have g0:0<s.size:=by omega);obtain⟨r,hr⟩:=qN (s.extract 1 s.size);rw[hr]at HP⊢;(have h7:zAD s 107=decide (s[0]=107):=by unfold zAD;rw[List.head?_eq_getElem?,byte_at g0];simp);(have h2:zAD s 112=decide (s[0]=112):=by unfold zAD;rw[List.head?_eq_getElem?,byte_at g0];simp);rw[h7,h2];obtain⟨b,hb⟩:=qN (s[0]);rw[hb];(have e7:((b.toNat:Int)==107)=decide (b=107):=by rw[Bool.eq_iff_iff];simp only[beq_iff_eq,decide_eq_true_eq];rw[←UInt8.toNat_inj];show(b.toNat:Int)=107↔b.toNat=107;omega);(have e2:((b.toNat:Int)==112)=decide (b=112):=by rw[Bool.eq_iff_iff];simp only[beq_iff_eq,decide_eq_true_eq];rw[←UInt8.toNat_inj];show(b.toNat:Int)=112↔b.toNat=112;omega);have f7:decide (b.toNat=107)=decide (b=107):=decide_eq_decide.2 (by rw[←UInt8.toNat_inj];rfl);have f2:decide (b.toNat=112)=decide (b=112):=decide_eq_decide.2 (by rw[←UInt8.toNat_inj];rfl);generalize decide (b=107)=b7 at*;generalize decide (b=112)=b2 at*;generalize zk r=pr at*;clear h7 h2;cases pr with|false=>exact zPj|true=>cases b7 with|true=>exact zPj|false=>cases b2 with|true=>exact zPj|false=>exact zPj);·(have d1:decide ((1:Int)<(s.size:Int))=false:=by simp;omega);(have d1':decide (1<s.size)=false:=by simpa using c1);rw[d1'];go_enter func77,ntmps77;go_wp2_with(go_at_call 137;refine(HT.out _).mono ?_;rintro e w1⟨rfl,hb1⟩;have HB1:=Hd hb1;clear hb1);go_quiet(fail);go_wp2;go_ret2;exact⟨rfl,below_drewN HB1.out _⟩
theorem zNh{pre delim token:QB}{limit:Int}{ok:Bool}(h:yU pre delim limit token ok=0):1≤limit∧limit≤100∧pre.size≤40∧zf pre=true:=by
 unfold yU at h
 split at h
 ·cases h
 ·rename_i h1;(have hp:zk pre=true:=by by_cases e:zk pre=true;(·exact e);·exact absurd (.inr (.inr (.inl (by simpa using e)))) h1);obtain⟨p1,p2⟩:=xP.1 hp;exact⟨by omega,by omega,p1,p2⟩
theorem zDg(pre delim token:QB)(ht:token.size≤400000)(limit:Int)(w:World):Calls prog 26 #[.string pre,.string delim,.int .i64 limit,.string token] w fun e w'=>e= .returned (.int .i64 (yU pre delim limit token (yS token).isSome))∧Below w.heap.size w w':=zJ1 w (fun u=>zIk token ht u)
theorem zBa{w:World}{wb br:Nat}{pre delim fr to_:QB}(h:WkAt w wb br pre delim fr to_)(f:QB):WkAt (w.setCell ⟨wb,4,none⟩ (.string f)) wb br pre delim f to_:=heap_setCell_same _ wb 4 _ _ _ h
theorem zG7{w:World}{wb br:Nat}{pre delim fr to_:QB}(h:WkAt w wb br pre delim fr to_)(f:QB):WkAt (w.setCell ⟨wb,5,none⟩ (.string f)) wb br pre delim fr f:=heap_setCell_same _ wb 5 _ _ _ h
structure Begun(w:World)(br:Nat)(pre delim frm:QB)(w':World)(wb:Nat)(f to_:QB):Prop where
 at_:WkAt w' wb br pre delim f to_
 new:w.heap.size≤wb
 below:Below w.heap.size w w'
 beg:zRA pre frm f
 beh:Beh (zy pre).data.toList to_.data.toList
 ne:to_≠⟨#[]⟩
theorem zUD{p:Prop}(h:p:=by clear hw11;go_wp2;go_ret2;exact⟨_,_,_,rfl,HW12.out,HS3.out,HB12.out,HBg.out,by rw[HKp.out];exact HEnd.out.1,HEnd.out.2⟩):p:=h
theorem zLx{w:World}{br:Nat}{pre delim token:QB}{limit:Int}(hfind:∀u:World,Below w.heap.size w u→Calls prog 32 #[.pointer (some ⟨br,0,none⟩),.string abcB] u fun e w'=>e= .returned (.tuple #[.agg #[.string abcB,.int .i64 1,.int .u64 0,.bool false,.string ⟨#[]⟩,.int .u64 0],.int .i64 0])∧Below u.heap.size u w')(ht:token.size≤400000)(hr:yU pre delim limit token (yS token).isSome=0):Calls prog 62 #[.pointer (some ⟨br,0,none⟩),.string abcB,.string pre,.string delim,.int .i64 limit,.string token] w fun e w'=>∃wb f to_,e= .returned (.tuple #[.pointer (some ⟨wb,0,none⟩),.int .i64 0])∧Begun w br pre delim ((yS token).getD ⟨#[]⟩) w' wb f to_:=by
 have HF:=Hd (hfind w (Below.refl _ _))
 have HR:=Hd (zDg pre delim token ht limit)
 rw[hr]at HR
 have hpp:zk pre=true:=by unfold yU at hr;by_cases e:zk pre=true;(·exact e);·rw[if_pos (.inr (.inr (.inl (by simpa using e))))]at hr;cases hr
 obtain⟨hp1,hp2⟩:=xP.1 hpp
 have HFr:=Hd (zIk token ht)
 obtain⟨h,hbe,hne,hbk⟩:=zGu pre
 have HBe:=Hd (zB8 (l:=zy pre) (h:=h) hbe (by rw[zIg];omega))
 have HKey:=Hd (fun(u:World)(b:Nat)(hu:WkAt u b br pre delim ⟨#[]⟩ ⟨#[]⟩)=>zIe hu pre (by omega))
 have HEnd:=Hd (And.intro hbe hne)
 have HP2:=Hd hp2
 have hz0:=xP (s:=pre)
 clear hz0
 have hform:∀s,yS token=some s→ko token=some s∧∃u,(s=kT u∨s=pT u)∧zk u=true∧u≠⟨#[]⟩:=fun s hs=>⟨zLu hs,zGD hs⟩
 obtain⟨kp,hkp⟩:=qN (zy pre)
 rw[hkp]at HBe HKey HEnd
 have HKp:=Hd hkp
 obtain⟨fr,hfr⟩:=qN (yS token)
 rw[hfr]at HFr hform⊢
 obtain⟨tt,htt⟩:=qN ((ko token).getD ⟨#[]⟩)
 rw[htt]at HFr
 clear hfind hr hp1 hp2 hpp hbe hne hbk hkp ht
 match fr,HFr,hform with|none,HFr,_=>simp only[Option.isSome_none,Option.getD_none]at HFr⊢;go_enter func62,ntmps62;go_wp2_with(first|(go_at_call 32;refine(HF.out).mono ?_;rintro e w1⟨rfl,hb1⟩;have HB1:=Hd (show Below w.heap.size w (w1.alloc (.cells #[.string abcB,.int .i64 1,.int .u64 0,.bool false,.string ⟨#[]⟩,.int .u64 0] 89))from hb1.alloc hb1.size _);clear hb1)|(go_at_call 26;refine(HR.out _).mono ?_;rintro e w3⟨rfl,hb3⟩;have HB3:=Hd (qT HB1.out hb3);have HW4:=Hd (show WkAt (w3.alloc (.cells #[.pointer (some ⟨br,0,none⟩),.string abcB,.string pre,.string delim,.string ⟨#[]⟩,.string ⟨#[]⟩] 147)) w3.heap.size br pre delim ⟨#[]⟩ ⟨#[]⟩from qH w3 _);have HB4:=Hd (HB3.out.alloc HB3.out.size (.cells #[.pointer (some ⟨br,0,none⟩),.string abcB,.string pre,.string delim,.string ⟨#[]⟩,.string ⟨#[]⟩] 147));have hk5:=HKey.out _ _ HW4.out;obtain⟨⟨d0,d1,d2,d3,d4,d5⟩,y0,y1,y2,y3,y4,y5⟩:=yl HW4.out;have HK5:=Hd hk5;clear hk5 hb3)|(go_at_call 126;refine(HK5.out).mono ?_;rintro e w5⟨rfl,hb5⟩;have hw5:=HW4.out.still hb5;have HB5:=Hd (qT HB4.out hb5);have HW5:=Hd hw5;clear d0 d1 d2 d3 d4 d5 y0 y1 y2 y3 y4 y5;obtain⟨⟨d0,d1,d2,d3,d4,d5⟩,y0,y1,y2,y3,y4,y5⟩:=yl hw5;have HW6:=Hd (zBa hw5 kp);have HS3:=Hd (show w.heap.size≤w3.heap.size from HB3.out.size);have HB6:=Hd (HB5.out.setCell (p:=⟨w3.heap.size,4,none⟩) HB3.out.size (.string kp));clear hb5 hw5)|(go_at_call 110;refine(HBe.out _).mono ?_;rintro e w7⟨rfl,hb7⟩;have hw7:=HW6.out.still hb7;have HB7:=Hd (qT HB6.out hb7);clear d0 d1 d2 d3 d4 d5 y0 y1 y2 y3 y4 y5;obtain⟨⟨d0,d1,d2,d3,d4,d5⟩,y0,y1,y2,y3,y4,y5⟩:=yl hw7;have HW8:=Hd (zG7 hw7 h);have HB8:=Hd (HB7.out.setCell (p:=⟨w3.heap.size,5,none⟩) HS3.out (.string h));clear hb7 hw7)|(go_at_call 77;refine(HFr.out _).mono ?_;rintro e w9⟨rfl,hb9⟩;have hw9:=HW8.out.still hb9;have HB9:=Hd (qT HB8.out hb9);clear d0 d1 d2 d3 d4 d5 y0 y1 y2 y3 y4 y5;have HW9:=Hd hw9;clear hb9 hw9));go_ret2;exact⟨_,_,_,rfl,HW9.out,HS3.out,HB9.out,.inl ⟨rfl,HKp.out.symm⟩,by rw[HKp.out];exact HEnd.out.1,HEnd.out.2⟩|some s,HFr,hform=>obtain⟨hts,u,hu,hup,hun⟩:=hform s rfl;(have e:s=tt:=by rw[←htt,hts];rfl);subst e;obtain⟨hu1,hu2⟩:=xP.1 hup;simp only[Option.isSome_some,Option.getD_some]at HFr⊢;(have hbd:∃h2:QB,(∀(x:World)(b:Nat)(f t:QB),WkAt x b br pre delim f t→Calls prog 66 #[.pointer (some ⟨b,0,none⟩),.string s] x fun e w'=>e= .returned (.string h2)∧Below x.heap.size x w')∧zRA pre s (zGw kp h2):=by rcases hu with e|e;(·subst e;exact⟨yT u,fun x b f t hx=>zGB hx (by omega) hu2,.inr (.inl ⟨u,rfl,hu2,by rw[HKp.out]⟩)⟩);·subst e;obtain⟨h2,k1,k2,k3⟩:=zGu u;exact⟨h2,fun x b f t hx=>zGA hx (by omega) k1,.inr (.inr ⟨u,h2,rfl,hu2,k1,k3,by rw[HKp.out]⟩)⟩);obtain⟨h2,hbd,hbeg⟩:=hbd;have HBd:=Hd hbd;have HBg:=Hd hbeg;clear hbd hbeg hts hu hup hun hu1 hu2 hform htt;by_cases hmx:bLt kp h2;(·(have q1:Op.bytesLess kp.toList h2.toList=true:=by rw[xE];exact decide_eq_true hmx);rw[show zGw kp h2=h2 from if_pos hmx]at HBg;clear hmx;go_enter func62,ntmps62;go_wp2_with(first|(go_at_call 32;refine(HF.out).mono ?_;rintro e w1⟨rfl,hb1⟩;have HB1:=Hd (show Below w.heap.size w (w1.alloc (.cells #[.string abcB,.int .i64 1,.int .u64 0,.bool false,.string ⟨#[]⟩,.int .u64 0] 89))from hb1.alloc hb1.size _);clear hb1)|(go_at_call 26;refine(HR.out _).mono ?_;rintro e w3⟨rfl,hb3⟩;have HB3:=Hd (qT HB1.out hb3);have HW4:=Hd (show WkAt (w3.alloc (.cells #[.pointer (some ⟨br,0,none⟩),.string abcB,.string pre,.string delim,.string ⟨#[]⟩,.string ⟨#[]⟩] 147)) w3.heap.size br pre delim ⟨#[]⟩ ⟨#[]⟩from qH w3 _);have HB4:=Hd (HB3.out.alloc HB3.out.size (.cells #[.pointer (some ⟨br,0,none⟩),.string abcB,.string pre,.string delim,.string ⟨#[]⟩,.string ⟨#[]⟩] 147));have hk5:=HKey.out _ _ HW4.out;obtain⟨⟨d0,d1,d2,d3,d4,d5⟩,y0,y1,y2,y3,y4,y5⟩:=yl HW4.out;have HK5:=Hd hk5;clear hk5 hb3)|(go_at_call 126;refine(HK5.out).mono ?_;rintro e w5⟨rfl,hb5⟩;have hw5:=HW4.out.still hb5;have HB5:=Hd (qT HB4.out hb5);have HW5:=Hd hw5;clear d0 d1 d2 d3 d4 d5 y0 y1 y2 y3 y4 y5;obtain⟨⟨d0,d1,d2,d3,d4,d5⟩,y0,y1,y2,y3,y4,y5⟩:=yl hw5;have HW6:=Hd (zBa hw5 kp);have HS3:=Hd (show w.heap.size≤w3.heap.size from HB3.out.size);have HB6:=Hd (HB5.out.setCell (p:=⟨w3.heap.size,4,none⟩) HB3.out.size (.string kp));clear hb5 hw5)|(go_at_call 110;refine(HBe.out _).mono ?_;rintro e w7⟨rfl,hb7⟩;have hw7:=HW6.out.still hb7;have HB7:=Hd (qT HB6.out hb7);clear d0 d1 d2 d3 d4 d5 y0 y1 y2 y3 y4 y5;obtain⟨⟨d0,d1,d2,d3,d4,d5⟩,y0,y1,y2,y3,y4,y5⟩:=yl hw7;have HW8:=Hd (zG7 hw7 h);have HB8:=Hd (HB7.out.setCell (p:=⟨w3.heap.size,5,none⟩) HS3.out (.string h));clear hb7 hw7)|(go_at_call 77;refine(HFr.out _).mono ?_;rintro e w9⟨rfl,hb9⟩;have hw9:=HW8.out.still hb9;have HB9:=Hd (qT HB8.out hb9);clear d0 d1 d2 d3 d4 d5 y0 y1 y2 y3 y4 y5;have HW9:=Hd hw9;clear hb9 hw9));obtain⟨S,HS⟩:=mkS (Keep (fun _=>False) (w9));have FR:=Hd (fun u(hu:S u)=>have hu:=(HS.out u).1 hu;have o09:=yl (hu.at HW9.out (fun e=>e));o09);refine rgo 9 [tR 0,tR 1,tR 2,tR 3,tR 4,tR 5,tR 6,tD 7,tR 8] HS (Keep.refl _ _).drew ?_;(iterate 7 refine rd1 ?_);refine doH ?_;intro K hK;go_simp;go_at_call 66;refine(HBd.out _ _ _ _ ((Keep.refl (fun _=>False) w9).drew.at HW9.out (fun e=>e))).mono ?_;rintro e w11⟨rfl,hb11⟩;refine hK _ _ ((HS.out _).2 (Keep.ofBelow (show Below w9.heap.size w9 w11 from⟨hb11.os,hb11.tape,hb11.output,hb11.size,hb11.block⟩))) ?_;have HB11:=Hd (show Below w9.heap.size w9 w11 from⟨hb11.os,hb11.tape,hb11.output,hb11.size,hb11.block⟩);clear hK K hb11;refine rd1 ?_;refine zl ?_;clear FR;clear S HS;have hw11:=HW9.out.still HB11.out;obtain⟨⟨d0,d1,d2,d3,d4,d5⟩,y0,y1,y2,y3,y4,y5⟩:=yl hw11;have HW12:=Hd (zBa hw11 h2);have HB12:=Hd ((qT HB9.out HB11.out).setCell (p:=⟨w3.heap.size,4,none⟩) HS3.out (.string h2));exact zUD);·(have q1:Op.bytesLess kp.toList h2.toList=false:=by rw[xE];exact decide_eq_false hmx);rw[show zGw kp h2=kp from if_neg hmx]at HBg;clear hmx;go_enter func62,ntmps62;go_wp2_with(first|(go_at_call 32;refine(HF.out).mono ?_;rintro e w1⟨rfl,hb1⟩;have HB1:=Hd (show Below w.heap.size w (w1.alloc (.cells #[.string abcB,.int .i64 1,.int .u64 0,.bool false,.string ⟨#[]⟩,.int .u64 0] 89))from hb1.alloc hb1.size _);clear hb1)|(go_at_call 26;refine(HR.out _).mono ?_;rintro e w3⟨rfl,hb3⟩;have HB3:=Hd (qT HB1.out hb3);have HW4:=Hd (show WkAt (w3.alloc (.cells #[.pointer (some ⟨br,0,none⟩),.string abcB,.string pre,.string delim,.string ⟨#[]⟩,.string ⟨#[]⟩] 147)) w3.heap.size br pre delim ⟨#[]⟩ ⟨#[]⟩from qH w3 _);have HB4:=Hd (HB3.out.alloc HB3.out.size (.cells #[.pointer (some ⟨br,0,none⟩),.string abcB,.string pre,.string delim,.string ⟨#[]⟩,.string ⟨#[]⟩] 147));have hk5:=HKey.out _ _ HW4.out;obtain⟨⟨d0,d1,d2,d3,d4,d5⟩,y0,y1,y2,y3,y4,y5⟩:=yl HW4.out;have HK5:=Hd hk5;clear hk5 hb3)|(go_at_call 126;refine(HK5.out).mono ?_;rintro e w5⟨rfl,hb5⟩;have hw5:=HW4.out.still hb5;have HB5:=Hd (qT HB4.out hb5);have HW5:=Hd hw5;clear d0 d1 d2 d3 d4 d5 y0 y1 y2 y3 y4 y5;obtain⟨⟨d0,d1,d2,d3,d4,d5⟩,y0,y1,y2,y3,y4,y5⟩:=yl hw5;have HW6:=Hd (zBa hw5 kp);have HS3:=Hd (show w.heap.size≤w3.heap.size from HB3.out.size);have HB6:=Hd (HB5.out.setCell (p:=⟨w3.heap.size,4,none⟩) HB3.out.size (.string kp));clear hb5 hw5)|(go_at_call 110;refine(HBe.out _).mono ?_;rintro e w7⟨rfl,hb7⟩;have hw7:=HW6.out.still hb7;have HB7:=Hd (qT HB6.out hb7);clear d0 d1 d2 d3 d4 d5 y0 y1 y2 y3 y4 y5;obtain⟨⟨d0,d1,d2,d3,d4,d5⟩,y0,y1,y2,y3,y4,y5⟩:=yl hw7;have HW8:=Hd (zG7 hw7 h);have HB8:=Hd (HB7.out.setCell (p:=⟨w3.heap.size,5,none⟩) HS3.out (.string h));clear hb7 hw7)|(go_at_call 77;refine(HFr.out _).mono ?_;rintro e w9⟨rfl,hb9⟩;have hw9:=HW8.out.still hb9;have HB9:=Hd (qT HB8.out hb9);clear d0 d1 d2 d3 d4 d5 y0 y1 y2 y3 y4 y5;have HW9:=Hd hw9;clear hb9 hw9));obtain⟨S,HS⟩:=mkS (Keep (fun _=>False) (w9));have FR:=Hd (fun u(hu:S u)=>have hu:=(HS.out u).1 hu;have o09:=yl (hu.at HW9.out (fun e=>e));o09);refine rgo 9 [tR 0,tR 1,tR 2,tR 3,tR 4,tR 5,tR 6,tD 7,tR 8] HS (Keep.refl _ _).drew ?_;(iterate 7 refine rd1 ?_);refine doH ?_;intro K hK;go_simp;go_at_call 66;refine(HBd.out _ _ _ _ ((Keep.refl (fun _=>False) w9).drew.at HW9.out (fun e=>e))).mono ?_;rintro e w11⟨rfl,hb11⟩;refine hK _ _ ((HS.out _).2 (Keep.ofBelow (show Below w9.heap.size w9 w11 from⟨hb11.os,hb11.tape,hb11.output,hb11.size,hb11.block⟩))) ?_;have HB11:=Hd (show Below w9.heap.size w9 w11 from⟨hb11.os,hb11.tape,hb11.output,hb11.size,hb11.block⟩);clear hK K hb11;refine rd1 ?_;refine zl ?_;clear FR;clear S HS;have hw11:=HW9.out.still HB11.out;obtain⟨⟨d0,d1,d2,d3,d4,d5⟩,y0,y1,y2,y3,y4,y5⟩:=yl hw11;have HW12:=Hd (zBa hw11 kp);have HB12:=Hd ((qT HB9.out HB11.out).setCell (p:=⟨w3.heap.size,4,none⟩) HS3.out (.string kp));exact zUD
section
variable {w : World} {sb : Nat} {s : Sto} {D : Dict} {nz : Nat} {b item : QB}
theorem zJ2(h:StAt w sb s D nz)(hn:nz≤1900)(hb:zK b=true){st bo:Nat}(hlb:look s.X.kvM (zD b)=some (zT st bo))(hst:st<256)(hbo:bo<18446744073709551616)(hi:zP item=true){id born size page:Nat}(hok:Vr.ok ⟨id,false,born,size,page⟩)(hL:xw (xz b item) (x8 b item) 1 s.X.kvM=[Vr.kv b item ⟨id,false,born,size,page⟩]):Calls prog 15 #[.pointer (some ⟨s.br,0,none⟩),.string b,.string item,.int .u64 0] w fun e w'=>e= .returned (.tuple #[.agg (vC b item id false false born size page),.int .i64 0])∧Below w.heap.size w w':=by
 have hb0:Below w.heap.size w (w.alloc (.cells #[.string ⟨#[]⟩,.string ⟨#[]⟩,.int .u64 0,.bool false,.bool false,.int .u64 0,.int .i64 0,.int .i64 0] 38)):=qA
 have hx0:=qH w (.cells #[.string ⟨#[]⟩,.string ⟨#[]⟩,.int .u64 0,.bool false,.bool false,.int .u64 0,.int .i64 0,.int .i64 0] 38)
 have HT:=Hd (zCk (h.still hb0) hn hb hlb hst hbo hi)
 have HG:=Hd (fun(u:World)(hu:Below w.heap.size w u)=>zIM (h.still hu) hn hb hi 1 (Vs:=[⟨id,false,born,size,page⟩]) (fun x hx=>by rw[List.mem_singleton.1 hx];exact hok) hL)
 unfold bkC at*
 unfold vC
 have HB0:=Hd hb0
 have HX0:=Hd hx0
 clear h hb hi hL hb0 hx0 hlb
 go_enter func15,ntmps15
 go_wp2_with(first|(go_at_call 41;refine(HT.out).mono ?_;rintro e w1⟨rfl,hb1⟩;have hx1:=(hb1.block w.heap.size (by simp)).trans HX0.out;have hb1':=qT HB0.out hb1;have hb2:Below w1.heap.size w1 (w1.alloc (.cells #[.string b,.int .i64 st,.int .u64 bo,.bool false,.string ⟨#[]⟩,.int .u64 0] 89)):=qA;have HX2:=Hd (qB hb2 hx1);have HB2:=Hd (qT hb1' hb2);clear hb1 hx1 hb1' hb2)|(go_at_call 47;refine(HG.out _ HB2.out).mono ?_;rintro e w4⟨v,B,rfl,hrow,hB,hb4⟩;have hrow1:w4.ownsRow B 38 8 v 1 (vrV b item [⟨id,false,born,size,page⟩]):=hrow;obtain⟨g,c,rfl,hc1,hc2,hgB⟩:=zH hrow1 (by decide);have k0:w4.cell? ⟨g,0,none⟩=some (.string b):=zC hrow1 0 _ rfl;have k1:w4.cell? ⟨g,1,none⟩=some (.string item):=zC hrow1 1 _ rfl;have k2:w4.cell? ⟨g,2,none⟩=some (.int .u64 id):=zC hrow1 2 _ rfl;have k3:w4.cell? ⟨g,3,none⟩=some (.bool false):=zC hrow1 3 _ rfl;have k4:w4.cell? ⟨g,4,none⟩=some (.bool false):=zC hrow1 4 _ rfl;have k5:w4.cell? ⟨g,5,none⟩=some (.int .u64 born):=zC hrow1 5 _ rfl;have k6:w4.cell? ⟨g,6,none⟩=some (.int .i64 size):=zC hrow1 6 _ rfl;have k7:w4.cell? ⟨g,7,none⟩=some (.int .i64 page):=zC hrow1 7 _ rfl;have hx4:=qB hb4 HX2.out;have HX4:=Hd hx4;have HB4:=Hd (qT HB2.out hb4);obtain⟨⟨d0,d1,d2,d3,d4,d5,d6,d7⟩,y0,y1,y2,y3,y4,y5,y6,y7⟩:=zAV hx4;clear hb4 hx4 hrow hrow1))
 exact zTv
end
theorem zG8{w:World}{br:Nat}{R:RoomS}(h:RoomAt w br R)(hlen:R.T.puts.length<1000000000000)(mark:Int):Calls prog 99 #[.pointer (some ⟨br,0,none⟩),.int .i64 mark] w fun e w'=>e= .returned (.tuple #[])∧∃R',RoomStep br w R w' R'∧R'.T.puts=R.T.puts.take mark.toNat:=by
 obtain⟨⟨c0,c1,c2⟩,_⟩:=yN h.cells
 have H:=Hd (zI9 h.tx hlen mark)
 have HR:=Hd h
 clear h
 go_enter func99,ntmps99
 go_wp2_with(go_at_call 167;refine(H.out).mono ?_;rintro e w1⟨rfl,T',hst,hpp⟩)
 go_end0
 exact⟨rfl,R.turned T',HR.out.step hst,hpp⟩
theorem Cont.same{R R':RoomS}{D:Dict}{kvI kvL:KV}{psI psL bp:List Nat}{X:Rest}(h:Cont R D kvI kvL psI psL bp X)(hp:R'.T.puts=R.T.puts)(hf:R'.T.f=R.T.f)(hm:R'.maps=R.maps)(hpg:R'.pages=R.pages):Cont R' D kvI kvL psI psL bp X:=by
 have hh:R'.home=R.home:=by funext i;unfold RoomS.home TxS.read;rw[hp,hf]
 have h1:∀q,R'.has q=R.has q:=fun q=>by unfold RoomS.has;rw[hh]
 have h2:∀q,R'.text q=R.text q:=fun q=>by unfold RoomS.text;rw[hh,hm]
 have h3:∀k,R'.root k=R.root k:=fun k=>by unfold RoomS.root;rw[hh]
 have hk:∀qs,Kept R R' qs:=fun qs=>⟨fun q _ _ e=>by rw[h1];exact e,fun q _ _=>h2 q,hpg⟩
 refine⟨h.ti.kept (hk _) (h3 _),h.tl.kept (hk _) (h3 _),h.nd,fun q hq hh=> ?_,fun q hq=> ?_,fun i t hi=> ?_,h.gone,h.log,⟨h.out.tm.kept (hk _) (h3 _),fun b hb=>(h.out.bl b hb).kept (hk _),by rw[h3];exact h.out.nx⟩,h.xin,h.xnd⟩
 ·rw[hpg]at hq;rw[h1]at hh;exact h.all q hq hh
 ·rw[hpg,h1];exact h.bh q hq
 ·obtain⟨p1,k1,k2,k3,k4,k5,k6⟩:=h.here i t hi;exact⟨p1,k1,k2,k3.kept (hk _),k4,k5,k6⟩
section
variable {w : World} {sb : Nat} {s : Sto} {D : Dict} {nz : Nat} {b item : QB}
theorem StAt.back(h:StAt w sb s D nz)(hn:nz≤1900):Calls prog 99 #[.pointer (some ⟨s.br,0,none⟩),.int .i64 s.R.T.puts.length] w fun e w'=>e= .returned (.tuple #[])∧∃s',XStep w s D sb nz w' s'∧s'.X=s.X:=by
 have hz:=h.sized
 refine(zG8 h.room (by have:=hz.puts;omega) _).mono ?_
 rintro e w'⟨rfl,R',hst,hpp⟩
 rw[Int.toNat_natCast,List.take_length]at hpp
 have hc:=h.cont.same hpp hst.tx.f hst.maps hst.pages
 have hroot:R'.root 2=s.R.root 2:=by unfold RoomS.root RoomS.home TxS.read;rw[hpp,hst.tx.f]
 have hs:=h.step hst hc (nz':=nz) ⟨hz.i,hz.l,hz.b,hz.m,by rw[hst.pages];exact hz.pages,by rw[hpp];exact hz.puts,by rw[hroot];exact hz.root,hz.bx,hz.v⟩
 exact⟨rfl,_,⟨hs,hst.vsto _ _ _ _ _ _,rfl⟩,rfl⟩
theorem zE7(h:StAt w sb s D nz)(hn:nz≤1900){q:Addr}{x:Int}(he:w.cell? q=some (.int .i64 x))(hx:x≠0)(u:FrameMode):CallsD prog 39 #[.pointer (some ⟨s.br,0,none⟩),.int .i64 s.R.T.puts.length,.pointer (some q)] u w fun e u' w'=>u'=u∧(e= .returned (.tuple #[])∧∃s',XStep w s D sb nz w' s'∧s'.X=s.X):=by
 have HB:=Hd (h.back hn)
 have q1:(x==0)=false:=by simpa using hx
 generalize s.R.T.puts.length=mk at*
 clear h
 go_enter_d func39,ntmps39
 go_wp2_with(go_at_call 99;refine(HB.out).mono ?_;rintro e w1⟨rfl,s',hx1,hx2⟩)
 go_end0
 exact⟨rfl,s',hx1,hx2⟩
end
theorem zAx{w:World}{k:Nat}{o o':Obj}(h:w.heap[k]? =some o'):(w.alloc o).heap[k]? =some o':=(Below.heap_alloc _ _ _ (Gl h)).trans h
section
variable {w : World} {sb : Nat} {s : Sto} {D : Dict} {nz : Nat} {b item : QB}
theorem zUH{p:Prop}(h:p:=by refine⟨.tuple #[.agg #[.string ⟨#[]⟩,.string ⟨#[]⟩,.int .u64 0,.bool false,.bool false,.int .u64 0,.int .i64 0,.int .i64 0],.int .i64 28],?_,rfl,s',hx9.after hb8,hX9⟩;simp[asAddr,l1,Result.andThen];simp[go_sem,e99]):p:=h
theorem zNm(h:StAt w sb s D nz)(hn:nz≤1900)(hb:zK b=true){bo:Nat}(hlb:look s.X.kvM (zD b)=some (zT 1 bo))(hbo:bo<18446744073709551616)(hi:zP item=false)(v now:Value):Calls prog 13 #[.pointer (some ⟨s.br,0,none⟩),.pointer (some ⟨sb,0,none⟩),.string b,.string item,v,now] w fun e w'=>∃s':Sto,e= .returned (.tuple #[.agg #[.string ⟨#[]⟩,.string ⟨#[]⟩,.int .u64 0,.bool false,.bool false,.int .u64 0,.int .i64 0,.int .i64 0],.int .i64 28])∧XStep w s D sb nz w' s'∧s'.X=s.X:=by
 have HM:=Hd (fun(u:World)(hu:Below w.heap.size w u)=>xN (h.still hu).room)
 have HT:=Hd (fun(u:World)(hu:Below w.heap.size w u)=>zDE (h.still hu) hn hb hlb (by decide) hbo hi)
 have HU:=Hd (fun(u:World)(q:Addr)(um:FrameMode)(hu:Below w.heap.size w u)(he:u.cell? q=some (.int .i64 28))=>zE7 (h.still hu) hn he (by decide) um)
 have HSt:=Hd h
 have HAh:=Hd h.ahead
 obtain⟨mk,hmk⟩:=qN s.R.T.puts.length
 rw[hmk]at HM HU
 unfold bkZ at HT
 clear hb hlb hi hmk h
 go_enter_defers func13,ntmps13
 go_wp2_with(fail)
 have hv2:=qH w (.cells #[.string ⟨#[]⟩,.string ⟨#[]⟩,.int .u64 0,.bool false,.bool false,.int .u64 0,.int .i64 0,.int .i64 0] 38)
 have hb1:Below w.heap.size w (w.alloc (.cells #[.string ⟨#[]⟩,.string ⟨#[]⟩,.int .u64 0,.bool false,.bool false,.int .u64 0,.int .i64 0,.int .i64 0] 38)):=qA
 have hs1:=World.size_alloc w (.cells #[.string ⟨#[]⟩,.string ⟨#[]⟩,.int .u64 0,.bool false,.bool false,.int .u64 0,.int .i64 0,.int .i64 0] 38)
 obtain⟨w1,hw1⟩:=qN (w.alloc (.cells #[.string ⟨#[]⟩,.string ⟨#[]⟩,.int .u64 0,.bool false,.bool false,.int .u64 0,.int .i64 0,.int .i64 0] 38))
 rw[hw1]at hv2 hb1 hs1⊢
 have hb2:=hb1.alloc hb1.size (.cells #[.int .i64 0] 29)
 have he2:=qH w1 (.cells #[.int .i64 0] 29)
 rw[hs1]at he2
 have hv3:(w1.alloc (.cells #[.int .i64 0] 29)).heap[w.heap.size]? =_:=(Below.heap_alloc _ _ _ (by omega)).trans hv2
 obtain⟨w2,hw2⟩:=qN (w1.alloc (.cells #[.int .i64 0] 29))
 rw[hw2]at hb2 he2 hv3⊢
 have HB2:=Hd hb2
 have HE2:=Hd he2
 have HV2:=Hd hv3
 clear hv2 hb1 hs1 hw1 hb2 he2 hv3 hw2
 obtain⟨vb,hvb⟩:=qN w.heap.size
 have HVb:=Hd hvb
 rw[hvb]at HE2 HV2⊢
 clear hvb
 refine(HM.out _ HB2.out).mono ?_
 rintro e _⟨rfl,rfl⟩
 go_wp2_with(fail)
 refine(HT.out _ HB2.out).mono ?_
 rintro e w3⟨rfl,hb3⟩
 have hb3':=qT HB2.out hb3
 have he3:=qB hb3 HE2.out
 have hv3:=qB hb3 HV2.out
 have HB3:=Hd hb3'
 have HE3:=Hd he3
 have HV3:=Hd hv3
 have he4:=zAx (o:=.cells #[.string ⟨#[]⟩,.int .i64 0,.int .u64 0,.bool false,.string ⟨#[]⟩,.int .u64 0] 89) he3
 have hv4:=zAx (o:=.cells #[.string ⟨#[]⟩,.int .i64 0,.int .u64 0,.bool false,.string ⟨#[]⟩,.int .u64 0] 89) hv3
 have ez4:(w3.alloc (.cells #[.string ⟨#[]⟩,.int .i64 0,.int .u64 0,.bool false,.string ⟨#[]⟩,.int .u64 0] 89)).cell? ⟨vb+1,0,none⟩=some (.int .i64 0):=Qc he4 0
 have yz4:(w3.alloc (.cells #[.string ⟨#[]⟩,.int .i64 0,.int .u64 0,.bool false,.string ⟨#[]⟩,.int .u64 0] 89)).frozen? ⟨vb+1,0,none⟩=false:=zM he4
 obtain⟨⟨d0,d1,d2,d3,d4,d5,d6,d7⟩,y0,y1,y2,y3,y4,y5,y6,y7⟩:=zAV hv4
 have hb4:=hb3'.alloc hb3'.size (.cells #[.string ⟨#[]⟩,.int .i64 0,.int .u64 0,.bool false,.string ⟨#[]⟩,.int .u64 0] 89)
 have HB4:=Hd hb4
 have HE4:=Hd he4
 have HV4:=Hd hv4
 clear hb3 hb3' he3 hv3 he4 hv4 hb4
 go_wp2_with(fail)
 clear ez4 yz4 d0 d1 d2 d3 d4 d5 d6 d7 y0 y1 y2 y3 y4 y5 y6 y7
 have hk5:Keep (fun k=>k=vb+1) (w3.alloc (.cells #[.string ⟨#[]⟩,.int .i64 0,.int .u64 0,.bool false,.string ⟨#[]⟩,.int .u64 0] 89)) ((w3.alloc (.cells #[.string ⟨#[]⟩,.int .i64 0,.int .u64 0,.bool false,.string ⟨#[]⟩,.int .u64 0] 89)).setCell ⟨vb+1,0,none⟩ (.int .i64 28)):=(Keep.refl (fun k=>k=vb+1) _).setCell (p:=⟨vb+1,0,none⟩) (fun _=>rfl) _
 have he5:=heap_setCell_same _ (vb+1) 0 _ _ (.int .i64 28) HE4.out
 have hv5:=hk5.at HV4.out (fun e=>by omega)
 have hb5:=HB4.out.setCell (p:=⟨vb+1,0,none⟩) (by exact zLZ) (.int .i64 28)
 obtain⟨w5,hw5⟩:=qN ((w3.alloc (.cells #[.string ⟨#[]⟩,.int .i64 0,.int .u64 0,.bool false,.string ⟨#[]⟩,.int .u64 0] 89)).setCell ⟨vb+1,0,none⟩ (.int .i64 28))
 rw[hw5]at he5 hv5 hb5⊢
 have HE5:=Hd he5
 have HV5:=Hd hv5
 have HB5:=Hd hb5
 clear hk5 he5 hv5 hb5 hw5
 obtain⟨S,HS⟩:=mkS (Keep (fun q=>q=vb) (w5))
 have FR:=Hd (fun u(hu:S u)=>have hu:=(HS.out u).1 hu;have e5:u.cell? ⟨vb+1,0,none⟩=some (.int .i64 28):=(Qc (hu.at HE5.out (fun e=>by omega)) 0);e5)
 refine rgo 3 [tR 0,tR 1,tD 2] HS (Keep.refl _ _).drew ?_
 iterate 2 refine rd1 ?_
 refine doH ?_
 intro K hK
 obtain⟨⟨d0,d1,d2,d3,d4,d5,d6,d7⟩,y0,y1,y2,y3,y4,y5,y6,y7⟩:=zAV HV5.out
 go_simp
 have hk6:=xO w5 vb (.string ⟨#[]⟩) (.string ⟨#[]⟩) (.int .u64 0) (.bool false) (.bool false) (.int .u64 0) (.int .i64 0) (.int .i64 0)
 have hv6:=yV HV5.out (.string ⟨#[]⟩) (.string ⟨#[]⟩) (.int .u64 0) (.bool false) (.bool false) (.int .u64 0) (.int .i64 0) (.int .i64 0)
 unfold zBe at hk6 hv6
 have HK6:=Hd hk6
 have HV6:=Hd hv6
 have ka:Keep (fun q=>q=vb) w5 ((((((((w5.setCell ⟨vb,0,none⟩ (.string ⟨#[]⟩)).setCell ⟨vb,1,none⟩ (.string ⟨#[]⟩)).setCell ⟨vb,2,none⟩ (.int .u64 0)).setCell ⟨vb,3,none⟩ (.bool false)).setCell ⟨vb,4,none⟩ (.bool false)).setCell ⟨vb,5,none⟩ (.int .u64 0)).setCell ⟨vb,6,none⟩ (.int .i64 0)).setCell ⟨vb,7,none⟩ (.int .i64 0)).drew:=hk6.drew
 refine hK _ _ ((HS.out _).2 ka) ?_
 clear hK K d0 d1 d2 d3 d4 d5 d6 d7 y0 y1 y2 y3 y4 y5 y6 y7 hk6 hv6 ka
 refine zl ?_
 clear FR
 clear S HS
 obtain⟨w6,hw6⟩:=qN ((((((((w5.setCell ⟨vb,0,none⟩ (.string ⟨#[]⟩)).setCell ⟨vb,1,none⟩ (.string ⟨#[]⟩)).setCell ⟨vb,2,none⟩ (.int .u64 0)).setCell ⟨vb,3,none⟩ (.bool false)).setCell ⟨vb,4,none⟩ (.bool false)).setCell ⟨vb,5,none⟩ (.int .u64 0)).setCell ⟨vb,6,none⟩ (.int .i64 0)).setCell ⟨vb,7,none⟩ (.int .i64 0))
 have hv6:=HV6.out
 have hk6:=HK6.out
 rw[hw6]at hv6 hk6⊢
 have he6:=hk6.at HE5.out (fun e=>by omega)
 have hb6:=HB5.out.trans (hk6.below (B:=w.heap.size) HB5.out.size (fun k hk e=>by have:=HVb.out;omega))
 have HV7:=Hd (show w6.drew.heap[vb]? =_ from hv6)
 have HE7:=Hd (show w6.drew.heap[vb+1]? =_ from he6)
 have HB7:=Hd (hb6.drew)
 obtain⟨w7,hw7⟩:=qN w6.drew
 rw[hw7]at HV7 HE7 HB7⊢
 clear hv6 hk6 he6 hb6 hw6 hw7 HV6 HK6
 have ez7:w7.cell? ⟨vb+1,0,none⟩=some (.int .i64 28):=Qc HE7.out 0
 have yz7:w7.frozen? ⟨vb+1,0,none⟩=false:=zM HE7.out
 go_wp2_with(fail)
 have hk8:Keep (fun k=>k=vb+1) w7 (w7.setCell ⟨vb+1,0,none⟩ (.int .i64 28)):=(Keep.refl (fun k=>k=vb+1) _).setCell (p:=⟨vb+1,0,none⟩) (fun _=>rfl) _
 have he8:=heap_setCell_same _ (vb+1) 0 _ _ (.int .i64 28) HE7.out
 have hv8:=hk8.at HV7.out (fun e=>by omega)
 have hb8:=HB7.out.setCell (p:=⟨vb+1,0,none⟩) (by exact zLZ) (.int .i64 28)
 obtain⟨w8,hw8⟩:=qN (w7.setCell ⟨vb+1,0,none⟩ (.int .i64 28))
 rw[hw8]at he8 hv8 hb8⊢
 have e8:w8.cell? ⟨vb+1,0,none⟩=some (.int .i64 28):=Qc he8 0
 clear hk8 hw8 ez7 yz7
 refine leaves_cons (f:=39) (args:= #[.pointer (some ⟨s.br,0,none⟩),.int .i64 mk,.pointer (some ⟨vb+1,0,none⟩)]) (by simp) (by simp[go_sem]) ?_
 refine(HU.out _ _ _ hb8 e8).mono ?_
 rintro e u' w9⟨rfl,rfl,s',hx9,hX9⟩
 have hn:∀k,vb≤k→¬s.foot k:=fun k hk e=>by have:=HAh.out.2.2.2 k e;have:=HVb.out;omega
 have hv9:=hx9.step.keep.at hv8 (hn _ (Qn _))
 have he9:=hx9.step.keep.at he8 (hn _ (by omega))
 have e99:w9.cell? ⟨vb+1,0,none⟩=some (.int .i64 28):=Qc he9 0
 have l1:=run_loadVar_row w9 vb 38 38 _ (0,0) _ hv9 underlying38 rfl (by kernel_rfl)
 simp[Leaves,settle,results,results13]
 exact zUH
end
section
variable {w : World} {sb : Nat} {s : Sto} {D : Dict} {nz : Nat} {b item : QB}
theorem zNn(h:StAt w sb s D nz)(hn:nz≤1900)(hb:zK b=true){bo:Nat}(hlb:look s.X.kvM (zD b)=some (zT 1 bo))(hbo:bo<18446744073709551616)(hi:zP item=false)(now:Value):Calls prog 14 #[.pointer (some ⟨s.br,0,none⟩),.pointer (some ⟨sb,0,none⟩),.string b,.string item,now] w fun e w'=>∃s':Sto,e= .returned (.tuple #[.agg #[.string ⟨#[]⟩,.string ⟨#[]⟩,.int .u64 0,.bool false,.bool false,.int .u64 0,.int .i64 0,.int .i64 0],.int .i64 28])∧XStep w s D sb nz w' s'∧s'.X=s.X:=by
 have HM:=Hd (fun(u:World)(hu:Below w.heap.size w u)=>xN (h.still hu).room)
 have HT:=Hd (fun(u:World)(hu:Below w.heap.size w u)=>zDE (h.still hu) hn hb hlb (by decide) hbo hi)
 have HU:=Hd (fun(u:World)(q:Addr)(um:FrameMode)(hu:Below w.heap.size w u)(he:u.cell? q=some (.int .i64 28))=>zE7 (h.still hu) hn he (by decide) um)
 have HSt:=Hd h
 have HAh:=Hd h.ahead
 obtain⟨mk,hmk⟩:=qN s.R.T.puts.length
 rw[hmk]at HM HU
 unfold bkZ at HT
 clear hb hlb hi hmk h
 go_enter_defers func14,ntmps14
 go_wp2_with(fail)
 have hv2:=qH w (.cells #[.string ⟨#[]⟩,.string ⟨#[]⟩,.int .u64 0,.bool false,.bool false,.int .u64 0,.int .i64 0,.int .i64 0] 38)
 have hb1:Below w.heap.size w (w.alloc (.cells #[.string ⟨#[]⟩,.string ⟨#[]⟩,.int .u64 0,.bool false,.bool false,.int .u64 0,.int .i64 0,.int .i64 0] 38)):=qA
 have hs1:=World.size_alloc w (.cells #[.string ⟨#[]⟩,.string ⟨#[]⟩,.int .u64 0,.bool false,.bool false,.int .u64 0,.int .i64 0,.int .i64 0] 38)
 obtain⟨w1,hw1⟩:=qN (w.alloc (.cells #[.string ⟨#[]⟩,.string ⟨#[]⟩,.int .u64 0,.bool false,.bool false,.int .u64 0,.int .i64 0,.int .i64 0] 38))
 rw[hw1]at hv2 hb1 hs1⊢
 have hb2:=hb1.alloc hb1.size (.cells #[.int .i64 0] 29)
 have he2:=qH w1 (.cells #[.int .i64 0] 29)
 rw[hs1]at he2
 have hv3:(w1.alloc (.cells #[.int .i64 0] 29)).heap[w.heap.size]? =_:=(Below.heap_alloc _ _ _ (by omega)).trans hv2
 obtain⟨w2,hw2⟩:=qN (w1.alloc (.cells #[.int .i64 0] 29))
 rw[hw2]at hb2 he2 hv3⊢
 have HB2:=Hd hb2
 have HE2:=Hd he2
 have HV2:=Hd hv3
 clear hv2 hb1 hs1 hw1 hb2 he2 hv3 hw2
 obtain⟨vb,hvb⟩:=qN w.heap.size
 have HVb:=Hd hvb
 rw[hvb]at HE2 HV2⊢
 clear hvb
 refine(HM.out _ HB2.out).mono ?_
 rintro e _⟨rfl,rfl⟩
 go_wp2_with(fail)
 refine(HT.out _ HB2.out).mono ?_
 rintro e w3⟨rfl,hb3⟩
 have hb3':=qT HB2.out hb3
 have he3:=qB hb3 HE2.out
 have hv3:=qB hb3 HV2.out
 have HB3:=Hd hb3'
 have HE3:=Hd he3
 have HV3:=Hd hv3
 have he4:=zAx (o:=.cells #[.string ⟨#[]⟩,.int .i64 0,.int .u64 0,.bool false,.string ⟨#[]⟩,.int .u64 0] 89) he3
 have hv4:=zAx (o:=.cells #[.string ⟨#[]⟩,.int .i64 0,.int .u64 0,.bool false,.string ⟨#[]⟩,.int .u64 0] 89) hv3
 have ez4:(w3.alloc (.cells #[.string ⟨#[]⟩,.int .i64 0,.int .u64 0,.bool false,.string ⟨#[]⟩,.int .u64 0] 89)).cell? ⟨vb+1,0,none⟩=some (.int .i64 0):=Qc he4 0
 have yz4:(w3.alloc (.cells #[.string ⟨#[]⟩,.int .i64 0,.int .u64 0,.bool false,.string ⟨#[]⟩,.int .u64 0] 89)).frozen? ⟨vb+1,0,none⟩=false:=zM he4
 obtain⟨⟨d0,d1,d2,d3,d4,d5,d6,d7⟩,y0,y1,y2,y3,y4,y5,y6,y7⟩:=zAV hv4
 have hb4:=hb3'.alloc hb3'.size (.cells #[.string ⟨#[]⟩,.int .i64 0,.int .u64 0,.bool false,.string ⟨#[]⟩,.int .u64 0] 89)
 have HB4:=Hd hb4
 have HE4:=Hd he4
 have HV4:=Hd hv4
 clear hb3 hb3' he3 hv3 he4 hv4 hb4
 go_wp2_with(fail)
 clear ez4 yz4 d0 d1 d2 d3 d4 d5 d6 d7 y0 y1 y2 y3 y4 y5 y6 y7
 have hk5:Keep (fun k=>k=vb+1) (w3.alloc (.cells #[.string ⟨#[]⟩,.int .i64 0,.int .u64 0,.bool false,.string ⟨#[]⟩,.int .u64 0] 89)) ((w3.alloc (.cells #[.string ⟨#[]⟩,.int .i64 0,.int .u64 0,.bool false,.string ⟨#[]⟩,.int .u64 0] 89)).setCell ⟨vb+1,0,none⟩ (.int .i64 28)):=(Keep.refl (fun k=>k=vb+1) _).setCell (p:=⟨vb+1,0,none⟩) (fun _=>rfl) _
 have he5:=heap_setCell_same _ (vb+1) 0 _ _ (.int .i64 28) HE4.out
 have hv5:=hk5.at HV4.out (fun e=>by omega)
 have hb5:=HB4.out.setCell (p:=⟨vb+1,0,none⟩) (by exact zLZ) (.int .i64 28)
 obtain⟨w5,hw5⟩:=qN ((w3.alloc (.cells #[.string ⟨#[]⟩,.int .i64 0,.int .u64 0,.bool false,.string ⟨#[]⟩,.int .u64 0] 89)).setCell ⟨vb+1,0,none⟩ (.int .i64 28))
 rw[hw5]at he5 hv5 hb5⊢
 have HE5:=Hd he5
 have HV5:=Hd hv5
 have HB5:=Hd hb5
 clear hk5 he5 hv5 hb5 hw5
 obtain⟨S,HS⟩:=mkS (Keep (fun q=>q=vb) (w5))
 have FR:=Hd (fun u(hu:S u)=>have hu:=(HS.out u).1 hu;have e5:u.cell? ⟨vb+1,0,none⟩=some (.int .i64 28):=(Qc (hu.at HE5.out (fun e=>by omega)) 0);e5)
 refine rgo 3 [tR 0,tR 1,tD 2] HS (Keep.refl _ _).drew ?_
 iterate 2 refine rd1 ?_
 refine doH ?_
 intro K hK
 obtain⟨⟨d0,d1,d2,d3,d4,d5,d6,d7⟩,y0,y1,y2,y3,y4,y5,y6,y7⟩:=zAV HV5.out
 go_simp
 have hk6:=xO w5 vb (.string ⟨#[]⟩) (.string ⟨#[]⟩) (.int .u64 0) (.bool false) (.bool false) (.int .u64 0) (.int .i64 0) (.int .i64 0)
 have hv6:=yV HV5.out (.string ⟨#[]⟩) (.string ⟨#[]⟩) (.int .u64 0) (.bool false) (.bool false) (.int .u64 0) (.int .i64 0) (.int .i64 0)
 unfold zBe at hk6 hv6
 have HK6:=Hd hk6
 have HV6:=Hd hv6
 have ka:Keep (fun q=>q=vb) w5 ((((((((w5.setCell ⟨vb,0,none⟩ (.string ⟨#[]⟩)).setCell ⟨vb,1,none⟩ (.string ⟨#[]⟩)).setCell ⟨vb,2,none⟩ (.int .u64 0)).setCell ⟨vb,3,none⟩ (.bool false)).setCell ⟨vb,4,none⟩ (.bool false)).setCell ⟨vb,5,none⟩ (.int .u64 0)).setCell ⟨vb,6,none⟩ (.int .i64 0)).setCell ⟨vb,7,none⟩ (.int .i64 0)).drew:=hk6.drew
 refine hK _ _ ((HS.out _).2 ka) ?_
 clear hK K d0 d1 d2 d3 d4 d5 d6 d7 y0 y1 y2 y3 y4 y5 y6 y7 hk6 hv6 ka
 refine zl ?_
 clear FR
 clear S HS
 obtain⟨w6,hw6⟩:=qN ((((((((w5.setCell ⟨vb,0,none⟩ (.string ⟨#[]⟩)).setCell ⟨vb,1,none⟩ (.string ⟨#[]⟩)).setCell ⟨vb,2,none⟩ (.int .u64 0)).setCell ⟨vb,3,none⟩ (.bool false)).setCell ⟨vb,4,none⟩ (.bool false)).setCell ⟨vb,5,none⟩ (.int .u64 0)).setCell ⟨vb,6,none⟩ (.int .i64 0)).setCell ⟨vb,7,none⟩ (.int .i64 0))
 have hv6:=HV6.out
 have hk6:=HK6.out
 rw[hw6]at hv6 hk6⊢
 have he6:=hk6.at HE5.out (fun e=>by omega)
 have hb6:=HB5.out.trans (hk6.below (B:=w.heap.size) HB5.out.size (fun k hk e=>by have:=HVb.out;omega))
 have HV7:=Hd (show w6.drew.heap[vb]? =_ from hv6)
 have HE7:=Hd (show w6.drew.heap[vb+1]? =_ from he6)
 have HB7:=Hd (hb6.drew)
 obtain⟨w7,hw7⟩:=qN w6.drew
 rw[hw7]at HV7 HE7 HB7⊢
 clear hv6 hk6 he6 hb6 hw6 hw7 HV6 HK6
 have ez7:w7.cell? ⟨vb+1,0,none⟩=some (.int .i64 28):=Qc HE7.out 0
 have yz7:w7.frozen? ⟨vb+1,0,none⟩=false:=zM HE7.out
 go_wp2_with(fail)
 have hk8:Keep (fun k=>k=vb+1) w7 (w7.setCell ⟨vb+1,0,none⟩ (.int .i64 28)):=(Keep.refl (fun k=>k=vb+1) _).setCell (p:=⟨vb+1,0,none⟩) (fun _=>rfl) _
 have he8:=heap_setCell_same _ (vb+1) 0 _ _ (.int .i64 28) HE7.out
 have hv8:=hk8.at HV7.out (fun e=>by omega)
 have hb8:=HB7.out.setCell (p:=⟨vb+1,0,none⟩) (by exact zLZ) (.int .i64 28)
 obtain⟨w8,hw8⟩:=qN (w7.setCell ⟨vb+1,0,none⟩ (.int .i64 28))
 rw[hw8]at he8 hv8 hb8⊢
 have e8:w8.cell? ⟨vb+1,0,none⟩=some (.int .i64 28):=Qc he8 0
 clear hk8 hw8 ez7 yz7
 refine leaves_cons (f:=39) (args:= #[.pointer (some ⟨s.br,0,none⟩),.int .i64 mk,.pointer (some ⟨vb+1,0,none⟩)]) (by simp) (by simp[go_sem]) ?_
 refine(HU.out _ _ _ hb8 e8).mono ?_
 rintro e u' w9⟨rfl,rfl,s',hx9,hX9⟩
 have hn:∀k,vb≤k→¬s.foot k:=fun k hk e=>by have:=HAh.out.2.2.2 k e;have:=HVb.out;omega
 have hv9:=hx9.step.keep.at hv8 (hn _ (Qn _))
 have he9:=hx9.step.keep.at he8 (hn _ (by omega))
 have e99:w9.cell? ⟨vb+1,0,none⟩=some (.int .i64 28):=Qc he9 0
 have l1:=run_loadVar_row w9 vb 38 38 _ (0,0) _ hv9 underlying38 rfl (by kernel_rfl)
 simp[Leaves,settle,results,results14]
 exact zUH
end
structure DocAt(w:World)(s:Sto)(v:Value)(L:List It):Prop where
 ex:∃its,BksAt w v [⟨abcB,1,0,its⟩]∧ItsAt w its L∧∀g,its.ownBlock=some g→¬s.foot g
 voff:∀g,v.ownBlock=some g→¬s.foot g
 off:∀it∈L,∀g,it.val.ownBlock=some g→¬s.foot g
section
variable {w w' : World} {sb nz : Nat} {D : Dict} {s s' : Sto} {vm : Value} {L : List It}
theorem DocAt.still(h:DocAt w s vm L)(hb:Below w.heap.size w w'):DocAt w' s vm L:=by
 obtain⟨its,h1,h2,h3⟩:=h.ex
 exact⟨⟨its,BksAt.still h1 hb,h2.still hb,h3⟩,h.voff,h.off⟩
theorem DocAt.v(h:DocAt w s vm L)(hv:VStep w s w' s'):DocAt w' s' vm L:=by
 obtain⟨its,h1,h2,h3⟩:=h.ex
 have a1:w.ownsRow 0 153 8 vm 1 (bkV [⟨abcB,1,0,its⟩]):=h1
 have a2:=h2.row
 have a3:∀it∈L,w.ownsRow 0 135 5 it.val it.vs.length (vdV it.vs):=h2.vs
 have off:∀g,¬s.foot g→g<w.heap.size→¬s'.foot g:=fun g h4 h5 e=>(hv.foot g e).elim h4 (fun e2=>by omega)
 exact⟨⟨its,hv.keep.ownsRow a1 h.voff,⟨hv.keep.ownsRow a2 h3,fun it hi=>hv.keep.ownsRow (a3 it hi) (h.off it hi)⟩,fun g e=>off g (h3 g e) (a2.lt g e).2⟩,fun g e=>off g (h.voff g e) (a1.lt g e).2,fun it hi g e=>off g (h.off it hi g e) ((a3 it hi).lt g e).2⟩
theorem DocAt.box(h:DocAt w s vm L){g T:Nat}{cs:Array Value}{fr:Nat×Nat}(hb:w.heap[g]? =some (.cells cs T fr))(h1:T≠153)(h2:T≠156)(h3:T≠135)(hk:Keep (fun q=>q=g) w w'):DocAt w' s vm L:=by
 obtain⟨its,a1,a2,a3⟩:=h.ex
 exact⟨⟨its,BksAt.aside a1 hb h1 hk,a2.aside hb h2 h3 hk,a3⟩,h.voff,h.off⟩
theorem DocAt.put(h:DocAt w s vm L)(hs:StAt w sb s D nz)(hr:L.Pairwise (fun a b=>bLt a.key b.key)){v' its':Value}{n:It}(hb:BksAt w' v' [⟨abcB,1,0,its'⟩])(hi:ItsAt w' its' (goL n false L))(f1:∀g,its'.ownBlock=some g→w.heap.size≤g)(f2:∀g,n.val.ownBlock=some g→w.heap.size≤g)(f3:∀g,v'.ownBlock=some g→w.heap.size≤g):DocAt w' s v' (yE L n):=by
 have hf:∀g,w.heap.size≤g→¬s.foot g:=fun g hg e=>by have:=hs.ahead.2.2.2 g e;omega
 rw[zPR hr]at hi
 refine⟨⟨its',hb,hi,fun g e=>hf g (f1 g e)⟩,fun g e=>hf g (f3 g e),fun it hit g e=> ?_⟩
 rcases vx hit with e2|e2
 ·rw[e2]at e;exact hf g (f2 g e)
 ·exact h.off it e2 g e
theorem Held.box{W0:World}{P br g T:Nat}{cs:Array Value}{fr:Nat×Nat}(h:Held W0 P br w sb s D nz)(hx:Beside w s g (.cells cs T fr))(h1:T≠173)(h2:T≠242)(hk:Keep (fun q=>q=g) w w')(hg:W0.heap.size≤g):Held W0 P br w' sb s D nz:=by
 have e1:∀{k T2:Nat}{cs2:Array Value},w.heap[k]? =some (.cells cs2 T2 (0,0))→T≠T2→¬k=g:=fun{k T2 cs2}a1 a2 a3=>by rw[a3,hx.at_]at a1;have a4:=Option.some.inj a1;injection a4 with _ a5;exact a2 a5
 exact⟨h.st.keep hk (e1 h.st.cells h1) (e1 h.st.ti.cells h2) (e1 h.st.tl.cells h2) (fun k e e2=>hx.off (e2▸e)),h.foot,h.below.trans (hk.below h.below.size (fun i hi e=>by omega)),h.pg,h.br_⟩
end
def ThingsAt(w:World)(B:Nat)(v:Value)(T:List Thing):Prop:=∃a b off cap,v= .slice a T.length cap∧(0<T.length→a=some ⟨b,off,none⟩∧b<B)∧∀(k:Nat)t,T[k]? =some t→w.cell? ⟨b,off+k*2,none⟩=some (.string t.1)∧w.cell? ⟨b,off+k*2+1,none⟩=some (.bool t.2)
structure MadeI(W0:World)(br sb mb rb:Nat)(T:List Thing)(j:Nat)(wr:World)(s:Sto)(D:Dict)(nz n:Nat)(L:List It)(vm:Value):Prop where
 held:Held W0 29991 br wr sb s D nz
 kv:s.X.kvM=vT L
 nx:s.X.next=n
 made:Made T j L n
 doc:DocAt wr s vm L
 box:Beside wr s mb (.cells #[vm,.int .u64 (n+1:Nat)] 53)
 res:Beside wr s rb (.cells #[.slice none 0 0,.int .u64 0] 53)
 few:nz≤2+13*j
 kvI:s.kvI.length≤4*j
theorem zNo(x:QB):ins (ins [] (zD abcB) x) (zD abcB) (zT 1 0)=vT []:=by
 kernel_rfl
theorem zCq{n:Nat}{L:List It}(h:ItsOk n L)(k:QB):(zZ L k).length≤1000:=by
 cases ho:zZ L k with|nil=>simp|cons v r=>obtain⟨it,h1,h2,h3⟩:=zF1 (L:=L) (k:=k) (v:=v) (by rw[ho];simp);rw[←ho,←h3];have hO:=h.one it h1;have hn:=h.few;clear ho h2 h3 h1;(have:∀(l:List Vd)(m:Nat),l.Pairwise (fun a b=>b.id<a.id)→(∀v∈l,v.id≤m)→l.length≤m+1:=by intro l;induction l with|nil=>intro m _ _;simp|cons a t ih=>intro m hp ht;obtain⟨p1,p2⟩:=List.pairwise_cons.1 hp;cases t with|nil=>simp|cons b t2=>have:=p1 b (by simp);have hm:=ht a (by simp);have:=ih (m-1) p2 (fun v hv=>by have:=p1 v hv;omega);have e:(a::b::t2).length=(b::t2).length+1:=rfl;omega);have:=this it.vs n hO.falls (fun v hv=>(hO.top v hv).2);omega
def zUI(it:It):Array Value:= #[.string it.key,.int .u64 it.head.id,.int .i64 it.head.body.size,.int .u64 it.head.born]
def zUJ:Array Value:= #[.string ⟨#[]⟩,.int .u64 0,.int .i64 0,.int .u64 0]
theorem Vd.kv_vr(k:QB)(v:Vd):v.kv k=Vr.kv abcB k ⟨v.id,v.gone,v.born,v.body.size,v.page⟩:=rfl
section
variable {w : World} {sb nz n : Nat} {s : Sto} {D : Dict} {L : List It} {it : It}
theorem zGH(hkv:s.X.kvM=vT L)(hL:ItsOk n L)(hm:it∈L):look s.X.kvM (zD abcB)=some (zT 1 0)∧zP it.key=true∧(∀g,Vr.ok ⟨it.head.id,g,it.head.born,it.head.body.size,it.head.page⟩)∧xw (xz abcB it.key) (x8 abcB it.key) 1 s.X.kvM=[Vr.kv abcB it.key ⟨it.head.id,it.head.gone,it.head.born,it.head.body.size,it.head.page⟩]:=by
 have ho:=hL.one it hm
 obtain⟨hv,_⟩:=zD4 ho
 obtain⟨o1,o2,o3⟩:=ho.ok _ hv
 have ot:=ho.top _ hv
 have hfw:=hL.few
 have hsc:=zLm hL hm
 rw[←hkv,Vd.kv_vr]at hsc
 exact⟨by rw[hkv];exact kP L,ho.key,fun g=>⟨by show it.head.id<_;omega,by show it.head.born<_;omega,by show it.head.body.size<_;omega,by show it.head.page<_;omega⟩,hsc⟩
theorem zCA(h:StAt w sb s D nz)(hn:nz≤1900)(hkv:s.X.kvM=vT L)(hL:ItsOk n L)(hm:it∈L)(hg:it.head.gone=false):Calls prog 15 #[.pointer (some ⟨s.br,0,none⟩),.string abcB,.string it.key,.int .u64 0] w fun e w'=>e= .returned (.tuple #[.agg #[.string abcB,.string it.key,.int .u64 it.head.id,.bool false,.bool false,.int .u64 it.head.born,.int .i64 it.head.body.size,.int .i64 it.head.page],.int .i64 0])∧Below w.heap.size w w':=by
 obtain⟨h1,h2,h3,h4⟩:=zGH hkv hL hm
 rw[hg]at h4
 exact zJ2 h hn yt h1 (by decide) (by decide) h2 (h3 false) h4
theorem zE8(h:StAt w sb s D nz)(hn:nz≤1900)(hkv:s.X.kvM=vT L)(hL:ItsOk n L)(hm:it∈L)(hg:it.head.gone=true):Calls prog 15 #[.pointer (some ⟨s.br,0,none⟩),.string abcB,.string it.key,.int .u64 0] w fun e w'=>e= .returned (.tuple #[.agg #[.string ⟨#[]⟩,.string ⟨#[]⟩,.int .u64 0,.bool false,.bool false,.int .u64 0,.int .i64 0,.int .i64 0],.int .i64 23])∧Below w.heap.size w w':=by
 obtain⟨h1,h2,h3,h4⟩:=zGH hkv hL hm
 rw[hg]at h4
 exact zJj h hn yt h1 (by decide) (by decide) h2 (h3 true) h4
end
theorem zLz{w:World}{sb nz n:Nat}{s:Sto}{D:Dict}{L:List It}{it:It}(h:StAt w sb s D nz)(hn:nz≤1900)(hkv:s.X.kvM=vT L)(hL:ItsOk n L)(hm:it∈L):Calls prog 15 #[.pointer (some ⟨s.br,0,none⟩),.string abcB,.string it.key,.int .u64 0] w fun e w'=>∃(a0 a1:QB)(i2:Int)(b3 b4:Bool)(i5 i6 i7 ec:Int),e= .returned (.tuple #[.agg #[.string a0,.string a1,.int .u64 i2,.bool b3,.bool b4,.int .u64 i5,.int .i64 i6,.int .i64 i7],.int .i64 ec])∧(it.head.gone=true→ec=23)∧(it.head.gone=false→ec=0∧i2=it.head.id∧i5=it.head.born∧i6=it.head.body.size)∧Below w.heap.size w w':=by
 cases hg:it.head.gone with|true=>refine(zE8 h hn hkv hL hm hg).mono ?_;rintro e w'⟨rfl,hb⟩;exact⟨_,_,_,_,_,_,_,_,_,rfl,fun _=>rfl,fun e=>absurd e (by decide),hb⟩|false=>refine(zCA h hn hkv hL hm hg).mono ?_;rintro e w'⟨rfl,hb⟩;exact⟨_,_,_,_,_,_,_,_,_,rfl,fun e=>absurd e (by decide),fun _=>⟨rfl,rfl,rfl,rfl⟩,hb⟩
structure Nx(W0:World)(P br sb:Nat)(s:Sto)(D:Dict)(nz wb:Nat)(pre delim to_:QB)(w wr:World)(f:QB):Prop where
 held:Held W0 P br wr sb s D nz
 box:WkAt wr wb br pre delim f to_
 keep:Keep (fun q=>q=wb) w wr
section
variable {W0 w wr u : World} {P br sb nz wb : Nat} {s : Sto} {D : Dict} {pre delim to_ f : QB}
theorem Nx.still(h:Nx W0 P br sb s D nz wb pre delim to_ w wr f)(hb:Below wr.heap.size wr u):Nx W0 P br sb s D nz wb pre delim to_ w u f:=⟨h.held.still hb,h.box.still hb,h.keep.trans (S':=fun q=>q=wb) (Keep.ofBelow hb) (fun _ _ e=>e)⟩
theorem Nx.set(h:Nx W0 P br sb s D nz wb pre delim to_ w wr f)(hnf:¬s.foot wb)(hw:W0.heap.size≤wb)(f':QB):Nx W0 P br sb s D nz wb pre delim to_ w (wr.setCell ⟨wb,4,none⟩ (.string f')) f':=by
 have hk:Keep (fun q=>q=wb) wr (wr.setCell ⟨wb,4,none⟩ (.string f')):=(Keep.refl (fun q=>q=wb) wr).setCell (p:=⟨wb,4,none⟩) (fun _=>rfl) _
 exact⟨h.held.box (Beside.mk h.box hnf) (by decide) (by decide) hk hw,zBa h.box f',h.keep.trans hk (fun _ _ e=>e)⟩
end
def zNp(w:World)(b:Nat)(c0 c1 c2 c3:Value):World:=(((w.setCell ⟨b,0,none⟩ c0).setCell ⟨b,1,none⟩ c1).setCell ⟨b,2,none⟩ c2).setCell ⟨b,3,none⟩ c3
theorem vy{w:World}{b T:Nat}{a0 a1 a2 a3:Value}(h:w.heap[b]? =some (.cells #[a0,a1,a2,a3] T (0,0)))(c0 c1 c2 c3:Value):(zNp w b c0 c1 c2 c3).heap[b]? =some (.cells #[c0,c1,c2,c3] T (0,0)):=heap_setCell_same _ b 3 _ _ c3 (heap_setCell_same _ b 2 _ _ c2 (heap_setCell_same _ b 1 _ _ c1 (heap_setCell_same _ b 0 _ _ c0 h)))
theorem zBb(w:World)(b:Nat)(c0 c1 c2 c3:Value):Keep (fun q=>q=b) w (zNp w b c0 c1 c2 c3):=((((Keep.refl (fun q=>q=b) w).setCell (p:=⟨b,0,none⟩) (fun _=>rfl) c0).setCell (p:=⟨b,1,none⟩) (fun _=>rfl) c1).setCell (p:=⟨b,2,none⟩) (fun _=>rfl) c2).setCell (p:=⟨b,3,none⟩) (fun _=>rfl) c3
theorem zUK(w:World)(wb:Nat)(v:Value):Keep (fun q=>q=wb) w (w.setCell ⟨wb,4,none⟩ v):=(Keep.refl (fun q=>q=wb) w).setCell (p:=⟨wb,4,none⟩) (fun _=>rfl) v
theorem Nx.own{W0 w wr:World}{P br sb nz wb rb:Nat}{s:Sto}{D:Dict}{pre delim to_ f:QB}{a0 a1 a2 a3:Value}(h:Nx W0 P br sb s D nz wb pre delim to_ w wr f)(hx:wr.heap[rb]? =some (.cells #[a0,a1,a2,a3] 74 (0,0)))(h1:¬s.foot rb)(h2:W0.heap.size≤rb)(h3:w.heap.size≤rb)(h4:rb≠wb)(c0 c1 c2 c3:Value):Nx W0 P br sb s D nz wb pre delim to_ w (zNp wr rb c0 c1 c2 c3) f:=by
 have hk:=zBb wr rb c0 c1 c2 c3
 exact⟨h.held.box (Beside.mk hx h1) (by decide) (by decide) hk h2,hk.at h.box (fun e=>h4 e.symm),h.keep.trans hk (fun i hi e=>by omega)⟩
def loF(f k:QB):Bool:=decide (bLt (zE abcB k 0) f)
theorem zGI{f:QB}{lo:QB→Bool}{n:Nat}{L:List It}(h:Bnd f lo)(hL:ItsOk n L):zEv (loF f) L=zEv lo L:=by
 unfold zEv
 refine congrArg List.length (List.filter_congr fun it hi=> ?_)
 have h1:=h it.key 0 (hL.one it hi).nz
 unfold loF
 by_cases e:lo it.key=true
 ·rw[e,decide_eq_true (h1.2 e)]
 ·(have e':lo it.key=false:=by simpa using e);rw[e',decide_eq_false (fun k=>e (h1.1 k))]
theorem zL0{pre f to_:QB}{n:Nat}{L:List It}{lo:QB→Bool}(hL:ItsOk n L)(hb:Bnd f lo)(hp:zf pre=true)(hto:Beh (zy pre).data.toList to_.data.toList)(hn:¬bLt f to_):L.find? (xB pre lo)=none:=by
 rw[List.find?_eq_none]
 intro x hx e
 unfold xB at e
 simp only[Bool.and_eq_true,Bool.not_eq_true']at e
 have hz:=(hL.one x hx).nz
 have h1:bLt (zE abcB x.key 0) to_:=(zD3 hp hto x.key 0 hz).2 e.2.1
 have h2:¬bLt (zE abcB x.key 0) f:=fun k=>by rw[(hb x.key 0 hz).1 k]at e;cases e.1
 exact hn (zBr h2 h1)
def zJ3(wb:Nat)(w:World):QB:=match w.cell? ⟨wb,4,none⟩with|some (.string f)=>f|_=>⟨#[]⟩
theorem zGJ{w:World}{wb br:Nat}{pre delim f to_:QB}(h:WkAt w wb br pre delim f to_):zJ3 wb w=f:=by
 unfold zJ3
 rw[(yl h).1.2.2.2.2.1]
theorem yM{w:World}{b T:Nat}{c0 c1 c2 c3:Value}(h:w.heap[b]? =some (.cells #[c0,c1,c2,c3] T (0,0))):(w.cell? ⟨b,0,none⟩=some c0∧w.cell? ⟨b,1,none⟩=some c1∧w.cell? ⟨b,2,none⟩=some c2∧w.cell? ⟨b,3,none⟩=some c3)∧(w.frozen? ⟨b,0,none⟩=false∧w.frozen? ⟨b,1,none⟩=false∧w.frozen? ⟨b,2,none⟩=false∧w.frozen? ⟨b,3,none⟩=false):=⟨⟨Qc h 0,Qc h 1,Qc h 2,Qc h 3⟩,by simp[World.frozen?,h],by simp[World.frozen?,h],by simp[World.frozen?,h],by simp[World.frozen?,h]⟩
theorem zRD{p:Prop}(h:p:=by rw[←hwq];exact below_drewN (Below.refl _ _) _):p:=h
theorem zUL{p:Prop}(h:p:=by rw[hw2];have h9:=(Below.refl wq.heap.size wq.drew).alloc (Qn _) (.cells #[.pointer (some ⟨br,0,none⟩),.int .i64 4] 242);exact⟨h9.os,h9.tape,h9.output,h9.size,h9.block⟩):p:=h
theorem zRE{p:Prop}(h:p:=by have hu:=(HS.out u).1 hu;obtain⟨⟨d0,d1,d2,d3,d4,d5⟩,-⟩:=yl (hu.at HN6.out.box (fun e=>e));clear hu;go_simp;exact⟨rfl,rfl⟩):p:=h
theorem zUM{p:Prop}(h:p:=by refine yX ?_;refine zi rfl (by rfl) (fun K hK=> ?_);obtain⟨⟨d0,d1,d2,d3,d4,d5,d6,d7⟩,y0,y1,y2,y3,y4,y5,y6,y7⟩:=zAV HV8.out;go_simp;have hk9:=(Keep.ofBelow (S:=fun _=>False) HB8.out).trans (xO w8 vb (.string a0) (.string a1) (.int .u64 i2) (.bool b3) (.bool b4) (.int .u64 i5) (.int .i64 i6) (.int .i64 i7)) (fun i hi e=>by have h9:i=vb:=e;have:=HVl.out;omega);have hv9:=yV HV8.out (.string a0) (.string a1) (.int .u64 i2) (.bool b3) (.bool b4) (.int .u64 i5) (.int .i64 i6) (.int .i64 i7);have HB9:=Hd (hk9.below (Qn _) (fun _ _ e=>e));have HV9:=Hd hv9;refine hK _ _ ((HS.out _).2 hk9) ?_;clear hK K hk9 hv9 d0 d1 d2 d3 d4 d5 d6 d7 y0 y1 y2 y3 y4 y5 y6 y7;refine zAj ?_;simp only[List.drop_succ_cons,List.drop_zero];unfold zBe at HB9 HV9;obtain⟨w9,hw9⟩:=qN ((((((((w8.setCell ⟨vb,0,none⟩ (.string a0)).setCell ⟨vb,1,none⟩ (.string a1)).setCell ⟨vb,2,none⟩ (.int .u64 i2)).setCell ⟨vb,3,none⟩ (.bool b3)).setCell ⟨vb,4,none⟩ (.bool b4)).setCell ⟨vb,5,none⟩ (.int .u64 i5)).setCell ⟨vb,6,none⟩ (.int .i64 i6)).setCell ⟨vb,7,none⟩ (.int .i64 i7));rw[hw9]at HB9 HV9⊢;clear hw9 S HS;have HN9:=Hd (HN6.out.still HB9.out);have HX9:=Hd (qB HB9.out HX6.out);obtain⟨⟨d0,d1,d2,d3,d4,d5,d6,d7⟩,-⟩:=zAV HV9.out;obtain⟨⟨x0,x1,x2,x3⟩,z0,z1,z2,z3⟩:=yM HX9.out;cases hg:it.head.gone with|true=>have HSt:=Hd (zLh (pre:=pre) HL.out HB.out.1 HF1.out hg);obtain rfl:=HC1.out hg;clear hg;go_wp2;go_roundw;(case rel=>exact⟨yT it.key,_,HN9.out,HX9.out,zCn HZ1.out,zGy _,HE.out.trans HSt.out.1⟩);(case measure=>rw[zGJ HN9.out.box,zGJ HN.out.box,zGI (zCn HZ1.out) HL.out,zGI HB.out.1 HL.out];exact HSt.out.2)|false=>have HSt:=Hd (HE.out.trans (zLg HL.out HB.out.1 HF1.out HI1.out hg));obtain⟨rfl,rfl,rfl,rfl⟩:=HC2.out hg;clear hg;go_wp2_with(fail);refine bodyPost_ret (xx rfl _ _ rb _ _ _ _ rfl (vy HX9.out _ _ _ _) underlying74 rfl (by kernel_rfl)) rfl ?_;exact⟨yT it.key,HN9.out.own HX9.out HRb.out.2.1 HRb.out.2.2.1 HRb.out.2.2.2 HRb.out.1 _ _ _ _,.inr ⟨it,HSt.out,rfl,rfl⟩⟩):p:=h
theorem zL1{W0 w:World}{P br sb nz wb n:Nat}{s:Sto}{D:Dict}{pre delim to_ f0:QB}{L:List It}{lo0:QB→Bool}(h:Held W0 P br w sb s D nz)(hw:WkAt w wb br pre delim f0 to_)(hnf:¬s.foot wb)(hW:W0.heap.size≤wb)(hn:nz≤1900)(hkv:s.X.kvM=vT L)(hL:ItsOk n L)(hb:Bnd f0 lo0)(hbk:bLt (zD abcB) f0)(hto:Beh (zy pre).data.toList to_.data.toList)(hp:zf pre=true)(hne:to_≠⟨#[]⟩):Calls prog 63 #[.pointer (some ⟨wb,0,none⟩)] w fun e w'=>∃f',Nx W0 P br sb s D nz wb pre delim to_ w w' f'∧((L.find? (xB pre lo0)=none∧e= .returned (.tuple #[.agg zUJ,.bool false,.int .i64 0]))∨∃it,L.find? (xB pre lo0)=some it∧f'=yT it.key∧e= .returned (.tuple #[.agg (zUI it),.bool true,.int .i64 0])):=by
 have HTA:=Hd (show∀u:World,Calls prog 83 #[.pointer (some ⟨br,0,none⟩),.int .i64 4] u fun e w'=>e= .returned (.pointer (some ⟨u.heap.size,0,none⟩))∧w'=u.alloc (.cells #[.pointer (some ⟨br,0,none⟩),.int .i64 4] 242)from fun u=>kN br 4 u)
 have HSc:=Hd (fun(u:World)(hu:Held W0 P br u sb s D nz)tb(ht:TreeAt u tb br 4)(f:QB)=>zEc (from_:=f) (to_:=to_) (limit:=1) ht (show RoomAt u br s.R from hu.br_▸hu.st.room) hu.st.sized.pages (by decide) hu.st.cont.out.tm (by have:=hu.st.sized.m;omega))
 rw[hkv]at HSc
 have HFa:=Hd (fun(u:World)(hu:Held W0 P br u sb s D nz)(it:It)(hm:it∈L)=>show Calls prog 15 #[.pointer (some ⟨br,0,none⟩),.string abcB,.string it.key,.int .u64 0] u _ from hu.br_▸zLz hu.st hn hkv hL hm)
 have HRv:=Hd (fun(k:QB)(hk:zP k=true)(id:Nat)(hid:id<18446744073709551616)(u:World)=>zA2 yt hk hid u)
 have HBh:=Hd (fun(u:World)(f:QB)(hu:WkAt u wb br pre delim f to_)(k:QB)(hk:k.size≤800)(hz:zf k=true)=>zGB hu hk hz)
 have HNx:=Hd (show Nx W0 P br sb s D nz wb pre delim to_ w w f0 from⟨h,hw,Keep.refl _ _⟩)
 have HBr:=Hd h.br_
 have HNf:=Hd hnf
 have HW:=Hd hW
 have HL:=Hd hL
 have HBd:=Hd (And.intro hb hbk)
 have HTo:=Hd (And.intro hto (And.intro hp hne))
 have hb0:Below w.heap.size w (w.alloc (.cells #[.string ⟨#[]⟩,.int .u64 0,.int .i64 0,.int .u64 0] 74)):=qA
 have HN0:=Hd (HNx.out.still hb0)
 have HX0:=Hd (qH w (.cells #[.string ⟨#[]⟩,.int .u64 0,.int .i64 0,.int .u64 0] 74))
 have HRb:=Hd (show w.heap.size≠wb∧¬s.foot w.heap.size∧W0.heap.size≤w.heap.size∧w.heap.size≤w.heap.size from⟨fun e=>by have:=(Gl hw);omega,fun e=>Nat.lt_irrefl _ (h.st.ahead.2.2.2 _ e),h.below.size,Qn _⟩)
 clear h hw hnf hW hn hkv hL hb hbk hto hp hne hb0 HNx
 go_enter func63,ntmps63
 go_wp2_with(fail)
 obtain⟨rb,hrb⟩:=qN w.heap.size
 have HRb:=Hd (show rb≠wb∧¬s.foot rb∧W0.heap.size≤rb∧w.heap.size≤rb by rw[←hrb];exact HRb.out)
 rw[hrb]at HX0⊢
 obtain⟨w0,hw0⟩:=qN (w.alloc (.cells #[.string ⟨#[]⟩,.int .u64 0,.int .i64 0,.int .u64 0] 74))
 rw[hw0]at HN0 HX0⊢
 clear hrb hw0
 go_loopw [5,6,7,8,9,10,11](fun _ _ _ _ _ _ _ wr=>∃(f:QB)(lo:QB→Bool),Nx W0 P br sb s D nz wb pre delim to_ w wr f∧wr.heap[rb]? =some (.cells #[.string ⟨#[]⟩,.int .u64 0,.int .i64 0,.int .u64 0] 74 (0,0))∧Bnd f lo∧bLt (zD abcB) f∧L.find? (xB pre lo0)=L.find? (xB pre lo))(fun _ _ _ _ _ _ _ wr=>zEv (loF (zJ3 wb wr)) L)
 case atStart=>exact⟨f0,lo0,HN0.out,HX0.out,HBd.out.1,HBd.out.2,rfl⟩
 case round=>obtain⟨f,lo,hnx,hx,hbd,hbk,hfe⟩:=hrel;have HN:=Hd hnx;have HX:=Hd hx;have HB:=Hd (And.intro hbd hbk);have HE:=Hd hfe;obtain⟨⟨d0,d1,d2,d3,d4,d5⟩,-⟩:=yl hnx.box;obtain⟨⟨x0,x1,x2,x3⟩,z0,z1,z2,z3⟩:=yM hx;clear hnx hx hbd hbk hfe;by_cases hlt:bLt f to_;(·(have q1:Op.bytesLess f.toList to_.toList=true:=by rw[xE];exact decide_eq_true hlt);obtain⟨ls,hls⟩:=qN (xw f to_ 1 (vT L));have hsc:=zLi HL.out HB.out.1 HB.out.2 HTo.out.1 HTo.out.2.1 HTo.out.2.2;rw[hls]at hsc;(have hcase:(ls=[]∧L.find? (xB pre lo)=none)∨∃it,ls=[it.head.kv it.key]∧L.find? (fun it=> !lo it.key)=some it∧inn pre it.key=true:=by cases hf:L.find? (fun it=> !lo it.key)with|none=>rw[hf]at hsc;exact .inl ⟨hsc,zLf hf⟩|some it=>rw[hf]at hsc;by_cases hi:inn pre it.key=true;(·simp only at hsc;rw[if_pos hi]at hsc;exact .inr ⟨it,hsc,rfl,hi⟩);·simp only at hsc;rw[if_neg hi]at hsc;exact .inl ⟨hsc,zNS HL.out HB.out.1 hf (by simpa using hi)⟩);have HS1:=Hd (fun(u:World)(hu:Held W0 P br u sb s D nz)tb(ht:TreeAt u tb br 4)=>HSc.out u hu tb ht f);rw[hls]at HS1;clear hsc hls hlt;rcases hcase with⟨hl,hno⟩|⟨it,hl,hf,hi⟩;(·subst hl;have HNo:=Hd (HE.out.trans hno);clear hno;go_wp2_with(fail);go_quiet(fail);obtain⟨wq,hwq⟩:=qN (wr.drewN nq);(have hbq:Below wr.heap.size wr wq:=by exact zRD);rw[hwq];clear hwq d0 d1 d2 d3 d4 d5 x0 x1 x2 x3 z0 z1 z2 z3;have HNq:=Hd (HN.out.still hbq);have HXq:=Hd (qB hbq HX.out);obtain⟨⟨d0,d1,d2,d3,d4,d5⟩,-⟩:=yl HNq.out.box;obtain⟨⟨x0,x1,x2,x3⟩,z0,z1,z2,z3⟩:=yM HXq.out;clear hbq;go_wp2_with(fail);obtain⟨S,HS⟩:=mkS (Keep (fun _=>False) (wq));have FR:=Hd (fun u(hu:S u)=>have hu:=(HS.out u).1 hu;have o09:=yl (hu.at HNq.out.box (fun e=>e));o09);refine rgw 19 [tR 0,tR 1,tR 2,tR 3,tR 5,tR 6,tR 7,tR 8,tR 9,tR 10,tR 11,tR 12,tD 4,tD 13,tR 14,tR 15,tR 16,tR 17,tR 18] HS (Keep.refl _ _).drew ?_;(iterate 12 refine rd1 ?_);refine doH ?_;intro K hK;go_simp;go_at_call 83;refine(HTA.out _).mono ?_;rintro e w2⟨rfl,hw2⟩;(have hb2:Below wq.heap.size wq w2:=by exact zUL);have HT2:=Hd (show TreeAt w2 wq.heap.size br 4 from⟨by rw[hw2];exact qH wq.drew _⟩);have HB2:=Hd hb2;refine hK _ _ ((HS.out _).2 (Keep.ofBelow hb2)) ?_;clear hK K hb2 hw2;refine doH ?_;intro K hK;go_simp;go_at_call 109;refine(HS1.out _ (HNq.out.still HB2.out).held _ HT2.out).mono ?_;rintro e w3⟨v,rfl,hrow,hown,hb3⟩;obtain⟨sa,sc,rfl⟩:=zA (n:=0) hrow;have hb3':=qT HB2.out hb3;have HRow:=Hd hrow;have HB3:=Hd hb3';refine hK _ _ ((HS.out _).2 (Keep.ofBelow hb3')) ?_;clear hK K hb3 hb3' hrow hown;(iterate 5 refine rd1 ?_);refine zl ?_;clear FR;clear S HS d0 d1 d2 d3 d4 d5 x0 x1 x2 x3 z0 z1 z2 z3;have HN3:=Hd (HNq.out.still HB3.out);have HX3:=Hd (qB HB3.out HXq.out);obtain⟨⟨d0,d1,d2,d3,d4,d5⟩,y0,y1,y2,y3,y4,y5⟩:=yl HN3.out.box;obtain⟨⟨x0,x1,x2,x3⟩,z0,z1,z2,z3⟩:=yM HX3.out;go_wp2_with(fail);refine bodyPost_ret (xx rfl _ _ rb _ _ _ _ rfl (vy HX3.out _ _ _ _) underlying74 rfl (by kernel_rfl)) rfl ?_;exact⟨f,HN3.out.own HX3.out HRb.out.2.1 HRb.out.2.2.1 HRb.out.2.2.2 HRb.out.1 _ _ _ _,.inl ⟨HNo.out,rfl⟩⟩);·subst hl;have hm:it∈L:=List.mem_of_find?_eq_some hf;have ho:=HL.out.one it hm;obtain⟨hz0,hz1⟩:=zg ho.key;obtain⟨hv,_⟩:=zD4 ho;have ht:=(ho.top _ hv).2;have hfw:=HL.out.few;have HRv1:=Hd (HRv.out it.key ho.key it.head.id (by omega));have HBh1:=Hd (fun(u:World)(hu:WkAt u wb br pre delim f to_)=>HBh.out u f hu it.key (by omega) hz0);have hcat:=fun u=>run_string_add_sum (P:=prog) u ⟨#[107]⟩ it.key (by show 1+it.key.size≤_;omega);have HF1:=Hd hf;have HI1:=Hd hi;have HM1:=Hd hm;have HZ1:=Hd hz0;unfold kT at HBh1;obtain⟨kk,hkk⟩:=qN ((⟨#[107]⟩++it.key:QB));rw[hkk]at HBh1 hcat;obtain⟨vk,hvk⟩:=qN (zE abcB it.key it.head.id);rw[hvk]at HRv1;have HVk:=Hd (show(it.head.kv it.key).1=vk from hvk);have HIt:=Hd (show∃x:QB,it.key=x from⟨_,rfl⟩);clear hm ho hz0 hz1 hv ht hfw hf hi hkk hvk;have HFd:=Hd (fun(u:World)(hu:Held W0 P br u sb s D nz)=>HFa.out u hu it HM1.out);go_wp2_with(fail);go_quiet(fail);obtain⟨wq,hwq⟩:=qN (wr.drewN nq);(have hbq:Below wr.heap.size wr wq:=by exact zRD);rw[hwq];clear hwq d0 d1 d2 d3 d4 d5 x0 x1 x2 x3 z0 z1 z2 z3;have HNq:=Hd (HN.out.still hbq);have HXq:=Hd (qB hbq HX.out);obtain⟨⟨d0,d1,d2,d3,d4,d5⟩,-⟩:=yl HNq.out.box;obtain⟨⟨x0,x1,x2,x3⟩,z0,z1,z2,z3⟩:=yM HXq.out;clear hbq;go_wp2_with(fail);obtain⟨S,HS⟩:=mkS (Keep (fun _=>False) (wq));have FR:=Hd (fun u(hu:S u)=>have hu:=(HS.out u).1 hu;have o09:=yl (hu.at HNq.out.box (fun e=>e));o09);refine rgw 19 [tR 0,tR 1,tR 2,tR 3,tR 5,tR 6,tR 7,tR 8,tR 9,tR 10,tR 11,tR 12,tD 4,tD 13,tR 14,tR 15,tR 16,tR 17,tR 18] HS (Keep.refl _ _).drew ?_;(iterate 12 refine rd1 ?_);refine doH ?_;intro K hK;go_simp;go_at_call 83;refine(HTA.out _).mono ?_;rintro e w2⟨rfl,hw2⟩;(have hb2:Below wq.heap.size wq w2:=by exact zUL);have HT2:=Hd (show TreeAt w2 wq.heap.size br 4 from⟨by rw[hw2];exact qH wq.drew _⟩);have HB2:=Hd hb2;refine hK _ _ ((HS.out _).2 (Keep.ofBelow hb2)) ?_;clear hK K hb2 hw2;refine doH ?_;intro K hK;go_simp;go_at_call 109;refine(HS1.out _ (HNq.out.still HB2.out).held _ HT2.out).mono ?_;rintro e w3⟨v,rfl,hrow,hown,hb3⟩;obtain⟨g,c,rfl,hc1,hc2,hgB⟩:=zH hrow (by show 0<1;decide);have hb3':=qT HB2.out hb3;have HRow:=Hd hrow;have HB3:=Hd hb3';refine hK _ _ ((HS.out _).2 (Keep.ofBelow hb3')) ?_;clear hK K hb3 hb3' hrow hown;(iterate 5 refine rd1 ?_);refine zl ?_;clear FR;clear S HS d0 d1 d2 d3 d4 d5 x0 x1 x2 x3 z0 z1 z2 z3;have HN3:=Hd (HNq.out.still HB3.out);have HX3:=Hd (qB HB3.out HXq.out);obtain⟨⟨d0,d1,d2,d3,d4,d5⟩,y0,y1,y2,y3,y4,y5⟩:=yl HN3.out.box;obtain⟨⟨x0,x1,x2,x3⟩,z0,z1,z2,z3⟩:=yM HX3.out;(have k0:w3.cell? ⟨g,0,none⟩=some (.string vk):=by have h9:=zC HRow.out 0 (.string (it.head.kv it.key).1) rfl;rw[HVk.out]at h9;exact h9);go_wp2_with(first|(go_at_call 127;refine(HRv1.out _).mono ?_;rintro e w4⟨rfl,hb4⟩;have HN4:=Hd (HN3.out.still hb4);have HX4:=Hd (qB hb4 HX3.out);clear hb4 d0 d1 d2 d3 d4 d5 y0 y1 y2 y3 y4 y5 x0 x1 x2 x3 z0 z1 z2 z3 k0)|(go_at_call 66;refine(HBh1.out _ HN4.out.box).mono ?_;rintro e w5⟨rfl,hb5⟩;have HN5:=Hd (HN4.out.still hb5);have HX5:=Hd (qB hb5 HX4.out);obtain⟨⟨d0,d1,d2,d3,d4,d5⟩,y0,y1,y2,y3,y4,y5⟩:=yl HN5.out.box;clear hb5));have HN6:=Hd (HN5.out.set HNf.out HW.out (yT it.key));have HX6:=Hd (show(w5.setCell ⟨wb,4,none⟩ (.string (yT it.key))).heap[rb]? =_ from(zUK w5 wb _).at HX5.out HRb.out.1);obtain⟨w6,hw6⟩:=qN (w5.setCell ⟨wb,4,none⟩ (.string (yT it.key)));rw[hw6]at HN6 HX6⊢;clear hw6 d0 d1 d2 d3 d4 d5 y0 y1 y2 y3 y4 y5;obtain⟨S,hS⟩:∃S:World→Prop,∀u,S u↔Keep (fun _=>False) w6 u:=⟨fun u=>Keep (fun _=>False) w6 u,fun _=>Iff.rfl⟩;have HS:=Hd hS;clear hS;refine xT 15 (.read 0 (.read 1 (.read 2 (.read 3 (.read 4 (.read 5 (.read 6 (.read 7 (.read 8 (.two 9 (.read 10 (.read 11 (.read 12 (.one 13 (.one 14 .fin))))) 13 (.one 9 (.read 10 (.read 11 (.read 12 (.one 14 .fin))))))))))))))) S (by kernel_rfl) (by kernel_rfl) ((HS.out _).2 (Keep.refl _ _).drew) ?_;(iterate 9 first|(refine wpW_passed rfl (by rfl) (fun K hK=> ?_);go_simp;refine hK _ ?_;clear hK K)|(refine yQ rfl (by rfl) (fun K hK=> ?_);apply Exists.intro;refine⟨fun u hu=> ?_,?_⟩;(·exact zRE);go_simp;refine hK _ ?_;clear hK K));refine zCX ?_ ?_;(·refine zi rfl (by rfl) (fun K hK=> ?_);go_simp;go_at_call 15;have hdr:Below w6.heap.size w6 w6.drew:=⟨rfl,rfl,rfl,Qn _,fun _ _=>rfl⟩;refine(HFd.out _ (HN6.out.still hdr).held).mono ?_;rintro e w7⟨a0,a1,i2,b3,b4,i5,i6,i7,ec,rfl,hc1,hc2,hb7⟩;have HC1:=Hd hc1;have HC2:=Hd hc2;have hb7':Below w6.heap.size w6 w7:=hdr.trans hb7;have HB7:=Hd hb7';refine hK _ _ ((HS.out _).2 (Keep.ofBelow hb7')) ?_;clear hK K hb7 hb7' hdr hc1 hc2;(iterate 3 first|(refine wpW_passed rfl (by rfl) (fun K hK=> ?_);go_simp;refine hK _ ?_;clear hK K)|(refine yQ rfl (by rfl) (fun K hK=> ?_);apply Exists.intro;refine⟨fun u hu=> ?_,?_⟩;(·exact zRE);go_simp;refine hK _ ?_;clear hK K));refine yX ?_;refine zi rfl (by rfl) (fun K hK=> ?_);go_simp;have hb8:=HB7.out.alloc HB7.out.size (.cells #[.string ⟨#[]⟩,.string ⟨#[]⟩,.int .u64 0,.bool false,.bool false,.int .u64 0,.int .i64 0,.int .i64 0] 38);have HV8:=Hd (qH w7 (.cells #[.string ⟨#[]⟩,.string ⟨#[]⟩,.int .u64 0,.bool false,.bool false,.int .u64 0,.int .i64 0,.int .i64 0] 38));have HB8:=Hd hb8;have HVl:=Hd (show w6.heap.size≤w7.heap.size from HB7.out.size);refine hK _ _ ((HS.out _).2 (Keep.ofBelow hb8)) ?_;clear hK K hb8;obtain⟨vb,hvb⟩:=qN w7.heap.size;obtain⟨w8,hw8⟩:=qN (w7.alloc (.cells #[.string ⟨#[]⟩,.string ⟨#[]⟩,.int .u64 0,.bool false,.bool false,.int .u64 0,.int .i64 0,.int .i64 0] 38));rw[hvb]at HV8 HVl;rw[hw8]at HV8 HB8;(try rw[hvb]);(try rw[hw8]);clear hvb hw8;exact zUM);·refine zi rfl (by rfl) (fun K hK=> ?_);go_simp;(have hb7:Below w6.heap.size w6 (w6.alloc (.cells #[.string ⟨#[]⟩,.string ⟨#[]⟩,.int .u64 0,.bool false,.bool false,.int .u64 0,.int .i64 0,.int .i64 0] 38)).drew:=by have h9:=(Below.refl w6.heap.size w6).alloc (Qn _) (.cells #[.string ⟨#[]⟩,.string ⟨#[]⟩,.int .u64 0,.bool false,.bool false,.int .u64 0,.int .i64 0,.int .i64 0] 38);exact⟨h9.os,h9.tape,h9.output,h9.size,h9.block⟩);have HV7:=Hd (show((w6.alloc (.cells #[.string ⟨#[]⟩,.string ⟨#[]⟩,.int .u64 0,.bool false,.bool false,.int .u64 0,.int .i64 0,.int .i64 0] 38)).drew).heap[w6.heap.size]? =some _ from qH w6 (.cells #[.string ⟨#[]⟩,.string ⟨#[]⟩,.int .u64 0,.bool false,.bool false,.int .u64 0,.int .i64 0,.int .i64 0] 38));have HB7:=Hd hb7;refine hK _ _ ((HS.out _).2 (Keep.ofBelow hb7)) ?_;clear hK K hb7;refine yX ?_;refine zi rfl (by rfl) (fun K hK=> ?_);go_simp;go_at_call 15;refine(HFd.out _ (HN6.out.still HB7.out).held).mono ?_;rintro e w8⟨a0,a1,i2,b3,b4,i5,i6,i7,ec,rfl,hc1,hc2,hb8⟩;have HC1:=Hd hc1;have HC2:=Hd hc2;have hb8':Below w6.heap.size w6 w8:=qT HB7.out hb8;have HB8:=Hd hb8';have HV8:=Hd (qB hb8 HV7.out);refine hK _ _ ((HS.out _).2 (Keep.ofBelow hb8')) ?_;clear hK K hb8 hb8' hc1 hc2;(iterate 3 first|(refine wpW_passed rfl (by rfl) (fun K hK=> ?_);go_simp;refine hK _ ?_;clear hK K)|(refine yQ rfl (by rfl) (fun K hK=> ?_);apply Exists.intro;refine⟨fun u hu=> ?_,?_⟩;(·exact zRE);go_simp;refine hK _ ?_;clear hK K));obtain⟨vb,hvb⟩:=qN w6.heap.size;have HVl:=Hd (Nat.le_of_eq hvb);rw[hvb]at HV8;(try rw[hvb]);clear hvb;exact zUM);·(have q1:Op.bytesLess f.toList to_.toList=false:=by rw[xE];exact decide_eq_false hlt);have HNo:=Hd (HE.out.trans (zL0 HL.out HB.out.1 HTo.out.2.1 HTo.out.1 hlt));clear hlt;go_wp2_with(fail);go_quiet(fail);obtain⟨wq,hwq⟩:=qN (wr.drewN nq);(have hbq:Below wr.heap.size wr wq:=by exact zRD);rw[hwq];clear hwq d0 d1 d2 d3 d4 d5 x0 x1 x2 x3 z0 z1 z2 z3;have HNq:=Hd (HN.out.still hbq);have HXq:=Hd (qB hbq HX.out);obtain⟨⟨d0,d1,d2,d3,d4,d5⟩,-⟩:=yl HNq.out.box;obtain⟨⟨x0,x1,x2,x3⟩,z0,z1,z2,z3⟩:=yM HXq.out;clear hbq;go_wp2_with(fail);refine bodyPost_ret (xx rfl _ _ rb _ _ _ _ rfl (vy HXq.out _ _ _ _) underlying74 rfl (by kernel_rfl)) rfl ?_;exact⟨f,HNq.out.own HXq.out HRb.out.2.1 HRb.out.2.2.1 HRb.out.2.2.2 HRb.out.1 _ _ _ _,.inl ⟨HNo.out,rfl⟩⟩
def IxAt(W0:World):Prop:=∀(u:World),Below W0.heap.size W0 u→∀s sub:QB,s.size≤1000000→Calls prog 130 #[.string s,.string sub] u fun e w'=>e= .returned (.int .i64 (Lib.index s.data.toList sub.data.toList))∧u=w'
theorem zGK{w:World}{b T:Nat}{c0 c1 c2 c3:Value}(h:w.heap[b]? =some (.cells #[c0,c1,c2,c3] T (0,0))):w.cell? ⟨b,0,none⟩=some c0∧w.cell? ⟨b,1,none⟩=some c1∧w.cell? ⟨b,2,none⟩=some c2∧w.cell? ⟨b,3,none⟩=some c3:=⟨Qc h 0,Qc h 1,Qc h 2,Qc h 3⟩
theorem zUN{p:Prop}(h:p:=by rw[ByteArray.data_extract,Array.toList_extract,List.extract_eq_take_drop];exact Qk (by rw[List.length_drop];show key.data.size-_≤_;exact Qn _)):p:=h
theorem zPn{W0 w:World}(hix:IxAt W0)(hb0:Below W0.heap.size W0 w){wb br:Nat}{pre delim fr to_ key:QB}(hw:WkAt w wb br pre delim fr to_)(hpre:pre.size≤key.size)(hk:key.size≤1000)(hg:zR key pre delim=⟨#[]⟩)(id size born:Value):Calls prog 65 #[.pointer (some ⟨wb,0,none⟩),.agg #[.string key,id,size,born]] w fun e w'=>e= .returned (.string (kT key))∧Below w.heap.size w w':=by
 have hb1:Below w.heap.size w (w.alloc (.cells #[.string key,id,size,born] 74)):=qA
 have HI:=Hd (hix (w.alloc (.cells #[.string key,id,size,born] 74)).drew (hb0.trans ((show Below w.heap.size w (w.alloc (.cells #[.string key,id,size,born] 74)).drew from hb1.drew).mono hb0.size)) (key.extract pre.size key.size) delim (by rw[ByteArray.size_extract];omega))
 have hx1:(w.alloc (.cells #[.string key,id,size,born] 74)).heap[w.heap.size]? =some (.cells #[.string key,id,size,born] 74 (0,0)):=qH w _
 have hw1:=hw.still hb1
 have HW1:=Hd hw1
 have HX1:=Hd hx1
 have HB1:=Hd hb1
 obtain⟨e0,e1,e2,e3⟩:=zGK hx1
 obtain⟨⟨c0,c1,c2,c3,c4,c5⟩,-⟩:=yl hw1
 have hcat:=fun u=>run_string_add_sum (P:=prog) u ⟨#[107]⟩ key (by show 1+key.size≤_;omega)
 unfold kT
 obtain⟨kk,hkk⟩:=qN ((⟨#[107]⟩++key:QB))
 rw[hkk]at hcat⊢
 by_cases c:delim=⟨#[]⟩
 ·subst c;clear hix hb0 hw hb1 hx1 hw1 hg HI;go_enter func65,ntmps65;go_wp2_with(fail);go_ret;exact⟨rfl,HB1.out⟩
 have c':delim.toList.isEmpty=false:=by rw[isEmpty_eq,decide_eq_false c]
 have hi:Lib.index (key.extract pre.size key.size).data.toList delim.data.toList<0:=by unfold zR at hg;rw[if_neg c]at hg;simp only at hg;(have hl:(key.extract pre.size key.size).data.toList=key.data.toList.drop pre.size:=by exact zUN);rw[hl];by_cases hn:Lib.index (key.data.toList.drop pre.size) delim.data.toList<0;(·exact hn);rw[if_neg hn]at hg;exfalso;have hs:=congrArg ByteArray.size hg;rw[ByteArray.size_extract]at hs;(have hds:0<delim.size:=by rcases Nat.eq_zero_or_pos delim.size with e|e;(·exact absurd (ByteArray.ext (Array.eq_empty_of_size_eq_zero e)) c);·exact e);have h0:(⟨#[]⟩:QB).size=0:=rfl;(have hkz:key.size=0:=by omega);have hkl:key.data.toList.drop pre.size=[]:=List.drop_eq_nil_of_le (by show key.data.size≤_;show key.size≤_;omega);rw[hkl]at hn;apply hn;(have hne:delim.data.toList.isEmpty=false:=by cases hd:delim.data.toList with|nil=>exact absurd (ByteArray.ext (Array.toList_inj.1 hd)) c|cons a b=>rfl);unfold Lib.index;rw[hne];decide
 obtain⟨ix,hix2⟩:=qN (Lib.index (key.extract pre.size key.size).data.toList delim.data.toList)
 rw[hix2]at HI hi
 obtain⟨sl,hsl⟩:=qN (key.extract pre.size key.size)
 rw[hsl]at HI
 have d1:decide (0≤ix)=false:=by simp;omega
 have gp:(pre.size:Int)≤(key.size:Int):=by omega
 have HCat:=Hd hcat
 clear hix hb0 hw hb1 hx1 hw1 hg hix2
 go_enter func65,ntmps65
 go_wp2_with(fail)
 obtain⟨S,HS⟩:=mkS (Keep (fun _=>False) ((w.alloc (.cells #[.string key,id,size,born] 74))))
 have FR:=Hd (fun u(hu:S u)=>have hu:=(HS.out u).1 hu;have o09:=zGK (hu.at HX1.out (fun e=>e));have o19:=yl (hu.at HW1.out (fun e=>e));And.intro o09 o19)
 refine rgw 14 [tR 0,tR 1,tR 2,tR 3,tR 4,tR 5,tR 6,tR 7,tR 8,tR 9,tR 10,tR 11,tD 12,tR 13] HS (Keep.refl _ _).drew ?_
 iterate 12 refine rd1 ?_
 refine doH ?_
 intro K hK
 go_simp
 go_at_call 130
 refine(HI.out).mono ?_
 rintro e w2⟨rfl,rfl⟩
 refine hK _ _ ((HS.out _).2 (Keep.refl _ _).drew) ?_
 clear hK K
 refine rd1 ?_
 refine zl ?_
 clear FR
 clear S HS
 obtain⟨w2,hw2⟩:=qN ((w.alloc (.cells #[.string key,id,size,born] 74)).drew)
 have hx2:w2.heap[w.heap.size]? =some (.cells #[.string key,id,size,born] 74 (0,0)):=by rw[←hw2];exact HX1.out
 have hb2:Below w.heap.size w w2:=by rw[←hw2];exact HB1.out.drew
 rw[hw2]
 have HB2:=Hd hb2
 obtain⟨e0,e1,e2,e3⟩:=zGK hx2
 have hcat:=HCat.out
 clear hw2 hx2 hb2
 go_wp2_with(fail)
 go_ret
 exact⟨rfl,HB2.out⟩
theorem zPo{W0 w:World}(hix:IxAt W0)(hb0:Below W0.heap.size W0 w){wb br:Nat}{pre delim fr to_ key g:QB}(hw:WkAt w wb br pre delim fr to_)(hpre:pre.size≤key.size)(hk:key.size≤1000)(hg:zR key pre delim=g)(hne:g≠⟨#[]⟩)(id size born:Value):Calls prog 65 #[.pointer (some ⟨wb,0,none⟩),.agg #[.string key,id,size,born]] w fun e w'=>e= .returned (.string (pT g))∧Below w.heap.size w w':=by
 have hb1:Below w.heap.size w (w.alloc (.cells #[.string key,id,size,born] 74)):=qA
 have HI:=Hd (hix (w.alloc (.cells #[.string key,id,size,born] 74)).drew (hb0.trans ((show Below w.heap.size w (w.alloc (.cells #[.string key,id,size,born] 74)).drew from hb1.drew).mono hb0.size)) (key.extract pre.size key.size) delim (by rw[ByteArray.size_extract];omega))
 have hx1:(w.alloc (.cells #[.string key,id,size,born] 74)).heap[w.heap.size]? =some (.cells #[.string key,id,size,born] 74 (0,0)):=qH w _
 have hw1:=hw.still hb1
 have HW1:=Hd hw1
 have HX1:=Hd hx1
 have HB1:=Hd hb1
 obtain⟨e0,e1,e2,e3⟩:=zGK hx1
 obtain⟨⟨c0,c1,c2,c3,c4,c5⟩,-⟩:=yl hw1
 have c:delim≠⟨#[]⟩:=fun e=>hne (by rw[←hg];unfold zR;rw[if_pos e])
 have c':delim.toList.isEmpty=false:=by rw[isEmpty_eq,decide_eq_false c]
 obtain⟨i,hi,hgl,hgz⟩:=zG5 (key:=key) (pre:=pre) (delim:=delim) c (by rw[hg];exact hne)
 have hge:g=key.extract 0 (pre.size+i+delim.size):=by rw[←hg];unfold zR;rw[if_neg c];simp only;rw[hi,if_neg (by omega)];rfl
 have hgs:g.size≤1000:=by rw[hge,ByteArray.size_extract];omega
 have hcat:=fun u=>run_string_add_sum (P:=prog) u ⟨#[112]⟩ g (by show 1+g.size≤_;omega)
 unfold pT
 obtain⟨kk,hkk⟩:=qN ((⟨#[112]⟩++g:QB))
 rw[hkk]at hcat⊢
 have hl:(key.extract pre.size key.size).data.toList=key.data.toList.drop pre.size:=by exact zUN
 rw[hl,hi]at HI
 obtain⟨sl,hsl⟩:=qN (key.extract pre.size key.size)
 rw[hsl]at HI
 obtain⟨n,hn⟩:=qN (pre.size+i+delim.size)
 rw[hn]at hge hgz
 have d1:decide ((0:Int)≤(i:Int))=true:=by simp
 have gp:(pre.size:Int)≤(key.size:Int):=by omega
 have gz:(n:Int)≤(key.size:Int):=by omega
 have w1:IntKind.i64.wrap ((pre.size:Int)+(i:Int))=(pre.size:Int)+(i:Int):=by rw[IntKind.wrap_i64];omega
 have w2:IntKind.i64.wrap ((pre.size:Int)+(i:Int)+(delim.size:Int))=(n:Int):=by rw[IntKind.wrap_i64];omega
 have hge':=hge.symm
 have HCat:=Hd hcat
 have HG:=Hd (And.intro hge' (And.intro gz (And.intro w1 w2)))
 clear hix hb0 hw hb1 hx1 hw1 hg hi hgl hkk hge hge' hl w1 w2 gz
 go_enter func65,ntmps65
 go_wp2_with(fail)
 obtain⟨S,HS⟩:=mkS (Keep (fun _=>False) ((w.alloc (.cells #[.string key,id,size,born] 74))))
 have FR:=Hd (fun u(hu:S u)=>have hu:=(HS.out u).1 hu;have o09:=zGK (hu.at HX1.out (fun e=>e));have o19:=yl (hu.at HW1.out (fun e=>e));And.intro o09 o19)
 refine rgw 14 [tR 0,tR 1,tR 2,tR 3,tR 4,tR 5,tR 6,tR 7,tR 8,tR 9,tR 10,tR 11,tD 12,tR 13] HS (Keep.refl _ _).drew ?_
 iterate 12 refine rd1 ?_
 refine doH ?_
 intro K hK
 go_simp
 go_at_call 130
 refine(HI.out).mono ?_
 rintro e w2⟨rfl,rfl⟩
 refine hK _ _ ((HS.out _).2 (Keep.refl _ _).drew) ?_
 clear hK K
 refine rd1 ?_
 refine zl ?_
 clear FR
 clear S HS
 obtain⟨w2,hw2⟩:=qN ((w.alloc (.cells #[.string key,id,size,born] 74)).drew)
 have hx2:w2.heap[w.heap.size]? =some (.cells #[.string key,id,size,born] 74 (0,0)):=by rw[←hw2];exact HX1.out
 have hb2:Below w.heap.size w w2:=by rw[←hw2];exact HB1.out.drew
 rw[hw2]
 have HB2:=Hd hb2
 have HX2:=Hd hx2
 have HW2:=Hd (show WkAt w2 wb br pre delim fr to_ from by rw[←hw2];exact HW1.out)
 clear hw2 hx2 hb2
 go_wp2_with(fail)
 obtain⟨ge,gz,u1,u2⟩:=HG.out
 obtain⟨S,HS⟩:=mkS (Keep (fun _=>False) (w2))
 have FR:=Hd (fun u(hu:S u)=>have hu:=(HS.out u).1 hu;have o09:=zGK (hu.at HX2.out (fun e=>e));have o19:=yl (hu.at HW2.out (fun e=>e));have hcat:=HCat.out u;And.intro o09 (And.intro o19 hcat))
 refine rgw 18 [tR 0,tR 1,tR 2,tR 3,tR 4,tR 5,tR 6,tR 7,tR 8,tR 9,tR 10,tR 11,tR 12,tR 13,tR 14,tR 15,tR 16,tR 17] HS (Keep.refl _ _).drew ?_
 iterate 18 refine rd1 ?_
 refine zl ?_
 clear FR
 clear S HS
 go_wp2_with(fail)
 go_ret
 exact⟨rfl,HB2.out.drew⟩
theorem zE9{g:Nat}(w:World)(v v2:Value):Keep (fun q=>q=g) w ((w.setCell ⟨g,0,none⟩ v).setCell ⟨g,1,none⟩ v2):=((Keep.refl (fun q=>q=g) w).setCell (p:=⟨g,0,none⟩) (fun _=>rfl) v).setCell (p:=⟨g,1,none⟩) (fun _=>rfl) v2
theorem zCB{w:World}{g T:Nat}{a0 a1:Value}(h:w.heap[g]? =some (.cells #[a0,a1] T (0,0)))(v v2:Value):((w.setCell ⟨g,0,none⟩ v).setCell ⟨g,1,none⟩ v2).heap[g]? =some (.cells #[v,v2] T (0,0)):=heap_setCell_same _ g 1 _ _ v2 (heap_setCell_same _ g 0 _ _ v h)
theorem zCC{w:World}{g k T T2:Nat}{cs cs2:Array Value}{fr fr2:Nat×Nat}(h:w.heap[g]? =some (.cells cs T fr))(h2:w.heap[k]? =some (.cells cs2 T2 fr2))(hT:T≠T2):g≠k:=fun e=>by
 rw[e,h2]at h
 have h3:=Option.some.inj h
 injection h3 with _ h5
 exact hT h5.symm
theorem zFP{P:Program}{fn:Func}{a b p u:Tmp}{ty:TypeId}(h:fn.results= #[.tmp a,.tmp b,.cell p ty,.tmp u])(tmps:Array Value)(w:World)(g:Nat)(t:TypeId)(cs:Array Value)(fr:Nat×Nat)(d:TypeDesc)(hp:tmps.getD p undef= .pointer (some ⟨g,0,none⟩))(hg:w.heap[g]? =some (.cells cs t fr))(hu:P.underlying ty=some d)(hd:(match d with| .struct _| .array _ _=>true|_=>false)=true)(hi:(P.info? ty).map (·.size)=some cs.size):(results fn tmps).run P w= .ok (.tuple #[tmps.getD a undef,tmps.getD b undef,.agg cs,tmps.getD u undef]) w:=by
 have hp':tmps[p]?.getD undef= .pointer (some ⟨g,0,none⟩):=by simpa using hp
 have e:(results fn tmps).run P w=((asAddr (tmps.getD p undef)).run P w).andThen fun c w₁=>((loadVar ty c).run P w₁).andThen fun x w₂=>.ok (.tuple #[tmps.getD a undef,tmps.getD b undef,x,tmps.getD u undef]) w₂:=by exact zOo
 exact zTF
theorem Beside.num{w:World}{s:Sto}{g T m m2:Nat}{a:Value}(h:Beside w s g (.cells #[a,.int .u64 m] T))(e:m2=m):Beside w s g (.cells #[a,.int .u64 m2] T):=e▸h
theorem zUP{p:Prop}(h:p:=by go_wp2;go_roundw;(case rel=>exact⟨j+1,s7,D6,_,_,_,_,by omega,by go_num,rfl,HI12.out⟩);(case measure=>simp[intOf];omega)):p:=h
theorem zUQ{p:Prop}(h:p:=by go_roundw;(case rel=>exact⟨j+1,s8,D6,_,_,_,_,by omega,by go_num,rfl,HI18.out⟩);case measure=>simp[intOf];omega):p:=h
theorem zCD{v:Value}{T:List Thing}(w:World)(hT:ThingsAt w w.heap.size v T)(h30:T.length≤30)(h60:∀t∈T,t.1.size≤60):Calls prog 21 #[v] w fun e w'=>∃sb s D nz n L vm,e= .returned (.tuple #[.pointer (some ⟨s.br,0,none⟩),.pointer (some ⟨sb,0,none⟩),.agg #[vm,.int .u64 (n+1:Nat)],.bool true])∧Held w 29991 s.br w' sb s D nz∧s.X.kvM=vT L∧s.X.next=n∧Made T T.length L n∧DocAt w' s vm L∧nz≤400:=by
 obtain⟨pa,pb,po,pc,rfl,hpp,hpc⟩:=hT
 obtain⟨k,hpl⟩:=qN T.length
 rw[hpl]at hpp h30⊢
 have HPp:=Hd hpp
 have HPc:=Hd hpc
 have HPl:=Hd hpl
 have HMx:=Hd h60
 have hb0:Below w.heap.size w (w.alloc (.cells #[.slice none 0 0,.int .u64 0] 53)):=qA
 have hx0:(w.alloc (.cells #[.slice none 0 0,.int .u64 0] 53)).heap[w.heap.size]? =some (.cells #[.slice none 0 0,.int .u64 0] 53 (0,0)):=zN rfl
 have HB0:=Hd hb0
 have HX0:=Hd hx0
 have HW:=Hd (zJk 30000 (by omega) (by omega) (w.alloc (.cells #[.slice none 0 0,.int .u64 0] 53)))
 clear hpp hpc hpl h60 hb0 hx0
 go_enter func21,ntmps21
 go_wp2_with(first|(go_at_call 9;refine(HW.out).mono ?_;rintro e w1⟨sb,s,rfl,hs,hX,hkv,hpg,hft,hb1⟩;have hl0:w.heap.size<(w.alloc (.cells #[.slice none 0 0,.int .u64 0] 53)).heap.size:=(Gl HX0.out);have hd:Held w 29991 s.br w1 sb s (fun _=>none) 0:=⟨hs,fun g e=>Nat.le_trans HB0.out.size (hft g e),qT HB0.out hb1,hpg.trans zIV,rfl⟩;have HR1:=Hd (show Beside w1 s w.heap.size _ from⟨(hb1.block _ hl0).trans HX0.out,fun e=>by have:=hft _ e;omega⟩);have HX:=Hd (And.intro hX hkv);have HD1:=Hd hd;have HN:=Hd (zNc w1);clear hs hX hkv hpg hft hb1 hd hl0)|(go_at_call 58;refine(HN.out).mono ?_;rintro e w2⟨rfl,hb2⟩;have hd2:=HD1.out.still hb2;have hb3:Below w2.heap.size w2 (w2.alloc (.cells #[.slice none 0 0,.int .u64 1] 53)):=qA;have HD3:=Hd (hd2.still hb3);have HM3:=Hd (Beside.new hd2.st (.cells #[.slice none 0 0,.int .u64 1] 53));have HR3:=Hd ((HR1.out.still hb2).still hb3);have hMb:w.heap.size<w2.heap.size:=Qt HR1.out.lt hb2.size;have hbm:=zNJ HD3.out.st (by have:=HD3.out.pg;omega) yt (by rw[HX.out.1];rfl) (now:=0) (by decide);have HM:=Hd hbm;have HMb:=Hd hMb;clear hb2 hd2 hb3 hMb hbm)|(go_at_call 10;refine(HM.out).mono ?_;rintro e w4⟨rfl,s2,hx,h1,h2,h3⟩;have hd:=HD3.out.x hx;rw[HX.out.1]at h1 h2 h3;have hp2:=hd.pg;have hbs:=zLU hx.st (by omega) yt (by rw[h1];exact zPT _) (by decide) (by decide);rw[hd.br_]at hbs;have HSt:=Hd hbs;have HD4:=Hd hd;have HM4:=Hd (HM3.out.v hx.step);have HR4:=Hd (HR3.out.v hx.step);have HX2:=Hd (And.intro h1 (And.intro h2 (And.intro h3 (hx.kv.trans HX.out.2))));clear hx h1 h2 h3 hd hp2 hbs)|(go_at_call 11;refine(HSt.out).mono ?_;rintro e w5⟨rfl,s3,hx,h1,h2,h3⟩;have HD5:=Hd (HD4.out.x hx);obtain⟨q1,q2,q3,q4⟩:=HX2.out;rw[q1,zNo]at h1;rw[q3]at h3;have HX5:=Hd (And.intro h1 (And.intro h3 (hx.kv.trans q4)));have HM5:=Hd (HM4.out.v hx.step);have HR5:=Hd (HR4.out.v hx.step);have HMm:=Hd (zLq 1 yt 0 w5);obtain⟨⟨m0,m1⟩,y0,y1⟩:=zj HM5.out.at_;clear hx h1 h2 h3 q1 q2 q3 q4)|(go_at_call 24;refine(HMm.out).mono ?_;rintro e w6⟨v6,rfl,hbk,hnew,hb6⟩;obtain⟨pa6,pc6,hv6⟩:=zA (show w6.ownsRow 0 153 8 v6 1 _ from hbk);subst hv6;have HD6:=Hd (HD5.out.still hb6);have HM6:=Hd (HM5.out.still hb6);have HR6:=Hd (HR5.out.still hb6);have hk7:=zE9 (g:=w2.heap.size) w6 (.slice pa6 1 pc6) (.int .u64 1);have HMs:=Hd (zJw (BksAt.aside hbk HM6.out.at_ (by decide) hk7) yt ⟨none,0,0,rfl⟩ 1);have HD7:=Hd (HD6.out.box HM6.out (by decide) (by decide) hk7 (Nat.le_of_lt HMb.out));have HM7:=Hd (show Beside _ s3 w2.heap.size _ from⟨zCB HM6.out.at_ (.slice pa6 1 pc6) (.int .u64 1),HM6.out.off⟩);have HR7:=Hd (show Beside _ s3 w.heap.size _ from⟨hk7.at HR6.out.at_ (by have:=HMb.out;omega),HR6.out.off⟩);obtain⟨⟨m0,m1⟩,y0,y1⟩:=zj HM6.out.at_;obtain⟨⟨m2,m3⟩,y2,y3⟩:=zj HM7.out.at_;clear hbk hnew hb6 hk7)|(go_at_call 59;refine(HMs.out).mono ?_;rintro e w8⟨v8,rfl,hbk,hnew,hb8⟩;obtain⟨pa8,pc8,hv8⟩:=zA (show w8.ownsRow 0 153 8 v8 1 _ from hbk);subst hv8;have hd8:=HD7.out.still hb8;have hm8:=HM7.out.still hb8;have hr8:=HR7.out.still hb8;have hk9:=zE9 (g:=w2.heap.size) w8 (.slice pa8 1 pc8) (.int .u64 1);have hd9:=hd8.box hm8 (by decide) (by decide) hk9 (Nat.le_of_lt HMb.out);have hdoc:DocAt w8 s3 (.slice pa8 1 pc8) []:=⟨⟨.slice none 0 0,hbk,⟨qO,fun it hi=>(by cases hi)⟩,fun g e=>(by cases e)⟩,fun g e e2=>(by have h9:=hnew g e;have:=HD7.out.st.ahead.2.2.2 g e2;omega),fun it hi=>(by cases hi)⟩;have hi:MadeI w s.br sb w2.heap.size w.heap.size T 0 ((w8.setCell ⟨w2.heap.size,0,none⟩ (.slice pa8 1 pc8)).setCell ⟨w2.heap.size,1,none⟩ (.int .u64 1)) s3 (fun _=>none) 2 0 [] (.slice pa8 1 pc8):=⟨hd9,HX5.out.1,HX5.out.2.1,.zero,hdoc.box hm8.at_ (by decide) (by decide) (by decide) hk9,⟨zCB hm8.at_ _ _,hm8.off⟩,⟨hk9.at hr8.at_ (by have:=HMb.out;omega),hr8.off⟩,by omega,by rw[HX5.out.2.2];simp⟩;have HI:=Hd hi;obtain⟨⟨m0,m1⟩,y0,y1⟩:=zj hm8.at_;clear hbk hnew hb8 hd8 hm8 hr8 hk9 hd9 hdoc hi))
 clear m0 m1 y0 y1
 obtain⟨br,hbr⟩:=qN s.br
 obtain⟨mb,hmb⟩:=qN w2.heap.size
 rw[hbr,hmb]at HI
 rw[hmb]at HMb
 rw[hbr,hmb]
 clear hbr hmb
 go_loopw [11,12,13,14,15,16,17,18,19,20,21,22,23,24,25,53](fun ok _ _ _ _ _ _ _ _ _ _ _ _ _ _ i wr=>∃(j:Nat)(s':Sto)(D':Dict)(nz n:Nat)(L:List It)(vm:Value),j≤k∧i= .int .i64 (j:Int)∧ok= .bool true∧MadeI w br sb mb w.heap.size T j wr s' D' nz n L vm)(fun _ _ _ _ _ _ _ _ _ _ _ _ _ _ _ i _=>k-(intOf i).toNat)
 case atStart=>exact⟨0,s3,_,_,_,_,_,by omega,rfl,rfl,HI.out⟩
 case round=>obtain⟨j,s4,D4,nz,n,L,vm,hj,rfl,rfl,hmi⟩:=hrel;obtain⟨its,hbk,-,-⟩:=hmi.doc.ex;obtain⟨va,vc,hvm⟩:=zA (show wr.ownsRow 0 153 8 vm 1 _ from hbk);subst hvm;have HI4:=Hd hmi;clear hbk;by_cases hlt:j<k;(·(have g2:decide ((j:Int)<(k:Int))=true:=by simp;omega);(have g2':decide (j<k)=true:=by simpa using hlt);obtain⟨rfl,hbl⟩:=HPp.out (by omega);obtain⟨t,hx⟩:∃t,T[j]? =some t:=⟨_,Qg (by rw[HPl.out];exact hlt)⟩;obtain⟨q0,q1⟩:=HPc.out j _ hx;have HAt:=Hd hx;have hts:=HMx.out t (List.mem_of_getElem? hx);rw[←hmi.held.below.cell (p:=⟨pb,po+j*2,none⟩) hbl]at q0;rw[←hmi.held.below.cell (p:=⟨pb,po+j*2+1,none⟩) hbl]at q1;obtain⟨tk,tg⟩:=t;simp only at q0 q1 hts;(have hj0:(0:Int)≤(j:Int):=by omega);(have hj1:(j:Int)<(k:Int):=by omega);have hb5:Below wr.heap.size wr (wr.alloc (.cells #[.string tk,.bool tg] 72)):=qA;have hd5:=hmi.held.still hb5;have hx5:=Beside.new hmi.held.st (.cells #[.string tk,.bool tg] 72);have hpg:=hmi.held.pg;have hfw:=hmi.few;have hkI:=hmi.kvI;have hmo:=hmi.made.ok (by omega);have HB5:=Hd (zM9 hd5.st tk (by omega) (by omega) (by omega));have HD5:=Hd hd5;have HX5:=Hd hx5;have HO5:=Hd (hmi.doc.still hb5);have HM5:=Hd (hmi.box.still hb5);have HR5:=Hd (hmi.res.still hb5);have HMo:=Hd hmo;have HNm:=Hd (show nz≤2+13*j∧s4.kvI.length≤4*j∧tk.size≤60∧j<30 from⟨hfw,hkI,hts,by omega⟩);obtain⟨⟨d0,d1⟩,-,-⟩:=zj hx5.at_;clear hb5 hd5 hx5 hpg hfw hkI hmo hx hts hmi;go_wp2_with(first|(go_at_call 12;refine(HB5.out).mono ?_;rintro e w6⟨v6,l,ls,s6,D6,kk,rfl,hpt,hmt,hrow,hvo,hst,hkk,hss,hkv,hle⟩;have hd:=HD5.out.v hst hss.v;have HD6:=Hd hd;have HX6:=Hd (HX5.out.v hss.v);have HO6:=Hd (HO5.out.v hss.v);have HM6:=Hd (HM5.out.v hss.v);have HR6:=Hd (HR5.out.v hss.v);(have hkv6:s6.X.kvM=vT L:=by rw[hss.X];exact HI4.out.kv);(have hnx6:s6.X.next=n:=by rw[hss.X];exact HI4.out.nx);obtain⟨r1,r2,r3,r4⟩:=zPK hmt hpt;have HKv6:=Hd (And.intro hkv6 hnx6);have hp6:=hd.pg;have hz:=zIG l r1;have hnm:=HNm.out;have hp1:=zJl (n:=(wrS l).size) (k:=1) (by omega) (by decide);have HNz:=Hd (show zc (wrS l).size≤1∧kk≤4∧s6.kvI.length≤s4.kvI.length+kk from⟨hp1,by omega,hkv⟩);(have hlb:look s6.X.kvM (zD abcB)=some (zT 1 0):=by rw[hkv6];exact kP L);have HLb:=Hd hlb;have HHr:=Hd hrow;have HR3:=Hd (show l.all ym=true∧tot l=(tk.size:Int)∧16*l.length≤tk.size+15 from⟨r1,r3,r2⟩);obtain⟨va6,vc6,hv6⟩:=zA hrow;subst hv6;obtain⟨⟨d0,d1⟩,-,-⟩:=zj HX6.out.at_;clear hpt hmt hrow hvo hst hkk hss hkv hle hd hkv6 hnx6 r1 r2 r3 r4 hp6 hz hnm hp1 hlb));cases hik:zP tk with|true=>have HIk:=Hd hik;have hmo:=HMo.out;have hnm:=HNm.out;have hnz:=HNz.out;have hpg:=HD6.out.pg;have hr3:=HR3.out;have hkv:=HKv6.out;have hpu:=zPG HD6.out.st yt HLb.out (by decide) hik HHr.out (by omega) hr3.1 (by omega) (by omega) (now:=j) (by omega);obtain⟨id,hid⟩:=qN (n+1);rw[HD6.out.br_,hkv.2,hid,hr3.2.1]at hpu;unfold vC at hpu;have HPu:=Hd hpu;have HId:=Hd hid;clear hmo hnm hnz hpg hr3 hkv hpu hid hik;go_wp2_with(first|(go_at_call 13;refine(HPu.out).mono ?_;rintro e w7⟨size,page,ps,s7,rfl,hx,h1,h2,h3,h4,h5,h6⟩;(obtain rfl:size=tk.size:=by omega);have hb8:Below w7.heap.size w7 (w7.alloc (.cells #[.string abcB,.string tk,.int .u64 id,.bool false,.bool false,.int .u64 j,.int .i64 tk.size,.int .i64 page] 38)):=qA;have HD8:=Hd ((HD6.out.x hx).still hb8);have HX8:=Hd ((HX6.out.v hx.step).still hb8);have ho8:=(HO6.out.v hx.step).still hb8;have HO8:=Hd ho8;have HM8:=Hd ((HM6.out.v hx.step).still hb8);have HR8:=Hd ((HR6.out.v hx.step).still hb8);rw[HKv6.out.1]at h1;have HKv8:=Hd (And.intro h1 (And.intro h3 hx.kv));have HPg:=Hd h5;obtain⟨its8,k1,k2,-⟩:=ho8.ex;have hmo:=HMo.out;have hnm:=HNm.out;obtain⟨id2,hid2⟩:=qN (id+1);have hid:=HId.out;have hrp:=zPl k1 yt rfl k2 (by omega) (nx:=id) (by omega) (item:=tk) (by omega) HIk.out tk j page (zCq hmo.1 tk);rw[hid2]at hrp;have HRp:=Hd hrp;have HId2:=Hd hid2;have hm8:=HM8.out.at_;rw[hid]at hm8;obtain⟨⟨m0,m1⟩,-,-⟩:=zj hm8;obtain⟨⟨d0,d1⟩,-,-⟩:=zj HX8.out.at_;clear hb8 ho8 hx h1 h2 h3 h4 h5 h6 k1 k2 hmo hnm hid hid2 hrp hm8));refine(HRp.out).mono ?_;rintro e w9⟨v9,its9,val9,rfl,k1,k2,f1,f2,f3,hb9⟩;have ho9:=HO8.out.put HD8.out.st HMo.out.1.rises k1 k2 f1 f2 f3;obtain⟨va9,vc9,hv9⟩:=zA (show w9.ownsRow 0 153 8 v9 1 _ from k1);subst hv9;have hm9:=HM8.out.still hb9;rw[HId.out]at hm9;have hb10:Below w9.heap.size w9 ((w9.alloc (.cells #[.slice va9 1 vc9,.int .u64 id2] 53)).alloc (.cells #[.int .u64 id,.bool false,.bool false,.int .u64 j,.string tk] 135)):=(qA).alloc (by simp) _;have hm11:=hm9.still hb10;have hk12:=zE9 (g:=mb) ((w9.alloc (.cells #[.slice va9 1 vc9,.int .u64 id2] 53)).alloc (.cells #[.int .u64 id,.bool false,.bool false,.int .u64 j,.string tk] 135)) (.slice va9 1 vc9) (.int .u64 id2);have hd12:=((HD8.out.still hb9).still hb10).box hm11 (by decide) (by decide) hk12 (Nat.le_of_lt HMb.out);have ho12:=(ho9.still hb10).box hm11.at_ (by decide) (by decide) (by decide) hk12;have hx11:=(HX8.out.still hb9).still hb10;have hx12:Beside _ s7 wr.heap.size _:=⟨hk12.at hx11.at_ (zCC hx11.at_ hm11.at_ (by decide)),hx11.off⟩;have hr11:=(HR8.out.still hb9).still hb10;have hr12:Beside _ s7 w.heap.size _:=⟨hk12.at hr11.at_ (by have:=HMb.out;omega),hr11.off⟩;have hm12:Beside _ s7 mb _:=⟨zCB hm11.at_ (.slice va9 1 vc9) (.int .u64 id2),hm11.off⟩;have hid:=HId.out;have hid2:=HId2.out;have hnm:=HNm.out;have hnz:=HNz.out;have hkv12:=HKv8.out.1.trans (zKO HMo.out.1 HIk.out ⟨id,false,j,tk,page⟩ hid.symm val9);have hnx12:s7.X.next=id:=HKv8.out.2.1;have hm12':=hm12.num hid2;obtain⟨L1,hL1⟩:∃L1,L1=yE L ⟨tk,⟨id,false,j,tk,page⟩::zZ L tk,val9⟩:=⟨_,rfl⟩;(have hkv12':s7.X.kvM=vT L1:=by rw[hL1];exact hkv12);have ho12':=ho12;rw[←hL1]at ho12';(have hlb:look s7.X.kvM (zD abcB)=some (zT 1 0):=by rw[hkv12'];exact kP L1);(have hL1n:L1=yE L ⟨tk,⟨n+1,false,j,tk,page⟩::zZ L tk,val9⟩:=by rw[hid];exact hL1);have hpg12:=hd12.pg;(cases tg with|false=>(have hmade:Made T (j+1) L1 id:=by have h9:=Made.put page val9 HI4.out.made HAt.out HIk.out rfl HPg.out;rw[hL1n,←hid];exact h9);(have hfew:nz+2*kk+zc (wrS l).size+2≤2+13*(j+1):=by omega);(have hkI:s7.kvI.length≤4*(j+1):=by rw[HKv8.out.2.2];omega);have HI12:=Hd (MadeI.mk hd12 hkv12' hnx12 hmade ho12' hm12' hr12 hfew hkI);obtain⟨⟨m0,m1⟩,y0,y1⟩:=zj hm11.at_;obtain⟨⟨d0,d1⟩,-,-⟩:=zj hx12.at_;clear k1 k2 f1 f2 f3 hb9 hm9 hb10 hm11 hk12 hd12 ho12 hx11 hx12 hr11 hr12 hm12 ho9 hid hid2 hnm hnz hkv12 hnx12 hm12' hkv12' ho12' hlb hpg12 hmade hfew hkI;exact zUP|true=>(have hits:ItsOk id L1:=by rw[hL1,←hid];exact HMo.out.1.put (v:=⟨n+1,false,j,tk,page⟩) HIk.out rfl ⟨by show j<1000;omega,zBM HIk.out,HPg.out⟩ (by have:=HMo.out;omega) val9);have hde:=zPH hd12.st yt hlb (by decide) HIk.out (by omega) (by have:=HMo.out;omega) (now:=j) (by omega);rw[hd12.br_,hnx12,hid2]at hde;unfold vC at hde;have HDe:=Hd hde;have HIt:=Hd hits;have HLn:=Hd hL1n;have HLl:=Hd (show L1.length≤40 from by rw[hL1];have:=zAu L ⟨tk,⟨id,false,j,tk,page⟩::zZ L tk,val9⟩;have:=HMo.out;omega);have HKv12:=Hd (And.intro hkv12' hnx12);have HD12:=Hd hd12;have HO12:=Hd ho12';have HX12:=Hd hx12;have HR12:=Hd hr12;have HM12:=Hd hm12;obtain⟨⟨m0,m1⟩,y0,y1⟩:=zj hm11.at_;obtain⟨⟨d0,d1⟩,-,-⟩:=zj hx12.at_;clear k1 k2 f1 f2 f3 hb9 hm9 hb10 hm11 hk12 hd12 ho12 hx11 hx12 hr11 hr12 hm12 ho9 hid hid2 hnm hnz hkv12 hnx12 hm12' hkv12' ho12' hlb hpg12 hits hde;go_wp2_with(first|(go_at_call 14;refine(HDe.out).mono ?_;rintro e w13⟨s8,rfl,hx,h1,h2,h3⟩;go_loud(have hb14:Below w13.heap.size w13 (w13.alloc (.cells #[.string abcB,.string tk,.int .u64 id2,.bool false,.bool true,.int .u64 j,.int .i64 0,.int .i64 0] 38)):=qA;have HD14:=Hd ((HD12.out.x hx).still hb14);have HX14:=Hd ((HX12.out.v hx.step).still hb14);have ho14:=(HO12.out.v hx.step).still hb14;have HO14:=Hd ho14;have HM14:=Hd ((HM12.out.v hx.step).still hb14);have HR14:=Hd ((HR12.out.v hx.step).still hb14);rw[HKv12.out.1]at h1;have HKv14:=Hd (And.intro h1 (And.intro h3 hx.kv));obtain⟨its14,k1,k2,-⟩:=ho14.ex;have hmo:=HMo.out;have hnm:=HNm.out;obtain⟨id3,hid3⟩:=qN (id2+1);have hid:=HId.out;have hid2:=HId2.out;have hll:=HLl.out;have hrd:=zPm k1 yt rfl k2 (by omega) (nx:=id2) (by omega) (item:=tk) (by omega) HIk.out j (zCq HIt.out tk);rw[hid3]at hrd;have HRd:=Hd hrd;have HId3:=Hd hid3;obtain⟨⟨m0,m1⟩,-,-⟩:=zj HM14.out.at_;obtain⟨⟨d0,d1⟩,-,-⟩:=zj HX14.out.at_;clear hb14 ho14 hx h1 h2 h3 k1 k2 hmo hnm hid hid2 hid3 hrd hll))|(go_at_call 61;refine(HRd.out).mono ?_;rintro e w15⟨v15,its15,val15,rfl,k1,k2,f1,f2,f3,hb15⟩;go_loud(have ho15:=HO14.out.put HD14.out.st HIt.out.rises k1 k2 f1 f2 f3;obtain⟨va15,vc15,hv15⟩:=zA (show w15.ownsRow 0 153 8 v15 1 _ from k1);subst hv15;have hm15:=HM14.out.still hb15;have hb16:Below w15.heap.size w15 ((w15.alloc (.cells #[.slice va15 1 vc15,.int .u64 id3] 53)).alloc (.cells #[.int .u64 id2,.bool false,.bool true,.int .u64 j,.string ⟨#[]⟩] 135)):=(qA).alloc (by simp) _;have hm17:=hm15.still hb16;have hk18:=zE9 (g:=mb) ((w15.alloc (.cells #[.slice va15 1 vc15,.int .u64 id3] 53)).alloc (.cells #[.int .u64 id2,.bool false,.bool true,.int .u64 j,.string ⟨#[]⟩] 135)) (.slice va15 1 vc15) (.int .u64 id3);have hd18:=((HD14.out.still hb15).still hb16).box hm17 (by decide) (by decide) hk18 (Nat.le_of_lt HMb.out);have ho18:=(ho15.still hb16).box hm17.at_ (by decide) (by decide) (by decide) hk18;have hr17:=(HR14.out.still hb15).still hb16;have hr18:Beside _ s8 w.heap.size _:=⟨hk18.at hr17.at_ (by have:=HMb.out;omega),hr17.off⟩;have hm18:Beside _ s8 mb _:=⟨zCB hm17.at_ (.slice va15 1 vc15) (.int .u64 id3),hm17.off⟩;have hid:=HId.out;have hid2:=HId2.out;have hnm:=HNm.out;have hnz:=HNz.out;have hkv18:=HKv14.out.1.trans (zKO HIt.out HIk.out ⟨id2,true,j,⟨#[]⟩,0⟩ hid2.symm val15);have hnx18:s8.X.next=id2:=HKv14.out.2.1;have hm18':=hm18.num HId3.out;(have hmade:Made T (j+1) (yE L1 ⟨tk,⟨id2,true,j,⟨#[]⟩,0⟩::zZ L1 tk,val15⟩) id2:=by have h9:=Made.del page val9 val15 HI4.out.made HAt.out HIk.out rfl HPg.out HLn.out;rw[show n+2=id2 from by omega]at h9;exact h9);(have hfew:nz+2*kk+zc (wrS l).size+2+2≤2+13*(j+1):=by omega);(have hkI:s8.kvI.length≤4*(j+1):=by rw[HKv14.out.2.2,HKv8.out.2.2];omega);have HI18:=Hd (MadeI.mk hd18 hkv18 hnx18 hmade ho18 hm18' hr18 hfew hkI);obtain⟨⟨m0,m1⟩,y0,y1⟩:=zj hm17.at_;clear k1 k2 f1 f2 f3 hb15 hm15 hb16 hm17 hk18 hd18 ho18 hr17 hr18 hm18 hm18' ho15 hid hid2 hnm hnz hkv18 hnx18 hmade hfew hkI)));exact zUQ)|false=>have HIk:=Hd hik;have hnm:=HNm.out;have hnz:=HNz.out;have hpu:=zNm HD6.out.st (by omega) yt HLb.out (by decide) hik (.slice va6 l.length vc6) (.int .u64 j);rw[HD6.out.br_]at hpu;have HPu:=Hd hpu;clear hnm hnz hpu hik;go_wp2_with(first|(go_at_call 13;refine(HPu.out).mono ?_;rintro e w7⟨s7,rfl,hx,hX⟩;have hb8:Below w7.heap.size w7 (w7.alloc (.cells #[.string ⟨#[]⟩,.string ⟨#[]⟩,.int .u64 0,.bool false,.bool false,.int .u64 0,.int .i64 0,.int .i64 0] 38)):=qA;have HD8:=Hd ((HD6.out.x hx).still hb8);have HX8:=Hd ((HX6.out.v hx.step).still hb8);have ho8:=(HO6.out.v hx.step).still hb8;have HO8:=Hd ho8;have HM8:=Hd ((HM6.out.v hx.step).still hb8);have HR8:=Hd ((HR6.out.v hx.step).still hb8);have HKv8:=Hd (And.intro hX hx.kv);obtain⟨its8,k1,-,-⟩:=ho8.ex;have hnm:=HNm.out;obtain⟨id,hid⟩:=qN (n+1);have HRp:=Hd (zNj k1 yt id (item:=tk) (by omega) HIk.out (.string tk) (.int .u64 j));have HId:=Hd hid;have hm8:=HM8.out.at_;rw[hid]at hm8;obtain⟨⟨m0,m1⟩,-,-⟩:=zj hm8;obtain⟨⟨d0,d1⟩,-,-⟩:=zj HX8.out.at_;clear hb8 ho8 hx hX k1 hnm hid hm8));refine(HRp.out).mono ?_;rintro e w9⟨rfl,hb9⟩;have hm9:=HM8.out.still hb9;rw[HId.out]at hm9;have hb10:Below w9.heap.size w9 ((w9.alloc (.cells #[.slice va 1 vc,.int .u64 id] 53)).alloc (.cells #[.int .u64 0,.bool false,.bool false,.int .u64 0,.string ⟨#[]⟩] 135)):=(qA).alloc (by simp) _;have hm11:=hm9.still hb10;have hk12:=zE9 (g:=mb) ((w9.alloc (.cells #[.slice va 1 vc,.int .u64 id] 53)).alloc (.cells #[.int .u64 0,.bool false,.bool false,.int .u64 0,.string ⟨#[]⟩] 135)) (.slice va 1 vc) (.int .u64 id);have hd12:=((HD8.out.still hb9).still hb10).box hm11 (by decide) (by decide) hk12 (Nat.le_of_lt HMb.out);have ho12:=((HO8.out.still hb9).still hb10).box hm11.at_ (by decide) (by decide) (by decide) hk12;have hx11:=(HX8.out.still hb9).still hb10;have hx12:Beside _ s7 wr.heap.size _:=⟨hk12.at hx11.at_ (zCC hx11.at_ hm11.at_ (by decide)),hx11.off⟩;have hr11:=(HR8.out.still hb9).still hb10;have hr12:Beside _ s7 w.heap.size _:=⟨hk12.at hr11.at_ (by have:=HMb.out;omega),hr11.off⟩;have hm12:Beside _ s7 mb _:=⟨zCB hm11.at_ (.slice va 1 vc) (.int .u64 id),hm11.off⟩;have hm12':=hm12.num HId.out;have hnm:=HNm.out;have hnz:=HNz.out;(have hfew:nz+2*kk≤2+13*(j+1):=by omega);(have hkI:s7.kvI.length≤4*(j+1):=by rw[HKv8.out.2];omega);(have hkv12:s7.X.kvM=vT L:=by rw[HKv8.out.1];exact HKv6.out.1);(have hnx12:s7.X.next=n:=by rw[HKv8.out.1];exact HKv6.out.2);have hmade:Made T (j+1) L n:=Made.bad HI4.out.made HAt.out HIk.out;cases tg with|false=>have HI12:=Hd (MadeI.mk hd12 hkv12 hnx12 hmade ho12 hm12' hr12 hfew hkI);obtain⟨⟨m0,m1⟩,y0,y1⟩:=zj hm11.at_;obtain⟨⟨d0,d1⟩,-,-⟩:=zj hx12.at_;clear hb9 hm9 hb10 hm11 hk12 hd12 ho12 hx11 hx12 hr11 hr12 hm12 hm12' hnm hnz hfew hkI hkv12 hnx12 hmade;exact zUP|true=>have hde:=zNn hd12.st (by omega) yt (by rw[hkv12];exact kP L) (by decide) HIk.out (.int .u64 j);rw[hd12.br_]at hde;have HDe:=Hd hde;have HKv12:=Hd (And.intro hkv12 hnx12);have HMd:=Hd hmade;have HD12:=Hd hd12;have HO12:=Hd ho12;have HX12:=Hd hx12;have HR12:=Hd hr12;have HM12:=Hd hm12;have HFw:=Hd (And.intro hfew hkI);obtain⟨⟨m0,m1⟩,y0,y1⟩:=zj hm11.at_;obtain⟨⟨d0,d1⟩,-,-⟩:=zj hx12.at_;clear hb9 hm9 hb10 hm11 hk12 hd12 ho12 hx11 hx12 hr11 hr12 hm12 hm12' hnm hnz hfew hkI hkv12 hnx12 hmade hde;go_wp2_with(first|(go_at_call 14;refine(HDe.out).mono ?_;rintro e w13⟨s8,rfl,hx,hX⟩;have hb14:Below w13.heap.size w13 (w13.alloc (.cells #[.string ⟨#[]⟩,.string ⟨#[]⟩,.int .u64 0,.bool false,.bool false,.int .u64 0,.int .i64 0,.int .i64 0] 38)):=qA;have HD14:=Hd ((HD12.out.x hx).still hb14);have HX14:=Hd ((HX12.out.v hx.step).still hb14);have ho14:=(HO12.out.v hx.step).still hb14;have HO14:=Hd ho14;have HM14:=Hd ((HM12.out.v hx.step).still hb14);have HR14:=Hd ((HR12.out.v hx.step).still hb14);have HKv14:=Hd (And.intro hX hx.kv);obtain⟨its14,k1,-,-⟩:=ho14.ex;have hnm:=HNm.out;have HRd:=Hd (zNk k1 yt id (item:=tk) (by omega) HIk.out (.int .u64 j));obtain⟨⟨m0,m1⟩,-,-⟩:=zj HM14.out.at_;obtain⟨⟨d0,d1⟩,-,-⟩:=zj HX14.out.at_;clear hb14 ho14 hx hX k1 hnm)|(go_at_call 61;refine(HRd.out).mono ?_;rintro e w15⟨rfl,hb15⟩;have hm15:=HM14.out.still hb15;have hb16:Below w15.heap.size w15 ((w15.alloc (.cells #[.slice va 1 vc,.int .u64 id] 53)).alloc (.cells #[.int .u64 0,.bool false,.bool false,.int .u64 0,.string ⟨#[]⟩] 135)):=(qA).alloc (by simp) _;have hm17:=hm15.still hb16;have hk18:=zE9 (g:=mb) ((w15.alloc (.cells #[.slice va 1 vc,.int .u64 id] 53)).alloc (.cells #[.int .u64 0,.bool false,.bool false,.int .u64 0,.string ⟨#[]⟩] 135)) (.slice va 1 vc) (.int .u64 id);have hd18:=((HD14.out.still hb15).still hb16).box hm17 (by decide) (by decide) hk18 (Nat.le_of_lt HMb.out);have ho18:=((HO14.out.still hb15).still hb16).box hm17.at_ (by decide) (by decide) (by decide) hk18;have hr17:=(HR14.out.still hb15).still hb16;have hr18:Beside _ s8 w.heap.size _:=⟨hk18.at hr17.at_ (by have:=HMb.out;omega),hr17.off⟩;have hm18:Beside _ s8 mb _:=⟨zCB hm17.at_ (.slice va 1 vc) (.int .u64 id),hm17.off⟩;have hm18':=hm18.num HId.out;(have hkv18:s8.X.kvM=vT L:=by rw[HKv14.out.1];exact HKv12.out.1);(have hnx18:s8.X.next=n:=by rw[HKv14.out.1];exact HKv12.out.2);(have hkI:s8.kvI.length≤4*(j+1):=by rw[HKv14.out.2];exact HFw.out.2);have HI18:=Hd (MadeI.mk hd18 hkv18 hnx18 HMd.out ho18 hm18' hr18 HFw.out.1 hkI);obtain⟨⟨m0,m1⟩,y0,y1⟩:=zj hm17.at_;clear hb15 hm15 hb16 hm17 hk18 hd18 ho18 hr17 hr18 hm18 hm18' hkv18 hnx18 hkI));exact zUQ);·(obtain rfl:j=k:=by omega);(have g2:decide ((j:Int)<(j:Int))=false:=by simp);obtain⟨id,hid⟩:=qN (n+1);have HBx:=Hd (HI4.out.box.num hid.symm);have HId:=Hd hid;clear hmi hid;go_wp2_with(fail);have HRs:=Hd HI4.out.res;obtain⟨S,HS⟩:=mkS (Keep (fun q=>q=w.heap.size) (wr));have FR:=Hd (fun u(hu:S u)=>have hu:=(HS.out u).1 hu;have o09:=zj (hu.at HBx.out.at_ (fun e=>by have:=HMb.out;omega));o09);refine rgw 8 [tR 0,tR 1,tR 2,tR 3,tR 4,tR 5,tD 6,tR 7] HS (Keep.refl _ _).drew ?_;(iterate 6 refine rd1 ?_);refine doH ?_;intro K hK;obtain⟨⟨r0,r1⟩,r2,r3⟩:=zj HRs.out.at_;go_simp;have ka:Keep (fun q=>q=w.heap.size) wr ((wr.setCell ⟨w.heap.size,0,none⟩ (.slice va 1 vc)).setCell ⟨w.heap.size,1,none⟩ (.int .u64 id)).drew:=(zE9 (g:=w.heap.size) wr (.slice va 1 vc) (.int .u64 id)).drew;refine hK _ _ ((HS.out _).2 ka) ?_;clear hK K r0 r1 r2 r3;refine rd1 ?_;refine zl ?_;clear FR;clear S HS;have x9:(((wr.setCell ⟨w.heap.size,0,none⟩ (.slice va 1 vc)).setCell ⟨w.heap.size,1,none⟩ (.int .u64 id)).drew).heap[w.heap.size]? =_:=zCB HRs.out.at_ (.slice va 1 vc) (.int .u64 id);have hd9:=HI4.out.held.box HRs.out (by decide) (by decide) ka (Qn _);have ho9:=HI4.out.doc.box HRs.out.at_ (by decide) (by decide) (by decide) ka;have hfw:=HI4.out.few;have hbr:=HI4.out.held.br_;obtain⟨w9,hw9⟩:=qN (((wr.setCell ⟨w.heap.size,0,none⟩ (.slice va 1 vc)).setCell ⟨w.heap.size,1,none⟩ (.int .u64 id)).drew);rw[hw9]at x9 hd9 ho9⊢;clear hw9 ka;go_wp2_with(fail);refine bodyPost_ret (zFP rfl _ _ w.heap.size _ _ _ _ rfl x9 underlying53 rfl (by kernel_rfl)) rfl ?_;exact⟨sb,s4,D4,nz,n,L,_,by rw[HId.out,hbr];rfl,by rw[hbr];exact hd9,HI4.out.kv,HI4.out.nx,HI4.out.made,ho9,by omega⟩
theorem zIm:(prog.info? 74).map (fun i=>(i.zero,i.size,i.bytes))=some (some (.agg #[.string ⟨#[]⟩,.int .u64 0,.int .i64 0,.int .u64 0]),4,40):=by
 kernel_rfl
def En.cells(e:En):List Value:=[.string e.key,.int .u64 e.id,.int .i64 e.size,.int .u64 e.born]
def enV(l:List En):List Value:=l.flatMap En.cells
def psV(l:List QB):List Value:=l.map Value.string
theorem zNs(l:List En)(e:En):enV (l++[e])=enV l++e.cells:=by
 unfold enV
 rw[List.flatMap_append]
 simp
theorem zNt(l:List QB)(e:QB):psV (l++[e])=psV l++[.string e]:=by
 unfold psV
 rw[List.map_append]
 rfl
structure LiI(W0:World)(P br sb:Nat)(s:Sto)(D:Dict)(nz wb ob rb:Nat)(pre delim to_:QB)(w wr:World)(f:QB)(va vb:Value)(es:List En)(ps:List QB):Prop where
 held:Held W0 P br wr sb s D nz
 box:WkAt wr wb br pre delim f to_
 out:wr.heap[ob]? =some (.cells #[va,vb,.bool false,.string ⟨#[]⟩] 58 (0,0))
 res:wr.heap[rb]? =some (.cells #[.slice none 0 0,.slice none 0 0,.bool false,.string ⟨#[]⟩] 58 (0,0))
 es:wr.ownsRow w.heap.size 74 4 va es.length (enV es)
 ps:wr.ownsRow w.heap.size 9 1 vb ps.length (psV ps)
 below:Below w.heap.size w wr
section
variable {W0 w wr u : World} {P br sb nz wb ob rb : Nat} {s : Sto} {D : Dict} {pre delim to_ f : QB} {va vb : Value} {es : List En} {ps : List QB}
theorem LiI.still(h:LiI W0 P br sb s D nz wb ob rb pre delim to_ w wr f va vb es ps)(hb:Below wr.heap.size wr u):LiI W0 P br sb s D nz wb ob rb pre delim to_ w u f va vb es ps:=⟨h.held.still hb,h.box.still hb,qB hb h.out,qB hb h.res,(Keep.still hb).ownsRow h.es (fun _ _ e=>e),(Keep.still hb).ownsRow h.ps (fun _ _ e=>e),qT h.below hb⟩
theorem LiI.nx(h:LiI W0 P br sb s D nz wb ob rb pre delim to_ w wr f va vb es ps){f':QB}(hn:Nx W0 P br sb s D nz wb pre delim to_ wr u f')(hw:w.heap.size≤wb):LiI W0 P br sb s D nz wb ob rb pre delim to_ w u f' va vb es ps:=by
 have h1:¬ob=wb:=zCC h.out h.box (by decide)
 have h2:¬rb=wb:=zCC h.res h.box (by decide)
 exact⟨hn.held,hn.box,hn.keep.at h.out h1,hn.keep.at h.res h2,hn.keep.ownsRow h.es (fun g e e2=>zh h.es h.box (by decide) (e2▸e)),hn.keep.ownsRow h.ps (fun g e e2=>zh h.ps h.box (by decide) (e2▸e)),h.below.trans (hn.keep.below h.below.size (fun i hi e=>by have h9:i=wb:=e;omega))⟩
theorem LiI.nx0(h:LiI W0 P br sb s D nz wb ob rb pre delim to_ w wr f va vb es ps):Nx W0 P br sb s D nz wb pre delim to_ wr wr f:=⟨h.held,h.box,Keep.refl _ _⟩
theorem LiI.turn(h:LiI W0 P br sb s D nz wb ob rb pre delim to_ w wr f va vb es ps)(hne:ob≠rb)(ho:w.heap.size≤ob)(hno:¬s.foot ob)(hw:W0.heap.size≤ob){va' vb':Value}{es':List En}{ps':List QB}(hk:Keep (fun q=>q=ob) wr u)(h1:u.heap[ob]? =some (.cells #[va',vb',.bool false,.string ⟨#[]⟩] 58 (0,0)))(h2:u.ownsRow w.heap.size 74 4 va' es'.length (enV es'))(h3:u.ownsRow w.heap.size 9 1 vb' ps'.length (psV ps')):LiI W0 P br sb s D nz wb ob rb pre delim to_ w u f va' vb' es' ps':=⟨h.held.box (Beside.mk h.out hno) (by decide) (by decide) hk hw,hk.at h.box (zCC h.box h.out (by decide)),h1,hk.at h.res (fun e=>hne e.symm),h2,h3,h.below.trans (hk.below h.below.size (fun i hi e=>by have h9:i=ob:=e;omega))⟩
theorem zWU{p:Prop}(h:p:=by rcases h.es.2 with⟨rfl,_⟩|⟨g2,c,cur,rfl,_,hg,_⟩;(·cases e2);·have e3:g2=g:=Option.some.inj e2;exact zh h.ps hg (by decide) (e3▸e)):p:=h
theorem LiI.rowE(h:LiI W0 P br sb s D nz wb ob rb pre delim to_ w wr f va vb es ps)(hf:∀g,s.foot g→g<w.heap.size)(hW:W0.heap.size≤w.heap.size)(hk:Keep (fun q=>va.ownBlock=some q) wr u):Held W0 P br u sb s D nz∧WkAt u wb br pre delim f to_∧u.heap[ob]? =some (.cells #[va,vb,.bool false,.string ⟨#[]⟩] 58 (0,0))∧u.heap[rb]? =some (.cells #[.slice none 0 0,.slice none 0 0,.bool false,.string ⟨#[]⟩] 58 (0,0))∧u.ownsRow w.heap.size 9 1 vb ps.length (psV ps)∧Below w.heap.size w u:=by
 have hlt:=fun g e=>(World.ownsRow.lt h.es g e)
 have n1:∀{k T:Nat}{cs:Array Value},wr.heap[k]? =some (.cells cs T (0,0))→T≠74→¬va.ownBlock=some k:=fun a1 a2=>zh h.es a1 a2
 refine⟨⟨h.held.st.keep hk (n1 h.held.st.cells (by decide)) (n1 h.held.st.ti.cells (by decide)) (n1 h.held.st.tl.cells (by decide)) (fun k e e2=>by have h9:=(hlt k e2).1;have:=hf k e;omega),h.held.foot,h.held.below.trans (hk.below h.held.below.size (fun i hi e=>by have h9:=(hlt i e).1;omega)),h.held.pg,h.held.br_⟩,hk.at h.box (n1 h.box (by decide)),hk.at h.out (n1 h.out (by decide)),hk.at h.res (n1 h.res (by decide)),hk.ownsRow h.ps (fun g e e2=> ?_),h.below.trans (hk.below h.below.size (fun i hi e=>by have h9:=(hlt i e).1;omega))⟩
 exact zWU
theorem zWV{p:Prop}(h:p:=by rcases h.ps.2 with⟨rfl,_⟩|⟨g2,c,cur,rfl,_,hg,_⟩;(·cases e2);·have e3:g2=g:=Option.some.inj e2;exact zh h.es hg (by decide) (e3▸e)):p:=h
theorem LiI.rowP(h:LiI W0 P br sb s D nz wb ob rb pre delim to_ w wr f va vb es ps)(hf:∀g,s.foot g→g<w.heap.size)(hW:W0.heap.size≤w.heap.size)(hk:Keep (fun q=>vb.ownBlock=some q) wr u):Held W0 P br u sb s D nz∧WkAt u wb br pre delim f to_∧u.heap[ob]? =some (.cells #[va,vb,.bool false,.string ⟨#[]⟩] 58 (0,0))∧u.heap[rb]? =some (.cells #[.slice none 0 0,.slice none 0 0,.bool false,.string ⟨#[]⟩] 58 (0,0))∧u.ownsRow w.heap.size 74 4 va es.length (enV es)∧Below w.heap.size w u:=by
 have hlt:=fun g e=>(World.ownsRow.lt h.ps g e)
 have n1:∀{k T:Nat}{cs:Array Value},wr.heap[k]? =some (.cells cs T (0,0))→T≠9→¬vb.ownBlock=some k:=fun a1 a2=>zh h.ps a1 a2
 refine⟨⟨h.held.st.keep hk (n1 h.held.st.cells (by decide)) (n1 h.held.st.ti.cells (by decide)) (n1 h.held.st.tl.cells (by decide)) (fun k e e2=>by have h9:=(hlt k e2).1;have:=hf k e;omega),h.held.foot,h.held.below.trans (hk.below h.held.below.size (fun i hi e=>by have h9:=(hlt i e).1;omega)),h.held.pg,h.held.br_⟩,hk.at h.box (n1 h.box (by decide)),hk.at h.out (n1 h.out (by decide)),hk.at h.res (n1 h.res (by decide)),hk.ownsRow h.es (fun g e e2=> ?_),h.below.trans (hk.below h.below.size (fun i hi e=>by have h9:=(hlt i e).1;omega))⟩
 exact zWV
theorem zCr(w:World)(g:Nat)(v:Value):Keep (fun q=>q=g) w (w.setCell ⟨g,0,none⟩ v):=(Keep.refl (fun q=>q=g) w).setCell (p:=⟨g,0,none⟩) (fun _=>rfl) v
theorem zCs(w:World)(g:Nat)(v:Value):Keep (fun q=>q=g) w (w.setCell ⟨g,1,none⟩ v):=(Keep.refl (fun q=>q=g) w).setCell (p:=⟨g,1,none⟩) (fun _=>rfl) v
theorem zWW{p:Prop}(h:p:=by rw[Ql,zNs];exact hk2.ownsRow hr (fun g e e2=>zh hr h3 (by decide) (e2▸e))):p:=h
theorem LiI.entry(h:LiI W0 P br sb s D nz wb ob rb pre delim to_ w wr f va vb es ps)(hf:∀g,s.foot g→g<w.heap.size)(hW:W0.heap.size≤w.heap.size)(hne:ob≠rb)(ho:w.heap.size≤ob){e:En}{v8:Value}(hk:Keep (fun q=>va.ownBlock=some q) wr u)(hr:u.ownsRow w.heap.size 74 4 v8 (es.length+1) (enV es++e.cells)):LiI W0 P br sb s D nz wb ob rb pre delim to_ w (u.setCell ⟨ob,0,none⟩ v8) f v8 vb (es++[e]) ps:=by
 obtain⟨h1,h2,h3,h4,h5,h6⟩:=h.rowE hf hW hk
 have hk2:=zCr u ob v8
 have hno:¬s.foot ob:=fun e=>by have:=hf _ e;omega
 exact⟨h1.box (Beside.mk h3 hno) (by decide) (by decide) hk2 (by omega),hk2.at h2 (zCC h2 h3 (by decide)),heap_setCell_same _ ob 0 _ _ v8 h3,hk2.at h4 (fun e=>hne e.symm),by exact zWW,hk2.ownsRow h5 (fun g e e2=>zh h5 h3 (by decide) (e2▸e)),h6.trans (hk2.below h6.size (fun i hi e=>by have h9:i=ob:=e;omega))⟩
theorem zWX{p:Prop}(h:p:=by rw[Ql,zNt];exact hk2.ownsRow hr (fun g e e2=>zh hr h3 (by decide) (e2▸e))):p:=h
theorem LiI.group(h:LiI W0 P br sb s D nz wb ob rb pre delim to_ w wr f va vb es ps)(hf:∀g,s.foot g→g<w.heap.size)(hW:W0.heap.size≤w.heap.size)(hne:ob≠rb)(ho:w.heap.size≤ob){g:QB}{v8:Value}(hk:Keep (fun q=>vb.ownBlock=some q) wr u)(hr:u.ownsRow w.heap.size 9 1 v8 (ps.length+1) (psV ps++[.string g])):LiI W0 P br sb s D nz wb ob rb pre delim to_ w (u.setCell ⟨ob,1,none⟩ v8) f va v8 es (ps++[g]):=by
 obtain⟨h1,h2,h3,h4,h5,h6⟩:=h.rowP hf hW hk
 have hk2:=zCs u ob v8
 have hno:¬s.foot ob:=fun e=>by have:=hf _ e;omega
 exact⟨h1.box (Beside.mk h3 hno) (by decide) (by decide) hk2 (by omega),hk2.at h2 (zCC h2 h3 (by decide)),heap_setCell_same _ ob 1 _ _ v8 h3,hk2.at h4 (fun e=>hne e.symm),hk2.ownsRow h5 (fun g e e2=>zh h5 h3 (by decide) (e2▸e)),by exact zWX,h6.trans (hk2.below h6.size (fun i hi e=>by have h9:i=ob:=e;omega))⟩
end
structure ListIs(w w':World)(v:Value)(o:LOut):Prop where
 ex:∃va vb,v= .agg #[va,vb,.bool o.more,.string (if o.more then vU o.last else⟨#[]⟩)]∧w'.ownsRow w.heap.size 74 4 va o.es.length (enV o.es)∧w'.ownsRow w.heap.size 9 1 vb o.ps.length (psV o.ps)
 below:Below w.heap.size w w'
section
variable {W0 w wr u : World} {P br sb nz wb ob rb : Nat} {s : Sto} {D : Dict} {pre delim to_ f : QB} {va vb : Value} {es : List En} {ps : List QB}
theorem LiI.fin(h:LiI W0 P br sb s D nz wb ob rb pre delim to_ w wr f va vb es ps)(ho:w.heap.size≤ob)(hr:w.heap.size≤rb)(hk:Keep (fun q=>q=ob∨q=rb) wr u):u.ownsRow w.heap.size 74 4 va es.length (enV es)∧u.ownsRow w.heap.size 9 1 vb ps.length (psV ps)∧Below w.heap.size w u:=⟨hk.ownsRow h.es (fun g e e2=>e2.elim (fun e3=>zh h.es h.out (by decide) (e3▸e)) (fun e3=>zh h.es h.res (by decide) (e3▸e))),hk.ownsRow h.ps (fun g e e2=>e2.elim (fun e3=>zh h.ps h.out (by decide) (e3▸e)) (fun e3=>zh h.ps h.res (by decide) (e3▸e))),h.below.trans (hk.below h.below.size (fun i hi e=>by have h9:i=ob∨i=rb:=e;omega))⟩
theorem zWY{p:Prop}(h:p:=by obtain⟨h1,h2,h3⟩:=h.fin ho hr ((zBb wr rb va vb (.bool false) (.string ⟨#[]⟩)).mono (fun _ _ e=>.inr e));exact⟨⟨va,vb,rfl,h1,h2⟩,h3⟩):p:=h
theorem LiI.done(h:LiI W0 P br sb s D nz wb ob rb pre delim to_ w wr f va vb es ps)(ho:w.heap.size≤ob)(hr:w.heap.size≤rb):ListIs w (zNp wr rb va vb (.bool false) (.string ⟨#[]⟩)) (.agg #[va,vb,.bool false,.string ⟨#[]⟩]) ⟨es,ps,false,⟨#[]⟩⟩:=by
 exact zWY
theorem zWZ{p:Prop}(h:p:=by obtain⟨h1,h2,h3⟩:=h.fin ho hr (k1.trans (zBb _ rb va vb (.bool true) (.string (vU last))) (fun _ _ e=>.inr e));exact⟨⟨va,vb,rfl,h1,h2⟩,h3⟩):p:=h
theorem LiI.more(h:LiI W0 P br sb s D nz wb ob rb pre delim to_ w wr f va vb es ps)(ho:w.heap.size≤ob)(hr:w.heap.size≤rb)(last:QB):ListIs w (zNp ((wr.setCell ⟨ob,2,none⟩ (.bool true)).setCell ⟨ob,3,none⟩ (.string (vU last))) rb va vb (.bool true) (.string (vU last))) (.agg #[va,vb,.bool true,.string (vU last)]) ⟨es,ps,true,last⟩:=by
 have k1:Keep (fun q=>q=ob∨q=rb) wr ((wr.setCell ⟨ob,2,none⟩ (.bool true)).setCell ⟨ob,3,none⟩ (.string (vU last))):=((Keep.refl (fun q=>q=ob∨q=rb) wr).setCell (p:=⟨ob,2,none⟩) (fun _=>.inl rfl) _).setCell (p:=⟨ob,3,none⟩) (fun _=>.inl rfl) _
 exact zWZ
end
theorem zDj{s w:QB}(h:yD s w=true):w.size≤s.size:=by
 have:=(yR.1 h).length_le
 rw[xL,xL]at this
 exact this
theorem zNu(u:QB)(c:UInt8):∃t:QB,(⟨#[c]⟩++u:QB)=t∧t.extract 1 t.size=u∧t.size=1+u.size∧∃h:0<t.size,t[0]=c:=by
 obtain⟨x1,x2,x3⟩:=xK c u
 have x4:(⟨#[c]⟩++u:QB).size=1+u.size:=by rw[ByteArray.size_append];rfl
 refine⟨_,rfl,x1,x4,by omega,?_⟩
 have x5:(⟨#[c]⟩++u:QB).data[0]? =some c:=by rw[←Array.getElem?_toList,x2];rfl
 have h9:(⟨#[c]⟩++u:QB).data[0]? =some (⟨#[c]⟩++u:QB)[0]:=Array.getElem?_eq_getElem (by show 0<(⟨#[c]⟩++u:QB).size;omega)
 rw[x5]at h9
 exact(Option.some.inj h9).symm
theorem zUS{p:Prop}(h:p:=by have h2:=HNe.out.2.2;have h3:=HLast.out.2;have h4:=HLs.out.2;have h5:=HLim.out;omega):p:=h
theorem zFA{W0 w:World}{P br sb nz n:Nat}{s:Sto}{D:Dict}{pre delim token:QB}{limit:Nat}{L:List It}(hix:IxAt W0)(h:Held W0 P br w sb s D nz)(hn:nz≤1900)(hkv:s.X.kvM=vT L)(hL:ItsOk n L)(ht:token.size≤400000)(hr:yU pre delim limit token (yS token).isSome=0):Calls prog 22 #[.pointer (some ⟨br,0,none⟩),.string abcB,.string pre,.string delim,.int .i64 limit,.string token] w fun e w'=>∃v,e= .returned (.tuple #[v,.int .i64 0])∧ListIs w w' v (kV pre delim ((yS token).getD ⟨#[]⟩) limit L LSt.init):=by
 have hlb:look s.X.kvM (zD abcB)=some (zT 1 0):=by rw[hkv];exact kP L
 have hb0:Below w.heap.size w (w.alloc (.cells #[.slice none 0 0,.slice none 0 0,.bool false,.string ⟨#[]⟩] 58)):=qA
 have HBg:=Hd (zLx (w:=w.alloc (.cells #[.slice none 0 0,.slice none 0 0,.bool false,.string ⟨#[]⟩] 58)) (br:=br) (fun u hu=>by have h9:=(h.st.still (hb0.trans (hu.mono (by simp)))).bfind_some hn yt hlb (by decide) (by decide);rw[h.br_]at h9;exact h9) ht hr)
 obtain⟨rl1,rl2,hp1,hp2⟩:=zNh hr
 have HLim:=Hd rl2
 obtain⟨frm,hfrm⟩:=qN ((yS token).getD ⟨#[]⟩)
 rw[hfrm]at HBg⊢
 have HB0:=Hd hb0
 have HX0:=Hd (qH w (.cells #[.slice none 0 0,.slice none 0 0,.bool false,.string ⟨#[]⟩] 58))
 have HH:=Hd h
 have hft:∀g,s.foot g→g<w.heap.size:=fun g e=>h.st.ahead.2.2.2 g e
 have HFt:=Hd hft
 have HNx:=Hd (fun(wb:Nat)(to_ f0:QB)(u:World)(hu:Held W0 P br u sb s D nz)(hw:WkAt u wb br pre delim f0 to_)(h1:w.heap.size≤wb)(lo0:QB→Bool)(hb:Bnd f0 lo0)(hbk:bLt (zD abcB) f0)(hto:Beh (zy pre).data.toList to_.data.toList)(hne:to_≠⟨#[]⟩)=>zL1 hu hw (fun e=>by have:=hft _ e;omega) (Nat.le_trans h.below.size h1) hn hkv hL hb hbk hto hp2 hne)
 have HL:=Hd hL
 have HIx:=Hd hix
 have HPp:=Hd (And.intro hp1 hp2)
 clear h hn hkv hL ht hr hlb hb0 hft hix hfrm hp1 hp2
 go_enter func22,ntmps22
 go_wp2_with(go_at_call 62;refine(HBg.out).mono ?_;rintro e w1⟨wb,f,to_,rfl,hbg⟩;have HBe:=Hd hbg;clear hbg)
 obtain⟨lo,hbd,hbk,hlo⟩:=zLv HPp.out.2 HBe.out.beg
 have hx1:=(HBe.out.below.block w.heap.size (by simp)).trans HX0.out
 have hsz1:w.heap.size+1≤w1.heap.size:=by have:=HBe.out.below.size;simp at this;omega
 have hwbl:wb<w1.heap.size:=(Gl HBe.out.at_)
 have hwb0:w.heap.size≤wb:=by have:=HBe.out.new;simp at this;omega
 have hb1:Below w.heap.size w w1:=qT HB0.out HBe.out.below
 have hb2:Below w1.heap.size w1 (w1.alloc (.cells #[.slice none 0 0,.slice none 0 0,.bool false,.string ⟨#[]⟩] 58)):=qA
 obtain⟨rb,hrb⟩:=qN w.heap.size
 obtain⟨ob,hob⟩:=qN w1.heap.size
 have hi0:LiI W0 P br sb s D nz wb ob rb pre delim to_ w (w1.alloc (.cells #[.slice none 0 0,.slice none 0 0,.bool false,.string ⟨#[]⟩] 58)) f (.slice none 0 0) (.slice none 0 0) [] []:=⟨(HH.out.still hb1).still hb2,HBe.out.at_.still hb2,by rw[←hob];exact qH w1 _,by rw[←hrb];exact(hb2.block _ (by omega)).trans hx1,qO,qO,qT hb1 hb2⟩
 have HI0:=Hd hi0
 have HO:=Hd (show ob≠rb∧w.heap.size≤ob∧w.heap.size≤rb∧w.heap.size≤wb from⟨by omega,by omega,by omega,hwb0⟩)
 have HW:=Hd (show WalkP pre frm L lo LSt.init [] L from zJq (fun it _=>hlo it.key))
 have HB1:=Hd (And.intro hbd hbk)
 have HW0:=Hd (show W0.heap.size≤w.heap.size from HH.out.below.size)
 have HTo:=Hd (And.intro HBe.out.beh HBe.out.ne)
 obtain⟨i0,hi0',hz0,hz1,hz2⟩:=info_parts zIm
 obtain⟨i1,hi1,hy0,hy1,hy2⟩:=info_parts zCR
 have HE:=Hd hi0'
 have Hz0:=Hd hz0
 have Hz1:=Hd hz1
 have Hz2:=Hd hz2
 have HS9:=Hd hi1
 have Hy0:=Hd hy0
 have Hy1:=Hd hy1
 have Hy2:=Hd hy2
 rw[hrb,hob]
 obtain⟨w2,hw2⟩:=qN (w1.alloc (.cells #[.slice none 0 0,.slice none 0 0,.bool false,.string ⟨#[]⟩] 58))
 rw[hw2]at HI0⊢
 unfold zUI zUJ at HNx
 clear hbd hbk hlo hx1 hsz1 hwbl hwb0 hb1 hb2 hi0 hrb hob hi0' hz0 hz1 hz2 hi1 hy0 hy1 hy2 hw2 HB0 HX0 HBg
 go_loopw [17,18,19,20,21](fun last told _ _ _ wr=>∃(st:LSt)(a r:List It)(lo:QB→Bool)(f:QB)(va vb:Value),told= .int .i64 st.told∧last= .string st.last∧LiI W0 P br sb s D nz wb ob rb pre delim to_ w wr f va vb st.es st.ps∧Bnd f lo∧bLt (zD abcB) f∧WalkP pre frm L lo st a r∧kV pre delim frm limit r st=kV pre delim frm limit L LSt.init∧st.told≤limit∧st.es.length+st.ps.length=st.told∧st.last.size≤100)(fun _ told _ _ _ _=>limit+1-(intOf told).toNat)
 case atStart=>exact⟨LSt.init,[],L,lo,f,_,_,rfl,rfl,HI0.out,HB1.out.1,HB1.out.2,HW.out,rfl,Nat.zero_le _,rfl,by decide⟩
 case round=>obtain⟨st,a,r,lo',f',va,vb,rfl,rfl,hli,hbd,hbk,hwp,hdp,htl,hct,hls⟩:=hrel;have hN:=HNx.out wb to_ f' wr hli.held hli.box HO.out.2.2.2 lo' hbd hbk HTo.out.1 HTo.out.2;obtain⟨ea,ec,hva⟩:=zA hli.es;obtain⟨pa,pc,hvb⟩:=zA hli.ps;obtain⟨ne,hne⟩:=qN st.es.length;obtain⟨np,hnp⟩:=qN st.ps.length;rw[hne]at hva;rw[hnp]at hvb;subst hva hvb;have HNe:=Hd (And.intro hne (And.intro hnp hct));have HLi:=Hd hli;have HBd:=Hd hbd;have HWp:=Hd hwp;have HDp:=Hd hdp;have HLs:=Hd (And.intro hls htl);have HNn:=Hd hN;clear hli hbd hbk hwp hdp hN hne hnp hct;obtain⟨last,hlast⟩:=qN st.last;obtain⟨told,htold⟩:=qN st.told;have HLast:=Hd (And.intro hlast htold);rw[hlast]at HLs hls⊢;rw[htold]at HLs htl⊢;clear hlast htold;go_wp2_with(fail);refine(HNn.out).mono ?_;rintro e w3⟨f3,hnx,hcase⟩;have hl3:=HLi.out.nx hnx HO.out.2.2.2;rcases hcase with⟨hno,rfl⟩|⟨it,hf,rfl,rfl⟩;(·have hl4:=hl3.still ((Below.refl w3.heap.size w3).alloc (Qn _) (.cells #[.string ⟨#[]⟩,.int .u64 0,.int .i64 0,.int .u64 0] 74));have HD:=Hd (zJo (delim:=delim) (limit:=limit) HWp.out hno);obtain⟨⟨d0,d1,d2,d3⟩,-⟩:=yM hl4.out;obtain⟨⟨x0,x1,x2,x3⟩,z0,z1,z2,z3⟩:=yM hl4.res;have HL4:=Hd hl4;clear hnx hl3 hno hl4;go_wp2_with(fail);refine bodyPost_ret (zx rfl _ _ rb _ _ _ _ rfl (vy HL4.out.res _ _ _ _) underlying58 rfl (by kernel_rfl)) rfl ?_;exact⟨_,rfl,by rw[←HDp.out,HD.out];exact HL4.out.done HO.out.2.1 HO.out.2.2.1⟩);·obtain⟨r1,r2,hr,hdo⟩:=zJp (delim:=delim) (limit:=limit) HWp.out hf;have he:xB pre lo' it=true:=(List.find?_eq_some_iff_append.1 hf).1;have hm:it∈L:=List.mem_of_find?_eq_some hf;(have hir:it∈r:=by rw[hr];simp);have hsk:=(HWp.out.elig_iff hir).1 he;unfold yL at hsk;simp only[Bool.or_eq_false_iff,Bool.not_eq_false']at hsk;have hbg:=hsk.2.1;have hps:=zDj hbg;have ho:=HL.out.one it hm;obtain⟨hz0,hz1⟩:=zg ho.key;have HWn:=Hd (HWp.out.next (delim:=delim) HL.out.rises hr he);have HD:=Hd (HDp.out.symm.trans hdo);have HZ:=Hd (And.intro hz0 hz1);have HPs:=Hd hps;have hl4:=hl3.still ((Below.refl w3.heap.size w3).alloc (Qn _) (.cells #[.string it.key,.int .u64 it.head.id,.int .i64 it.head.body.size,.int .u64 it.head.born] 74));have hnx3:=hl3.below.size;have hx4:=qH w3 (.cells #[.string it.key,.int .u64 it.head.id,.int .i64 it.head.body.size,.int .u64 it.head.born] 74);have HTk:=Hd (zGF last (by omega));obtain⟨tk,htk⟩:=qN (vU last);rw[htk]at HTk;have HTe:=Hd htk;clear htk;clear hr hdo he hm hir hsk hbg ho hnx hl3 hf;by_cases hlim:told=limit;(·(have d1:((told:Int)==(limit:Int))=true:=by simp;omega);(have d2:(told:Int)=(limit:Int):=by omega);have HL4:=Hd hl4;have HSt:=Hd (show st.told=limit by rw[HLast.out.2];exact hlim);clear hl4 hx4 hz0 hz1 hps;go_wp2_with(fail);refine(HTk.out _).mono ?_;rintro e w5⟨rfl,hb5⟩;have hl5:=HL4.out.still hb5;obtain⟨⟨d0,e1,e2,e3⟩,y0,y1,y2,y3⟩:=yM hl5.out;obtain⟨⟨x0,x1,x2,x3⟩,z0,z1,z2,z3⟩:=yM hl5.res;have HL5:=Hd hl5;have hn1:ob≠rb:=HO.out.1;have hn2:rb≠ob:=fun e=>hn1 e.symm;clear hb5 hl5;go_wp2_with(fail);have hk5:Keep (fun q=>q=ob) w5 ((w5.setCell ⟨ob,2,none⟩ (.bool true)).setCell ⟨ob,3,none⟩ (.string tk)):=((Keep.refl (fun q=>q=ob) w5).setCell (p:=⟨ob,2,none⟩) (fun _=>rfl) _).setCell (p:=⟨ob,3,none⟩) (fun _=>rfl) _;refine bodyPost_ret (zx rfl _ _ rb _ _ _ _ rfl (vy (hk5.at HL5.out.res hn2) _ _ _ _) underlying58 rfl (by kernel_rfl)) rfl ?_;exact⟨_,rfl,by rw[HD.out,if_pos HSt.out,HLast.out.1,←HTe.out];exact HL5.out.more HO.out.2.1 HO.out.2.2.1 last⟩);·(have d1:((told:Int)==(limit:Int))=false:=by simp;omega);(have d2:¬(told:Int)=(limit:Int):=by omega);obtain⟨w4,hw4⟩:=qN (w3.alloc (.cells #[.string it.key,.int .u64 it.head.id,.int .i64 it.head.body.size,.int .u64 it.head.born] 74));obtain⟨xb,hxb⟩:=qN w3.heap.size;rw[hw4,hxb]at hx4;rw[hw4]at hl4;have HX4:=Hd hx4;have HL4:=Hd hl4;(have hxl:w.heap.size≤xb:=by have:=hnx3;omega);have HNm:=Hd (And.intro hw4 hxb);have HXl:=Hd hxl;(have hte:∀(t:QB),(zR it.key pre delim=⟨#[]⟩→t=kT it.key)→(zR it.key pre delim≠⟨#[]⟩→t=pT (zR it.key pre delim))→Calls prog 65 #[.pointer (some ⟨wb,0,none⟩),.agg #[.string it.key,.int .u64 it.head.id,.int .i64 it.head.body.size,.int .u64 it.head.born]] w4 fun e w'=>e= .returned (.string t)∧Below w4.heap.size w4 w':=fun t h1 h2=>by by_cases hg:zR it.key pre delim=⟨#[]⟩;(·rw[h1 hg];exact zPn HIx.out hl4.held.below hl4.box HPs.out (by have:=HZ.out.2;omega) hg _ _ _);·rw[h2 hg];exact zPo HIx.out hl4.held.below hl4.box HPs.out (by have:=HZ.out.2;omega) rfl hg _ _ _);(have htd:(st.tell pre delim it).told=told+1:=by rw[zCp,HLast.out.2]);(have htw:IntKind.i64.wrap ((told:Int)+1)=(told:Int)+1:=by rw[IntKind.wrap_i64];have:=HLs.out.2;have:=HLim.out;omega);have HTd:=Hd htd;by_cases hg:zR it.key pre delim=⟨#[]⟩;(·obtain⟨t,ht,t1,t2,t3,t4⟩:=zNu it.key 107;have HTl:=Hd (hte t (fun _=>by rw[←ht];rfl) (fun e=>absurd hg e));(have hst:st.tell pre delim it=⟨st.told+1,t,⟨#[]⟩,st.es++[it.en],st.ps⟩:=by rw[zCp,hg];unfold xe zIb zIc;simp only[if_true,List.append_nil];rw[←ht];rfl);(have hbo:(st.tell pre delim it).bound it=fun k=> !decide (bLt it.key k):=by funext k;unfold LSt.bound;rw[zCm,hg,if_pos rfl]);have HSt:=Hd hst;have HBo:=Hd hbo;have HT2:=Hd t2;have HT0:=Hd ht;have u107:((107:UInt8).toNat:Int)=107:=rfl;clear hte hst hbo hl4 hx4 hg hw4 hxb ht;go_wp2_with(fail);rw[HNm.out.1,HNm.out.2];refine(HTl.out).mono ?_;rintro e w5⟨rfl,hb5⟩;have hl5:=HL4.out.still hb5;have hx5:=qB hb5 HX4.out;obtain⟨⟨d0,d1,d2,d3⟩,-⟩:=yM hl5.out;obtain⟨⟨e0,e1,e2,e3⟩,-⟩:=yM hx5;have hl6:=hl5.still ((Below.refl w5.heap.size w5).alloc (Qn _) (.cells #[.string it.key,.int .u64 it.head.id,.int .i64 it.head.body.size,.int .u64 it.head.born] 74));have hr6:=hl6.es;rw[HNe.out.1]at hr6;have HR6:=Hd hr6;have HX6:=Hd (qH w5 (.cells #[.string it.key,.int .u64 it.head.id,.int .i64 it.head.body.size,.int .u64 it.head.born] 74));have HL5:=Hd hl5;have HSz:=Hd hl5.below.size;(have hne:ne≤100:=by have h1:=HNe.out.1;exact zUS);clear hb5 hl5 hx5 hl6 hr6;go_wp2_with(at_builtin;refine wpList_append_own_at _ (by rfl) _ _ 56 (by rfl) w.heap.size 74 i0 (.agg #[.string ⟨#[]⟩,.int .u64 0,.int .i64 0,.int .u64 0]) 4 40 underlying56 HE.out Hz0.out Hz1.out Hz2.out (by rfl) (by decide) (.slice ea ne ec) _ _ (by rfl) HR6.out ⟨w5.heap.size,0,none⟩ 1 1 [.string it.key,.int .u64 it.head.id,.int .i64 it.head.body.size,.int .u64 it.head.born] (by rfl) (by rfl) (World.news_of_block (cs:= #[.string it.key,.int .u64 it.head.id,.int .i64 it.head.body.size,.int .u64 it.head.born]) (t:=74) (fr:=(0,0)) HX6.out) (by simp[Value.oneCell']) (by unfold maxLen;omega) (by omega) ?_ ?_;(·have h1:=HSz.out;simp;omega);intro v8 w8 hown8 hg8 hnil8 hloc8;have hk8:=((Keep.refl (fun q=>(Value.slice ea ne ec).ownBlock=some q) w5).alloc (.cells #[.string it.key,.int .u64 it.head.id,.int .i64 it.head.body.size,.int .u64 it.head.born] 74)).grown hg8 (fun q _ e=>e);obtain⟨p8,c8,hv8⟩:=zA hown8;subst hv8;have hr8:=HL5.out.rowE HFt.out HW0.out hk8;have HL9:=Hd (HL5.out.entry HFt.out HW0.out HO.out.1 HO.out.2.1 (e:=it.en) hk8 (by rw[HNe.out.1];exact hown8));clear d0 d1 d2 d3 e0 e1 e2 e3;obtain⟨⟨d0,d1,d2,d3⟩,y0,y1,y2,y3⟩:=yM hr8.2.2.1;clear hown8 hg8 hnil8 hloc8 hk8 hr8);go_roundw;(case rel=>refine⟨st.tell pre delim it,a++(r1++[it]),r2,_,yT it.key,.slice p8 (ne+1) c8,.slice pa np pc,by rw[HTd.out];go_num,by rw[HSt.out],?_,zCn HZ.out.1,zGy _,HBo.out▸HWn.out,?_,?_,?_,?_⟩;(·rw[HSt.out];exact HL9.out);(·rw[HD.out,if_neg (by rw[HLast.out.2];exact hlim)]);(·rw[HTd.out];have:=HLs.out.2;omega);(·rw[HSt.out];have h1:=HNe.out.2.2;simp;omega);·rw[HSt.out];show t.size≤100;have:=HZ.out.2;omega);case measure=>have:=HLs.out.2;simp[intOf];omega);·obtain⟨g,hgg⟩:=qN (zR it.key pre delim);obtain⟨t,ht,t1,t2,t3,t4⟩:=zNu g 112;obtain⟨hgp1,hgp2⟩:=xP.1 (zDi (xP.2 ⟨hz1,hz0⟩) hgg);have HTl:=Hd (hte t (fun e=>absurd e hg) (fun _=>by rw[hgg,←ht];rfl));(have hst:st.tell pre delim it=⟨st.told+1,t,g,st.es,st.ps++[g]⟩:=by rw[hgg]at hg;rw[zCp,hgg];unfold xe zIb zIc;simp only[if_neg hg,List.append_nil];rw[←ht];rfl);(have hbo:(st.tell pre delim it).bound it=inn g:=by rw[hgg]at hg;funext k;unfold LSt.bound inn;rw[zCm,hgg,if_neg hg]);obtain⟨hb,hbe,_,hbk⟩:=zGu g;have HBd2:=Hd (And.intro (zD3 hgp2 hbe) hbk);have HBp:=Hd (fun(u:World)(f:QB)(hu:WkAt u wb br pre delim f to_)=>show Calls prog 66 #[.pointer (some ⟨wb,0,none⟩),.string t] u fun e w'=>e= .returned (.string hb)∧Below u.heap.size u w' from ht▸zGA hu (by omega) hbe);have HSt:=Hd hst;have HBo:=Hd hbo;have HT2:=Hd (show t.size≤100 by omega);have u112:((112:UInt8).toNat:Int)=112:=rfl;obtain⟨z,hzz⟩:=qN t.size;(have s1:(1:Int)≤(z:Int):=by omega);(have t5:t.extract 1 z=g:=by rw[←hzz];exact t1);clear hte hst hbo hl4 hx4 hg hw4 hxb ht hgg hgp1 hgp2 hbe hbk t1 t2;go_wp2_with(fail);rw[HNm.out.1,HNm.out.2];refine(HTl.out).mono ?_;rintro e w5⟨rfl,hb5⟩;have hl5:=HL4.out.still hb5;obtain⟨⟨d0,d1,d2,d3⟩,-⟩:=yM hl5.out;have HL5:=Hd hl5;have HSz:=Hd hl5.below.size;have hr5:=hl5.ps;rw[HNe.out.2.1]at hr5;have HR5:=Hd hr5;(have hne:np≤100:=by have h1:=HNe.out.2.1;exact zUS);have HNp:=Hd hne;clear hb5 hl5 hr5;go_wp2_with(fail);obtain⟨S,HS⟩:=mkS (Keep (fun q=>(Value.slice pa np pc).ownBlock=some q) (w5));have FR:=Hd (fun u(hu:S u)=>have hu:=(HS.out u).1 hu;have o09:=yM (hu.at HL5.out.out (zh HL5.out.ps HL5.out.out (by decide)));o09);refine rgo 6 [tR 0,tR 1,tR 2,tR 3,tD 4,tD 5] HS (Keep.refl _ _).drew ?_;(iterate 4 refine rd1 ?_);refine doH ?_;intro K hK;go_simp;have ka:Keep (fun q=>(Value.slice pa np pc).ownBlock=some q) w5 (w5.alloc (.cells #[.string g] 9)).drew:=((Keep.refl _ w5).alloc _).drew;have HRa:=Hd (show((w5.alloc (.cells #[.string g] 9)).drew).ownsRow w.heap.size 9 1 (.slice (some ⟨w5.heap.size,0,none⟩) 1 1) 1 [.string g]from⟨rfl,.inr ⟨w5.heap.size,1,_,rfl,HSz.out,qH w5 _,Qn _,by unfold maxLen;omega,rfl,rfl⟩⟩);have HOa:=Hd (show((w5.alloc (.cells #[.string g] 9)).drew).ownsRow w.heap.size 9 1 (.slice pa np pc) np _ from((Keep.refl (fun _=>False) w5).alloc _).drew.ownsRow HR5.out (fun _ _ e=>e));have HKa:=Hd ka;refine hK _ _ ((HS.out _).2 ka) ?_;clear hK K ka;refine doH ?_;intro K hK;refine vM _ _ 22 (by rfl) w.heap.size 9 i1 (.string ⟨#[]⟩) 1 16 underlying22 HS9.out Hy0.out Hy1.out Hy2.out (by rfl) (by decide) (.slice pa np pc) np _ (by rfl) HOa.out (.slice (some ⟨w5.heap.size,0,none⟩) 1 1) 1 w.heap.size [.string g] (by rfl) HRa.out (by simp[Value.oneCell']) (by have:=HNp.out;unfold maxLen;omega) (by have:=HNp.out;omega) (by have:=HSz.out;simp;omega) ?_;intro v8 w8 hown8 hg8 hl8;have hk8:=HKa.out.grown hg8 (fun q _ e=>e);obtain⟨p8,c8,hv8⟩:=zA hown8;subst hv8;have hr8:=HL5.out.rowP HFt.out HW0.out hk8;have HY8:=Hd (yM hr8.2.2.1);have HL9:=Hd (HL5.out.group HFt.out HW0.out HO.out.1 HO.out.2.1 (g:=g) hk8 (by rw[HNe.out.2.1];exact hown8));refine hK _ _ ((HS.out _).2 hk8) ?_;clear hK K hk8 hown8 hg8 hl8 hr8;refine zl ?_;clear FR;clear S HS;obtain⟨⟨d0,d1,d2,d3⟩,y0,y1,y2,y3⟩:=HY8.out;go_wp2_with(fail);obtain⟨w9,hw9⟩:=qN (w8.setCell ⟨ob,1,none⟩ (.slice p8 (np+1) c8));rw[hw9]at HL9⊢;clear hw9 d0 d1 d2 d3 y0 y1 y2 y3;refine(HBp.out _ _ HL9.out.box).mono ?_;rintro e w10⟨rfl,hb10⟩;have hl10:=HL9.out.still hb10;obtain⟨⟨d0,d1,d2,d3,d4,d5⟩,y0,y1,y2,y3,y4,y5⟩:=yl hl10.box;have HL11:=Hd (hl10.nx (hl10.nx0.set (fun e=>by have:=HFt.out _ e;have:=HO.out.2.2.2;omega) (Nat.le_trans HW0.out HO.out.2.2.2) hb) HO.out.2.2.2);clear hl10 hb10;go_wp2_with(fail);go_roundw;(case rel=>refine⟨st.tell pre delim it,a++(r1++[it]),r2,_,hb,.slice ea ne ec,.slice p8 (np+1) c8,by rw[HTd.out];go_num,by rw[HSt.out],?_,HBd2.out.1,HBd2.out.2,HBo.out▸HWn.out,?_,?_,?_,?_⟩;(·rw[HSt.out];exact HL11.out);(·rw[HD.out,if_neg (by rw[HLast.out.2];exact hlim)]);(·rw[HTd.out];have:=HLs.out.2;omega);(·rw[HSt.out];have h1:=HNe.out.2.2;simp;omega);·rw[HSt.out];exact HT2.out);case measure=>have:=HLs.out.2;simp[intOf];omega
structure DlB(w u:World)(v:Value)(nx:Nat)(Bs:List Bk)(mb rb:Nat):Prop where
 bks:BksAt u v Bs
 m:u.heap[mb]? =some (.cells #[v,.int .u64 nx] 53 (0,0))
 res:u.heap[rb]? =some (.cells #[.slice none 0 0,.slice none 0 0,.bool false,.string ⟨#[]⟩] 58 (0,0))
 below:Below w.heap.size w u
theorem DlB.still{w u u':World}{v:Value}{nx mb rb:Nat}{Bs:List Bk}(h:DlB w u v nx Bs mb rb)(hb:Below u.heap.size u u'):DlB w u' v nx Bs mb rb:=⟨BksAt.still h.bks hb,qB hb h.m,qB hb h.res,qT h.below hb⟩
theorem zVR{w:World}{v:Value}{Bs:List Bk}(h:BksAt w v Bs)(nx:Nat):DlB w ((w.alloc (.cells #[v,.int .u64 nx] 53)).alloc (.cells #[.slice none 0 0,.slice none 0 0,.bool false,.string ⟨#[]⟩] 58)) v nx Bs w.heap.size (w.heap.size+1):=by
 have h1:Below w.heap.size w (w.alloc (.cells #[v,.int .u64 nx] 53)):=qA
 have h2:Below (w.alloc (.cells #[v,.int .u64 nx] 53)).heap.size (w.alloc (.cells #[v,.int .u64 nx] 53)) ((w.alloc (.cells #[v,.int .u64 nx] 53)).alloc (.cells #[.slice none 0 0,.slice none 0 0,.bool false,.string ⟨#[]⟩] 58)):=qA
 have hz:(w.alloc (.cells #[v,.int .u64 nx] 53)).heap.size=w.heap.size+1:=World.size_alloc w _
 exact⟨BksAt.still (BksAt.still h h1) h2,(h2.block _ (by rw[hz];omega)).trans (qH w _),by rw[←hz];exact qH _ _,qT h1 h2⟩
theorem zVz{w:World}{v:Value}{Bs:List Bk}(h:BksAt w v Bs)(hl:Bs.length≤1000)(nx:Nat){name pre delim token:QB}{limit:Int}(hs:name.size≤1000000)(he:zLp Bs name≠0):Calls prog 23 #[.agg #[v,.int .u64 nx],.string name,.string pre,.string delim,.int .i64 limit,.string token] w fun e w'=>e= .returned (.tuple #[.agg #[.slice none 0 0,.slice none 0 0,.bool false,.string ⟨#[]⟩],.int .i64 (zLp Bs name)])∧Below w.heap.size w w':=by
 have hd:=zVR h nx
 obtain⟨w2,hw2⟩:=qN ((w.alloc (.cells #[v,.int .u64 nx] 53)).alloc (.cells #[.slice none 0 0,.slice none 0 0,.bool false,.string ⟨#[]⟩] 58))
 rw[hw2]at hd
 have HE:=Hd (zIY hd.bks hl nx name hs)
 have HD:=Hd hd
 have HW2:=Hd hw2
 obtain⟨⟨c0,c1⟩,-⟩:=zj hd.m
 rw[←hw2]at c0 c1
 obtain⟨ec,hec⟩:=qN (zLp Bs name)
 rw[hec]at HE he⊢
 have e1:(ec==0)=false:=by simpa using he
 clear hd hw2 hec h
 go_enter func23,ntmps23
 go_wp2_with(fail)
 rw[HW2.out]
 refine(HE.out).mono ?_
 rintro e w3⟨rfl,hb3⟩
 have HD3:=Hd (HD.out.still hb3)
 obtain⟨⟨x0,x1,x2,x3⟩,z0,z1,z2,z3⟩:=yM HD3.out.res
 clear hb3 c0 c1
 go_wp2_with(fail)
 refine bodyPost_ret (zx rfl _ _ (w.heap.size+1) _ _ _ _ rfl (vy HD3.out.res _ _ _ _) underlying58 rfl (by kernel_rfl)) rfl ?_
 exact⟨rfl,HD3.out.below.trans ((zBb w3 (w.heap.size+1) _ _ _ _).below HD3.out.below.size (fun i hi e=>by have h9:i=w.heap.size+1:=e;omega))⟩
theorem DlB.fin{w u:World}{v:Value}{nx mb rb:Nat}{Bs:List Bk}(h:DlB w u v nx Bs mb rb)(hr:w.heap.size≤rb)(a b c d:Value):Below w.heap.size w (zNp u rb a b c d):=h.below.trans ((zBb u rb a b c d).below h.below.size (fun i hi e=>by have h9:i=rb:=e;omega))
theorem zVp{t:QB}(h:0<t.size)(d:UInt8):zAD t d=decide (t[0]=d):=by
 unfold zAD
 rw[List.head?_eq_getElem?,byte_at h]
 simp
theorem zVj{t token:QB}(h:ko token=some t)(h2:2≤t.size):(yS token).isSome=(decide (t.size≤41)&&(zf t&&(decide (t[0]=107)||decide (t[0]=112)))):=by
 have e1:(t.extract 1 t.size).size=t.size-1:=by rw[ByteArray.size_extract];omega
 unfold yS
 rw[h]
 simp only
 rw[zVp (by omega) 107,zVp (by omega) 112,decide_eq_true (show 1<t.size by omega),Bool.true_and]
 have hK:(decide (t[0]=107)||decide (t[0]=112))=true→zf t=zf (t.extract 1 t.size):=fun hk=>by(have hc:t[0]≠0:=fun e=>by rw[e]at hk;exact absurd hk (by decide));(have hl:t.data.toList=t[0]::t.data.toList.drop 1:=by have:=byte_at (s:=t) (j:=0) (by omega);cases hd:t.data.toList with|nil=>rw[hd]at this;cases this|cons a l=>rw[hd]at this;rw[List.getElem?_cons_zero]at this;rw[Option.some.inj this];rfl);rw[Bool.eq_iff_iff,yC,yC,zIf,hl];unfold nz;constructor;(·intro h9 x hx;exact h9 x (List.mem_cons_of_mem _ (by simpa using hx)));·intro h9 x hx;rcases List.mem_cons.1 hx with e|e;(·rw[e];exact hc);·exact h9 x (by simpa using e)
 cases hk:(decide (t[0]=107)||decide (t[0]=112))with|false=>simp|true=>rw[hK hk];unfold zk;rw[e1,show decide (t.size-1≤40)=decide (t.size≤41)by rw[decide_eq_decide];omega];cases decide (t.size≤41)<;>cases zf (t.extract 1 t.size)<;>rfl
theorem zV0{t s:List UInt8}(h:zIU ckL t=some s):s.length≤t.length:=by
 unfold zIU at h
 cases hr:xZ t with|none=>rw[hr]at h;cases h|some l=>rw[hr]at h;simp only at h;have hh:=zEy hr;split at h;(·cases h);·cases h;rw[List.length_drop];omega
theorem zWg{p:Prop}(h:p:=by go_wp2_with(fail);refine bodyPost_ret (zx rfl _ _ (w.heap.size+1) _ _ _ _ rfl (vy HD3.out.res _ _ _ _) underlying58 rfl (by kernel_rfl)) rfl ?_;exact⟨by rw[HX.out];rfl,HD3.out.fin (Nat.le_succ _) _ _ _ _⟩):p:=h
theorem zWH{p:Prop}(h:p:=by obtain⟨⟨x0,x1,x2,x3⟩,z0,z1,z2,z3⟩:=yM HD3.out.res;clear l1 l2;go_wp2_with(fail);refine bodyPost_ret (zx rfl _ _ (w.heap.size+1) _ _ _ _ rfl (vy HD3.out.res _ _ _ _) underlying58 rfl (by kernel_rfl)) rfl ?_;exact⟨by rw[HX.out];rfl,HD3.out.fin (Nat.le_succ _) _ _ _ _⟩):p:=h
theorem zWI{p:Prop}(h:p:=by go_wp2_with(fail);refine bodyPost_ret (zx rfl _ _ (w.heap.size+1) _ _ _ _ rfl (vy HD6.out.res _ _ _ _) underlying58 rfl (by kernel_rfl)) rfl ?_;exact⟨by rw[HX.out];rfl,HD6.out.fin (Nat.le_succ _) _ _ _ _⟩):p:=h
theorem zWa{p:Prop}(h:p:=by go_wp2_with(go_at_call 68;refine(HZt.out _).mono ?_;rintro e w7⟨rfl,hb7⟩;have HD7:=Hd (HD6.out.still hb7);obtain⟨⟨x0,x1,x2,x3⟩,z0,z1,z2,z3⟩:=yM HD7.out.res;clear hb7);refine bodyPost_ret (zx rfl _ _ (w.heap.size+1) _ _ _ _ rfl (vy HD7.out.res _ _ _ _) underlying58 rfl (by kernel_rfl)) rfl ?_;exact⟨by rw[HX.out];rfl,HD7.out.fin (Nat.le_succ _) _ _ _ _⟩):p:=h
theorem zVt{w:World}{v:Value}{Bs:List Bk}(h:BksAt w v Bs)(hl:Bs.length≤1000)(nx:Nat){name pre delim token:QB}{limit:Int}(hs:name.size≤1000000)(h1:pre.size≤1000000)(h2:delim.size≤1000000)(h3:token.size≤400000)(he:zLp Bs name=0){ec:Int}(hr:yU pre delim limit token (yS token).isSome=ec)(hec:ec≠0):Calls prog 23 #[.agg #[v,.int .u64 nx],.string name,.string pre,.string delim,.int .i64 limit,.string token] w fun e w'=>e= .returned (.tuple #[.agg #[.slice none 0 0,.slice none 0 0,.bool false,.string ⟨#[]⟩],.int .i64 ec])∧Below w.heap.size w w':=by
 have hd:=zVR h nx
 obtain⟨w2,hw2⟩:=qN ((w.alloc (.cells #[v,.int .u64 nx] 53)).alloc (.cells #[.slice none 0 0,.slice none 0 0,.bool false,.string ⟨#[]⟩] 58))
 rw[hw2]at hd
 have HE:=Hd (zIY hd.bks hl nx name hs)
 have HD:=Hd hd
 have HW2:=Hd hw2
 have HZp:=Hd (fun u=>zVN pre u h1)
 have HZd:=Hd (fun u=>zVN delim u h2)
 have HTo:=Hd (fun u=>zVb token h3 u)
 have HR:=Hd hr
 have HEc:=Hd hec
 obtain⟨⟨c0,c1⟩,-⟩:=zj hd.m
 rw[←hw2]at c0 c1
 rw[he]at HE
 clear hd hw2 h hr hec
 go_enter func23,ntmps23
 go_wp2_with(fail)
 rw[HW2.out]
 refine(HE.out).mono ?_
 rintro e w3⟨rfl,hb3⟩
 have HD3:=Hd (HD.out.still hb3)
 clear hb3 c0 c1
 by_cases l1:limit<1
 ·have d1:decide (limit<1)=true:=decide_eq_true l1;have HX:=Hd (show ec=30 by rw[←HR.out];unfold yU;rw[if_pos (.inl l1)]);obtain⟨⟨x0,x1,x2,x3⟩,z0,z1,z2,z3⟩:=yM HD3.out.res;clear l1;exact zWg
 have d1:decide (limit<1)=false:=decide_eq_false l1
 by_cases l2:100<limit
 ·have d2:decide (100<limit)=true:=decide_eq_true l2;have HX:=Hd (show ec=30 by rw[←HR.out];unfold yU;rw[if_pos (.inr (.inl l2))]);exact zWH
 have d2:decide (100<limit)=false:=decide_eq_false l2
 by_cases l3:40<pre.size
 ·(have d3:decide ((40:Int)<(pre.size:Int))=true:=by simp;omega);(have d3':decide (40<pre.size)=true:=by simpa using l3);have HX:=Hd (show ec=30 by rw[←HR.out];unfold yU;rw[if_pos (.inr (.inr (.inl (by unfold zk;rw[decide_eq_false (by omega)];rfl))))]);exact zWH
 have d3:decide ((40:Int)<(pre.size:Int))=false:=by simp;omega
 have d3':decide (40<pre.size)=false:=by simpa using l3
 by_cases l4:40<delim.size
 ·(have d4:decide ((40:Int)<(delim.size:Int))=true:=by simp;omega);(have d4':decide (40<delim.size)=true:=by simpa using l4);have HX:=Hd (show ec=30 by rw[←HR.out];unfold yU;rw[if_pos (.inr (.inr (.inr (by unfold zk;rw[decide_eq_false (by omega)];rfl))))]);exact zWH
 have d4:decide ((40:Int)<(delim.size:Int))=false:=by simp;omega
 have d4':decide (40<delim.size)=false:=by simpa using l4
 by_cases l5:zf pre=true
 ·rw[l5]at HZp;by_cases l6:zf delim=true;(·rw[l6]at HZd;(have hrt:¬(limit<1∨100<limit∨zk pre=false∨zk delim=false):=by rintro(e|e|e|e);(·exact l1 e);(·exact l2 e);(·unfold zk at e;rw[l5,decide_eq_true (by omega)]at e;cases e);·unfold zk at e;rw[l6,decide_eq_true (by omega)]at e;cases e);have hr2:=HR.out;unfold yU at hr2;rw[if_neg hrt]at hr2;by_cases ht:token≠⟨#[]⟩∧(yS token).isSome=false;(·rw[if_pos ht]at hr2;obtain⟨ht0,htf⟩:=ht;have HX:=Hd hr2.symm;(have e9:token.toList.isEmpty=false:=by rw[isEmpty_eq,decide_eq_false ht0]);clear hrt hr2 l1 l2 l3 l4 l5 l6 ht0;go_wp2_with(go_at_call 68;first|((with_reducible refine(HZp.out _).mono ?_;rintro e w4⟨rfl,hb4⟩);have HD4:=Hd (HD3.out.still hb4);clear hb4)|((with_reducible refine(HZd.out _).mono ?_;rintro e w5⟨rfl,hb5⟩);have HD5:=Hd (HD4.out.still hb5);clear hb5));refine(HTo.out _).mono ?_;rintro e w6⟨rfl,hb6⟩;have HD6:=Hd (HD5.out.still hb6);clear hb6;cases hT:ko token with|none=>obtain⟨⟨x0,x1,x2,x3⟩,z0,z1,z2,z3⟩:=yM HD6.out.res;clear htf;exact zWI|some t=>simp only[Option.getD_some,Option.isSome_some];(have htz:t.size≤1000000:=by unfold ko at hT;cases hu:zIU ckL token.data.toList with|none=>rw[hu]at hT;cases hT|some l=>rw[hu]at hT;have e1:(⟨l.toArray⟩:QB)=t:=Option.some.inj hT;have e2:=zV0 hu;rw[xL]at e2;rw[←e1];show l.toArray.size≤_;rw[List.size_toArray];omega);have HZt:=Hd (fun u=>zVN t u htz);by_cases t1:t.size<2;(·(have f1:decide ((t.size:Int)<2)=true:=by simp;omega);(have f1':decide (t.size<2)=true:=by simpa using t1);obtain⟨⟨x0,x1,x2,x3⟩,z0,z1,z2,z3⟩:=yM HD6.out.res;clear htf hT;exact zWI);(have f1:decide ((t.size:Int)<2)=false:=by simp;omega);(have f1':decide (t.size<2)=false:=by simpa using t1);have hfd:=zVj hT (by omega);rw[htf]at hfd;by_cases t2:41<t.size;(·(have f2:decide ((41:Int)<(t.size:Int))=true:=by simp;omega);(have f2':decide (41<t.size)=true:=by simpa using t2);obtain⟨⟨x0,x1,x2,x3⟩,z0,z1,z2,z3⟩:=yM HD6.out.res;clear htf hT hfd;exact zWI);(have f2:decide ((41:Int)<(t.size:Int))=false:=by simp;omega);(have f2':decide (41<t.size)=false:=by simpa using t2);rw[decide_eq_true (show t.size≤41 by omega),Bool.true_and]at hfd;by_cases t3:zf t=true;(·rw[t3,Bool.true_and]at hfd;rw[t3]at HZt;(have ht0:0<t.size:=by omega);(have i0:(0:Int)<(t.size:Int):=by omega);obtain⟨c,hc⟩:=qN (t[0]);rw[hc]at hfd;(have hk:c≠107:=fun e=>by rw[e]at hfd;cases hfd);(have hp:c≠112:=fun e=>by rw[e]at hfd;cases hfd);have hk':¬c.toNat=107:=fun e=>hk (UInt8.toNat_inj.1 (by rw[e];rfl));have hp':¬c.toNat=112:=fun e=>hp (UInt8.toNat_inj.1 (by rw[e];rfl));(have f3:((c.toNat:Int) !=107)=true:=by simp;omega);(have f4:((c.toNat:Int) !=112)=true:=by simp;omega);clear htf hT hfd t1 t2 t3;exact zWa);·(have t3':zf t=false:=by simpa using t3);rw[t3']at HZt;clear htf hT hfd t1 t2 t3 t3';exact zWa);·rw[if_neg ht]at hr2;exact absurd hr2.symm HEc.out);·(have l6':zf delim=false:=by simpa using l6);rw[l6']at HZd;have HX:=Hd (show ec=30 by rw[←HR.out];unfold yU;rw[if_pos (.inr (.inr (.inr (by unfold zk;rw[l6',Bool.and_false]))))]);clear l1 l2 l3 l4 l5 l6 l6';go_wp2_with(go_at_call 68;first|((with_reducible refine(HZp.out _).mono ?_;rintro e w4⟨rfl,hb4⟩);have HD4:=Hd (HD3.out.still hb4);clear hb4)|((with_reducible refine(HZd.out _).mono ?_;rintro e w5⟨rfl,hb5⟩);have HD5:=Hd (HD4.out.still hb5);obtain⟨⟨x0,x1,x2,x3⟩,z0,z1,z2,z3⟩:=yM HD5.out.res;clear hb5));refine bodyPost_ret (zx rfl _ _ (w.heap.size+1) _ _ _ _ rfl (vy HD5.out.res _ _ _ _) underlying58 rfl (by kernel_rfl)) rfl ?_;exact⟨by rw[HX.out];rfl,HD5.out.fin (Nat.le_succ _) _ _ _ _⟩
 ·(have l5':zf pre=false:=by simpa using l5);rw[l5']at HZp;have HX:=Hd (show ec=30 by rw[←HR.out];unfold yU;rw[if_pos (.inr (.inr (.inl (by unfold zk;rw[l5',Bool.and_false]))))]);clear l1 l2 l3 l4 l5 l5';go_wp2_with(go_at_call 68;refine(HZp.out _).mono ?_;rintro e w4⟨rfl,hb4⟩;have HD4:=Hd (HD3.out.still hb4);obtain⟨⟨x0,x1,x2,x3⟩,z0,z1,z2,z3⟩:=yM HD4.out.res;clear hb4);refine bodyPost_ret (zx rfl _ _ (w.heap.size+1) _ _ _ _ rfl (vy HD4.out.res _ _ _ _) underlying58 rfl (by kernel_rfl)) rfl ?_;exact⟨by rw[HX.out];rfl,HD4.out.fin (Nat.le_succ _) _ _ _ _⟩
end
section
open Go.RowKit Go.MapKept
attribute [local go_sem] yo yg
attribute [local irreducible] wpH
structure DlI(w wr:World)(ob rb:Nat)(va vb:Value)(es:List En)(ps:List QB):Prop where
 out:wr.heap[ob]? =some (.cells #[va,vb,.bool false,.string ⟨#[]⟩] 58 (0,0))
 res:wr.heap[rb]? =some (.cells #[.slice none 0 0,.slice none 0 0,.bool false,.string ⟨#[]⟩] 58 (0,0))
 es:wr.ownsRow w.heap.size 74 4 va es.length (enV es)
 ps:wr.ownsRow w.heap.size 9 1 vb ps.length (psV ps)
 below:Below w.heap.size w wr
section
variable {w wr u : World} {ob rb : Nat} {va vb : Value} {es : List En} {ps : List QB}
theorem DlI.still(h:DlI w wr ob rb va vb es ps)(hb:Below wr.heap.size wr u):DlI w u ob rb va vb es ps:=⟨qB hb h.out,qB hb h.res,(Keep.still hb).ownsRow h.es (fun _ _ e=>e),(Keep.still hb).ownsRow h.ps (fun _ _ e=>e),qT h.below hb⟩
theorem DlI.rowE(h:DlI w wr ob rb va vb es ps)(hk:Keep (fun q=>va.ownBlock=some q) wr u):u.heap[ob]? =some (.cells #[va,vb,.bool false,.string ⟨#[]⟩] 58 (0,0))∧u.heap[rb]? =some (.cells #[.slice none 0 0,.slice none 0 0,.bool false,.string ⟨#[]⟩] 58 (0,0))∧u.ownsRow w.heap.size 9 1 vb ps.length (psV ps)∧Below w.heap.size w u:=by
 have hlt:=fun g e=>(World.ownsRow.lt h.es g e)
 refine⟨hk.at h.out (zh h.es h.out (by decide)),hk.at h.res (zh h.es h.res (by decide)),hk.ownsRow h.ps (fun g e e2=> ?_),h.below.trans (hk.below h.below.size (fun i hi e=>by have h9:=(hlt i e).1;omega))⟩
 exact zWU
theorem DlI.rowP(h:DlI w wr ob rb va vb es ps)(hk:Keep (fun q=>vb.ownBlock=some q) wr u):u.heap[ob]? =some (.cells #[va,vb,.bool false,.string ⟨#[]⟩] 58 (0,0))∧u.heap[rb]? =some (.cells #[.slice none 0 0,.slice none 0 0,.bool false,.string ⟨#[]⟩] 58 (0,0))∧u.ownsRow w.heap.size 74 4 va es.length (enV es)∧Below w.heap.size w u:=by
 have hlt:=fun g e=>(World.ownsRow.lt h.ps g e)
 refine⟨hk.at h.out (zh h.ps h.out (by decide)),hk.at h.res (zh h.ps h.res (by decide)),hk.ownsRow h.es (fun g e e2=> ?_),h.below.trans (hk.below h.below.size (fun i hi e=>by have h9:=(hlt i e).1;omega))⟩
 exact zWV
theorem DlI.entry(h:DlI w wr ob rb va vb es ps)(hne:ob≠rb)(ho:w.heap.size≤ob){e:En}{v8:Value}(hk:Keep (fun q=>va.ownBlock=some q) wr u)(hr:u.ownsRow w.heap.size 74 4 v8 (es.length+1) (enV es++e.cells)):DlI w (u.setCell ⟨ob,0,none⟩ v8) ob rb v8 vb (es++[e]) ps:=by
 obtain⟨h3,h4,h5,h6⟩:=h.rowE hk
 have hk2:=zCr u ob v8
 exact⟨heap_setCell_same _ ob 0 _ _ v8 h3,hk2.at h4 (fun e=>hne e.symm),by exact zWW,hk2.ownsRow h5 (fun g e e2=>zh h5 h3 (by decide) (e2▸e)),h6.trans (hk2.below h6.size (fun i hi e=>by have h9:i=ob:=e;omega))⟩
theorem DlI.group(h:DlI w wr ob rb va vb es ps)(hne:ob≠rb)(ho:w.heap.size≤ob){g:QB}{v8:Value}(hk:Keep (fun q=>vb.ownBlock=some q) wr u)(hr:u.ownsRow w.heap.size 9 1 v8 (ps.length+1) (psV ps++[.string g])):DlI w (u.setCell ⟨ob,1,none⟩ v8) ob rb va v8 es (ps++[g]):=by
 obtain⟨h3,h4,h5,h6⟩:=h.rowP hk
 have hk2:=zCs u ob v8
 exact⟨heap_setCell_same _ ob 1 _ _ v8 h3,hk2.at h4 (fun e=>hne e.symm),hk2.ownsRow h5 (fun g e e2=>zh h5 h3 (by decide) (e2▸e)),by exact zWX,h6.trans (hk2.below h6.size (fun i hi e=>by have h9:i=ob:=e;omega))⟩
theorem DlI.fin(h:DlI w wr ob rb va vb es ps)(ho:w.heap.size≤ob)(hr:w.heap.size≤rb)(hk:Keep (fun q=>q=ob∨q=rb) wr u):u.ownsRow w.heap.size 74 4 va es.length (enV es)∧u.ownsRow w.heap.size 9 1 vb ps.length (psV ps)∧Below w.heap.size w u:=⟨hk.ownsRow h.es (fun g e e2=>e2.elim (fun e3=>zh h.es h.out (by decide) (e3▸e)) (fun e3=>zh h.es h.res (by decide) (e3▸e))),hk.ownsRow h.ps (fun g e e2=>e2.elim (fun e3=>zh h.ps h.out (by decide) (e3▸e)) (fun e3=>zh h.ps h.res (by decide) (e3▸e))),h.below.trans (hk.below h.below.size (fun i hi e=>by have h9:i=ob∨i=rb:=e;omega))⟩
theorem DlI.done(h:DlI w wr ob rb va vb es ps)(ho:w.heap.size≤ob)(hr:w.heap.size≤rb):ListIs w (zNp wr rb va vb (.bool false) (.string ⟨#[]⟩)) (.agg #[va,vb,.bool false,.string ⟨#[]⟩]) ⟨es,ps,false,⟨#[]⟩⟩:=by
 exact zWY
theorem DlI.more(h:DlI w wr ob rb va vb es ps)(ho:w.heap.size≤ob)(hr:w.heap.size≤rb)(last:QB)(hk:Keep (fun q=>q=ob) wr u):ListIs w (zNp u rb va vb (.bool true) (.string (vU last))) (.agg #[va,vb,.bool true,.string (vU last)]) ⟨es,ps,true,last⟩:=by
 have k1:Keep (fun q=>q=ob∨q=rb) wr u:=hk.mono (fun _ _ e=>.inl e)
 exact zWZ
end
theorem zVP{pre delim token:QB}{limit:Int}{ok:Bool}(h:yU pre delim limit token ok=0):1≤limit∧limit≤100∧zk pre=true∧zk delim=true∧(token=⟨#[]⟩∨ok=true):=by
 unfold yU at h
 split at h
 ·cases h
 ·rename_i h1;split at h;(·cases h);·rename_i h2;refine⟨?_,?_,?_,?_,?_⟩;(·exact Int.not_lt.1 (fun e=>h1 (.inl (by omega))));(·exact Int.not_lt.1 (fun e=>h1 (.inr (.inl (by omega)))));(·cases hp:zk pre with|true=>rfl|false=>exact absurd (.inr (.inr (.inl hp))) h1);(·cases hp:zk delim with|true=>rfl|false=>exact absurd (.inr (.inr (.inr hp))) h1);·by_cases e:token=⟨#[]⟩;(·exact .inl e);·cases ok with|true=>exact .inr rfl|false=>exact absurd ⟨e,rfl⟩ h2
end
section
open Go.RowKit Go.MapKept
attribute [local go_sem] yo yg
theorem zV1{token:QB}(h:token=⟨#[]⟩∨(yS token).isSome=true):((yS token).getD ⟨#[]⟩).size≤41∧((token=⟨#[]⟩∧(yS token).getD ⟨#[]⟩=⟨#[]⟩)∨∃t,ko token=some t∧yS token=some t∧2≤t.size∧t.size≤41∧zf t=true∧token≠⟨#[]⟩∧∃c:UInt8,(∀h0:0<t.size,t[0]=c)∧((((c.toNat:Int) !=107)=false∧c.toNat=107)∨(((c.toNat:Int) !=107)=true∧¬c.toNat=107∧((c.toNat:Int) !=112)=false∧c.toNat=112))):=by
 by_cases ht:token=⟨#[]⟩
 ·subst ht;rw[show yS ⟨#[]⟩=none from rfl];exact⟨by decide,.inl ⟨rfl,rfl⟩⟩
 ·have hs:(yS token).isSome=true:=h.resolve_left ht;obtain⟨t,hf⟩:=Option.isSome_iff_exists.1 hs;(have hT:ko token=some t∧1<t.size:=by have h9:=hf;unfold yS at h9;cases hc:ko token with|none=>rw[hc]at h9;cases h9|some x=>rw[hc]at h9;simp only at h9;split at h9;(·rename_i hx;have e:=Option.some.inj h9;subst e;simp only[Bool.and_eq_true,decide_eq_true_eq]at hx;exact⟨rfl,hx.1⟩);·cases h9);obtain⟨hT,h1⟩:=hT;have hd:=zVj hT h1;rw[hs]at hd;have hd:=hd.symm;simp only[Bool.and_eq_true,Bool.or_eq_true,decide_eq_true_eq]at hd;obtain⟨d1,d2,d3⟩:=hd;rw[hf];refine⟨d1,.inr ⟨t,hT,rfl,h1,d1,d2,ht,t[0]'(by omega),fun _=>rfl,?_⟩⟩;rcases d3 with e|e;(·exact .inl ⟨by rw[e];rfl,by rw[e];rfl⟩);·exact .inr ⟨by rw[e];rfl,by rw[e];decide,by rw[e];rfl,by rw[e];rfl⟩
theorem zVm(pre frm opn:QB)(it:It):(yL pre frm opn it=true→it.head.gone=true∨(it.head.gone=false∧yD it.key pre=false)∨(it.head.gone=false∧yD it.key pre=true∧zq it.key frm=false)∨(it.head.gone=false∧yD it.key pre=true∧zq it.key frm=true∧opn.toList.isEmpty=false∧yD it.key opn=true))∧(yL pre frm opn it≠true→it.head.gone=false∧yD it.key pre=true∧zq it.key frm=true∧(opn.toList.isEmpty=true∨(opn.toList.isEmpty=false∧yD it.key opn=false))):=by
 unfold yL
 rw[isEmpty_eq]
 generalize it.head.gone=a
 generalize yD it.key pre=b
 generalize zq it.key frm=c
 generalize yD it.key opn=d
 generalize decide (opn=⟨#[]⟩)=e
 cases a<;>cases b<;>cases c<;>cases d<;>cases e<;>simp
def zV9:LOut:=⟨[],[],false,⟨#[]⟩⟩
def zVY(L:List It)(pre delim token:QB)(limit:Int):LOut×Int:=if yU pre delim limit token (yS token).isSome=0 then(kV pre delim ((yS token).getD ⟨#[]⟩) limit.toNat L LSt.init,0)else(zV9,yU pre delim limit token (yS token).isSome)
def zVW(L:List It)(name pre delim token:QB)(limit:Int):LOut×Int:=if zK name=false then(zV9,28)else if name≠abcB then(zV9,20)else zVY L pre delim token limit
theorem zVX{w w':World}(hb:Below w.heap.size w w'):ListIs w w' (.agg #[.slice none 0 0,.slice none 0 0,.bool false,.string ⟨#[]⟩]) zV9:=⟨⟨_,_,rfl,qO,qO⟩,hb⟩
theorem zVn{L:List It}{name:QB}(hn:name≠abcB):look (vT L) (zD name)=none:=by
 refine zCu (fun x hx=> ?_)
 unfold vT at hx
 rcases List.mem_cons.1 hx with rfl|h
 ·intro e;apply hn;(have h1:xI 98 [abcB]=xI 98 [name]:=by have h2:=congrArg (fun b:QB=>b.data.toList) e;exact h2);unfold xI at h1;simp only[List.flatMap_cons,List.flatMap_nil,List.append_nil,List.cons.injEq,true_and]at h1;have h3:=List.append_cancel_right h1;exact(ByteArray.ext (Array.toList_inj.1 h3)).symm
 ·unfold xR at h;obtain⟨it,_,h2⟩:=List.mem_flatMap.1 h;unfold It.kv at h2;obtain⟨v,_,rfl⟩:=List.mem_map.1 h2;intro e;(have h4:bLt (zD name) (zE abcB it.key v.id):=by exact zWM);rw[←show(v.kv it.key).1=zE abcB it.key v.id from rfl,e]at h4;exact zQ _ h4
theorem zWA{L:List It}(hl:L.length≤1000)(name pre delim token:QB)(limit:Int):(zVW L name pre delim token limit).1.es.length≤100000∧(zVW L name pre delim token limit).1.ps.length≤100000:=by
 unfold zVW zVY
 split
 ·exact⟨Nat.zero_le _,Nat.zero_le _⟩
 split
 ·exact⟨Nat.zero_le _,Nat.zero_le _⟩
 split
 ·rw[zE2 L LSt.init (Nat.zero_le _)];show([]++zAB _).length≤_∧([]++zAC _).length≤_;rw[List.nil_append,List.nil_append];have h1:=zBN ((zI pre delim ((yS token).getD ⟨#[]⟩) L LSt.init.opn).take (limit.toNat-LSt.init.told));have h2:((zI pre delim ((yS token).getD ⟨#[]⟩) L LSt.init.opn).take (limit.toNat-LSt.init.told)).length≤L.length:=Nat.le_trans (List.length_take_le' _ _) (zAy _ _);omega
 ·exact⟨Nat.zero_le _,Nat.zero_le _⟩
end
section
open Go.RowKit Go.MapKept
attribute [local go_sem] yo yg
attribute [local irreducible] wpH
theorem zWJ:(prog.info? 74).map (fun i=>(i.zero,i.size,i.bytes))=some (some (.agg #[.string ⟨#[]⟩,.int .u64 0,.int .i64 0,.int .u64 0]),4,40):=by
 kernel_rfl
theorem zV2{it:It}(h:0<it.vs.length):it.vs[0]=it.head:=by
 obtain⟨k,vs,val⟩:=it
 cases vs with|nil=>cases h|cons a l=>rfl
theorem zWb{p:Prop}(h:p:=by simp only[Ql,List.length_cons,List.length_nil];omega):p:=h
theorem zV3{w:World}{v:Value}{Bs:List Bk}(h:BksAt w v Bs)(hl:Bs.length≤1000)(nx:Nat){name pre delim token:QB}{limit k n:Nat}{b:Bk}{L:List It}(hs:name.size≤1000000)(h3:token.size≤400000)(he:zLp Bs name=0)(hk:atF name Bs 0=(k:Int))(hb:Bs[k]? =some b)(hI:ItsAt w b.its L)(hL:ItsOk n L)(hL2:L.length≤1000)(hr:yU pre delim limit token (yS token).isSome=0):Calls prog 23 #[.agg #[v,.int .u64 nx],.string name,.string pre,.string delim,.int .i64 limit,.string token] w fun e w'=>∃va,e= .returned (.tuple #[va,.int .i64 0])∧ListIs w w' va (kV pre delim ((yS token).getD ⟨#[]⟩) limit L LSt.init):=by
 obtain⟨r1,r2,r3,r4,r5⟩:=zVP hr
 obtain⟨p1,p2⟩:=xP.1 r3
 obtain⟨p3,p4⟩:=xP.1 r4
 have hd:=zVR h nx
 obtain⟨w2,hw2⟩:=qN ((w.alloc (.cells #[v,.int .u64 nx] 53)).alloc (.cells #[.slice none 0 0,.slice none 0 0,.bool false,.string ⟨#[]⟩] 58))
 rw[hw2]at hd
 have hrb:w.heap.size+1<w2.heap.size:=(Gl hd.res)
 have HE:=Hd (zIY hd.bks hl nx name hs)
 have HD:=Hd hd
 have HW2:=Hd hw2
 have HRb:=Hd hrb
 have HZp:=Hd (fun u=>zVN pre u (by omega))
 have HZd:=Hd (fun u=>zVN delim u (by omega))
 rw[p2]at HZp
 rw[p4]at HZd
 have HTo:=Hd (fun u=>zVb token h3 u)
 have HAt:=Hd (fun(u:World)(hu:BksAt u v Bs)=>zAw hu hl nx name)
 rw[hk]at HAt
 have hkl:k<Bs.length:=(List.getElem?_eq_some_iff.1 hb).1
 obtain⟨gb,cb,hvb,-,-,-⟩:=zH (show w.ownsRow 0 153 8 v Bs.length (bkV Bs)from h) (by omega)
 obtain⟨nb,hnb⟩:=qN Bs.length
 have hbc:∀u:World,BksAt u v Bs→u.cell? ⟨gb,k*8+6,none⟩=some b.its:=fun u hu=>by(have hu':u.ownsRow 0 153 8 (.slice (some ⟨gb,0,none⟩) Bs.length cb) Bs.length (bkV Bs):=by rw[←hvb];exact hu);exact zC hu' _ _ (zBY (f:=bkR) (n:=8) (fun _=>rfl) hkl (c:=6) (by rw[(List.getElem?_eq_some_iff.1 hb).2];rfl))
 have HBc:=Hd hbc
 obtain⟨ia,ic,hiv⟩:=zA hI.row
 obtain⟨m,hm⟩:=qN L.length
 have HI:=Hd hI
 have HM:=Hd hm
 have HLk:=Hd hL
 obtain⟨frm,hfrm⟩:=qN ((yS token).getD ⟨#[]⟩)
 have HFr:=Hd hfrm
 rw[hnb]at hvb hkl hl
 rw[hm]at hiv hL2
 have HIv:=Hd hiv
 have HVb:=Hd hvb
 have k0:(0:Int)≤(k:Int):=by omega
 have k1:(k:Int)<(nb:Int):=by omega
 obtain⟨i0,hi0,hz0,hz1,hz2⟩:=info_parts zWJ
 have HN:=Hd hi0
 have Hz0:=Hd hz0
 have Hz1:=Hd hz1
 have Hz2:=Hd hz2
 obtain⟨i1,hi1,hy0,hy1,hy2⟩:=info_parts zCR
 have HS9:=Hd hi1
 have Hy0:=Hd hy0
 have Hy1:=Hd hy1
 have Hy2:=Hd hy2
 obtain⟨⟨c0,c1⟩,-⟩:=zj hd.m
 rw[←hw2]at c0 c1
 rw[he]at HE
 have d1:decide ((limit:Int)<1)=false:=by simp;omega
 have d2:decide ((100:Int)<(limit:Int))=false:=by simp;omega
 have d2':decide (100<limit)=false:=by simp;omega
 have d3:decide ((40:Int)<(pre.size:Int))=false:=by simp;omega
 have d3':decide (40<pre.size)=false:=by simp;omega
 have d4:decide ((40:Int)<(delim.size:Int))=false:=by simp;omega
 have d4':decide (40<delim.size)=false:=by simp;omega
 have HP:=Hd (And.intro r1 (And.intro r2 (And.intro p1 (And.intro p3 hL2))))
 rw[hfrm]
 clear hd hw2 h hr hk hb hI hL he hrb hbc hm hfrm hi0 hz0 hz1 hz2 hi1 hy0 hy1 hy2 r1 r2 r3 r4 p1 p2 p3 p4 hs hl hkl hnb hiv hL2 h3
 subst hvb
 go_enter func23,ntmps23
 go_wp2_with(fail)
 rw[HW2.out]
 refine(HE.out).mono ?_
 rintro e w3⟨rfl,hb3⟩
 have HD3:=Hd (HD.out.still hb3)
 have HRb3:=Hd (Qt HRb.out hb3.size)
 clear hb3 c0 c1
 obtain⟨hfs,hfe⟩:=zV1 (token:=token) r5
 rw[HFr.out]at hfs
 have HFz:=Hd (show frm.size≤1000000 by omega)
 have HG3:=Hd (fun(k:QB)(u:World)=>zVi k frm u HFz.out)
 go_upto_if 59 with(go_at_call 68;first|((with_reducible refine(HZp.out _).mono ?_;rintro e w4⟨rfl,hb4⟩);have HD4:=Hd (HD3.out.still hb4);have HRb4:=Hd (Qt HRb3.out hb4.size);clear hb4)|((with_reducible refine(HZd.out _).mono ?_;rintro e w5⟨rfl,hb5⟩);have HD5:=Hd (HD4.out.still hb5);have HRb5:=Hd (Qt HRb4.out hb5.size);clear hb5))
 clear d1 d2 d2' d3 d3' d4 d4'
 go_cut [15](fun f wz=>f= .string frm∧DlB w wz (.slice (some ⟨gb,0,none⟩) nb cb) nx Bs w.heap.size (w.heap.size+1)∧w.heap.size+1<wz.heap.size)
 case first=>rcases hfe with⟨h0,hf0⟩|⟨t,hT,hft,t1,t2,t3,t0,c,hcc,hc⟩;(·(have e8:token.toList.isEmpty=true:=by rw[isEmpty_eq,decide_eq_true h0]);(have e9:(!token.toList.isEmpty)=false:=by rw[e8];rfl);rw[e9];clear h0;go_wp2_with(fail);go_meet;case rel=>exact⟨by rw[←HFr.out,hf0],HD5.out,HRb5.out⟩);·(have e8:token.toList.isEmpty=false:=by rw[isEmpty_eq,decide_eq_false t0]);(have e9:(!token.toList.isEmpty)=true:=by rw[e8];rfl);rw[hT]at HTo;simp only[Option.getD_some,Option.isSome_some]at HTo;have HZt:=Hd (fun u=>zVN t u (by omega));rw[t3]at HZt;have HFt:=Hd (show frm=t by rw[←HFr.out,hft];rfl);(have f1:decide ((t.size:Int)<2)=false:=by simp;omega);(have f1':decide (t.size<2)=false:=by simp;omega);(have f2:decide ((41:Int)<(t.size:Int))=false:=by simp;omega);(have f2':decide (41<t.size)=false:=by simp;omega);(have ht0:0<t.size:=by omega);(have i0:(0:Int)<(t.size:Int):=by omega);have hcc:=hcc ht0;rw[e9];clear hT hft t1 t2 t3 t0;rcases hc with⟨f3,f4⟩|⟨f3,f4,f5,f6⟩<;>(go_wp2_with(first|(go_at_call 69;refine(HTo.out _).mono ?_;rintro e w6⟨rfl,hb6⟩;have HD6:=Hd (HD5.out.still hb6);have HRb6:=Hd (Qt HRb5.out hb6.size);clear hb6)|(go_at_call 68;refine(HZt.out _).mono ?_;rintro e w7⟨rfl,hb7⟩;have HD7:=Hd (HD6.out.still hb7);have HRb7:=Hd (Qt HRb6.out hb7.size);clear hb7));go_meet;case rel=>exact⟨by rw[HFt.out],HD7.out,HRb7.out⟩)
 case rest=>obtain⟨rfl,hd5,hl5⟩:=hcut;have hb8:Below wc.heap.size wc (wc.alloc (.cells #[.slice none 0 0,.slice none 0 0,.bool false,.string ⟨#[]⟩] 58)):=qA;have HDx:=Hd (hd5.still hb8);have HOx:=Hd (qH wc (.cells #[.slice none 0 0,.slice none 0 0,.bool false,.string ⟨#[]⟩] 58));obtain⟨wx,hwx⟩:=qN (wc.alloc (.cells #[.slice none 0 0,.slice none 0 0,.bool false,.string ⟨#[]⟩] 58));obtain⟨ob,hob⟩:=qN wc.heap.size;have HOb:=Hd (show w.heap.size≤ob∧ob≠w.heap.size+1 from⟨by have:=hd5.below.size;omega,by omega⟩);have HWx:=Hd (And.intro hwx hob);rw[hwx]at HDx HOx;rw[hob]at HOx;clear hwx hob hb8 hd5 hl5 hfe HD4 HD5 HRb4 HRb5 HTo HZp HZd HE HD HD3 HRb3 HRb;go_wp2_with(fail);rw[HWx.out.1,HWx.out.2];obtain⟨S,HS⟩:=mkS (Keep (fun _=>False) (wx));have FR:=Hd (fun u(hu:S u)=>have hu:=(HS.out u).1 hu;have o1:=((zj (hu.at HDx.out.m (fun e=>e))).1);have o2:=(HBc.out _ (hu.ownsRow HDx.out.bks (fun _ _ e=>e)));And.intro o1 o2);refine rgw 9 [tR 0,tR 1,tR 2,tR 3,tD 4,tR 5,tR 6,tR 7,tR 8] HS (Keep.refl _ _).drew ?_;(iterate 4 refine rd1 ?_);refine doH ?_;intro K hK;go_simp;go_at_call 70;have hdr:Below wx.heap.size wx wx.drew:=⟨rfl,rfl,rfl,Qn _,fun _ _=>rfl⟩;refine(HAt.out _ (BksAt.still HDx.out.bks hdr)).mono ?_;rintro e wy⟨rfl,hby⟩;have hb9:=qT hdr hby;have HB9:=Hd hb9;refine hK _ _ ((HS.out _).2 (Keep.ofBelow hb9)) ?_;clear hK K hby hb9 hdr;(iterate 4 refine rd1 ?_);refine zl ?_;clear FR;clear S HS;go_wp2_with(fail);rw[HIv.out];have HDl:=Hd (show DlI w wy ob (w.heap.size+1) (.slice none 0 0) (.slice none 0 0) [] []from⟨qB HB9.out HOx.out,qB HB9.out HDx.out.res,qO,qO,qT HDx.out.below HB9.out⟩);clear HDx HOx HB9 HWx HAt HBc;go_loopw [19,20,21,23,24,25](fun told last opn i _ _ wr=>∃(q:Nat)(st:LSt)(va vb:Value),q≤m∧i= .int .i64 q∧told= .int .i64 st.told∧last= .string st.last∧opn= .string st.opn∧kV pre delim frm limit L LSt.init=kV pre delim frm limit (L.drop q) st∧(st.told≤limit∧st.es.length+st.ps.length≤st.told∧st.last.size≤100∧st.opn.size≤100)∧DlI w wr ob (w.heap.size+1) va vb st.es st.ps)(fun _ _ _ i _ _ _=>m-(intOf i).toNat);(case atStart=>exact⟨0,LSt.init,_,_,by omega,rfl,rfl,rfl,rfl,rfl,⟨Nat.zero_le _,Nat.zero_le _,by decide,by decide⟩,HDl.out⟩);case round=>obtain⟨q,st,va,vb,hq,rfl,rfl,rfl,rfl,hdoc,hst,hdl⟩:=hrel;obtain⟨ea,ec,hva⟩:=zA hdl.es;obtain⟨pa,pc,hvb⟩:=zA hdl.ps;obtain⟨ne,hnE⟩:=qN st.es.length;obtain⟨np,hnP⟩:=qN st.ps.length;rw[hnE]at hva;rw[hnP]at hvb;subst hva hvb;have HNe:=Hd (show st.es.length=ne∧st.ps.length=np∧ne≤100∧np≤100 from⟨hnE,hnP,by have:=HP.out.2.1;omega,by have:=HP.out.2.1;omega⟩);have HDc:=Hd hdoc;have HSt:=Hd hst;have HDl:=Hd hdl;clear hdoc hst hdl hnE hnP;(have hm1:(m:Int)≤1000:=by have:=HP.out.2.2.2.2;omega);by_cases hlt:q<m;(·(have g1:decide ((q:Int)<(m:Int))=true:=by simp;omega);(have g1':decide (q<m)=true:=by simpa using hlt);(have j0:(0:Int)≤(q:Int):=by omega);(have j1:(q:Int)<(m:Int):=by omega);(have hql:q<L.length:=by rw[HM.out];exact hlt);obtain⟨it,hit⟩:=qN (L[q]);(have hmem:it∈L:=by rw[←hit];exact List.getElem_mem hql);have hitk:=HLk.out.one it hmem;(have hdrop:L.drop q=it::L.drop (q+1):=by rw[List.drop_eq_getElem_cons hql,hit]);have hI:=HI.out.still HDl.out.below;have hrow:=hI.row;rw[HIv.out]at hrow;obtain⟨g2,c2,hs,-,-,-⟩:=zH hrow (by omega);rw[HM.out]at hs;obtain⟨e1,-,-⟩:=Value.slice.inj hs;subst e1;rw[HM.out]at hrow;have q0:=zC hrow _ _ (zBY (f:=itC) (n:=2) (fun _=>rfl) hql (c:=0) rfl);have q1:=zC hrow _ _ (zBY (f:=itC) (n:=2) (fun _=>rfl) hql (c:=1) rfl);rw[Nat.add_zero,hit]at q0;rw[hit]at q1;have hvs:=hI.vs it hmem;have hne:0<it.vs.length:=List.length_pos_iff.2 hitk.ne;obtain⟨g4,c4,hvv,-,-,-⟩:=zH (show wr.ownsRow 0 135 5 it.val it.vs.length (vdV it.vs)from hvs) hne;(have hvs':wr.ownsRow 0 135 5 (.slice (some ⟨g4,0,none⟩) it.vs.length c4) it.vs.length (vdV it.vs):=by rw[←hvv];exact hvs);have hhd:=zV2 hne;(have n0:(0:Int)<(it.vs.length:Int):=by omega);have v0:=zC hvs' _ _ (zBY (f:=vdC) (n:=5) (fun _=>rfl) hne (c:=0) rfl);have v1:=zC hvs' _ _ (zBY (f:=vdC) (n:=5) (fun _=>rfl) hne (c:=1) rfl);have v2:=zC hvs' _ _ (zBY (f:=vdC) (n:=5) (fun _=>rfl) hne (c:=2) rfl);have v3:=zC hvs' _ _ (zBY (f:=vdC) (n:=5) (fun _=>rfl) hne (c:=3) rfl);have v4:=zC hvs' _ _ (zBY (f:=vdC) (n:=5) (fun _=>rfl) hne (c:=4) rfl);rw[hhd]at v0 v2 v3 v4;simp only[Nat.zero_mul,Nat.zero_add]at v0 v1 v2 v3 v4;have hb8:Below wr.heap.size wr (wr.alloc (.cells #[.int .u64 it.head.id,.bool false,.bool it.head.gone,.int .u64 it.head.born,.string it.head.body] 135)):=qA;have HX8:=Hd (qH wr (.cells #[.int .u64 it.head.id,.bool false,.bool it.head.gone,.int .u64 it.head.born,.string it.head.body] 135));have HDl8:=Hd (HDl.out.still hb8);have HG1:=Hd (zVO it.key pre);have HG2:=Hd (zVO it.key st.opn);have HG3':=Hd (HG3.out it.key);have hkz:=(zg hitk.key).2;have hdc:=HDc.out;rw[hdrop,kV]at hdc;have HDc2:=Hd hdc;obtain⟨⟨x0,x1,x2,x3,x4⟩,-⟩:=zBK HX8.out;have HIt:=Hd hitk;rw[hvv]at q1;have hwy:=zVm pre frm st.opn it;obtain⟨gn,hgn⟩:=qN it.head.gone;obtain⟨b1,hb1⟩:=qN (yD it.key pre);obtain⟨b2,hb2⟩:=qN (zq it.key frm);obtain⟨b3,hb3⟩:=qN (yD it.key st.opn);rw[hgn,hb1,hb2,hb3]at hwy;rw[hgn]at v2 HX8 HDl8 x2;rw[hb1]at HG1;rw[hb2]at HG3';rw[hb3]at HG2;clear hit hmem hdrop hI hrow hs hvs hvs' hvv hne hhd hdc hb8 hql hitk hgn hb1 hb2 hb3;by_cases hsk:yL pre frm st.opn it=true;(·have HSk:=Hd hsk;rcases hwy.1 hsk with rfl|⟨rfl,rfl⟩|⟨rfl,rfl,rfl⟩|⟨rfl,rfl,rfl,e9,rfl⟩<;>(clear hwy hsk;go_wp2_with(first|(go_at_call 71;first|(with_reducible refine(HG1.out _).mono ?_;rintro e u⟨rfl,rfl⟩)|(with_reducible refine(HG2.out _).mono ?_;rintro e u⟨rfl,rfl⟩))|(go_at_call 72;refine(HG3'.out _).mono ?_;rintro e u⟨rfl,rfl⟩));go_roundw;(case rel=>exact⟨q+1,st,.slice ea ne ec,.slice pa np pc,by omega,by go_num,rfl,rfl,rfl,by rw[HDc2.out,if_pos HSk.out],HSt.out,HDl8.out⟩);case measure=>simp[intOf];omega));·obtain⟨rfl,rfl,rfl,ho⟩:=hwy.2 hsk;have HSk:=Hd hsk;clear hwy hsk;obtain⟨xb,hxb⟩:=qN wr.heap.size;obtain⟨wx,hwx⟩:=qN (wr.alloc (.cells #[.int .u64 it.head.id,.bool false,.bool false,.int .u64 it.head.born,.string it.head.body] 135));have hX:=HX8.out;have hD:=HDl8.out;rw[hwx]at hX hD;rw[hxb]at hX;obtain⟨⟨m0,m1,m2,m3,m4⟩,-⟩:=zBK hX;have HX:=Hd hX;have HDx:=Hd hD;have HNm:=Hd (And.intro hwx hxb);obtain⟨⟨d0,d1,d2,d3⟩,y0,y1,y2,y3⟩:=yM hD.out;have hwl:w.heap.size≤wx.heap.size:=hD.below.size;have HWl:=Hd hwl;clear hX hD hwx hxb hwl;by_cases hlim:st.told=limit;(·(have l1:((st.told:Int)==(limit:Int))=true:=by simp;omega);(have l2:(st.told:Int)=(limit:Int):=by omega);have HTk:=Hd (zVV st.last (by have:=HSt.out.2.2.1;omega));obtain⟨tk,htk⟩:=qN (vU st.last);rw[htk]at HTk;have HTe:=Hd htk;have HLm:=Hd hlim;clear htk;rcases ho with e9|⟨e9,rfl⟩<;>(go_wp2_with(first|(go_at_call 71;first|(with_reducible refine(HG1.out _).mono ?_;rintro e u⟨rfl,rfl⟩;rw[HNm.out.1,HNm.out.2])|(with_reducible refine(HG2.out _).mono ?_;rintro e u⟨rfl,hu⟩;rw[←hu];clear hu))|(go_at_call 72;refine(HG3'.out _).mono ?_;rintro e u⟨rfl,hu⟩;rw[←hu];clear hu));refine(HTk.out _).mono ?_;rintro e w9⟨rfl,hb9⟩;have hk2:Keep (fun q=>q=ob) wx (wx.setCell ⟨ob,2,none⟩ (.bool true)):=(Keep.refl (fun q=>q=ob) wx).setCell (p:=⟨ob,2,none⟩) (fun _=>rfl) _;have ho2:(wx.setCell ⟨ob,2,none⟩ (.bool true)).heap[ob]? =some (.cells #[.slice ea ne ec,.slice pa np pc,.bool true,.string ⟨#[]⟩] 58 (0,0)):=heap_setCell_same _ ob 2 _ _ (.bool true) HDx.out.out;have hr2:=hk2.at HDx.out.res (fun e=>HOb.out.2 e.symm);have ho9:=qB hb9 ho2;have hr9:=qB hb9 hr2;have hk9:Keep (fun q=>q=ob) wx (w9.setCell ⟨ob,3,none⟩ (.string tk)):=(hk2.trans (Keep.ofBelow (S:=fun q=>q=ob) hb9) (fun _ _ e=>e)).setCell (p:=⟨ob,3,none⟩) (fun _=>rfl) _;have hr3:(w9.setCell ⟨ob,3,none⟩ (.string tk)).heap[w.heap.size+1]? =_:=hk9.at HDx.out.res (fun e=>HOb.out.2 e.symm);have ho3:(w9.setCell ⟨ob,3,none⟩ (.string tk)).heap[ob]? =some (.cells #[.slice ea ne ec,.slice pa np pc,.bool true,.string tk] 58 (0,0)):=heap_setCell_same _ ob 3 _ _ (.string tk) ho9;clear d0 d1 d2 d3 y0 y1 y2 y3;obtain⟨⟨d0,d1,d2,d3⟩,y0,y1,y2,y3⟩:=yM ho9;clear hb9 hk2 ho2 hr2 ho9 hr9;go_upto_region 26 with(fail);obtain⟨wA,hwA⟩:=qN (w9.setCell ⟨ob,3,none⟩ (.string tk));rw[hwA]at hk9 hr3 ho3⊢;clear d0 d1 d2 d3 y0 y1 y2 y3 hwA;obtain⟨⟨d0,d1,d2,d3⟩,-⟩:=yM ho3;obtain⟨⟨r0,r1,r2,r3⟩,z0,z1,z2,z3⟩:=yM hr3;have HK9:=Hd hk9;have HR3:=Hd hr3;clear hk9 hr3 ho3;go_wp2_with(refine bodyPost_ret (zx rfl _ _ (w.heap.size+1) _ _ _ _ rfl (vy HR3.out _ _ _ _) underlying58 rfl (by kernel_rfl)) rfl ?_;obtain rfl:=HTe.out;exact⟨_,rfl,by rw[HDc2.out,if_neg HSk.out,if_pos HLm.out];exact HDx.out.more HOb.out.1 (Nat.le_succ _) st.last HK9.out⟩)));(have l1:((st.told:Int)==(limit:Int))=false:=by simp;omega);(have l2:¬(st.told:Int)=(limit:Int):=by omega);(have htw:IntKind.i64.wrap ((st.told:Int)+1)=(st.told:Int)+1:=by rw[IntKind.wrap_i64];have:=HSt.out.1;have:=HP.out.2.1;omega);have HLm:=Hd hlim;have HGr:=Hd (zVr (key:=it.key) (pre:=pre) (delim:=delim) wx (by omega) (by have:=HP.out.2.2.1;omega) (by have:=HP.out.2.2.2.1;omega));have hksz:=HIt.out.key;have HKs:=Hd (show it.key.size≤40 from hkz);by_cases hg:zR it.key pre delim=⟨#[]⟩;(·(have hst:st.tell pre delim it=⟨st.told+1,kT it.key,⟨#[]⟩,st.es++[it.en],st.ps⟩:=by unfold LSt.tell;simp only[hg,if_true];rfl);have HS2:=Hd hst;rw[hg]at HGr;have hD6:=HDx.out.still ((Below.refl wx.heap.size wx).alloc (Qn _) (.cells #[.string it.key,.int .u64 it.head.id,.int .i64 it.head.body.size,.int .u64 it.head.born] 74));have hr6:=hD6.es;rw[HNe.out.1]at hr6;have HR6:=Hd hr6;have HX6:=Hd (qH wx (.cells #[.string it.key,.int .u64 it.head.id,.int .i64 it.head.body.size,.int .u64 it.head.born] 74));have hnl:ne≤100:=HNe.out.2.2.1;clear hst hg hD6 hr6;rcases ho with e9|⟨e9,rfl⟩<;>(go_wp2_with(first|(first|(go_at_call 71;first|(with_reducible refine(HG1.out _).mono ?_;rintro e u⟨rfl,rfl⟩;rw[HNm.out.1,HNm.out.2])|(with_reducible refine(HG2.out _).mono ?_;rintro e u⟨rfl,hu⟩;rw[←hu];clear hu))|(go_at_call 72;refine(HG3'.out _).mono ?_;rintro e u⟨rfl,hu⟩;rw[←hu];clear hu)|(go_at_call 74;refine(HGr.out).mono ?_;rintro e u⟨rfl,hu⟩;rw[hu];clear hu))|(at_builtin;refine wpList_append_own_at _ (by rfl) _ _ 56 (by rfl) w.heap.size 74 i0 (.agg #[.string ⟨#[]⟩,.int .u64 0,.int .i64 0,.int .u64 0]) 4 40 underlying56 HN.out Hz0.out Hz1.out Hz2.out (by rfl) (by decide) (.slice ea ne ec) _ _ (by rfl) HR6.out ⟨wx.heap.size,0,none⟩ 1 1 [.string it.key,.int .u64 it.head.id,.int .i64 it.head.body.size,.int .u64 it.head.born] (by rfl) (by rfl) (World.news_of_block (cs:= #[.string it.key,.int .u64 it.head.id,.int .i64 it.head.body.size,.int .u64 it.head.born]) (t:=74) (fr:=(0,0)) HX6.out) (by simp[Value.oneCell']) (by unfold maxLen;omega) (by omega) ?_ ?_;(·have h1:=HWl.out;simp;omega);intro v8 w8 hown8 hg8 hnil8 hloc8;have hk8:=((Keep.refl (fun q=>(Value.slice ea ne ec).ownBlock=some q) wx).alloc (.cells #[.string it.key,.int .u64 it.head.id,.int .i64 it.head.body.size,.int .u64 it.head.born] 74)).grown hg8 (fun q _ e=>e);obtain⟨p8,c8,hv8⟩:=zA hown8;subst hv8;have hr8:=HDx.out.rowE hk8;have HL9:=Hd (HDx.out.entry HOb.out.2 HOb.out.1 (e:=it.en) hk8 (by rw[HNe.out.1];exact hown8));clear d0 d1 d2 d3 y0 y1 y2 y3;obtain⟨⟨d0,d1,d2,d3⟩,y0,y1,y2,y3⟩:=yM hr8.1;clear hown8 hg8 hnil8 hloc8 hk8 hr8));go_roundw;(case rel=>refine⟨q+1,st.tell pre delim it,.slice p8 (ne+1) c8,.slice pa np pc,by omega,by go_num,by rw[HS2.out];go_num,by rw[HS2.out];rfl,by rw[HS2.out],by rw[HDc2.out,if_neg HSk.out,if_neg HLm.out],?_,?_⟩;(·rw[HS2.out];have h1:=HSt.out;have h2:=HLm.out;(have h3:(kT it.key).size=1+it.key.size:=by unfold kT;rw[ByteArray.size_append];rfl);have h4:=HKs.out;have h5:(⟨#[]⟩:QB).size=0:=rfl;exact zWb);·rw[HS2.out];exact HL9.out);case measure=>simp[intOf];omega));·obtain⟨g,hgg⟩:=qN (zR it.key pre delim);rw[hgg]at hg HGr;(have hst:st.tell pre delim it=⟨st.told+1,pT g,g,st.es,st.ps++[g]⟩:=by unfold LSt.tell;simp only[hgg,if_neg hg]);(have hgs:g.size≤40:=by have:=zDi (xP.2 ⟨hkz,(zg hksz).1⟩) hgg;exact(xP.1 this).1);have HS2:=Hd hst;have HGs:=Hd hgs;(have e8:g.toList.isEmpty=false:=by rw[isEmpty_eq,decide_eq_false hg]);have hD6:=HDx.out.still ((Below.refl wx.heap.size wx).alloc (Qn _) (.cells #[.string g] 9));have hr6:=hD6.ps;rw[HNe.out.2.1]at hr6;have HR6:=Hd hr6;have HX6:=Hd (qH wx (.cells #[.string g] 9));have hnl:np≤100:=HNe.out.2.2.2;clear hst hg hgg hD6 hr6;rcases ho with e9|⟨e9,rfl⟩<;>(go_wp2_with(first|(first|(go_at_call 71;first|(with_reducible refine(HG1.out _).mono ?_;rintro e u⟨rfl,rfl⟩;rw[HNm.out.1,HNm.out.2])|(with_reducible refine(HG2.out _).mono ?_;rintro e u⟨rfl,hu⟩;rw[←hu];clear hu))|(go_at_call 72;refine(HG3'.out _).mono ?_;rintro e u⟨rfl,hu⟩;rw[←hu];clear hu)|(go_at_call 74;refine(HGr.out).mono ?_;rintro e u⟨rfl,hu⟩;rw[hu];clear hu))|(at_builtin;refine wpList_append_own_at _ (by rfl) _ _ 22 (by rfl) w.heap.size 9 i1 (.string ⟨#[]⟩) 1 16 underlying22 HS9.out Hy0.out Hy1.out Hy2.out (by rfl) (by decide) (.slice pa np pc) _ _ (by rfl) HR6.out ⟨wx.heap.size,0,none⟩ 1 1 [.string g] (by rfl) (by rfl) (World.news_of_block (cs:= #[.string g]) (t:=9) (fr:=(0,0)) HX6.out) (by simp[Value.oneCell']) (by unfold maxLen;omega) (by omega) ?_ ?_;(·have h1:=HWl.out;simp;omega);intro v8 w8 hown8 hg8 hnil8 hloc8;have hk8:=((Keep.refl (fun q=>(Value.slice pa np pc).ownBlock=some q) wx).alloc (.cells #[.string g] 9)).grown hg8 (fun q _ e=>e);obtain⟨p8,c8,hv8⟩:=zA hown8;subst hv8;have hr8:=HDx.out.rowP hk8;have HL9:=Hd (HDx.out.group HOb.out.2 HOb.out.1 (g:=g) hk8 (by rw[HNe.out.2.1];exact hown8));clear d0 d1 d2 d3 y0 y1 y2 y3;obtain⟨⟨d0,d1,d2,d3⟩,y0,y1,y2,y3⟩:=yM hr8.1;clear hown8 hg8 hnil8 hloc8 hk8 hr8));go_roundw;(case rel=>refine⟨q+1,st.tell pre delim it,.slice ea ne ec,.slice p8 (np+1) c8,by omega,by go_num,by rw[HS2.out];go_num,by rw[HS2.out];rfl,by rw[HS2.out],by rw[HDc2.out,if_neg HSk.out,if_neg HLm.out],?_,?_⟩;(·rw[HS2.out];have h1:=HSt.out;have h2:=HLm.out;(have h3:(pT g).size=1+g.size:=by unfold pT;rw[ByteArray.size_append];rfl);have h4:=HGs.out;exact zWb);·rw[HS2.out];exact HL9.out);case measure=>simp[intOf];omega));·(obtain rfl:q=m:=by omega);(have g1:decide ((q:Int)<(q:Int))=false:=by simp);have hdn:L.drop q=[]:=List.drop_eq_nil_of_le (by rw[HM.out];exact Qn _);have HDn:=Hd hdn;obtain⟨⟨d0,d1,d2,d3⟩,y0,y1,y2,y3⟩:=yM HDl.out.out;obtain⟨⟨r0,r1,r2,r3⟩,z0,z1,z2,z3⟩:=yM HDl.out.res;clear hdn;go_wp2_with(refine bodyPost_ret (zx rfl _ _ (w.heap.size+1) _ _ _ _ rfl (vy HDl.out.res _ _ _ _) underlying58 rfl (by kernel_rfl)) rfl ?_;exact⟨_,rfl,by rw[HDc.out,HDn.out,kV];exact HDl.out.done HOb.out.1 (Nat.le_succ _)⟩)
end
end Go.Proofs.YtaokjeokpifjgaaGreatDoor
