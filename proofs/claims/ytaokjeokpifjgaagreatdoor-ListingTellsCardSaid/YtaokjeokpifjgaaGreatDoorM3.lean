/-
  Texts of this claim, one behind the other: Ins Insert Split PutP PutL PutI PutA Guard Tree TPut BlP PkP.
-/
import Derived.Test.YtaokjeokpifjgaaGreatDoorM2
import Derived.Defers
import Derived.Recover
open Go.Proofs.Tryz
set_option maxRecDepth 100000
set_option maxHeartbeats 4000000
namespace Go.Proofs.YtaokjeokpifjgaaGreatDoor
open Go.RowKit Go.MapKept
attribute [local go_sem] yo yg
theorem yZ(b:Nat){a:World}:∀(vs:List Value)(o:Nat)(w:World),Keep (fun k=>k=b) a w→Keep (fun k=>k=b) a (w.setCells b o vs)|[],_,_,h=>h|v::r,o,_,h=>yZ b r (o+1) _ (h.setCell (p:=⟨b,o,none⟩) (fun _=>rfl) v)
theorem zm(b:Nat)(T:TypeId):∀(vs:List Value)(o:Nat)(w:World)(cs:Array Value),w.heap[b]? =some (.cells cs T (0,0))→∃cs',(w.setCells b o vs).heap[b]? =some (.cells cs' T (0,0))∧cs'.size=cs.size∧∀j,j<cs.size→cs'[j]? =if o≤j∧j<o+vs.length then vs[j-o]? else cs[j]? |[],o,w,cs,h=>⟨cs,h,rfl,fun j _=>by rw[if_neg (by simp only[List.length_nil];omega)]⟩|v::r,o,w,cs,h=>by obtain⟨cs',h1,h2,h3⟩:=zm b T r (o+1) _ _ (heap_setCell_same w b o cs T v h);rw[Array.size_setIfInBounds]at h2 h3;refine⟨cs',h1,h2,fun j hj=> ?_⟩;rw[h3 j hj];by_cases e:o=j;(·subst e;rw[if_neg (by omega),if_pos ⟨Qn _,by simp⟩,Nat.sub_self];simp[hj]);·by_cases e2:o+1≤j∧j<o+1+r.length;(·rw[if_pos e2,if_pos ⟨by omega,by simp;omega⟩];obtain⟨q,rfl⟩:∃q,j=o+1+q:=⟨j-(o+1),by omega⟩;rw[show o+1+q-(o+1)=q by omega,show o+1+q-o=q+1 by omega];rfl);·rw[if_neg e2,if_neg (by simp;omega)];simp[e]
theorem xu{w:World}{b n c:Nat}{cs:Array Value}{T:TypeId}{l:List Value}(hb:w.heap[b]? =some (.cells cs T (0,0)))(hs:cs.size=c)(hn:n≤c)(hc:c≤maxLen)(hl:l.length=n)(hj:∀j,j<n→cs[j]? =l[j]?):w.ownsRow 0 T 1 (.slice (some ⟨b,0,none⟩) n c) n l:=by
 refine⟨by omega,.inr ⟨b,c,cs,rfl,Nat.zero_le _,hb,hn,hc,by omega,?_⟩⟩
 apply List.ext_getElem?
 intro j
 rw[Nat.mul_one,List.getElem?_take]
 by_cases h:j<n
 ·rw[if_pos h,←hj j h,Array.getElem?_toList]
 ·rw[if_neg h,List.getElem?_eq_none (by omega)]
theorem zKE{α:Type}(l:List α)(k:α)(i j:Nat)(hi:i≤l.length):(l.take i++k::l.drop i)[j]? =if j<i then l[j]? else if j=i then some k else l[j-1]? :=by
 by_cases h:j<i
 ·rw[if_pos h,List.getElem?_append_left (by rw[List.length_take];omega),List.getElem?_take,if_pos h]
 ·rw[if_neg h,List.getElem?_append_right (by rw[List.length_take];omega),List.length_take,Nat.min_eq_left hi];by_cases h2:j=i;(·subst h2;rw[if_pos rfl,Nat.sub_self];rfl);·rw[if_neg h2];obtain⟨q,rfl⟩:∃q,j=i+1+q:=⟨j-(i+1),by omega⟩;rw[show i+1+q-i=q+1 by omega,List.getElem?_cons_succ,List.getElem?_drop,show i+1+q-1=i+q by omega]
theorem zCV{w:World}{b:Nat}{cs:Array Value}{T:TypeId}{f:Nat×Nat}(h:w.heap[b]? =some (.cells cs T f)):w.shape? b=some (T,cs.size):=by
 unfold World.shape?
 rw[h]
theorem zM{w:World}{b j:Nat}{cs:Array Value}{T:TypeId}(h:w.heap[b]? =some (.cells cs T (0,0))):w.frozen? ⟨b,j,none⟩=false:=frozen_of_row w b j cs T h
theorem zSF{p:Prop}(h:p:=by rw[Ql,List.length_take,List.length_cons,List.length_drop];omega):p:=h
theorem zSG{p:Prop}(h:p:=by rw[Array.getElem?_append_left (by rw[List.size_toArray,Ql,hcs,List.length_singleton];omega),List.getElem?_toArray,hin j];by_cases h3:j<i;(·rw[if_pos h3,List.getElem?_append_left (by omega)]);·(obtain rfl:j=i:=by omega);rw[if_neg h3,if_pos rfl,List.getElem?_append_right (by omega),hcs,Nat.sub_self];rfl):p:=h
theorem zSH{p:Prop}(h:p:=by refine(endGrow none 0 (by omega) (Qn _) (by omega) (fun _=>rfl) (fun a ha=>by cases ha)).mono fun e w' hh=> ?_;obtain⟨v',h1,h2,h3,h4⟩:=hh;exact⟨v',h1,h2,h3.mono (fun _ _ e=>e.elim),fun k e=>.inr (h4 k e)⟩):p:=h
theorem zSI{p:Prop}(h:p:=by (have hj2:j<n:=by exact zQK);rw[Nat.zero_add,Qc hgc j,hcur j hj2];exact hj):p:=h
theorem zSJ{p:Prop}(h:p:=by rw[Qc hgc j,Array.getElem?_eq_getElem (by omega)];rfl):p:=h
theorem zSK{p:Prop}(h:p:=by refine⟨_,he,?_,?_,fun k e=>.inl e⟩;(·rw[hw];refine xu b1 (by omega) hroom hcm hnl (fun j hj=> ?_);rw[b3 j (by omega),hin j,List.length_singleton];by_cases h3:j=i;(·subst h3;rw[if_pos (by omega),if_neg (by omega),if_pos rfl,Nat.zero_add,Nat.sub_self];rfl);·rw[if_neg (by omega),a3 j (by omega),List.length_drop,hcs];by_cases h4:j<i;(·rw[if_neg (by omega),if_pos h4,hcur j (by omega)]);·rw[if_pos (by omega),if_neg h4,if_neg h3,List.getElem?_drop];congr 1;omega);·rw[hw];exact(yZ g _ _ _ (yZ g _ _ _ (Keep.refl _ w).drew)).mono (fun k _ e=>by rw[e];rfl)):p:=h
theorem zSL{p:Prop}(h:p:=by refine⟨_,he,?_,?_,fun k e=>.inl e⟩;(·rw[hw];refine xu a1 (by omega) hroom hcm hnl (fun j hj=> ?_);rw[a3 j (by omega),hin j,List.length_singleton];by_cases h3:j<i;(·rw[if_neg (by omega),if_pos h3,hcur j h3]);·(obtain rfl:j=i:=by omega);rw[if_pos (by omega),if_neg h3,if_pos rfl,Nat.zero_add,Nat.sub_self];rfl);·rw[hw];exact(yZ g _ _ _ (Keep.refl _ w)).mono (fun k _ e=>by rw[e];rfl)):p:=h
theorem zSM{p:Prop}(h:p:=by rw[←hA,Array.size_append,Array.size_append,zlen,zlen,List.size_toArray,List.length_take];omega):p:=h
theorem zSN{p:Prop}(h:p:=by rw[←hA,Array.getElem?_append_left (by rw[Array.size_append,List.size_toArray,List.length_take];omega),Array.getElem?_append_left (by rw[List.size_toArray,List.length_take];omega),List.getElem?_toArray,List.getElem?_take,if_pos hj]):p:=h
theorem zSO{p:Prop}(h:p:=by rw[hw2];refine xu b1 (by rw[b2,a2,hAs];rfl) hcap hcm2 hnl (fun j hj=> ?_);rw[b3 j (by omega),hin j,List.length_drop,hcs];by_cases h4:i+1≤j;(·rw[if_pos (by omega),if_neg (by omega),if_neg (by omega),List.getElem?_drop];congr 1;omega);·rw[if_neg (by omega),a3 j (by omega),List.length_singleton];by_cases h3:j=i;(·subst h3;rw[if_pos (by omega),if_neg (by omega),if_pos rfl,Nat.sub_self];rfl);·rw[if_neg (by omega),if_pos (by omega),hAj j (by omega)]):p:=h
theorem zSP{p:Prop}(h:p:=by exact(yZ w.heap.size _ _ _ k2).mono (fun k hk e=>by omega)):p:=h
theorem zSQ{p:Prop}(h:p:=by refine(endGrow (some ⟨g,0,none⟩) c (by omega) hnc (by omega) (fun e=>by cases e) (fun a ha j u hj=>by cases ha;have:=hcells j u hj;rw[Nat.zero_add]at this;rw[yJ];exact this)).mono fun e w' hh=> ?_;obtain⟨v',h1,h2,h3,h4⟩:=hh;exact⟨v',h1,h2,h3.mono (fun _ _ e=>e.elim),fun k e=>.inr (h4 k e)⟩):p:=h
theorem zHl{w:World}{v:Value}{n i vb:Nat}{l:List QB}{key:QB}(hr:w.ownsRow 0 9 1 v n (zW l))(hl:l.length=n)(hn:n<65536)(hi:i≤n)(hvb:w.heap[vb]? =some (.cells #[Value.string key] 9 (0,0)))(hne:v.ownBlock≠some vb):Calls prog 249 #[v,.int .i64 i,.slice (some ⟨vb,0,none⟩) 1 1] w fun e w'=>∃v',e= .returned v'∧w'.ownsRow 0 9 1 v' (n+1) (zW (l.take i++key::l.drop i))∧Keep (fun k=>v.ownBlock=some k) w w'∧(∀k,v'.ownBlock=some k→v.ownBlock=some k∨w.heap.size≤k):=by
 have hcs:(zW l).length=n:=by rw[ze];exact hl
 have e0:zW (l.take i++key::l.drop i)=(zW l).take i++Value.string key::(zW l).drop i:=by unfold zW;rw[List.map_append,List.map_cons,List.map_take,List.map_drop]
 rw[e0]
 have hnl:((zW l).take i++Value.string key::(zW l).drop i).length=n+1:=by exact zSF
 have h1c:∀u∈zW l,u.oneCell'=true:=zCQ l
 have h1v:∀u∈[Value.string key],u.oneCell'=true:=fun u hu=>by rw[List.mem_singleton.1 hu];rfl
 have hvs:∀(j:Nat)u,[Value.string key][j]? =some u→w.cell? ⟨vb,0+j,none⟩=some u:=fun j u hj=>by rw[Nat.zero_add,Qc hvb j];simpa using hj
 have hg:=grownCap_ge w (n+1)
 obtain⟨cs,hcse⟩:=qN (zW l)
 rw[hcse]at hr hcs hnl h1c⊢
 clear e0 hcse hl
 have zlen:∀q,(Builtin.zeroCells (Value.string ⟨#[]⟩).cells q).size=q:=fun q=>by rw[size_zeroCells];exact Nat.mul_one q
 have hin:∀j,(cs.take i++Value.string key::cs.drop i)[j]? =if j<i then cs[j]? else if j=i then some (Value.string key)else cs[j-1]? :=fun j=>zKE cs _ i j (by omega)
 have endGrow:∀(base:Option Addr)(c:Nat),i=n→n≤c→c<n+1→(base=none→n=0)→(∀a,base=some a→∀(j:Nat)u,cs[j]? =some u→w.cell? (a.add j)=some u)→Calls prog 249 #[.slice base n c,.int .i64 i,.slice (some ⟨vb,0,none⟩) 1 1] w fun e w'=>∃v',e= .returned v'∧w'.ownsRow 0 9 1 v' (n+1) (cs.take i++Value.string key::cs.drop i)∧Keep (fun _=>False) w w'∧(∀k,v'.ownBlock=some k→w.heap.size≤k):=fun base c hin2 hnc hroom hnil hcc=>by subst hin2;refine(Any2.slices_Insert_string_end_grow Tryz.insS base i c vb 0 1 1 cs [Value.string key] w (by decide) hnc hroom (by omega) hcs rfl hnil hcc hvs h1v).mono fun e w' hh=> ?_;obtain⟨he,hw⟩:=hh;refine⟨_,he,?_,by rw[hw];exact(Keep.refl _ w).drew.alloc _,fun k e=>by cases e;exact Qn _⟩;have hcap:=hg c 9;have hcm:=grownCap_le_maxLen w (i+1) c 9 (by unfold maxLen;omega);rw[hw];refine xu (qH w.drew _) ?_ hcap hcm hnl (fun j hj=> ?_);(·rw[Array.size_append,zlen,List.size_toArray,Ql,hcs,List.length_singleton];show i+1+(grownCap w (i+1) c 9-(i+1))=grownCap w (i+1) c 9;omega);·exact zSG
 rcases hr.2 with⟨rfl,rfl⟩|⟨g,c,cur,rfl,_,hgc,hnc,hcm,hsz,htk⟩
 ·exact zSH
 ·rw[Nat.mul_one]at hsz htk;(have hcur:∀j,j<n→cur[j]? =cs[j]? :=fun j hj=>by rw[←htk,List.getElem?_take,if_pos hj,Array.getElem?_toList]);(have hcells:∀(j:Nat)u,cs[j]? =some u→w.cell? ⟨g,0+j,none⟩=some u:=fun j u hj=>by exact zSI);(have hthere:∀j,j<c→(w.cell? ⟨g,j,none⟩).isSome=true:=fun j hj=>by exact zSJ);have hgv:g≠vb:=fun e=>hne (by rw[e];rfl);by_cases hroom:n+1≤c;(·by_cases hin2:i<n;(·refine(Any2.slices_Insert_string_shift Tryz.insS g 0 n c i vb 0 1 1 cs [Value.string key] w hin2 (by decide) hroom (by unfold maxLen at hcm;omega) (fun e=>hgv e.symm) hcs rfl hcells (fun j hj=>by rw[Nat.zero_add];exact hthere j (by omega)) (fun j hj=>zM hgc) hvs h1c h1v _ _ _ _ (zCV hvb) (zCV hgc) (by omega) (zM hvb) (zM hvb)).mono fun e w' hh=> ?_;obtain⟨he,hw⟩:=hh;have hg1:w.drew.heap[g]? =some (.cells cur 9 (0,0)):=hgc;obtain⟨c1,a1,a2,a3⟩:=zm g 9 (cs.drop i) (0+(i+1)) w.drew cur hg1;obtain⟨c2,b1,b2,b3⟩:=zm g 9 [Value.string key] (0+i) _ c1 a1;exact zSK);·(obtain rfl:i=n:=by omega);refine(Any2.slices_Insert_string_end_room Tryz.insS g 0 i c vb 0 1 1 [Value.string key] w (by decide) hroom (by unfold maxLen at hcm;omega) rfl (fun j hj=>by rw[Nat.zero_add];exact hthere _ (by omega)) (fun j hj=>zM hgc) hvs h1v).mono fun e w' hh=> ?_;obtain⟨he,hw⟩:=hh;obtain⟨c1,a1,a2,a3⟩:=zm g 9 [Value.string key] (0+i) w cur hgc;exact zSL);·by_cases hin2:i<n;(·refine(Any2.slices_Insert_string_grow Tryz.insS g 0 n c i vb 0 1 1 cs [Value.string key] w hin2 (by decide) hnc (by omega) (by omega) hcs rfl hcells hvs h1c h1v).mono fun e w' hh=> ?_;obtain⟨he,hw⟩:=hh;have hcap:=hg c 9;have hcm2:=grownCap_le_maxLen w (n+1) c 9 (by unfold maxLen;omega);have hnew:=qH w (.cells ((cs.take i).toArray++Builtin.zeroCells (Value.string ⟨#[]⟩).cells (n+1-i)++Builtin.zeroCells (Value.string ⟨#[]⟩).cells (grownCap w (n+1) c 9-(n+1))) 9);obtain⟨A,hA⟩:=qN ((cs.take i).toArray++Builtin.zeroCells (Value.string ⟨#[]⟩).cells (n+1-i)++Builtin.zeroCells (Value.string ⟨#[]⟩).cells (grownCap w (n+1) c 9-(n+1)));(have hAs:A.size=grownCap w (n+1) c 9:=by exact zSM);(have hAj:∀j,j<i→A[j]? =cs[j]? :=fun j hj=>by exact zSN);(have hw2:w'=(((w.alloc (.cells A 9)).drew.setCells w.heap.size i [Value.string key]).drew).setCells w.heap.size (i+1) (cs.drop i):=by rw[hw,←hA];rfl);rw[hA]at hnew;have hn1:(w.alloc (.cells A 9)).drew.heap[w.heap.size]? =some (.cells A 9 (0,0)):=hnew;obtain⟨c1,a1,a2,a3⟩:=zm w.heap.size 9 [Value.string key] i _ A hn1;have a1':(((w.alloc (.cells A 9)).drew.setCells w.heap.size i [Value.string key]).drew).heap[w.heap.size]? =some (.cells c1 9 (0,0)):=a1;obtain⟨c2,b1,b2,b3⟩:=zm w.heap.size 9 (cs.drop i) (i+1) _ c1 a1';refine⟨_,he,?_,?_,fun k e=>.inr (by cases e;exact Qn _)⟩;(·exact zSO);·rw[hw2];have k1:Keep (fun k=>k=w.heap.size) w (w.alloc (.cells A 9)).drew:=((Keep.refl _ w).alloc _).drew;have k2:Keep (fun k=>k=w.heap.size) w ((w.alloc (.cells A 9)).drew.setCells w.heap.size i [Value.string key]).drew:=(yZ w.heap.size _ _ _ k1).drew;exact zSP);·exact zSQ
theorem zMf{w:World}{v:Value}{n i vb:Nat}{l:List Nat}{key:Nat}(hr:w.ownsRow 0 3 1 v n (yh l))(hl:l.length=n)(hn:n<65536)(hi:i≤n)(hvb:w.heap[vb]? =some (.cells #[Value.int .i64 (key:Int)] 3 (0,0)))(hne:v.ownBlock≠some vb):Calls prog 250 #[v,.int .i64 i,.slice (some ⟨vb,0,none⟩) 1 1] w fun e w'=>∃v',e= .returned v'∧w'.ownsRow 0 3 1 v' (n+1) (yh (l.take i++key::l.drop i))∧Keep (fun k=>v.ownBlock=some k) w w'∧(∀k,v'.ownBlock=some k→v.ownBlock=some k∨w.heap.size≤k):=by
 have hcs:(yh l).length=n:=by rw[xf];exact hl
 have e0:yh (l.take i++key::l.drop i)=(yh l).take i++Value.int .i64 (key:Int)::(yh l).drop i:=by unfold yh;rw[List.map_append,List.map_cons,List.map_take,List.map_drop]
 rw[e0]
 have hnl:((yh l).take i++Value.int .i64 (key:Int)::(yh l).drop i).length=n+1:=by exact zSF
 have h1c:∀u∈yh l,u.oneCell'=true:=zHh l
 have h1v:∀u∈[Value.int .i64 (key:Int)],u.oneCell'=true:=fun u hu=>by rw[List.mem_singleton.1 hu];rfl
 have hvs:∀(j:Nat)u,[Value.int .i64 (key:Int)][j]? =some u→w.cell? ⟨vb,0+j,none⟩=some u:=fun j u hj=>by rw[Nat.zero_add,Qc hvb j];simpa using hj
 have hg:=grownCap_ge w (n+1)
 obtain⟨cs,hcse⟩:=qN (yh l)
 rw[hcse]at hr hcs hnl h1c⊢
 clear e0 hcse hl
 have zlen:∀q,(Builtin.zeroCells (Value.int .i64 0).cells q).size=q:=fun q=>by rw[size_zeroCells];exact Nat.mul_one q
 have hin:∀j,(cs.take i++Value.int .i64 (key:Int)::cs.drop i)[j]? =if j<i then cs[j]? else if j=i then some (Value.int .i64 (key:Int))else cs[j-1]? :=fun j=>zKE cs _ i j (by omega)
 have endGrow:∀(base:Option Addr)(c:Nat),i=n→n≤c→c<n+1→(base=none→n=0)→(∀a,base=some a→∀(j:Nat)u,cs[j]? =some u→w.cell? (a.add j)=some u)→Calls prog 250 #[.slice base n c,.int .i64 i,.slice (some ⟨vb,0,none⟩) 1 1] w fun e w'=>∃v',e= .returned v'∧w'.ownsRow 0 3 1 v' (n+1) (cs.take i++Value.int .i64 (key:Int)::cs.drop i)∧Keep (fun _=>False) w w'∧(∀k,v'.ownBlock=some k→w.heap.size≤k):=fun base c hin2 hnc hroom hnil hcc=>by subst hin2;refine(Any2.slices_Insert_int_end_grow Tryz.insI base i c vb 0 1 1 cs [Value.int .i64 (key:Int)] w (by decide) hnc hroom (by omega) hcs rfl hnil hcc hvs h1v).mono fun e w' hh=> ?_;obtain⟨he,hw⟩:=hh;refine⟨_,he,?_,by rw[hw];exact(Keep.refl _ w).drew.alloc _,fun k e=>by cases e;exact Qn _⟩;have hcap:=hg c 3;have hcm:=grownCap_le_maxLen w (i+1) c 3 (by unfold maxLen;omega);rw[hw];refine xu (qH w.drew _) ?_ hcap hcm hnl (fun j hj=> ?_);(·rw[Array.size_append,zlen,List.size_toArray,Ql,hcs,List.length_singleton];show i+1+(grownCap w (i+1) c 3-(i+1))=grownCap w (i+1) c 3;omega);·exact zSG
 rcases hr.2 with⟨rfl,rfl⟩|⟨g,c,cur,rfl,_,hgc,hnc,hcm,hsz,htk⟩
 ·exact zSH
 ·rw[Nat.mul_one]at hsz htk;(have hcur:∀j,j<n→cur[j]? =cs[j]? :=fun j hj=>by rw[←htk,List.getElem?_take,if_pos hj,Array.getElem?_toList]);(have hcells:∀(j:Nat)u,cs[j]? =some u→w.cell? ⟨g,0+j,none⟩=some u:=fun j u hj=>by exact zSI);(have hthere:∀j,j<c→(w.cell? ⟨g,j,none⟩).isSome=true:=fun j hj=>by exact zSJ);have hgv:g≠vb:=fun e=>hne (by rw[e];rfl);by_cases hroom:n+1≤c;(·by_cases hin2:i<n;(·refine(Any2.slices_Insert_int_shift Tryz.insI g 0 n c i vb 0 1 1 cs [Value.int .i64 (key:Int)] w hin2 (by decide) hroom (by unfold maxLen at hcm;omega) (fun e=>hgv e.symm) hcs rfl hcells (fun j hj=>by rw[Nat.zero_add];exact hthere j (by omega)) (fun j hj=>zM hgc) hvs h1c h1v _ _ _ _ (zCV hvb) (zCV hgc) (by omega) (zM hvb) (zM hvb)).mono fun e w' hh=> ?_;obtain⟨he,hw⟩:=hh;have hg1:w.drew.heap[g]? =some (.cells cur 3 (0,0)):=hgc;obtain⟨c1,a1,a2,a3⟩:=zm g 3 (cs.drop i) (0+(i+1)) w.drew cur hg1;obtain⟨c2,b1,b2,b3⟩:=zm g 3 [Value.int .i64 (key:Int)] (0+i) _ c1 a1;exact zSK);·(obtain rfl:i=n:=by omega);refine(Any2.slices_Insert_int_end_room Tryz.insI g 0 i c vb 0 1 1 [Value.int .i64 (key:Int)] w (by decide) hroom (by unfold maxLen at hcm;omega) rfl (fun j hj=>by rw[Nat.zero_add];exact hthere _ (by omega)) (fun j hj=>zM hgc) hvs h1v).mono fun e w' hh=> ?_;obtain⟨he,hw⟩:=hh;obtain⟨c1,a1,a2,a3⟩:=zm g 3 [Value.int .i64 (key:Int)] (0+i) w cur hgc;exact zSL);·by_cases hin2:i<n;(·refine(Any2.slices_Insert_int_grow Tryz.insI g 0 n c i vb 0 1 1 cs [Value.int .i64 (key:Int)] w hin2 (by decide) hnc (by omega) (by omega) hcs rfl hcells hvs h1c h1v).mono fun e w' hh=> ?_;obtain⟨he,hw⟩:=hh;have hcap:=hg c 3;have hcm2:=grownCap_le_maxLen w (n+1) c 3 (by unfold maxLen;omega);have hnew:=qH w (.cells ((cs.take i).toArray++Builtin.zeroCells (Value.int .i64 0).cells (n+1-i)++Builtin.zeroCells (Value.int .i64 0).cells (grownCap w (n+1) c 3-(n+1))) 3);obtain⟨A,hA⟩:=qN ((cs.take i).toArray++Builtin.zeroCells (Value.int .i64 0).cells (n+1-i)++Builtin.zeroCells (Value.int .i64 0).cells (grownCap w (n+1) c 3-(n+1)));(have hAs:A.size=grownCap w (n+1) c 3:=by exact zSM);(have hAj:∀j,j<i→A[j]? =cs[j]? :=fun j hj=>by exact zSN);(have hw2:w'=(((w.alloc (.cells A 3)).drew.setCells w.heap.size i [Value.int .i64 (key:Int)]).drew).setCells w.heap.size (i+1) (cs.drop i):=by rw[hw,←hA];rfl);rw[hA]at hnew;have hn1:(w.alloc (.cells A 3)).drew.heap[w.heap.size]? =some (.cells A 3 (0,0)):=hnew;obtain⟨c1,a1,a2,a3⟩:=zm w.heap.size 3 [Value.int .i64 (key:Int)] i _ A hn1;have a1':(((w.alloc (.cells A 3)).drew.setCells w.heap.size i [Value.int .i64 (key:Int)]).drew).heap[w.heap.size]? =some (.cells c1 3 (0,0)):=a1;obtain⟨c2,b1,b2,b3⟩:=zm w.heap.size 3 (cs.drop i) (i+1) _ c1 a1';refine⟨_,he,?_,?_,fun k e=>.inr (by cases e;exact Qn _)⟩;(·exact zSO);·rw[hw2];have k1:Keep (fun k=>k=w.heap.size) w (w.alloc (.cells A 3)).drew:=((Keep.refl _ w).alloc _).drew;have k2:Keep (fun k=>k=w.heap.size) w ((w.alloc (.cells A 3)).drew.setCells w.heap.size i [Value.int .i64 (key:Int)]).drew:=(yZ w.heap.size _ _ _ k1).drew;exact zSP);·exact zSQ
def Nd.ins(x:Nd)(i:Nat)(key val:QB)(kid:Nat):Nd:=⟨x.leaf,x.keys.take i++key::x.keys.drop i,if x.leaf then x.vals.take i++val::x.vals.drop i else x.vals,if x.leaf then x.kids else x.kids.take i++kid::x.kids.drop i⟩
structure NdStep(b:Nat)(w:World)(kv vv cv:Value)(w':World)(kv' vv' cv':Value)(x':Nd):Prop where
 nd:NdAt w' b kv' vv' cv' x'
 keep:Keep (yK b kv vv cv) w w'
 own:∀k,yK b kv' vv' cv' k→yK b kv vv cv k∨w.heap.size≤k
theorem zSR{p:Prop}(h:p:=by have HSt:=Hd hst;clear hst hp3 hkp3 hx ks1 own1 own3 hq3 hr3 hk3 ho3;go_wp2;go_end0;exact⟨rfl,_,_,_,HSt.out⟩):p:=h
theorem zSS{p:Prop}(h:p:=by (have e:(x.keys.take i++key::x.keys.drop i).length=n+1:=by rw[Ql,List.length_take,List.length_cons,List.length_drop,HN.out];omega);rw[e];exact hr1):p:=h
theorem zST{p:Prop}(h:p:=by rcases e with e|e|e|e;(·exact .inl e);(·rcases own1 q e with e2|e2;(·exact .inr (.inl e2));·omega);(·exact .inr (.inr (.inl e)));·exact .inr (.inr (.inr e))):p:=h
theorem zES{w:World}{b:Nat}{kv vv cv:Value}{x:Nd}(h:NdAt w b kv vv cv x)(hl:x.keys.length<65536)(hvl:x.vals.length=if x.leaf then x.keys.length else 0)(hcl:x.kids.length=if x.leaf then 0 else x.keys.length)(i:Nat)(hi:i≤x.keys.length)(key val:QB)(kid:Nat):Calls prog 211 #[.pointer (some ⟨b,0,none⟩),.int .i64 i,.string key,.string val,.int .i64 kid] w fun e w'=>e= .returned (.tuple #[])∧∃kv' vv' cv',NdStep b w kv vv cv w' kv' vv' cv' (x.ins i key val kid):=by
 have c1:w.cell? ⟨b,1,none⟩=some kv:=Qc h.cells 1
 obtain⟨ka,kc,hkv⟩:=zA h.keys
 obtain⟨n,hn⟩:=qN x.keys.length
 rw[hn]at hkv hl hi hvl hcl
 have hb0:Below w.heap.size w (w.alloc (.cells #[.string key] 9)):=qA
 have h0:=h.still hb0
 have hk0:=h0.keys
 rw[hn]at hk0
 have HA:=Hd (zHl (key:=key) hk0 hn hl hi (qH w (.cells #[.string key] 9)) (fun e=>by have:=(h.keys.lt _ e).2;omega))
 have H0:=Hd h0
 have HB0:=Hd hb0
 have HN:=Hd hn
 have hlt:b<w.heap.size:=h.lt (.inl rfl)
 have i0:(0:Int)≤(i:Int):=by omega
 have HOw:=Hd (fun k(hk:yK b kv vv cv k)=>h.lt hk)
 clear h h0 hk0 hb0 hn
 subst hkv
 obtain⟨lf,hlf⟩:=qN x.leaf
 rw[hlf]at hvl hcl
 have HLf:=Hd hlf
 clear hlf
 cases lf with|false=>simp only[Bool.false_eq_true,if_false]at hvl hcl;go_enter func211,ntmps211;go_wp2_with(fail);refine(HA.out).mono ?_;rintro e w1⟨v1,rfl,hr1,hk1,ho1⟩;obtain⟨ka1,kc1,hv1⟩:=zA hr1;subst hv1;obtain⟨hp1,hkp1⟩:=H0.out.putKeys (l:=x.keys.take i++key::x.keys.drop i) hk1 (by exact zSS) ho1;have hq1:=hk1.at H0.out.cells (fun e=>H0.out.ne.1 e);have d1:w1.cell? ⟨b,1,none⟩=some (.slice ka n kc):=Qc hq1 1;have f1:w1.frozen? ⟨b,1,none⟩=false:=zM hq1;obtain⟨w2,hw2⟩:=qN (w1.setCell ⟨b,1,none⟩ (.slice ka1 (n+1) kc1));rw[hw2]at hp1 hkp1;(have d0:w2.cell? ⟨b,0,none⟩=some (.bool false):=by have:=Qc hp1.cells 0;rw[←HLf.out];exact this);have d2:w2.cell? ⟨b,3,none⟩=some cv:=Qc hp1.cells 3;have hb2:Below w2.heap.size w2 (w2.alloc (.cells #[.int .i64 (kid:Int)] 3)):=qA;have h2:=hp1.still hb2;(have hv2:(w2.alloc (.cells #[.int .i64 (kid:Int)] 3)).ownsRow 0 3 1 cv n (yh x.kids):=by have:=h2.kids;rw[show({x with keys:=x.keys.take i++key::x.keys.drop i}:Nd).kids=x.kids from rfl,hcl]at this;exact this);obtain⟨va,vc,hvv⟩:=zA hv2;have HV:=Hd (zMf (key:=kid) hv2 hcl hl hi (qH w2 (.cells #[.int .i64 (kid:Int)] 3)) (fun e=>by have:=(hp1.kids.lt _ e).2;omega));have H2:=Hd h2;have HP1:=Hd hkp1;have HOl:=Hd ho1;have HB2:=Hd hb2;clear hp1 hkp1 hb2 h2 hv2 hr1 hk1 ho1 hq1;subst hvv;go_wp2_with(fail);refine(HV.out).mono ?_;rintro e w3⟨v3,rfl,hr3,hk3,ho3⟩;obtain⟨va1,vc1,hv3⟩:=zA hr3;subst hv3;obtain⟨hp3,hkp3⟩:=H2.out.putKids (l:=x.kids.take i++kid::x.kids.drop i) hk3 (by(have e:(x.kids.take i++kid::x.kids.drop i).length=n+1:=by rw[Ql,List.length_take,List.length_cons,List.length_drop,hcl];omega);rw[e];exact hr3) ho3;have hq3:=hk3.at H2.out.cells (fun e=>H2.out.ne.2.2 e);have d3:w3.cell? ⟨b,3,none⟩=some (.slice va n vc):=Qc hq3 3;have f3:w3.frozen? ⟨b,3,none⟩=false:=zM hq3;(have hx:({({x with keys:=x.keys.take i++key::x.keys.drop i}:Nd)with kids:=x.kids.take i++kid::x.kids.drop i}:Nd)=x.ins i key val kid:=by unfold Nd.ins;rw[HLf.out];simp only[Bool.false_eq_true,if_false]);rw[hx]at hp3;have ks1:Keep (yK b (.slice ka n kc) vv (.slice va n vc)) w w2:=(Keep.ofBelow HB0.out).trans HP1.out (fun _ _ e=>e);have hz:w.heap.size≤w2.heap.size:=ks1.size;have hz0:w.heap.size≤(w.alloc (.cells #[.string key] 9)).heap.size:=HB0.out.size;have own1:∀q,(Value.slice ka1 (n+1) kc1).ownBlock=some q→(Value.slice ka n kc).ownBlock=some q∨w.heap.size≤q:=fun q e=>(HOl.out q e).imp id (fun e2=>Nat.le_trans hz0 e2);have own3:∀q,(Value.slice va1 (n+1) vc1).ownBlock=some q→(Value.slice va n vc).ownBlock=some q∨w.heap.size≤q:=fun q e=>(ho3 q e).imp id (fun e2=>Nat.le_trans hz (Nat.le_trans HB2.out.size e2));(have hst:NdStep b w (.slice ka n kc) vv (.slice va n vc) (w3.setCell ⟨b,3,none⟩ (.slice va1 (n+1) vc1)) (.slice ka1 (n+1) kc1) vv (.slice va1 (n+1) vc1) (x.ins i key val kid):=by refine⟨hp3,(ks1.trans (Keep.ofBelow (S:=fun _=>False) HB2.out) (fun _ _ e=>e.elim)).trans hkp3 (fun q hq e=> ?_),fun q e=> ?_⟩;(·exact zST);·rcases e with e|e|e|e;(·exact .inl (.inl e));(·exact(own1 q e).imp (fun e2=>.inr (.inl e2)) id);(·exact .inl (.inr (.inr (.inl e))));·exact(own3 q e).imp (fun e2=>.inr (.inr (.inr e2))) id);exact zSR|true=>simp only[if_true]at hvl hcl;go_enter func211,ntmps211;go_wp2_with(fail);refine(HA.out).mono ?_;rintro e w1⟨v1,rfl,hr1,hk1,ho1⟩;obtain⟨ka1,kc1,hv1⟩:=zA hr1;subst hv1;obtain⟨hp1,hkp1⟩:=H0.out.putKeys (l:=x.keys.take i++key::x.keys.drop i) hk1 (by exact zSS) ho1;have hq1:=hk1.at H0.out.cells (fun e=>H0.out.ne.1 e);have d1:w1.cell? ⟨b,1,none⟩=some (.slice ka n kc):=Qc hq1 1;have f1:w1.frozen? ⟨b,1,none⟩=false:=zM hq1;obtain⟨w2,hw2⟩:=qN (w1.setCell ⟨b,1,none⟩ (.slice ka1 (n+1) kc1));rw[hw2]at hp1 hkp1;(have d0:w2.cell? ⟨b,0,none⟩=some (.bool true):=by have:=Qc hp1.cells 0;rw[←HLf.out];exact this);have d2:w2.cell? ⟨b,2,none⟩=some vv:=Qc hp1.cells 2;have hb2:Below w2.heap.size w2 (w2.alloc (.cells #[.string val] 9)):=qA;have h2:=hp1.still hb2;(have hv2:(w2.alloc (.cells #[.string val] 9)).ownsRow 0 9 1 vv n (zW x.vals):=by have:=h2.vals;rw[show({x with keys:=x.keys.take i++key::x.keys.drop i}:Nd).vals=x.vals from rfl,hvl]at this;exact this);obtain⟨va,vc,hvv⟩:=zA hv2;have HV:=Hd (zHl (key:=val) hv2 hvl hl hi (qH w2 (.cells #[.string val] 9)) (fun e=>by have:=(hp1.vals.lt _ e).2;omega));have H2:=Hd h2;have HP1:=Hd hkp1;have HOl:=Hd ho1;have HB2:=Hd hb2;clear hp1 hkp1 hb2 h2 hv2 hr1 hk1 ho1 hq1;subst hvv;go_wp2_with(fail);refine(HV.out).mono ?_;rintro e w3⟨v3,rfl,hr3,hk3,ho3⟩;obtain⟨va1,vc1,hv3⟩:=zA hr3;subst hv3;obtain⟨hp3,hkp3⟩:=H2.out.putVals (l:=x.vals.take i++val::x.vals.drop i) hk3 (by(have e:(x.vals.take i++val::x.vals.drop i).length=n+1:=by rw[Ql,List.length_take,List.length_cons,List.length_drop,hvl];omega);rw[e];exact hr3) ho3;have hq3:=hk3.at H2.out.cells (fun e=>H2.out.ne.2.1 e);have d3:w3.cell? ⟨b,2,none⟩=some (.slice va n vc):=Qc hq3 2;have f3:w3.frozen? ⟨b,2,none⟩=false:=zM hq3;(have hx:({({x with keys:=x.keys.take i++key::x.keys.drop i}:Nd)with vals:=x.vals.take i++val::x.vals.drop i}:Nd)=x.ins i key val kid:=by unfold Nd.ins;rw[HLf.out];simp only[if_true]);rw[hx]at hp3;have ks1:Keep (yK b (.slice ka n kc) (.slice va n vc) cv) w w2:=(Keep.ofBelow HB0.out).trans HP1.out (fun _ _ e=>e);have hz:w.heap.size≤w2.heap.size:=ks1.size;have hz0:w.heap.size≤(w.alloc (.cells #[.string key] 9)).heap.size:=HB0.out.size;have own1:∀q,(Value.slice ka1 (n+1) kc1).ownBlock=some q→(Value.slice ka n kc).ownBlock=some q∨w.heap.size≤q:=fun q e=>(HOl.out q e).imp id (fun e2=>Nat.le_trans hz0 e2);have own3:∀q,(Value.slice va1 (n+1) vc1).ownBlock=some q→(Value.slice va n vc).ownBlock=some q∨w.heap.size≤q:=fun q e=>(ho3 q e).imp id (fun e2=>Nat.le_trans hz (Nat.le_trans HB2.out.size e2));(have hst:NdStep b w (.slice ka n kc) (.slice va n vc) cv (w3.setCell ⟨b,2,none⟩ (.slice va1 (n+1) vc1)) (.slice ka1 (n+1) kc1) (.slice va1 (n+1) vc1) cv (x.ins i key val kid):=by refine⟨hp3,(ks1.trans (Keep.ofBelow (S:=fun _=>False) HB2.out) (fun _ _ e=>e.elim)).trans hkp3 (fun q hq e=> ?_),fun q e=> ?_⟩;(·exact zST);·rcases e with e|e|e|e;(·exact .inl (.inl e));(·exact(own1 q e).imp (fun e2=>.inr (.inl e2)) id);(·exact(own3 q e).imp (fun e2=>.inr (.inr (.inl e2))) id);·exact .inl (.inr (.inr (.inr e))));exact zSR
structure NdRd(w:World)(b:Nat)(x:Nd)(O:Nat→Prop):Prop where
 lt:b<w.heap.size
 ob:O b
 node:∃kv vv cv,w.cell? ⟨b,0,none⟩=some (.bool x.leaf)∧w.cell? ⟨b,1,none⟩=some kv∧w.cell? ⟨b,2,none⟩=some vv∧w.cell? ⟨b,3,none⟩=some cv∧RowAt w kv (zW x.keys)∧RowAt w vv (zW x.vals)∧RowAt w cv (yh x.kids)∧(∀k,kv.ownBlock=some k→O k)∧(∀k,vv.ownBlock=some k→O k)∧∀k,cv.ownBlock=some k→O k
section
variable {w w' : World} {b : Nat} {x : Nd} {O O' : Nat → Prop}
theorem NdRd.r(h:NdRd w b x O):NdR w b x:=by
 obtain⟨kv,vv,cv,c0,c1,c2,c3,r1,r2,r3,_⟩:=h.node
 exact⟨h.lt,kv,vv,cv,c0,c1,c2,c3,r1,r2,r3⟩
theorem NdRd.keep{S:Nat→Prop}(h:NdRd w b x O)(hk:Keep S w w')(hn:∀k,O k→¬S k):NdRd w' b x O:=by
 obtain⟨kv,vv,cv,c0,c1,c2,c3,r1,r2,r3,o1,o2,o3⟩:=h.node
 have hc:∀k,w'.cell? ⟨b,k,none⟩=w.cell? ⟨b,k,none⟩:=fun k=>hk.cell (p:=⟨b,k,none⟩) h.lt (hn b h.ob)
 exact⟨Qt h.lt hk.size,h.ob,kv,vv,cv,by rw[hc];exact c0,by rw[hc];exact c1,by rw[hc];exact c2,by rw[hc];exact c3,r1.keep hk (fun q e=>hn q (o1 q e)),r2.keep hk (fun q e=>hn q (o2 q e)),r3.keep hk (fun q e=>hn q (o3 q e)),o1,o2,o3⟩
end
def Nd.one(x:Nd)(j:Nat):Nd:=⟨x.leaf,[x.keys.getD j ⟨#[]⟩],if x.leaf then[x.vals.getD j ⟨#[]⟩]else[],[]⟩
theorem Nd.one_size(x:Nd)(j:Nat):(x.one j).size=3+(x.ent j).length:=by
 rw[←Nd.size_upto]
 show 3+((x.one j).ent 0).length=_
 unfold Nd.ent Nd.one
 rw[kY,kY]
 cases x.leaf<;>rfl
theorem Nd.one_ok{x:Nd}(ok:x.okS)(j:Nat)(hj:j<x.keys.length):(x.one j).okS:=by
 refine⟨fun e=> ?_,fun k hk=> ?_,fun v hv=> ?_⟩
 ·unfold Nd.one at e⊢;simp only at e⊢;rw[e];rfl
 ·rw[List.mem_singleton.1 hk];exact ok.k96 _ (zz hj)
 ·unfold Nd.one at hv;simp only at hv;cases hl:x.leaf with|false=>rw[hl]at hv;cases hv|true=>rw[hl]at hv;simp only[if_true]at hv;rw[List.mem_singleton.1 hv];exact ok.v56 _ (zz (by rw[ok.vals hl];exact hj))
theorem ownsRow.base0{w:World}{B:Nat}{e:TypeId}{sz:Nat}{v:Value}{n:Nat}{l:List Value}(h:w.ownsRow B e sz v n l):w.ownsRow 0 e sz v n l:=⟨h.1,h.2.imp id (fun⟨g,c,cur,a1,_,a3⟩=>⟨g,c,cur,a1,Nat.zero_le _,a3⟩)⟩
theorem zFb(l:List QB)(j:Nat):zW (l.drop j)=(zW l).drop j:=by
 unfold zW
 rw[List.map_drop]
theorem zKt(l:List Nat)(j:Nat):yh (l.drop j)=(yh l).drop j:=by
 unfold yh
 rw[List.map_drop]
theorem zSU{p:Prop}(h:p:=by exact⟨0,by omega,rfl,rfl,fun h=>absurd h (by omega),Below.refl _ _⟩):p:=h
theorem zSV{p:Prop}(h:p:=by rw[hbel.cell (p:=⟨b,0,none⟩) HLt.out];exact Qc HCl.out 0):p:=h
theorem zSW{p:Prop}(h:p:=by clear hno hnil hrowk hrowv hnew hbw1 hbw2 hos hus hel hmo;go_wp2_with(go_at_call 212;refine(HSo.out).mono ?_;rintro e _⟨rfl,rfl⟩);go_roundw;(case rel=>exact⟨j+1,by omega,by go_num,by rw[HUs.out];go_num,fun _=>by rw[Nat.add_sub_cancel,HU.out];exact hlt,HBW.out⟩);case measure=>simp[intOf];omega):p:=h
theorem zSX{p:Prop}(h:p:=by rcases Nat.lt_or_ge j m with e|e;(·exact e);·exfalso;(have e2:j=m:=by omega);rw[e2,HFull.out]at HU;have:=HU.out;omega):p:=h
theorem zSY{p:Prop}(h:p:=by rw[show(j:Int)+1=((j+1:Nat):Int)by omega];exact zv (by omega) (by omega)):p:=h
theorem zOY{p:Prop}(h:p:=by rw[hu.cell (p:=⟨b,0,none⟩) (Qt HLt.out HB.out.size) (fun e=>e),HB.out.cell (p:=⟨b,0,none⟩) HLt.out];exact Qc HCl.out 0):p:=h
theorem zOZ{p:Prop}(h:p:=by rw[hu.cell (p:=⟨b,1,none⟩) (Qt HLt.out HB.out.size) (fun e=>e),HB.out.cell (p:=⟨b,1,none⟩) HLt.out];exact Qc HCl.out 1):p:=h
theorem zSZ{p:Prop}(h:p:=by rw[hbw1.cell (p:=⟨b,0,none⟩) HLt.out];exact Qc HCl.out 0):p:=h
theorem zSa{p:Prop}(h:p:=by cases q with|zero=>simp[zW,Nd.one]at hq;rw[←hq,Nat.add_zero,hbw2.cell (p:=⟨g1,j,none⟩) HG1.out];exact HQ1.out j hjm|succ q=>simp[zW,Nd.one]at hq):p:=h
theorem zSb{p:Prop}(h:p:=by refine⟨(Gl hnew),_,_,_,?_,Qc hnew 1,Qc hnew 2,Qc hnew 3,hrowk,hrowv,hnil _⟩;show _=some (Value.bool x.leaf);rw[HLf.out];exact Qc hnew 0):p:=h
theorem zSc{p:Prop}(h:p:=by have HL7:=Hd hleft;have HR7:=Hd hright;have HK7:=Hd k07;clear hleft hright k07 hbc7 hrb7 hrow7 hrow47 k7 k6 hrb6 hbc6 hrow6 hrow46 hbc5 hrb5 hrow45 hrow5 hb5 hoth;go_wp2;go_ret;exact⟨rb,j,rfl,HPt.out,HL7.out,HR7.out,HK7.out⟩):p:=h
theorem zSd{p:Prop}(h:p:=by rw[hu.cell (p:=⟨g1,j+q,none⟩) HG1.out];rw[zFb,List.getElem?_drop]at hq;(have hlq:j+q<m:=by have:=(List.getElem?_eq_some_iff.1 hq).1;rw[ze,HM.out]at this;exact this);rw[yW _ _ (by rw[HM.out];exact hlq)]at hq;rw[←Option.some.inj hq];exact HQ1.out (j+q) hlq):p:=h
theorem zSe{p:Prop}(h:p:=by show _=some (Value.bool x.leaf);rw[HLf.out];exact Qc hbc7 0):p:=h
theorem zQQ{p:Prop}(h:p:=by have:=(List.getElem?_eq_some_iff.1 hq).1;omega):p:=h
theorem zSf{p:Prop}(h:p:=by (have hlen:(zW (x.take j).keys).length=j:=by rw[ze];show(x.keys.take j).length=j;rw[List.length_take,HM.out];omega);refine⟨some ⟨g1,0,none⟩,g1,0,j,by rw[hlen],fun _=>⟨rfl,Qt HG1.out k07.size⟩,fun q v hq=> ?_⟩;(have hlq:q<j:=by exact zQQ);rw[Nat.zero_add,k07.cell (p:=⟨g1,q,none⟩) HG1.out (fun e=>HNe1.out e),HQ1.out q (by omega)];have h5:=yW (x.take j).keys q (by rw[←ze];omega);rw[hq]at h5;rw[h5];show some (Value.string (x.keys.getD q ⟨#[]⟩))=some (Value.string ((x.keys.take j).getD q ⟨#[]⟩));rw[getD_take _ _ _ _ hlq]):p:=h
theorem zSg{p:Prop}(h:p:=by show _=some (Value.bool x.leaf);rw[HLf.out];exact Qc hrb7 0):p:=h
theorem zFc{w:World}{b:Nat}{kv vv cv:Value}{x:Nd}(h:NdAt w b kv vv cv x)(ok:x.ok)(h1:512<x.size)(h2:x.size≤512+x.most):Calls prog 213 #[.pointer (some ⟨b,0,none⟩)] w fun e w'=>∃rb a,e= .returned (.pointer (some ⟨rb,0,none⟩))∧PartAt x a∧NdRd w' b (x.take a) (yK b kv vv cv)∧NdRd w' rb (x.drop a) (fun k=>w.heap.size≤k∧k<w'.heap.size)∧Keep (fun k=>k=b) w w':=by
 obtain⟨i0,hi0,hz0,hz1,hz2⟩:=info_parts zCR
 have HI:=Hd hi0
 have Hz0:=Hd hz0
 have Hz1:=Hd hz1
 have Hz2:=Hd hz2
 obtain⟨k0,hj0,hy0,hy1,hy2⟩:=info_parts zHi
 have HJ:=Hd hj0
 have Hy0:=Hd hy0
 have Hy1:=Hd hy1
 have Hy2:=Hd hy2
 clear hi0 hz0 hz1 hz2 hj0 hy0 hy1 hy2
 have hm666:x.size≤666:=by unfold Nd.most at h2;split at h2<;>omega
 have hkl:=x.keys_lt ok hm666
 obtain⟨m,hm⟩:=qN x.keys.length
 obtain⟨sz,hsz⟩:=qN x.size
 have hup:∀j,j≤m→x.upto j≤sz:=fun j hj=>by have:=(Nd.upto_le ok.s j m hj (by omega)).1;rw[←hm,x.size_upto,hm,hsz]at this;omega
 have hfull:x.upto m=sz:=by rw[←hm,x.size_upto,hsz]
 have HSz:=Hd (fun u(hu:Below w.heap.size w u)=>zBC (h.read.still hu) ok.s hkl)
 rw[hsz]at HSz h1 hm666
 have hm1:1≤m:=by rcases Nat.eq_zero_or_pos m with e|e;(·rw[e]at hfull;have:x.upto 0=3:=rfl;omega);·exact e
 obtain⟨g1,p1,hk1,hp1,_,_⟩:=zH h.keys (by omega)
 rw[hm]at hk1 hp1
 have q1:∀j,j<m→w.cell? ⟨g1,j,none⟩=some (.string (x.keys.getD j ⟨#[]⟩)):=fun j hj=>by have:=h.keys.cells (by rw[hk1];rfl) j _ (yW x.keys j (by omega));rwa [yJ]at this
 have hg1:g1<w.heap.size:=(h.keys.lt g1 (by rw[hk1];rfl)).2
 have hne1:g1≠b:=fun e=>h.ne.1 (by rw[hk1,e];rfl)
 have HQ1:=Hd q1
 have HG1:=Hd hg1
 have HNe1:=Hd hne1
 have HUp:=Hd hup
 have HFull:=Hd hfull
 have HOk:=Hd ok
 have HM:=Hd hm
 have hm6:m<65536:=by omega
 have HH:=Hd h
 have HS0:=Hd hsz
 have HOne:=Hd (fun j(hj:j<m)=>x.one_ok ok.s j (by omega))
 have HCl:=Hd h.cells
 subst hk1
 have hlt:b<w.heap.size:=h.lt (.inl rfl)
 have HLt:=Hd hlt
 obtain⟨lf,hlf⟩:=qN x.leaf
 have HLf:=Hd hlf
 clear q1 hg1 hne1 hup ok hkl hsz hm hlt
 cases lf with|true=>(have hvl:x.vals.length=m:=by exact zQM);obtain⟨g2,p2,hk2,hp2,_,_⟩:=zH h.vals (by omega);rw[hvl]at hk2 hp2;(have q2:∀j,j<m→w.cell? ⟨g2,j,none⟩=some (.string (x.vals.getD j ⟨#[]⟩)):=fun j hj=>by have:=h.vals.cells (by rw[hk2];rfl) j _ (yW x.vals j (by omega));rwa [yJ]at this);have hg2:g2<w.heap.size:=(h.vals.lt g2 (by rw[hk2];rfl)).2;have HQ2:=Hd q2;have HG2:=Hd hg2;have HNe2:=Hd (show g2≠b from fun e=>h.ne.2.1 (by rw[hk2,e];rfl));have HVl:=Hd hvl;rw[hlf]at HCl;subst hk2;clear h q2 hg2 hvl hlf;go_enter func213,ntmps213;go_wp2_with(fail);go_loopw [3,4](fun s i wr=>∃j:Nat,j≤m∧i= .int .i64 j∧s= .int .i64 (x.upto j)∧(0<j→x.upto (j-1)<sz/2)∧Below w.heap.size w wr)(fun _ i _=>m-(intOf i).toNat);(case atStart=>exact zSU);(case round=>obtain⟨j,hj,rfl,rfl,hah,hbel⟩:=hrel;have HB:=Hd hbel;have hup:=HUp.out j hj;obtain⟨u,hu0⟩:=qN (x.upto j);rw[hu0]at hup⊢;have HU:=Hd hu0;(have c0:wr.cell? ⟨b,0,none⟩=some (.bool true):=by exact zSV);have HSr:=Hd (HSz.out wr hbel);have HAh:=Hd hah;(have u0:(0:Int)≤(u:Int):=by omega);(have j0:(0:Int)≤(j:Int):=by omega);clear hbel hu0 hah;by_cases hlt:u<sz/2;(·(have t1:decide ((u:Int)<(sz:Int)/2)=true:=by simp;omega);go_wp2_with(go_at_call 212;refine(HSr.out).mono ?_;rintro e _⟨rfl,rfl⟩);(have hjm:j<m:=by exact zSX);(have hj1:(j:Int)<(m:Int):=by omega);(have hj2:(j:Int)+1≤(m:Int):=by omega);(have hpm:(m:Int)≤(p1:Int):=by omega);(have wj:IntKind.i64.wrap ((j:Int)+1)=((j+1:Nat):Int):=by exact zSY);(have wn:((j+1:Nat):Int).toNat=j+1:=by omega);(have hpj:¬p1=j:=by omega);(have hw1:(0:Int)≤((j+1:Nat):Int):=by omega);(have hw2:((j+1:Nat):Int)≤(p1:Int):=by omega);(have hw5:(0:Int)≤(j:Int)+1:=by omega);(have hw6:(j:Int)+1≤(p1:Int):=by omega);(have hw3:j≤j+1:=by omega);(have hw4:j+1-j=1:=by omega);obtain⟨S,HS⟩:=mkS (Keep (fun _=>False) (wr));have FR:=Hd (fun u(hu:S u)=>have hu:=(HS.out u).1 hu;have c0:u.cell? ⟨b,0,none⟩=some (.bool true):=(by exact zOY);have c1:u.cell? ⟨b,1,none⟩=some (.slice (some ⟨g1,0,none⟩) m p1):=(by exact zOZ);And.intro c0 c1);refine rgo 14 [tR 0,tR 1,tR 2,tR 3,tR 4,tR 5,tR 6,tR 7,tR 8,tR 9,tR 10,tR 11,tR 12,tD 13] HS (Keep.refl _ _).drew ?_;(iterate 13 refine rd1 ?_);refine doH ?_;intro K hK;go_simp;refine hK _ _ ((HS.out _).2 ((Keep.refl _ _).drew.alloc _)) ?_;clear hK K;refine zl ?_;clear FR;clear S HS;have hbw1:Below w.heap.size w (wr.alloc (.cells #[.bool true,.slice (some ⟨g1,j,none⟩) 1 (p1-j),.slice none 0 0,.slice none 0 0] 247)):=HB.out.alloc HB.out.size _;(have c0:(wr.alloc (.cells #[.bool true,.slice (some ⟨g1,j,none⟩) 1 (p1-j),.slice none 0 0,.slice none 0 0] 247)).cell? ⟨b,0,none⟩=some (.bool true):=by exact zSZ);have hnil:∀T,RowAt T (.slice none 0 0) []:=fun T=>⟨none,0,0,0,rfl,fun h=>absurd h (by simp),fun q v hq=>by simp at hq⟩;have hel:=Nd.ent_le HOk.out.s j (by rw[HM.out];exact hjm);(have hmo:x.most≤154:=by unfold Nd.most;split<;>omega);have hos:=x.one_size j;have hus:x.upto (j+1)=x.upto j+(x.ent j).length:=rfl;obtain⟨el,hel0⟩:=qN ((x.ent j).length);rw[hel0]at hel hos hus;rw[HU.out]at hus;have HUs:=Hd hus;(have e0:(0:Int)≤(el:Int):=by omega);(have e1:(el:Int)≤154:=by omega);have hup1:=HUp.out (j+1) (by omega);rw[hus]at hup1;have HE1:=Hd hup1;(have c2:(wr.alloc (.cells #[.bool true,.slice (some ⟨g1,j,none⟩) 1 (p1-j),.slice none 0 0,.slice none 0 0] 247)).cell? ⟨b,2,none⟩=some (.slice (some ⟨g2,0,none⟩) m p2):=by rw[hbw1.cell (p:=⟨b,2,none⟩) HLt.out];exact Qc HCl.out 2);(have hpj2:¬p2=j:=by omega);(have hw7:(j:Int)+1≤(p2:Int):=by omega);have hbw2:Below w.heap.size w (wr.alloc (.cells #[.bool true,.slice (some ⟨g1,j,none⟩) 1 (p1-j),.slice (some ⟨g2,j,none⟩) 1 (p2-j),.slice none 0 0] 247)):=HB.out.alloc HB.out.size _;have hnew:=qH wr (.cells #[.bool true,.slice (some ⟨g1,j,none⟩) 1 (p1-j),.slice (some ⟨g2,j,none⟩) 1 (p2-j),.slice none 0 0] 247);have hrowk:RowAt (wr.alloc (.cells #[.bool true,.slice (some ⟨g1,j,none⟩) 1 (p1-j),.slice (some ⟨g2,j,none⟩) 1 (p2-j),.slice none 0 0] 247)) (.slice (some ⟨g1,j,none⟩) 1 (p1-j)) (zW (x.one j).keys):=⟨some ⟨g1,j,none⟩,g1,j,p1-j,rfl,fun _=>⟨rfl,Qt HG1.out hbw2.size⟩,fun q v hq=>by exact zSa⟩;(have hrowv:RowAt (wr.alloc (.cells #[.bool true,.slice (some ⟨g1,j,none⟩) 1 (p1-j),.slice (some ⟨g2,j,none⟩) 1 (p2-j),.slice none 0 0] 247)) (.slice (some ⟨g2,j,none⟩) 1 (p2-j)) (zW (x.one j).vals):=by(have hvv:(x.one j).vals=[x.vals.getD j ⟨#[]⟩]:=by unfold Nd.one;rw[HLf.out];rfl);rw[hvv];exact⟨some ⟨g2,j,none⟩,g2,j,p2-j,rfl,fun _=>⟨rfl,Qt HG2.out hbw2.size⟩,fun q v hq=>by cases q with|zero=>simp[zW]at hq;rw[←hq,Nat.add_zero,hbw2.cell (p:=⟨g2,j,none⟩) HG2.out];exact HQ2.out j hjm|succ q=>simp[zW]at hq⟩);(have hno:NdR (wr.alloc (.cells #[.bool true,.slice (some ⟨g1,j,none⟩) 1 (p1-j),.slice (some ⟨g2,j,none⟩) 1 (p2-j),.slice none 0 0] 247)).drew wr.heap.size (x.one j):=by(have h1:NdR (wr.alloc (.cells #[.bool true,.slice (some ⟨g1,j,none⟩) 1 (p1-j),.slice (some ⟨g2,j,none⟩) 1 (p2-j),.slice none 0 0] 247)) wr.heap.size (x.one j):=by exact zSb);exact h1.still ⟨rfl,rfl,rfl,Qn _,fun _ _=>rfl⟩);have HSo:=Hd (zBC hno (HOne.out j hjm) (by show(1:Nat)<65536;omega));rw[hos]at HSo;have HBW:=Hd (show Below w.heap.size w (wr.alloc (.cells #[.bool true,.slice (some ⟨g1,j,none⟩) 1 (p1-j),.slice (some ⟨g2,j,none⟩) 1 (p2-j),.slice none 0 0] 247)).drew from⟨hbw2.os,hbw2.tape,hbw2.output,hbw2.size,hbw2.block⟩);exact zSW);·(have t1:decide ((u:Int)<(sz:Int)/2)=false:=by simp;omega);have hpt:PartAt x j:=⟨by rw[HM.out];exact hj,by rw[HS0.out,HU.out];omega,fun h=>by rw[HS0.out];exact HAh.out h⟩;obtain⟨s1,s2,s3,s4,s5⟩:=hpt.sizes HOk.out (by rw[HS0.out];exact h1) (by rw[HS0.out]at h2⊢;exact h2);rw[HM.out]at s4;(have hjm:(j:Int)<(m:Int):=by omega);(have hjm2:(j:Int)≤(m:Int):=by omega);(have hjp1:(j:Int)≤(p1:Int):=by omega);(have hjp2:(j:Int)≤(p2:Int):=by omega);(have hpj:¬p1=j:=by omega);(have hpj2:¬p2=j:=by omega);have HPt:=Hd hpt;clear hpt s1 s2 s5;(have hc1:∀u,Below w.heap.size w u→∀(q:Nat)v,(zW (x.keys.drop j))[q]? =some v→u.cell? ⟨g1,j+q,none⟩=some v:=fun u hu q v hq=>by exact zSd);have hdw:Below w.heap.size w wr.drew:=⟨HB.out.os,HB.out.tape,HB.out.output,HB.out.size,HB.out.block⟩;have HC1:=Hd (Tryz.slices_Clone_f251 i0 _ 1 16 HI.out Hz0.out Hz1.out Hz2.out (by rfl) (by decide) sizeOf9 g1 j (m-j) (p1-j) (zW (x.keys.drop j)) wr.drew (by rw[ze,List.length_drop,HM.out,Nat.mul_one]) (by unfold maxLen;omega) (by omega) (fun q v hq=>hc1 _ hdw q v hq) (zCQ _));clear hc1;go_wp2_with(go_at_call 212;refine(HSr.out).mono ?_;rintro e _⟨rfl,rfl⟩);obtain⟨S,HS⟩:=mkS (Keep (fun _=>False) (wr));have FR:=Hd (fun u(hu:S u)=>have hu:=(HS.out u).1 hu;have c0:u.cell? ⟨b,0,none⟩=some (.bool true):=(by exact zOY);have c1:u.cell? ⟨b,1,none⟩=some (.slice (some ⟨g1,0,none⟩) m p1):=(by exact zOZ);And.intro c0 c1);refine rgo 11 [tR 0,tR 1,tR 2,tR 3,tR 4,tR 5,tR 6,tR 7,tR 8,tR 9,tD 10] HS (Keep.refl _ _).drew ?_;(iterate 10 refine rd1 ?_);refine doH ?_;intro K hK;go_simp;go_at_call 251;refine(HC1.out).mono ?_;rintro e w2⟨v2,rfl,hrow2,hnn2,hb2⟩;have hb2':Below wr.heap.size wr w2:=⟨hb2.os,hb2.tape,hb2.output,hb2.size,hb2.block⟩;obtain⟨sa,sc,hv2⟩:=zA hrow2;subst hv2;have HRow2:=Hd hrow2;have HB2:=Hd (qT HB.out hb2');have HW2:=Hd hb2'.size;refine hK _ _ ((HS.out _).2 (Keep.ofBelow hb2')) ?_;clear hK K hrow2 hnn2 hb2 hb2';refine zl ?_;clear FR;clear S HS;have hnew:=qH w2 (.cells #[.bool true,.slice sa (m-j) sc,.slice none 0 0,.slice none 0 0] 247);have hb3:Below w.heap.size w (w2.alloc (.cells #[.bool true,.slice sa (m-j) sc,.slice none 0 0,.slice none 0 0] 247)):=HB2.out.alloc HB2.out.size _;have hrow3:(w2.alloc (.cells #[.bool true,.slice sa (m-j) sc,.slice none 0 0,.slice none 0 0] 247)).ownsRow wr.heap.size 9 1 (.slice sa (m-j) sc) (m-j) (zW (x.keys.drop j)):=HRow2.out.alloc _;obtain⟨rb,hrb⟩:=qN w2.heap.size;(have hrbl:rb<(w2.alloc (.cells #[.bool true,.slice sa (m-j) sc,.slice none 0 0,.slice none 0 0] 247)).heap.size:=by rw[←hrb];simp);obtain⟨w3,hw3⟩:=qN (w2.alloc (.cells #[.bool true,.slice sa (m-j) sc,.slice none 0 0,.slice none 0 0] 247));rw[hw3]at hnew hb3 hrow3 hrbl;rw[hrb]at hnew;have hbc:w3.heap[b]? =some (.cells #[.bool true,.slice (some ⟨g1,0,none⟩) m p1,.slice (some ⟨g2,0,none⟩) m p2,cv] 247 (0,0)):=(hb3.block b HLt.out).trans HCl.out;(have hgr:w.heap.size≤rb:=by rw[←hrb];exact HB2.out.size);(have hbr:b≠rb:=by have:=HLt.out;omega);have c1:w3.cell? ⟨b,1,none⟩=some (.slice (some ⟨g1,0,none⟩) m p1):=Qc hbc 1;have f1:w3.frozen? ⟨b,1,none⟩=false:=zM hbc;have hbc4:(w3.setCell ⟨b,1,none⟩ (.slice (some ⟨g1,0,none⟩) j j)).heap[b]? =some (.cells #[.bool true,.slice (some ⟨g1,0,none⟩) j j,.slice (some ⟨g2,0,none⟩) m p2,cv] 247 (0,0)):=heap_setCell_same w3 b 1 _ _ _ hbc;have k4:Keep (fun q=>q=b) w3 (w3.setCell ⟨b,1,none⟩ (.slice (some ⟨g1,0,none⟩) j j)):=(Keep.refl (fun q=>q=b) w3).setCell (p:=⟨b,1,none⟩) (fun _=>rfl) _;have k04:Keep (fun q=>q=b) w (w3.setCell ⟨b,1,none⟩ (.slice (some ⟨g1,0,none⟩) j j)):=(Keep.ofBelow (S:=fun q=>q=b) (hb3)).trans k4 (fun _ _ e=>e);obtain⟨w4,hw4⟩:=qN (w3.setCell ⟨b,1,none⟩ (.slice (some ⟨g1,0,none⟩) j j));rw[hw4]at hbc4 k4 k04;have hrb4:=k4.at hnew (fun e=>hbr e.symm);have hrow4:=k4.ownsRow hrow3 (fun q e e2=>by have:=(hrow3.lt q e).1;have:=HLt.out;have:=HB.out.size;omega);have c0:w4.cell? ⟨b,0,none⟩=some (.bool true):=Qc hbc4 0;have c2:w4.cell? ⟨b,2,none⟩=some (.slice (some ⟨g2,0,none⟩) m p2):=Qc hbc4 2;have hlt4:∀q,q<w.heap.size→q≠b→q<w4.heap.size:=fun q hq _=>Qt hq k04.size;have HC2:=Hd (Tryz.slices_Clone_f251 i0 _ 1 16 HI.out Hz0.out Hz1.out Hz2.out (by rfl) (by decide) sizeOf9 g2 j (m-j) (p2-j) (zW (x.vals.drop j)) w4 (by rw[ze,List.length_drop,HVl.out,Nat.mul_one]) (by unfold maxLen;omega) (by omega) (fun q v hq=>by rw[k04.cell (p:=⟨g2,j+q,none⟩) HG2.out (fun e=>HNe2.out e)];rw[zFb,List.getElem?_drop]at hq;(have hlq:j+q<m:=by have:=(List.getElem?_eq_some_iff.1 hq).1;rw[ze,HVl.out]at this;exact this);rw[yW _ _ (by rw[HVl.out];exact hlq)]at hq;rw[←Option.some.inj hq];exact HQ2.out (j+q) hlq) (zCQ _));have HBc4:=Hd hbc4;have HK04:=Hd k04;have HRb4:=Hd hrb4;have HRow4:=Hd hrow4;have hz2:=HW2.out;have hz4:=k4.size;(have hz3:w2.heap.size<w3.heap.size:=by rw[hrb];exact hrbl);have HLe:=Hd (show w.heap.size≤rb∧b≠rb∧rb<w4.heap.size∧wr.heap.size≤w4.heap.size∧w.heap.size≤wr.heap.size from⟨hgr,hbr,Qt hrbl hz4,by omega,HB.out.size⟩);clear hz2 hz3 hz4;clear hbc4 k4 k04 hrb4 hrow4 hnew hb3 hrow3 hbc hlt4 hrbl;go_wp2_with(fail);refine(HC2.out).mono ?_;rintro e w5⟨v5,rfl,hrow5,_,hb5⟩;obtain⟨sb,sd,hv5⟩:=zA hrow5;subst hv5;obtain⟨z1,z2,z3,z4,z5⟩:=HLe.out;have hbc5:=(Keep.still hb5).at HBc4.out (fun e=>e);have hrb5:=(Keep.still hb5).at HRb4.out (fun e=>e);have hrow45:=(Keep.still hb5).ownsRow HRow4.out (fun _ _ e=>e);have o2:w5.cell? ⟨rb,2,none⟩=some (.slice none 0 0):=Qc hrb5 2;have fo:w5.frozen? ⟨rb,2,none⟩=false:=zM hrb5;have k6:Keep (fun q=>q=rb) w5 (w5.setCell ⟨rb,2,none⟩ (.slice sb (m-j) sd)):=(Keep.refl (fun q=>q=rb) w5).setCell (p:=⟨rb,2,none⟩) (fun _=>rfl) _;have hrb6:(w5.setCell ⟨rb,2,none⟩ (.slice sb (m-j) sd)).heap[rb]? =some (.cells #[.bool true,.slice sa (m-j) sc,.slice sb (m-j) sd,.slice none 0 0] 247 (0,0)):=heap_setCell_same w5 rb 2 _ _ _ hrb5;have hbc6:=k6.at hbc5 z2;have hrow6:=k6.ownsRow hrow5 (fun q e e2=>by have:=(hrow5.lt q e).1;omega);have hrow46:=k6.ownsRow hrow45 (fun q e e2=>by have h1:=(HRow2.out.lt q e).2;rw[hrb]at h1;omega);obtain⟨w6,hw6⟩:=qN (w5.setCell ⟨rb,2,none⟩ (.slice sb (m-j) sd));rw[hw6]at k6 hrb6 hbc6 hrow6 hrow46;have c2:w6.cell? ⟨b,2,none⟩=some (.slice (some ⟨g2,0,none⟩) m p2):=Qc hbc6 2;have f2:w6.frozen? ⟨b,2,none⟩=false:=zM hbc6;have k7:Keep (fun q=>q=b) w6 (w6.setCell ⟨b,2,none⟩ (.slice (some ⟨g2,0,none⟩) j j)):=(Keep.refl (fun q=>q=b) w6).setCell (p:=⟨b,2,none⟩) (fun _=>rfl) _;have hbc7:(w6.setCell ⟨b,2,none⟩ (.slice (some ⟨g2,0,none⟩) j j)).heap[b]? =some (.cells #[.bool true,.slice (some ⟨g1,0,none⟩) j j,.slice (some ⟨g2,0,none⟩) j j,cv] 247 (0,0)):=heap_setCell_same w6 b 2 _ _ _ hbc6;have hrb7:=k7.at hrb6 (fun e=>z2 e.symm);have hrow7:=k7.ownsRow hrow6 (fun q e e2=>by have:=(hrow6.lt q e).1;have:=HLt.out;omega);have hrow47:=k7.ownsRow hrow46 (fun q e e2=>by have:=(hrow46.lt q e).1;have:=HLt.out;omega);have k07:Keep (fun q=>q=b) w (w6.setCell ⟨b,2,none⟩ (.slice (some ⟨g2,0,none⟩) j j)):=((HK04.out.trans (Keep.ofBelow (S:=fun _=>False) hb5) (fun _ _ e=>e.elim)).trans k6 (fun q hq e=>by omega)).trans k7 (fun _ _ e=>e);obtain⟨w7,hw7⟩:=qN (w6.setCell ⟨b,2,none⟩ (.slice (some ⟨g2,0,none⟩) j j));rw[hw7]at k07 hbc7 hrb7 hrow7 hrow47;have hoth:x.kids=[]:=List.length_eq_zero_iff.1 (by have:=HOk.out.kids;rw[HLf.out]at this;simpa using this);(have hleft:NdRd w7 b (x.take j) (yK b (.slice (some ⟨g1,0,none⟩) m p1) (.slice (some ⟨g2,0,none⟩) m p2) cv):=by(have rk:RowAt w7 (.slice (some ⟨g1,0,none⟩) j j) (zW (x.take j).keys):=by exact zSf);(have rl:RowAt w7 (.slice (some ⟨g2,0,none⟩) j j) (zW (x.take j).vals):=by(have hlen:(zW (x.take j).vals).length=j:=by rw[ze];show(x.vals.take j).length=j;rw[List.length_take,HVl.out];omega);refine⟨some ⟨g2,0,none⟩,g2,0,j,by rw[hlen],fun _=>⟨rfl,Qt HG2.out k07.size⟩,fun q v hq=> ?_⟩;(have hlq:q<j:=by exact zQQ);rw[Nat.zero_add,k07.cell (p:=⟨g2,q,none⟩) HG2.out (fun e=>HNe2.out e),HQ2.out q (by omega)];have h5:=yW (x.take j).vals q (by rw[←ze];omega);rw[hq]at h5;rw[h5];show some (Value.string (x.vals.getD q ⟨#[]⟩))=some (Value.string ((x.vals.take j).getD q ⟨#[]⟩));rw[getD_take _ _ _ _ hlq]);(have ro:RowAt w7 cv (yh (x.take j).kids):=by have h5:=(xt HH.out.kids).keep k07 (fun q e e2=>HH.out.ne.2.2 (by rw[e,e2]));rw[hoth]at h5;show RowAt w7 cv (yh (x.kids.take j));rw[hoth,List.take_nil];exact h5);refine⟨Qt HLt.out k07.size,.inl rfl,_,_,_,?_,Qc hbc7 1,Qc hbc7 2,Qc hbc7 3,rk,rl,ro,fun q e=>.inr (.inl e),fun q e=>.inr (.inr (.inl e)),fun q e=>.inr (.inr (.inr e))⟩;exact zSe);(have hright:NdRd w7 rb (x.drop j) (fun k=>w.heap.size≤k∧k<w7.heap.size):=by(have e1:(zW (x.keys.drop j)).length=m-j:=by rw[ze,List.length_drop,HM.out]);have rk:=xt (ownsRow.base0 hrow47);have rl:=xt (ownsRow.base0 hrow7);(have ro:RowAt w7 (.slice none 0 0) (yh (x.drop j).kids):=by show RowAt w7 (.slice none 0 0) (yh (x.kids.drop j));rw[hoth,List.drop_nil];exact⟨none,0,0,0,rfl,fun h=>absurd h (by simp[yh]),fun q v hq=>by simp[yh]at hq⟩);refine⟨(Gl hrb7),⟨z1,(Gl hrb7)⟩,_,_,_,?_,Qc hrb7 1,Qc hrb7 2,Qc hrb7 3,rk,rl,ro,fun q e=>⟨Nat.le_trans z5 (hrow47.lt q e).1,(hrow47.lt q e).2⟩,fun q e=>⟨Nat.le_trans z5 (Nat.le_trans z4 (hrow7.lt q e).1),(hrow7.lt q e).2⟩,fun q e=>by cases e⟩;exact zSg);exact zSc)|false=>(have hvl:x.kids.length=m:=by exact zQN);obtain⟨g2,p2,hk2,hp2,_,_⟩:=zH h.kids (by omega);rw[hvl]at hk2 hp2;(have q2:∀j,j<m→w.cell? ⟨g2,j,none⟩=some (.int .i64 ((x.kids.getD j 0:Nat):Int)):=fun j hj=>by have:=h.kids.cells (by rw[hk2];rfl) j _ (zCS x.kids j (by omega));rwa [yJ]at this);have hg2:g2<w.heap.size:=(h.kids.lt g2 (by rw[hk2];rfl)).2;have HQ2:=Hd q2;have HG2:=Hd hg2;have HNe2:=Hd (show g2≠b from fun e=>h.ne.2.2 (by rw[hk2,e];rfl));have HVl:=Hd hvl;rw[hlf]at HCl;subst hk2;clear h q2 hg2 hvl hlf;go_enter func213,ntmps213;go_wp2_with(fail);go_loopw [3,4](fun s i wr=>∃j:Nat,j≤m∧i= .int .i64 j∧s= .int .i64 (x.upto j)∧(0<j→x.upto (j-1)<sz/2)∧Below w.heap.size w wr)(fun _ i _=>m-(intOf i).toNat);(case atStart=>exact zSU);case round=>obtain⟨j,hj,rfl,rfl,hah,hbel⟩:=hrel;have HB:=Hd hbel;have hup:=HUp.out j hj;obtain⟨u,hu0⟩:=qN (x.upto j);rw[hu0]at hup⊢;have HU:=Hd hu0;(have c0:wr.cell? ⟨b,0,none⟩=some (.bool false):=by exact zSV);have HSr:=Hd (HSz.out wr hbel);have HAh:=Hd hah;(have u0:(0:Int)≤(u:Int):=by omega);(have j0:(0:Int)≤(j:Int):=by omega);clear hbel hu0 hah;by_cases hlt:u<sz/2;(·(have t1:decide ((u:Int)<(sz:Int)/2)=true:=by simp;omega);go_wp2_with(go_at_call 212;refine(HSr.out).mono ?_;rintro e _⟨rfl,rfl⟩);(have hjm:j<m:=by exact zSX);(have hj1:(j:Int)<(m:Int):=by omega);(have hj2:(j:Int)+1≤(m:Int):=by omega);(have hpm:(m:Int)≤(p1:Int):=by omega);(have wj:IntKind.i64.wrap ((j:Int)+1)=((j+1:Nat):Int):=by exact zSY);(have wn:((j+1:Nat):Int).toNat=j+1:=by omega);(have hpj:¬p1=j:=by omega);(have hw1:(0:Int)≤((j+1:Nat):Int):=by omega);(have hw2:((j+1:Nat):Int)≤(p1:Int):=by omega);(have hw5:(0:Int)≤(j:Int)+1:=by omega);(have hw6:(j:Int)+1≤(p1:Int):=by omega);(have hw3:j≤j+1:=by omega);(have hw4:j+1-j=1:=by omega);obtain⟨S,HS⟩:=mkS (Keep (fun _=>False) (wr));have FR:=Hd (fun u(hu:S u)=>have hu:=(HS.out u).1 hu;have c0:u.cell? ⟨b,0,none⟩=some (.bool false):=(by exact zOY);have c1:u.cell? ⟨b,1,none⟩=some (.slice (some ⟨g1,0,none⟩) m p1):=(by exact zOZ);And.intro c0 c1);refine rgo 14 [tR 0,tR 1,tR 2,tR 3,tR 4,tR 5,tR 6,tR 7,tR 8,tR 9,tR 10,tR 11,tR 12,tD 13] HS (Keep.refl _ _).drew ?_;(iterate 13 refine rd1 ?_);refine doH ?_;intro K hK;go_simp;refine hK _ _ ((HS.out _).2 ((Keep.refl _ _).drew.alloc _)) ?_;clear hK K;refine zl ?_;clear FR;clear S HS;have hbw1:Below w.heap.size w (wr.alloc (.cells #[.bool false,.slice (some ⟨g1,j,none⟩) 1 (p1-j),.slice none 0 0,.slice none 0 0] 247)):=HB.out.alloc HB.out.size _;(have c0:(wr.alloc (.cells #[.bool false,.slice (some ⟨g1,j,none⟩) 1 (p1-j),.slice none 0 0,.slice none 0 0] 247)).cell? ⟨b,0,none⟩=some (.bool false):=by exact zSZ);have hnil:∀T,RowAt T (.slice none 0 0) []:=fun T=>⟨none,0,0,0,rfl,fun h=>absurd h (by simp),fun q v hq=>by simp at hq⟩;have hel:=Nd.ent_le HOk.out.s j (by rw[HM.out];exact hjm);(have hmo:x.most≤154:=by unfold Nd.most;split<;>omega);have hos:=x.one_size j;have hus:x.upto (j+1)=x.upto j+(x.ent j).length:=rfl;obtain⟨el,hel0⟩:=qN ((x.ent j).length);rw[hel0]at hel hos hus;rw[HU.out]at hus;have HUs:=Hd hus;(have e0:(0:Int)≤(el:Int):=by omega);(have e1:(el:Int)≤154:=by omega);have hup1:=HUp.out (j+1) (by omega);rw[hus]at hup1;have HE1:=Hd hup1;have hbw2:Below w.heap.size w (wr.alloc (.cells #[.bool false,.slice (some ⟨g1,j,none⟩) 1 (p1-j),.slice none 0 0,.slice none 0 0] 247)):=HB.out.alloc HB.out.size _;have hnew:=qH wr (.cells #[.bool false,.slice (some ⟨g1,j,none⟩) 1 (p1-j),.slice none 0 0,.slice none 0 0] 247);have hrowk:RowAt (wr.alloc (.cells #[.bool false,.slice (some ⟨g1,j,none⟩) 1 (p1-j),.slice none 0 0,.slice none 0 0] 247)) (.slice (some ⟨g1,j,none⟩) 1 (p1-j)) (zW (x.one j).keys):=⟨some ⟨g1,j,none⟩,g1,j,p1-j,rfl,fun _=>⟨rfl,Qt HG1.out hbw2.size⟩,fun q v hq=>by exact zSa⟩;(have hrowv:RowAt (wr.alloc (.cells #[.bool false,.slice (some ⟨g1,j,none⟩) 1 (p1-j),.slice none 0 0,.slice none 0 0] 247)) (.slice none 0 0) (zW (x.one j).vals):=by(have hvv:(x.one j).vals=[]:=by unfold Nd.one;rw[HLf.out];rfl);rw[hvv];exact hnil _);(have hno:NdR (wr.alloc (.cells #[.bool false,.slice (some ⟨g1,j,none⟩) 1 (p1-j),.slice none 0 0,.slice none 0 0] 247)).drew wr.heap.size (x.one j):=by(have h1:NdR (wr.alloc (.cells #[.bool false,.slice (some ⟨g1,j,none⟩) 1 (p1-j),.slice none 0 0,.slice none 0 0] 247)) wr.heap.size (x.one j):=by exact zSb);exact h1.still ⟨rfl,rfl,rfl,Qn _,fun _ _=>rfl⟩);have HSo:=Hd (zBC hno (HOne.out j hjm) (by show(1:Nat)<65536;omega));rw[hos]at HSo;have HBW:=Hd (show Below w.heap.size w (wr.alloc (.cells #[.bool false,.slice (some ⟨g1,j,none⟩) 1 (p1-j),.slice none 0 0,.slice none 0 0] 247)).drew from⟨hbw2.os,hbw2.tape,hbw2.output,hbw2.size,hbw2.block⟩);exact zSW);·(have t1:decide ((u:Int)<(sz:Int)/2)=false:=by simp;omega);have hpt:PartAt x j:=⟨by rw[HM.out];exact hj,by rw[HS0.out,HU.out];omega,fun h=>by rw[HS0.out];exact HAh.out h⟩;obtain⟨s1,s2,s3,s4,s5⟩:=hpt.sizes HOk.out (by rw[HS0.out];exact h1) (by rw[HS0.out]at h2⊢;exact h2);rw[HM.out]at s4;(have hjm:(j:Int)<(m:Int):=by omega);(have hjm2:(j:Int)≤(m:Int):=by omega);(have hjp1:(j:Int)≤(p1:Int):=by omega);(have hjp2:(j:Int)≤(p2:Int):=by omega);(have hpj:¬p1=j:=by omega);(have hpj2:¬p2=j:=by omega);have HPt:=Hd hpt;clear hpt s1 s2 s5;(have hc1:∀u,Below w.heap.size w u→∀(q:Nat)v,(zW (x.keys.drop j))[q]? =some v→u.cell? ⟨g1,j+q,none⟩=some v:=fun u hu q v hq=>by exact zSd);have hdw:Below w.heap.size w wr.drew:=⟨HB.out.os,HB.out.tape,HB.out.output,HB.out.size,HB.out.block⟩;have HC1:=Hd (Tryz.slices_Clone_f251 i0 _ 1 16 HI.out Hz0.out Hz1.out Hz2.out (by rfl) (by decide) sizeOf9 g1 j (m-j) (p1-j) (zW (x.keys.drop j)) wr.drew (by rw[ze,List.length_drop,HM.out,Nat.mul_one]) (by unfold maxLen;omega) (by omega) (fun q v hq=>hc1 _ hdw q v hq) (zCQ _));clear hc1;go_wp2_with(go_at_call 212;refine(HSr.out).mono ?_;rintro e _⟨rfl,rfl⟩);obtain⟨S,HS⟩:=mkS (Keep (fun _=>False) (wr));have FR:=Hd (fun u(hu:S u)=>have hu:=(HS.out u).1 hu;have c0:u.cell? ⟨b,0,none⟩=some (.bool false):=(by exact zOY);have c1:u.cell? ⟨b,1,none⟩=some (.slice (some ⟨g1,0,none⟩) m p1):=(by exact zOZ);And.intro c0 c1);refine rgo 11 [tR 0,tR 1,tR 2,tR 3,tR 4,tR 5,tR 6,tR 7,tR 8,tR 9,tD 10] HS (Keep.refl _ _).drew ?_;(iterate 10 refine rd1 ?_);refine doH ?_;intro K hK;go_simp;go_at_call 251;refine(HC1.out).mono ?_;rintro e w2⟨v2,rfl,hrow2,hnn2,hb2⟩;have hb2':Below wr.heap.size wr w2:=⟨hb2.os,hb2.tape,hb2.output,hb2.size,hb2.block⟩;obtain⟨sa,sc,hv2⟩:=zA hrow2;subst hv2;have HRow2:=Hd hrow2;have HB2:=Hd (qT HB.out hb2');have HW2:=Hd hb2'.size;refine hK _ _ ((HS.out _).2 (Keep.ofBelow hb2')) ?_;clear hK K hrow2 hnn2 hb2 hb2';refine zl ?_;clear FR;clear S HS;have hnew:=qH w2 (.cells #[.bool false,.slice sa (m-j) sc,.slice none 0 0,.slice none 0 0] 247);have hb3:Below w.heap.size w (w2.alloc (.cells #[.bool false,.slice sa (m-j) sc,.slice none 0 0,.slice none 0 0] 247)):=HB2.out.alloc HB2.out.size _;have hrow3:(w2.alloc (.cells #[.bool false,.slice sa (m-j) sc,.slice none 0 0,.slice none 0 0] 247)).ownsRow wr.heap.size 9 1 (.slice sa (m-j) sc) (m-j) (zW (x.keys.drop j)):=HRow2.out.alloc _;obtain⟨rb,hrb⟩:=qN w2.heap.size;(have hrbl:rb<(w2.alloc (.cells #[.bool false,.slice sa (m-j) sc,.slice none 0 0,.slice none 0 0] 247)).heap.size:=by rw[←hrb];simp);obtain⟨w3,hw3⟩:=qN (w2.alloc (.cells #[.bool false,.slice sa (m-j) sc,.slice none 0 0,.slice none 0 0] 247));rw[hw3]at hnew hb3 hrow3 hrbl;rw[hrb]at hnew;have hbc:w3.heap[b]? =some (.cells #[.bool false,.slice (some ⟨g1,0,none⟩) m p1,vv,.slice (some ⟨g2,0,none⟩) m p2] 247 (0,0)):=(hb3.block b HLt.out).trans HCl.out;(have hgr:w.heap.size≤rb:=by rw[←hrb];exact HB2.out.size);(have hbr:b≠rb:=by have:=HLt.out;omega);have c1:w3.cell? ⟨b,1,none⟩=some (.slice (some ⟨g1,0,none⟩) m p1):=Qc hbc 1;have f1:w3.frozen? ⟨b,1,none⟩=false:=zM hbc;have hbc4:(w3.setCell ⟨b,1,none⟩ (.slice (some ⟨g1,0,none⟩) j j)).heap[b]? =some (.cells #[.bool false,.slice (some ⟨g1,0,none⟩) j j,vv,.slice (some ⟨g2,0,none⟩) m p2] 247 (0,0)):=heap_setCell_same w3 b 1 _ _ _ hbc;have k4:Keep (fun q=>q=b) w3 (w3.setCell ⟨b,1,none⟩ (.slice (some ⟨g1,0,none⟩) j j)):=(Keep.refl (fun q=>q=b) w3).setCell (p:=⟨b,1,none⟩) (fun _=>rfl) _;have k04:Keep (fun q=>q=b) w (w3.setCell ⟨b,1,none⟩ (.slice (some ⟨g1,0,none⟩) j j)):=(Keep.ofBelow (S:=fun q=>q=b) (hb3)).trans k4 (fun _ _ e=>e);obtain⟨w4,hw4⟩:=qN (w3.setCell ⟨b,1,none⟩ (.slice (some ⟨g1,0,none⟩) j j));rw[hw4]at hbc4 k4 k04;have hrb4:=k4.at hnew (fun e=>hbr e.symm);have hrow4:=k4.ownsRow hrow3 (fun q e e2=>by have:=(hrow3.lt q e).1;have:=HLt.out;have:=HB.out.size;omega);have c0:w4.cell? ⟨b,0,none⟩=some (.bool false):=Qc hbc4 0;have c2:w4.cell? ⟨b,3,none⟩=some (.slice (some ⟨g2,0,none⟩) m p2):=Qc hbc4 3;have hlt4:∀q,q<w.heap.size→q≠b→q<w4.heap.size:=fun q hq _=>Qt hq k04.size;have HC2:=Hd (Tryz.slices_Clone_f252 k0 _ 1 8 HJ.out Hy0.out Hy1.out Hy2.out (by rfl) (by decide) sizeOf3 g2 j (m-j) (p2-j) (yh (x.kids.drop j)) w4 (by rw[xf,List.length_drop,HVl.out,Nat.mul_one]) (by unfold maxLen;omega) (by omega) (fun q v hq=>by rw[k04.cell (p:=⟨g2,j+q,none⟩) HG2.out (fun e=>HNe2.out e)];rw[zKt,List.getElem?_drop]at hq;(have hlq:j+q<m:=by have:=(List.getElem?_eq_some_iff.1 hq).1;rw[xf,HVl.out]at this;exact this);rw[zCS _ _ (by rw[HVl.out];exact hlq)]at hq;rw[←Option.some.inj hq];exact HQ2.out (j+q) hlq) (zHh _));have HBc4:=Hd hbc4;have HK04:=Hd k04;have HRb4:=Hd hrb4;have HRow4:=Hd hrow4;have hz2:=HW2.out;have hz4:=k4.size;(have hz3:w2.heap.size<w3.heap.size:=by rw[hrb];exact hrbl);have HLe:=Hd (show w.heap.size≤rb∧b≠rb∧rb<w4.heap.size∧wr.heap.size≤w4.heap.size∧w.heap.size≤wr.heap.size from⟨hgr,hbr,Qt hrbl hz4,by omega,HB.out.size⟩);clear hz2 hz3 hz4;clear hbc4 k4 k04 hrb4 hrow4 hnew hb3 hrow3 hbc hlt4 hrbl;go_wp2_with(fail);refine(HC2.out).mono ?_;rintro e w5⟨v5,rfl,hrow5,_,hb5⟩;obtain⟨sb,sd,hv5⟩:=zA hrow5;subst hv5;obtain⟨z1,z2,z3,z4,z5⟩:=HLe.out;have hbc5:=(Keep.still hb5).at HBc4.out (fun e=>e);have hrb5:=(Keep.still hb5).at HRb4.out (fun e=>e);have hrow45:=(Keep.still hb5).ownsRow HRow4.out (fun _ _ e=>e);have o2:w5.cell? ⟨rb,3,none⟩=some (.slice none 0 0):=Qc hrb5 3;have fo:w5.frozen? ⟨rb,3,none⟩=false:=zM hrb5;have k6:Keep (fun q=>q=rb) w5 (w5.setCell ⟨rb,3,none⟩ (.slice sb (m-j) sd)):=(Keep.refl (fun q=>q=rb) w5).setCell (p:=⟨rb,3,none⟩) (fun _=>rfl) _;have hrb6:(w5.setCell ⟨rb,3,none⟩ (.slice sb (m-j) sd)).heap[rb]? =some (.cells #[.bool false,.slice sa (m-j) sc,.slice none 0 0,.slice sb (m-j) sd] 247 (0,0)):=heap_setCell_same w5 rb 3 _ _ _ hrb5;have hbc6:=k6.at hbc5 z2;have hrow6:=k6.ownsRow hrow5 (fun q e e2=>by have:=(hrow5.lt q e).1;omega);have hrow46:=k6.ownsRow hrow45 (fun q e e2=>by have h1:=(HRow2.out.lt q e).2;rw[hrb]at h1;omega);obtain⟨w6,hw6⟩:=qN (w5.setCell ⟨rb,3,none⟩ (.slice sb (m-j) sd));rw[hw6]at k6 hrb6 hbc6 hrow6 hrow46;have c2:w6.cell? ⟨b,3,none⟩=some (.slice (some ⟨g2,0,none⟩) m p2):=Qc hbc6 3;have f2:w6.frozen? ⟨b,3,none⟩=false:=zM hbc6;have k7:Keep (fun q=>q=b) w6 (w6.setCell ⟨b,3,none⟩ (.slice (some ⟨g2,0,none⟩) j j)):=(Keep.refl (fun q=>q=b) w6).setCell (p:=⟨b,3,none⟩) (fun _=>rfl) _;have hbc7:(w6.setCell ⟨b,3,none⟩ (.slice (some ⟨g2,0,none⟩) j j)).heap[b]? =some (.cells #[.bool false,.slice (some ⟨g1,0,none⟩) j j,vv,.slice (some ⟨g2,0,none⟩) j j] 247 (0,0)):=heap_setCell_same w6 b 3 _ _ _ hbc6;have hrb7:=k7.at hrb6 (fun e=>z2 e.symm);have hrow7:=k7.ownsRow hrow6 (fun q e e2=>by have:=(hrow6.lt q e).1;have:=HLt.out;omega);have hrow47:=k7.ownsRow hrow46 (fun q e e2=>by have:=(hrow46.lt q e).1;have:=HLt.out;omega);have k07:Keep (fun q=>q=b) w (w6.setCell ⟨b,3,none⟩ (.slice (some ⟨g2,0,none⟩) j j)):=((HK04.out.trans (Keep.ofBelow (S:=fun _=>False) hb5) (fun _ _ e=>e.elim)).trans k6 (fun q hq e=>by omega)).trans k7 (fun _ _ e=>e);obtain⟨w7,hw7⟩:=qN (w6.setCell ⟨b,3,none⟩ (.slice (some ⟨g2,0,none⟩) j j));rw[hw7]at k07 hbc7 hrb7 hrow7 hrow47;have hoth:x.vals=[]:=List.length_eq_zero_iff.1 (by have:=HOk.out.vals;rw[HLf.out]at this;simpa using this);(have hleft:NdRd w7 b (x.take j) (yK b (.slice (some ⟨g1,0,none⟩) m p1) vv (.slice (some ⟨g2,0,none⟩) m p2)):=by(have rk:RowAt w7 (.slice (some ⟨g1,0,none⟩) j j) (zW (x.take j).keys):=by exact zSf);(have rl:RowAt w7 (.slice (some ⟨g2,0,none⟩) j j) (yh (x.take j).kids):=by(have hlen:(yh (x.take j).kids).length=j:=by rw[xf];show(x.kids.take j).length=j;rw[List.length_take,HVl.out];omega);refine⟨some ⟨g2,0,none⟩,g2,0,j,by rw[hlen],fun _=>⟨rfl,Qt HG2.out k07.size⟩,fun q v hq=> ?_⟩;(have hlq:q<j:=by exact zQQ);rw[Nat.zero_add,k07.cell (p:=⟨g2,q,none⟩) HG2.out (fun e=>HNe2.out e),HQ2.out q (by omega)];have h5:=zCS (x.take j).kids q (by rw[←xf];omega);rw[hq]at h5;rw[h5];show some ((fun(n:Nat)=>Value.int .i64 (n:Int)) (x.kids.getD q 0))=some ((fun(n:Nat)=>Value.int .i64 (n:Int)) ((x.kids.take j).getD q 0));rw[getD_take _ _ _ _ hlq]);(have ro:RowAt w7 vv (zW (x.take j).vals):=by have h5:=(xt HH.out.vals).keep k07 (fun q e e2=>HH.out.ne.2.1 (by rw[e,e2]));rw[hoth]at h5;show RowAt w7 vv (zW (x.vals.take j));rw[hoth,List.take_nil];exact h5);refine⟨Qt HLt.out k07.size,.inl rfl,_,_,_,?_,Qc hbc7 1,Qc hbc7 2,Qc hbc7 3,rk,ro,rl,fun q e=>.inr (.inl e),fun q e=>.inr (.inr (.inl e)),fun q e=>.inr (.inr (.inr e))⟩;exact zSe);(have hright:NdRd w7 rb (x.drop j) (fun k=>w.heap.size≤k∧k<w7.heap.size):=by(have e1:(zW (x.keys.drop j)).length=m-j:=by rw[ze,List.length_drop,HM.out]);have rk:=xt (ownsRow.base0 hrow47);have rl:=xt (ownsRow.base0 hrow7);(have ro:RowAt w7 (.slice none 0 0) (zW (x.drop j).vals):=by show RowAt w7 (.slice none 0 0) (zW (x.vals.drop j));rw[hoth,List.drop_nil];exact⟨none,0,0,0,rfl,fun h=>absurd h (by simp[zW]),fun q v hq=>by simp[zW]at hq⟩);refine⟨(Gl hrb7),⟨z1,(Gl hrb7)⟩,_,_,_,?_,Qc hrb7 1,Qc hrb7 2,Qc hrb7 3,rk,ro,rl,fun q e=>⟨Nat.le_trans z5 (hrow47.lt q e).1,(hrow47.lt q e).2⟩,(fun q e=>by cases e),fun q e=>⟨Nat.le_trans z5 (Nat.le_trans z4 (hrow7.lt q e).1),(hrow7.lt q e).2⟩⟩;exact zSg);exact zSc
def Laid(R R':RoomS)(p:Nat)(x:Nd)(e:Ending):Prop:=(x.size≤512∧e= .returned (.tuple #[.string ⟨#[]⟩,.int .i64 0,.bool false])∧Wrote R R' p (zS x.text))∨∃a q R1,PartAt x a∧512<x.size∧e= .returned (.tuple #[.string ((x.drop a).keys.getD 0 ⟨#[]⟩),.int .i64 (q:Nat),.bool true])∧Wrote R R1 p (zS (x.take a).text)∧R1.maps=R.maps∧R1.pages=R.pages∧Freshed R1 R' q (zS (x.drop a).text)
theorem yP(kv:KV):(zF kv).keys=kv.map Prod.fst:=rfl
theorem zMg{l1 l3:KV}{key v0 val:QB}:({zF (l1++(key,v0)::l3)with vals:=(zF (l1++(key,v0)::l3)).vals.set l1.length val}:Nd)=zF (l1++(key,val)::l3):=by
 unfold zF
 simp[List.map_append]
theorem zMh{l1 l2:KV}{key val:QB}{kid:Nat}:(zF (l1++l2)).ins l1.length key val kid=zF (l1++(key,val)::l2):=by
 unfold zF Nd.ins
 simp[List.map_append]
theorem zKu{l1 l2:List Kid}{c c1 c2:Kid}(h1:c1.key=c.key)(h2:c1.page=c.page)(v:QB):(zJ (l1++c::l2)).ins (l1.length+1) c2.key v c2.page=zJ (l1++([c1,c2]++l2)):=by
 unfold zJ Nd.ins
 have e1:(l1++c::l2).map Kid.key=(l1.map Kid.key++[c.key])++l2.map Kid.key:=by simp
 have e2:(l1++c::l2).map Kid.page=(l1.map Kid.page++[c.page])++l2.map Kid.page:=by simp
 simp only[Bool.false_eq_true,if_false,e1,e2]
 have l1':l1.length+1=(l1.map Kid.key++[c.key]).length:=by simp
 have l2':l1.length+1=(l1.map Kid.page++[c.page]).length:=by simp
 rw[l1',List.take_left' rfl,List.drop_left' rfl,←l1',l2',List.take_left' rfl,List.drop_left' rfl]
 simp[h1,h2]
theorem zDy{kv:KV}:(zF kv).ok↔∀x∈kv,x.1.size≤96∧x.2.size≤56:=by
 refine⟨fun h x hx=>⟨h.k96 _ (List.mem_map.2 ⟨x,hx,rfl⟩),h.v56 _ (List.mem_map.2 ⟨x,hx,rfl⟩)⟩,fun h=>⟨?_,rfl,fun k hk=> ?_,fun v hv=> ?_,fun c hc=>by cases hc⟩⟩
 ·show(kv.map Prod.snd).length=if true=true then(kv.map Prod.fst).length else 0;rw[if_pos rfl,List.length_map,List.length_map]
 ·obtain⟨x,hx,rfl⟩:=List.mem_map.1 hk;exact(h x hx).1
 ·obtain⟨x,hx,rfl⟩:=List.mem_map.1 hv;exact(h x hx).2
theorem zAO{cs:List Kid}:(zJ cs).ok↔∀c∈cs,c.key.size≤96∧c.page<65536:=by
 refine⟨fun h x hx=>⟨h.k96 _ (List.mem_map.2 ⟨x,hx,rfl⟩),h.c32 _ (List.mem_map.2 ⟨x,hx,rfl⟩)⟩,fun h=>⟨rfl,?_,fun k hk=> ?_,(fun v hv=>by cases hv),fun c hc=> ?_⟩⟩
 ·show(cs.map Kid.page).length=if false=true then 0 else(cs.map Kid.key).length;rw[if_neg (by decide),List.length_map,List.length_map]
 ·obtain⟨x,hx,rfl⟩:=List.mem_map.1 hk;exact(h x hx).1
 ·obtain⟨x,hx,rfl⟩:=List.mem_map.1 hc;exact(h x hx).2
def zBj(kv:KV):Nat:=(kv.map (fun x=>2+x.1.size+x.2.size)).sum
def vV(cs:List Kid):Nat:=(cs.map (fun c=>5+c.key.size)).sum
theorem zC5(kv:KV):(zF kv).size=3+zBj kv:=by
 have h:∀kv:KV,(vN true (kv.map Prod.fst) (kv.map Prod.snd) []).length=zBj kv:=by intro kv;induction kv with|nil=>rfl|cons x t ih=>have e:vN true ((x::t).map Prod.fst) ((x::t).map Prod.snd) []=zAE x.1++zAE x.2++vN true (t.map Prod.fst) (t.map Prod.snd) []:=rfl;rw[e,Ql,Ql,vO,vO,ih];show _=(2+x.1.size+x.2.size)+zBj t;omega
 show((if(zF kv).leaf then(76:UInt8)else 78)::UInt8.ofNat _::UInt8.ofNat _::vN true (kv.map Prod.fst) (kv.map Prod.snd) []).length=_
 rw[List.length_cons,List.length_cons,List.length_cons,h]
 omega
theorem kI(cs:List Kid):(zJ cs).size=3+vV cs:=by
 have h:∀cs:List Kid,(vN false (cs.map Kid.key) [] (cs.map Kid.page)).length=vV cs:=by intro cs;induction cs with|nil=>rfl|cons x t ih=>have e:vN false ((x::t).map Kid.key) [] ((x::t).map Kid.page)=zAE x.key++be4 x.page++vN false (t.map Kid.key) [] (t.map Kid.page):=rfl;rw[e,Ql,Ql,vO,ih];show 1+x.key.size+4+vV t=(5+x.key.size)+vV t;omega
 show((if(zJ cs).leaf then(76:UInt8)else 78)::UInt8.ofNat _::UInt8.ofNat _::vN false (cs.map Kid.key) [] (cs.map Kid.page)).length=_
 rw[List.length_cons,List.length_cons,List.length_cons,h]
 omega
theorem vY(a b:KV):zBj (a++b)=zBj a+zBj b:=by
 unfold zBj
 rw[List.map_append,List.sum_append]
theorem yy(a b:List Kid):vV (a++b)=vV a+vV b:=by
 unfold vV
 rw[List.map_append,List.sum_append]
theorem zBw(x:QB×QB)(b:KV):zBj (x::b)=(2+x.1.size+x.2.size)+zBj b:=rfl
theorem xg(x:Kid)(b:List Kid):vV (x::b)=(5+x.key.size)+vV b:=rfl
theorem zHm{kv:KV}(hs:zAa kv){key val:QB}(hk:key.size≤96)(hv:val.size≤56):(zF (ins kv key val)).size≤(zF kv).size+154:=by
 obtain⟨l1,l2,he,h1,h2⟩:=zDu hs key
 rw[zC5,zC5]
 by_cases hth:∃v0 l3,l2=(key,v0)::l3
 ·obtain⟨v0,l3,rfl⟩:=hth;rw[he,zED h1,vY,vY,zBw,zBw];simp only;omega
 ·rw[he,zHH h1 h2 (fun v0 l3 e=>hth ⟨v0,l3,e⟩),vY,vY,zBw];simp only;omega
theorem zMi{kv:KV}(h:(zF kv).ok){key val:QB}(hk:key.size≤96)(hv:val.size≤56):(zF (ins kv key val)).ok:=zDy.2 (fun x hx=>(zCG hx).elim (fun e=>by rw[e];exact⟨hk,hv⟩) (zDy.1 h x))
theorem RoomAt.foot_lt9{w:World}{br:Nat}{R:RoomS}(h:RoomAt w br R){k:Nat}(hk:R.foot br k):k<w.heap.size:=by
 rcases hk with e|e
 ·subst e;exact(Gl h.cells)
 ·exact h.tx.foot_lt e
theorem RoomStep.aside{br:Nat}{w w1 w2:World}{R R1:RoomS}{S:Nat→Prop}(h:RoomStep br w R w1 R1)(hk:Keep S w1 w2)(hS:∀k,S k→w.heap.size≤k)(hf:∀k,R1.foot br k→¬S k):RoomStep br w R w2 R1:=by
 refine⟨h.at_.keep hk hf,h.bt,h.maps,h.pages,⟨h.tx.at_.keep hk (fun k e=>hf k (.inr (by rw[h.bt];exact e))),h.tx.bl,h.tx.n,h.tx.f,h.tx.Fl,h.tx.keep.trans hk (fun i hi e=>by have:=hS i e;omega),h.tx.own⟩⟩
theorem NdAt.setVal{w:World}{b g n c:Nat}{kv cv:Value}{x:Nd}(h:NdAt w b kv (.slice (some ⟨g,0,none⟩) n c) cv x)(hn:x.vals.length=n)(i:Nat)(val:QB):NdStep b w kv (.slice (some ⟨g,0,none⟩) n c) cv (w.setCell ⟨g,i,none⟩ (.string val)) kv (.slice (some ⟨g,0,none⟩) n c) cv {x with vals:=x.vals.set i val}:=by
 have K:Keep (fun k=>k=g) w (w.setCell ⟨g,i,none⟩ (.string val)):=(Keep.refl (fun k=>k=g) w).setCell (p:=⟨g,i,none⟩) (fun _=>rfl) _
 have hv:=h.vals
 rw[hn]at hv
 have h2:=(hv.stored i (.string val)).1
 refine⟨⟨K.at h.cells (fun e=>h.ne.2.1 (by rw[e];rfl)),K.ownsRow h.keys (fun k e e2=>(h.apart.1 k e).1 (by rw[e2];rfl)),?_,K.ownsRow h.kids (fun k e e2=>h.apart.2 k (by rw[e2];rfl) e),h.ne,h.apart⟩,K.mono (fun k _ e=>.inr (.inr (.inl (by rw[e];rfl)))),fun k e=>.inl e⟩
 show(w.setCell ⟨g,i,none⟩ (.string val)).ownsRow 0 9 1 _ (x.vals.set i val).length (zW (x.vals.set i val))
 rw[List.length_set,hn]
 have e:zW (x.vals.set i val)=(zW x.vals).set i (.string val):=by unfold zW;rw[List.map_set]
 rw[e]
 exact h2
theorem zOa{p:Prop}(h:p:=by obtain⟨x,hx,rfl⟩:=List.mem_map.1 hk;exact h1 x hx):p:=h
theorem zOb{p:Prop}(h:p:=by obtain⟨x,hx,rfl⟩:=List.mem_map.1 hk;exact h2 x hx):p:=h
theorem zSh{p:Prop}(h:p:=by rw[HXo.out];exact .inl ⟨by rw[HS0.out];exact hfit,rfl,HW9.out⟩):p:=h
theorem zSi{p:Prop}(h:p:=by rcases e with e|e;(·exact .inl (.inl e));·rw[HS5.out.bt]at e;exact(HS5.out.tx.foot e).imp .inr id):p:=h
theorem zSj{p:Prop}(h:p:=by obtain⟨b,b1,b2⟩:=HW5.out.puts;rw[b1,Ql];have:=HPu.out;omega):p:=h
theorem zSk{p:Prop}(h:p:=by rw[hu.cell (p:=⟨rb,1,none⟩) HRb.out HNo1.out];exact HCr.out):p:=h
theorem zSl{p:Prop}(h:p:=by rw[hu.cell (p:=⟨b1r,o1r,none⟩) HBl.out HNo2.out];exact HQr.out):p:=h
theorem zSm{p:Prop}(h:p:=by rw[HXo.out];exact .inr ⟨a,q,R1,HPa.out,by rw[HS0.out];omega,by rw[HFk.out];rfl,HW5.out,HS5.out.maps,HS5.out.pages,HF6.out⟩):p:=h
theorem zSn{p:Prop}(h:p:=by (have hszb:x'.size≤666:=by have:=HMo.out;unfold Nd.most at this;split at this<;>omega);have hSz:=zBC HNd.out.read HOk.out.s (x'.keys_lt HOk.out hszb);obtain⟨sz,hsz⟩:=qN x'.size;rw[hsz]at hSz hszb;have HSz:=Hd hSz;have HS0:=Hd hsz;clear hSz hsz;by_cases hfit:sz≤512;(·(have d1:decide ((sz:Int)≤512)=true:=by simp;omega);(have d1':decide (sz≤512)=true:=by simpa using hfit);have HW:=Hd (kH HTr.out HStp.out.at_ (by have:=HPu.out;omega) HHas.out.1 HHas.out.2 HNd.out.read HOk.out (by rw[HS0.out];exact hfit));go_wp2_with(first|(go_at_call 212;refine(HSz.out).mono ?_;rintro e _⟨rfl,rfl⟩)|(go_at_call 210;refine(HW.out).mono ?_;rintro e w9⟨rfl,R',hs9,hw9⟩;have HS9:=Hd hs9;have HW9:=Hd hw9;clear hs9 hw9));go_ret3;exact⟨R',HStp.out.trans HS9.out,by exact zSh⟩);·(have d1:decide ((sz:Int)≤512)=false:=by simp;omega);(have d1':decide (sz≤512)=false:=by simpa using hfit);have HSp:=Hd (zFc HNd.out HOk.out (by rw[HS0.out];omega) HMo.out);go_wp2_with(first|(go_at_call 212;refine(HSz.out).mono ?_;rintro e _⟨rfl,rfl⟩)|(go_at_call 213;refine(HSp.out).mono ?_;rintro e w4⟨rb,a,rfl,hpa,hle,hri,hk4⟩;obtain⟨s1,s2,s3,s4,s5⟩:=hpa.sizes HOk.out (by rw[HS0.out];omega) HMo.out;have hst4:=HStp.out.aside hk4 (fun k e=>by rw[e];exact HNw.out nb (.inl rfl)) (fun k e e2=>HAp.out nb (.inl rfl) (by rw[←e2];exact e));have htr4:TreeAt w4 tb br pl:=⟨hk4.at HTr.out.cells (fun e=>HTo.out (.inl e))⟩;have HW:=Hd (kH htr4 hst4.at_ (by have:=HPu.out;omega) HHas.out.1 HHas.out.2 hle.r (HOk.out.take a) s1);have HPa:=Hd hpa;have HRi:=Hd hri;have HS2:=Hd s2;have HS4:=Hd s4;have HSt4:=Hd hst4;have HTr4:=Hd htr4;have HZ4:=Hd hk4.size;clear hpa hle hri s1 s2 s3 s4 s5 hst4 htr4 hk4)|(go_at_call 210;refine(HW.out).mono ?_;rintro e w5⟨rfl,R1,hs5,hw5⟩;have HS5:=Hd hs5;have HW5:=Hd hw5;clear hs5 hw5));have hk5:Keep (R.foot br) w4 w5:=HS5.out.tx.keep.mono (fun _ _ e=>.inr (TxS.own_foot e));have htr5:TreeAt w5 tb br pl:=⟨hk5.at HTr4.out.cells HTb.out⟩;have hri5:NdRd w5 rb (x'.drop a) (fun k=>wn.heap.size≤k∧k<w4.heap.size):=HRi.out.keep hk5 (fun k e e2=>by have:=HStp.out.at_.foot_lt9 e2;omega);(have hf1:∀k,R1.foot br k→R.foot br k∨w4.heap.size≤k:=fun k e=>by exact zSi);have htb5:¬R1.foot br tb:=fun e=>(hf1 tb e).elim HTb.out (fun e2=>by have:=(Gl HTr4.out.cells);omega);have hri1:∀k,(wn.heap.size≤k∧k<w4.heap.size)→¬R1.foot br k:=fun k e e2=>(hf1 k e2).elim (fun e3=>by have:=HStp.out.at_.foot_lt9 e3;omega) (fun e3=>by omega);obtain⟨q0,hq0,hq1⟩:=HFr.out;have hdw5:Below w5.heap.size w5 w5.drew:=⟨rfl,rfl,rfl,Qn _,fun _ _=>rfl⟩;(have hpp:R1.T.puts.length+10<1000000000000:=by exact zSj);(have hfit2:R.pages≤R.maps*4096:=by have:=HStp.out.at_.fit.1;omega);have HFs:=Hd (zAh (w:=w5.drew) (pl:=pl) (b:=rb) (x:=x'.drop a) ⟨htr5.cells⟩ htb5 (HS5.out.at_.still hdw5) hpp ⟨q0,by rw[HS5.out.pages];exact hq0,by rw[HW5.out.has q0 (by omega)];exact hq1⟩ (fun w' hk=>((hri5.keep (Keep.still hdw5) (fun _ _ e=>e)).keep hk hri1).r) (HOk.out.drop a) HS2.out);obtain⟨kvr,_,_,_,cr1,_,_,⟨ar,b1r,o1r,p1r,hkr,hxr,qr⟩,_,_,ow1,_⟩:=hri5.node;rw[ze]at hkr hxr;(have hdl:(x'.drop a).keys.length=x'.keys.length-a:=by show(x'.keys.drop a).length=_;rw[List.length_drop]);obtain⟨nr,hnr⟩:=qN ((x'.drop a).keys.length);(have hnr0:0<nr:=by rw[←hnr,hdl];have:=HS4.out;omega);have qr0:=qr 0 _ (yW _ 0 (by rw[hnr];exact hnr0));rw[hnr]at hkr hxr;obtain⟨rfl,hblt⟩:=hxr hnr0;subst hkr;have HNo1:=Hd (hri1 rb hri5.ob);have HNo2:=Hd (hri1 b1r (ow1 b1r rfl));obtain⟨fk,hfk⟩:=qN ((x'.drop a).keys.getD 0 ⟨#[]⟩);rw[hfk]at qr0;(have nr1:(0:Int)<(nr:Int):=by omega);have HCr:=Hd cr1;have HQr:=Hd qr0;have HFk:=Hd hfk;have HRb:=Hd hri5.lt;have HBl:=Hd hblt;clear hri5 htr5 htb5 hri1 hf1 hk5 hq0 hq1 hpp hdl hnr hxr qr qr0 cr1 hfk hblt ow1;obtain⟨S,HS⟩:=mkS (Keep (fun k=>R1.foot br k) (w5));have FR:=Hd (fun u(hu:S u)=>have hu:=(HS.out u).1 hu;have cr1:u.cell? ⟨rb,1,none⟩=some (.slice (some ⟨b1r,o1r,none⟩) nr p1r):=(by exact zSk);have qr0:u.cell? ⟨b1r,o1r,none⟩=some (.string fk):=(by exact zSl);And.intro cr1 qr0);refine rgo 9 [tR 0,tR 1,tR 2,tR 3,tR 4,tR 5,tR 6,tR 7,tD 8] HS (Keep.refl _ _).drew ?_;(iterate 8 refine rd1 ?_);refine doH ?_;intro K hK;go_simp;go_at_call 156;refine(HFs.out).mono ?_;rintro e w6⟨q,R',rfl,hs6,hf6⟩;have hs6':RoomStep br w5 R1 w6 R':=(RoomStep.still HS5.out.at_ hdw5).trans hs6;have HS6:=Hd hs6';have HF6:=Hd hf6;refine hK _ _ ((HS.out _).2 (hs6'.tx.keep.mono (fun _ _ e=>.inr (TxS.own_foot e)))) ?_;clear hK K hs6 hs6' hf6;refine zl ?_;clear FR;clear S HS;go_wp2;go_ret3;exact⟨R',(HSt4.out.trans HS5.out).trans HS6.out,by exact zSm⟩):p:=h
theorem zSo{p:Prop}(h:p:=by show(kv.map Prod.snd).length=(kv.map Prod.fst).length;rw[List.length_map,List.length_map]):p:=h
theorem zMj{w:World}{tb br pl deep:Nat}{R:RoomS}{p:Nat}{kv:KV}{key val:QB}(ht:TreeAt w tb br pl)(htb:¬R.foot br tb)(hr:RoomAt w br R)(hlen:R.T.puts.length+100<1000000000000)(hp:PageIs R p (zF kv))(hs:zAa kv)(hk:key.size≤96)(hv:val.size≤56)(hd:deep≤20)(hfree:∃q,q<R.pages∧R.has q=false):Calls prog 157 #[.pointer (some ⟨tb,0,none⟩),.int .i64 p,.string key,.string val,.int .i64 deep] w fun e w'=>∃R',RoomStep br w R w' R'∧Laid R R' p (zF (ins kv key val)) e:=by
 have HRd:=Hd (vr ht hr hp)
 obtain⟨l1,l2,he,h1,h2⟩:=zDu hs key
 obtain⟨hp1,hp2,hp3,hp4,hp5,hp6⟩:=hp
 have hlen6:=(zF kv).keys_lt hp4 (by omega)
 have HFd:=Hd (fun u b(hu:NdR u b (zF kv))=>zEQ (key:=key) (l1:=l1.map Prod.fst) (l2:=l2.map Prod.fst) hu (by rw[yP,he,List.map_append]) (fun k hk=>by exact zOa) (fun k hk=>by exact zOb) hlen6)
 rw[List.length_map]at HFd
 have d0:decide ((20:Int)<(deep:Int))=false:=by simp;omega
 have d0':decide (20<deep)=false:=by simp;omega
 have HR:=Hd hr
 have HT:=Hd ht
 have HTb0:=Hd htb
 have HPu:=Hd hlen
 have HHas:=Hd (show p<R.pages∧R.has p=true from⟨hp1,hp2⟩)
 have HFr:=Hd hfree
 have HFit:=Hd (show R.pages≤R.maps*4096 by have:=hr.fit.1;omega)
 have hlf:l1.length≤(zF kv).keys.length:=by rw[yP,List.length_map,he,Ql];omega
 have HLl:=Hd hlf
 have HL6:=Hd hlen6
 have HE:=Hd he
 have hms:(zF kv).size≤512:=hp6
 have hk4:=hp4
 have HSo:=Hd hs
 clear ht htb hr hlen hp1 hp2 hp3 hp5 hp6 hfree hlf
 have hok:(zF (ins kv key val)).ok:=zMi hk4 hk hv
 have hmo:(zF (ins kv key val)).size≤512+(zF (ins kv key val)).most:=by have h5:=zHm hs hk hv;have h6:(zF (ins kv key val)).most=154:=rfl;omega
 have HOk:=Hd hok
 have HMo:=Hd hmo
 clear hok hmo hms hk4
 by_cases hth:∃v0 l3,l2=(key,v0)::l3
 ·obtain⟨v0,l3,rfl⟩:=hth;(have hins:ins kv key val=l1++(key,val)::l3:=by rw[he];exact zED h1);have HIns:=Hd hins;(have hfd:decide ((((key,v0)::l3).map Prod.fst).head? =some key)=true:=by simp);rw[hfd]at HFd;obtain⟨i,hil⟩:=qN l1.length;rw[hil]at HFd;have HIl:=Hd hil;clear hfd h1 h2 hins hil;obtain⟨x',hx'⟩:∃x',zF (ins kv key val)=x':=⟨_,rfl⟩;rw[hx']at HOk HMo;have HXo:=Hd hx';rw[HIns.out]at hx';have HX:=Hd hx';clear hx';go_enter func157,ntmps157;go_wp2_with(fail);refine(HRd.out).mono ?_;rintro e w1⟨nb,ka,va,ca,rfl,hnd,hnw,hb1⟩;have c0:w1.cell? ⟨nb,0,none⟩=some (.bool true):=Qc hnd.cells 0;have HF1:=Hd (HFd.out w1 nb hnd.read);have HN1:=Hd hnd;have HNw1:=Hd hnw;have HB1:=Hd hb1;clear hnd hnw hb1;go_wp2_with(fail);refine(HF1.out).mono ?_;rintro e w2⟨rfl,hb2⟩;have hn2:=HN1.out.still hb2;(have hvl:(zF kv).vals.length=(zF kv).keys.length:=by exact zSo);(have hi2:i<(zF kv).vals.length:=by rw[←HIl.out,hvl,yP,List.length_map,HE.out,Ql,List.length_cons];omega);obtain⟨g2,p2,hva,hnp,_,_⟩:=zH hn2.vals (by omega);subst hva;obtain⟨n,hn⟩:=qN ((zF kv).vals.length);rw[hn]at hi2 hnp hn2;have hst:=hn2.setVal hn i val;(have hxe:({zF kv with vals:=(zF kv).vals.set i val}:Nd)=x':=by rw[←HIl.out,HE.out,zMg];exact HX.out);rw[hxe]at hst;have c2:w2.cell? ⟨nb,2,none⟩=some (.slice (some ⟨g2,0,none⟩) n p2):=Qc hn2.cells 2;have hv2:=hn2.vals;rw[hn]at hv2;have f2:w2.frozen? ⟨g2,i,none⟩=false:=hv2.frozenAt _;(have q2:w2.cell? ⟨g2,i,none⟩=some (.string ((zF kv).vals.getD i ⟨#[]⟩)):=by have:=hv2.cells rfl i _ (yW _ _ (by rw[hn];exact hi2));rwa [yJ]at this);(have i0:(0:Int)≤(i:Int):=by omega);(have i1:(i:Int)<(n:Int):=by omega);obtain⟨ov,hov⟩:=qN ((zF kv).vals.getD i ⟨#[]⟩);rw[hov]at q2;have hbn:Below w.heap.size w (w2.setCell ⟨g2,i,none⟩ (.string val)):=(qT HB1.out hb2).trans (hst.keep.below (Nat.le_trans HB1.out.size hb2.size) (fun q hq e=>by have:=HNw1.out q e;omega));obtain⟨wn,hwn⟩:=qN (w2.setCell ⟨g2,i,none⟩ (.string val));rw[hwn]at hst hbn;have HNd:=Hd hst.nd;have HNw:=Hd HNw1.out;have HAp:=Hd (show∀k,yK nb ka (.slice (some ⟨g2,0,none⟩) n p2) ca k→¬R.foot br k from fun k hk e=>by have:=HNw1.out k hk;have:=HR.out.foot_lt9 e;omega);have HTo:=Hd (show¬yK nb ka (.slice (some ⟨g2,0,none⟩) n p2) ca tb from fun e=>by have:=HNw1.out tb e;have:=(Gl HT.out.cells);omega);have HStp:=Hd (RoomStep.still HR.out hbn);have HTr:=Hd (show TreeAt wn tb br pl from⟨qB hbn HT.out.cells⟩);have HTb:=Hd HTb0.out;clear hn2 hvl hst hxe hv2 hov hbn hb2 hn;go_wp2_with(fail);exact zSn
 ·(have hins:ins kv key val=l1++(key,val)::l2:=by rw[he];exact zHH h1 h2 (fun v0 l3 e=>hth ⟨v0,l3,e⟩));have HIns:=Hd hins;(have hfd:decide ((l2.map Prod.fst).head? =some key)=false:=by refine decide_eq_false (fun e=> ?_);cases l2 with|nil=>cases e|cons y t=>obtain⟨ya,yb⟩:=y;simp at e;exact hth ⟨yb,t,by rw[e]⟩);rw[hfd]at HFd;obtain⟨i,hil⟩:=qN l1.length;rw[hil]at HFd;have HIl:=Hd hil;clear hfd h1 h2 hins hil hth;obtain⟨x',hx'⟩:∃x',zF (ins kv key val)=x':=⟨_,rfl⟩;rw[hx']at HOk HMo;have HXo:=Hd hx';rw[HIns.out]at hx';have HX:=Hd hx';clear hx';go_enter func157,ntmps157;go_wp2_with(fail);refine(HRd.out).mono ?_;rintro e w1⟨nb,ka,va,ca,rfl,hnd,hnw,hb1⟩;have c0:w1.cell? ⟨nb,0,none⟩=some (.bool true):=Qc hnd.cells 0;have HF1:=Hd (HFd.out w1 nb hnd.read);have HN1:=Hd hnd;have HNw1:=Hd hnw;have HB1:=Hd hb1;clear hnd hnw hb1;go_wp2_with(fail);refine(HF1.out).mono ?_;rintro e w2⟨rfl,hb2⟩;have hn2:=HN1.out.still hb2;(have hvl:(zF kv).vals.length=(zF kv).keys.length:=by exact zSo);have HI:=Hd (zES hn2 HL6.out (by rw[hvl];rfl) rfl i (by rw[←HIl.out];exact HLl.out) key val 0);have HB2:=Hd (qT HB1.out hb2);(have hxe:(zF kv).ins i key val 0=x':=by rw[←HIl.out,HE.out,zMh];exact HX.out);rw[hxe]at HI;clear hn2 hvl hxe hb2;go_wp2_with(fail);refine(HI.out).mono ?_;rintro e wn⟨rfl,kn,vn,cn,hst⟩;have hnn:∀k,yK nb kn vn cn k→w.heap.size≤k:=fun k hk=>(hst.own k hk).elim (HNw1.out k) (fun e=>Nat.le_trans HB2.out.size e);have hbn:Below w.heap.size w wn:=HB2.out.trans (hst.keep.below HB2.out.size (fun q hq e=>by have:=HNw1.out q e;omega));have HNd:=Hd hst.nd;have HNw:=Hd hnn;have HAp:=Hd (show∀k,yK nb kn vn cn k→¬R.foot br k from fun k hk e=>by have:=hnn k hk;have:=HR.out.foot_lt9 e;omega);have HTo:=Hd (show¬yK nb kn vn cn tb from fun e=>by have:=hnn tb e;have:=(Gl HT.out.cells);omega);have HStp:=Hd (RoomStep.still HR.out hbn);have HTr:=Hd (show TreeAt wn tb br pl from⟨qB hbn HT.out.cells⟩);have HTb:=Hd HTb0.out;clear hst hnn hbn;exact zSn
def zAi:Ending:=.returned (.tuple #[.string ⟨#[]⟩,.int .i64 0,.bool false])
def zBx(l1 l2:List Kid)(c:Kid)(k2:QB)(q:Nat):Nd:=zJ (l1++([c,⟨k2,q,[],[]⟩]++l2))
def oneMore(k:QB)(q:Nat):Ending:=.returned (.tuple #[.string k,.int .i64 (q:Nat),.bool true])
theorem zQR{p:Prop}(h:p:=by show(cs.map Kid.key).length=_;rw[List.length_map]):p:=h
theorem zKv{w:World}{tb br pl deep:Nat}{R:RoomS}{p:Nat}{cs l1 l2:List Kid}{c:Kid}{key val:QB}{Q:RoomS→Ending→Prop}(ht:TreeAt w tb br pl)(htb:¬R.foot br tb)(hr:RoomAt w br R)(hp:PageIs R p (zJ cs))(hcs:cs=l1++c::l2)(h1:∀d∈l1,¬bLt key d.key)(hc:¬bLt key c.key)(h2:∀d∈l2,bLt key d.key)(hd:deep+1≤20)(hrec:∀w1,TreeAt w1 tb br pl→RoomAt w1 br R→Calls prog 157 #[.pointer (some ⟨tb,0,none⟩),.int .i64 c.page,.string key,.string val,.int .i64 (deep+1:Nat)] w1 fun e w2=>∃R2,RoomStep br w1 R w2 R2∧Q R2 e)(hq:∀R2 e,Q R2 e→e=zAi∨∃k2 q,e=oneMore k2 q∧k2.size≤96∧q<65536∧R2.has p=true∧R2.T.puts.length+100<1000000000000∧∃q,q<R2.pages∧R2.has q=false):Calls prog 157 #[.pointer (some ⟨tb,0,none⟩),.int .i64 p,.string key,.string val,.int .i64 deep] w fun e w'=>∃R',RoomStep br w R w' R'∧((e=zAi∧Q R' zAi)∨∃R2 k2 q,Q R2 (oneMore k2 q)∧R2.maps=R.maps∧R2.pages=R.pages∧Laid R2 R' p (zBx l1 l2 c k2 q) e):=by
 have HRd:=Hd (vr ht hr hp)
 obtain⟨hp1,hp2,hp3,hp4,hp5,hp6⟩:=hp
 have hlen6:=(zJ cs).keys_lt hp4 (by omega)
 have HWy:=Hd (fun u b(hu:NdR u b (zJ cs))=>zGZ (key:=key) (l1:=(l1++[c]).map Kid.key) (l2:=l2.map Kid.key) hu (by show cs.map Kid.key=_;rw[hcs,←List.map_append,Qa];rfl) (fun k hk=>by obtain⟨x,hx,rfl⟩:=List.mem_map.1 hk;rcases List.mem_append.1 hx with e|e;(·exact h1 x e);·rw[List.mem_singleton.1 e];exact hc) (fun k hk=>by exact zOb) hlen6)
 have hli:((l1++[c]).map Kid.key).length-1=l1.length:=by rw[List.length_map,Ql];simp
 rw[hli]at HWy
 have d0:decide ((20:Int)<(deep:Int))=false:=by simp;omega
 have d0':decide (20<deep)=false:=by simp;omega
 have HR:=Hd hr
 have HT:=Hd ht
 have HTb0:=Hd htb
 have HHas0:=Hd (show p<R.pages∧R.has p=true from⟨hp1,hp2⟩)
 have HFit0:=Hd (show R.pages≤R.maps*4096 by have:=hr.fit.1;omega)
 have hcl:(zJ cs).kids.length=cs.length:=by show(cs.map Kid.page).length=_;rw[List.length_map]
 have hkl:(zJ cs).keys.length=cs.length:=by exact zQR
 have hlf:l1.length<cs.length:=by rw[hcs,Ql,List.length_cons];omega
 have hkid:(yh (zJ cs).kids)[l1.length]? =some (.int .i64 (c.page:Nat)):=by show((cs.map Kid.page).map _)[l1.length]? =_;rw[List.getElem?_map,List.getElem?_map,hcs,List.getElem?_append_right (Qn _),Nat.sub_self];rfl
 have HKid:=Hd hkid
 have HL6:=Hd hlen6
 have HCs:=Hd hcs
 have HNs:=Hd (show(zJ cs).size≤512 from hp6)
 have HOk0:=Hd (show(zJ cs).ok from hp4)
 have HRec:=Hd hrec
 have HQ:=Hd hq
 have HKl:=Hd hkl
 have HCl:=Hd hcl
 obtain⟨i,hil⟩:=qN l1.length
 rw[hil]at HWy hlf hkid HKid
 have HIl:=Hd hil
 have i0:(0:Int)≤(i:Int):=by omega
 have i6:(i:Int)≤65536:=by rw[hkl]at hlen6;omega
 obtain⟨cp,hcp⟩:=qN c.page
 rw[hcp]at HKid HRec
 have HCp:=Hd hcp
 clear ht htb hr hp1 hp2 hp3 hp4 hp5 hp6 hcs h1 hc h2 hli hlen6 hrec hq hkid hil hcp
 go_enter func157,ntmps157
 go_wp2_with(fail)
 refine(HRd.out).mono ?_
 rintro e w1⟨nb,ka,va,ca,rfl,hnd,hnw,hb1⟩
 have c0:w1.cell? ⟨nb,0,none⟩=some (.bool false):=Qc hnd.cells 0
 have HW1:=Hd (HWy.out w1 nb hnd.read)
 have HN1:=Hd hnd
 have HNw1:=Hd hnw
 have HB1:=Hd hb1
 clear hnd hnw hb1
 go_wp2_with(fail)
 refine(HW1.out).mono ?_
 rintro e w2⟨rfl,hb2⟩
 have hn2:=HN1.out.still hb2
 obtain⟨g2,p2,hca,hnp,_,_⟩:=zH hn2.kids (by rw[hcl];omega)
 subst hca
 obtain⟨n,hn⟩:=qN ((zJ cs).kids.length)
 rw[hn]at hcl hnp hn2
 rw[←hcl]at hlf hkl
 have c3:w2.cell? ⟨nb,3,none⟩=some (.slice (some ⟨g2,0,none⟩) n p2):=Qc hn2.cells 3
 have q2:w2.cell? ⟨g2,i,none⟩=some (.int .i64 cp):=by have:=hn2.kids.cells rfl i _ HKid.out;rwa [yJ]at this
 have i1:(i:Int)<(n:Int):=by omega
 have HB2:=Hd (qT HB1.out hb2)
 have HRc:=Hd (HRec.out w2 ⟨qB HB2.out HT.out.cells⟩ (HR.out.still HB2.out))
 have HN2:=Hd hn2
 have HCn:=Hd hcl
 clear hn2 hb2 hcl hn
 go_wp2_with(fail)
 refine(HRc.out).mono ?_
 rintro e w4⟨R2,hs4,hq4⟩
 rcases HQ.out R2 e hq4 with rfl|⟨k2,q2',rfl,hk2,hq2,hh2,hpu2,hfr2⟩
 ·have HQ4:=Hd hq4;have HS4:=Hd hs4;clear hq4 hs4;unfold zAi;go_wp2;go_ret3;exact⟨R2,(RoomStep.still HR.out HB2.out).trans HS4.out,.inl ⟨rfl,HQ4.out⟩⟩
 ·have hk4:Keep (R.foot br) w2 w4:=hs4.tx.keep.mono (fun _ _ e=>.inr (TxS.own_foot e));(have hnr:∀k,yK nb ka va (.slice (some ⟨g2,0,none⟩) n p2) k→¬R.foot br k:=fun k hk e=>by have:=HNw1.out k hk;have:=HR.out.foot_lt9 e;omega);(have hf2:∀k,R2.foot br k→R.foot br k∨w2.heap.size≤k:=fun k e=>by rcases e with e|e;(·exact .inl (.inl e));·rw[hs4.bt]at e;exact(hs4.tx.foot e).imp .inr id);have hn4:=HN2.out.keep hk4 hnr;have htw:tb<w.heap.size:=(Gl HT.out.cells);have htb2:¬R2.foot br tb:=fun e=>(hf2 tb e).elim HTb0.out (fun e2=>by have:=HB2.out.size;omega);have HI:=Hd (zES hn4 HL6.out (by rfl) (by rw[HCl.out,HKl.out];rfl) (i+1) (by rw[HKl.out,←HCn.out];omega) k2 ⟨#[]⟩ q2');obtain⟨x',hx'⟩:∃x',zBx l1 l2 c k2 q2'=x':=⟨_,rfl⟩;(have hxe:(zJ cs).ins (i+1) k2 ⟨#[]⟩ q2'=x':=by rw[←hx',HCs.out,←HIl.out];unfold zBx;exact zKu (c:=c) (c1:=c) (c2:=⟨k2,q2',[],[]⟩) rfl rfl ⟨#[]⟩);rw[hxe]at HI;have HXo:=Hd hx';(have hok:x'.ok:=by rw[←hx'];unfold zBx;refine zAO.2 (fun d hd=> ?_);have h7:=zAO.1 HOk0.out;rw[HCs.out]at h7;simp only[List.mem_append,List.mem_cons,List.not_mem_nil,or_false]at hd;rcases hd with e|(e|e)|e;(·exact h7 d (by simp[e]));(·exact h7 d (by simp[e]));(·rw[e];exact⟨hk2,hq2⟩);·exact h7 d (by simp[e]));(have hmo:x'.size≤512+x'.most:=by have h8:=HNs.out;rw[←hx'];unfold zBx;rw[kI,yy,yy,xg,xg];rw[HCs.out,kI,yy,xg]at h8;have h9:(zJ (l1++([c,⟨k2,q2',[],[]⟩]++l2))).most=101:=rfl;rw[h9];have h10:vV ([]:List Kid)=0:=rfl;rw[h10];simp only;omega);have HOk:=Hd hok;have HMo:=Hd hmo;have HSr:=Hd ((RoomStep.still HR.out HB2.out).trans hs4);have HQ4:=Hd hq4;have HPu:=Hd hpu2;have HFr:=Hd hfr2;have HHas:=Hd (show p<R2.pages∧R2.has p=true from⟨by rw[hs4.pages];exact HHas0.out.1,hh2⟩);have HFit:=Hd (show R2.pages≤R2.maps*4096 by rw[hs4.pages,hs4.maps];exact HFit0.out);have HNr2:=Hd (show∀k,yK nb ka va (.slice (some ⟨g2,0,none⟩) n p2) k→¬R2.foot br k from fun k hk e=>(hf2 k e).elim (hnr k hk) (fun e2=>by have:=HN2.out.lt hk;omega));have HTb:=Hd htb2;have HT4:=Hd (show TreeAt w4 tb br pl from⟨hk4.at ((HB2.out.block tb htw).trans HT.out.cells) HTb0.out⟩);(have htw4:tb<w2.heap.size:=by have:=HB2.out.size;omega);have HTw4:=Hd htw4;have HZ4:=Hd (show w.heap.size≤w4.heap.size from Nat.le_trans HB2.out.size hs4.tx.keep.size);have HK2:=Hd hk2;have HQ2:=Hd hq2;(have q20:(0:Int)≤(q2':Int):=by omega);(have q26:(q2':Int)≤65536:=by omega);clear hk4 hnr hf2 hn4 htb2 hxe hx' hok hmo hs4 hq4 hpu2 hfr2 hh2 hk2 hq2 htw htw4;unfold oneMore;go_wp2_with(fail);refine(HI.out).mono ?_;rintro e wn⟨rfl,kn,vn,cn,hst⟩;have hnn:∀k,yK nb kn vn cn k→w.heap.size≤k:=fun k hk=>(hst.own k hk).elim (HNw1.out k) (fun e=>Nat.le_trans HZ4.out e);have hap:∀k,yK nb kn vn cn k→¬R2.foot br k:=fun k hk e=>(hst.own k hk).elim (fun e2=>HNr2.out k e2 e) (fun e2=>by have:=HSr.out.at_.foot_lt9 e;omega);have HNd:=Hd hst.nd;have HNw:=Hd hnn;have HAp:=Hd hap;have HTo:=Hd (show¬yK nb kn vn cn tb from fun e=>by have:=hnn tb e;have:=(Gl HT.out.cells);omega);have HStp:=Hd (HSr.out.aside hst.keep (fun k e=>HNw1.out k e) (fun k e e2=>HNr2.out k e2 e));have HTr:=Hd (show TreeAt wn tb br pl from⟨hst.keep.at HT4.out.cells (fun e=>by have:=HNw1.out tb e;have:=(Gl HT.out.cells);omega)⟩);clear hst hnn hap;(have hszb:x'.size≤666:=by have:=HMo.out;unfold Nd.most at this;split at this<;>omega);have hSz:=zBC HNd.out.read HOk.out.s (x'.keys_lt HOk.out hszb);obtain⟨sz,hsz⟩:=qN x'.size;rw[hsz]at hSz hszb;have HSz:=Hd hSz;have HS0:=Hd hsz;clear hSz hsz;by_cases hfit:sz≤512;(·(have d1:decide ((sz:Int)≤512)=true:=by simp;omega);(have d1':decide (sz≤512)=true:=by simpa using hfit);have HW:=Hd (kH HTr.out HStp.out.at_ (by have:=HPu.out;omega) HHas.out.1 HHas.out.2 HNd.out.read HOk.out (by rw[HS0.out];exact hfit));go_wp2_with(first|(go_at_call 212;refine(HSz.out).mono ?_;rintro e _⟨rfl,rfl⟩)|(go_at_call 210;refine(HW.out).mono ?_;rintro e w9⟨rfl,R',hs9,hw9⟩;have HS9:=Hd hs9;have HW9:=Hd hw9;clear hs9 hw9));go_ret3;exact⟨R',HStp.out.trans HS9.out,.inr ⟨R2,k2,q2',HQ4.out,HSr.out.maps,HSr.out.pages,by exact zSh⟩⟩);·(have d1:decide ((sz:Int)≤512)=false:=by simp;omega);(have d1':decide (sz≤512)=false:=by simpa using hfit);have HSp:=Hd (zFc HNd.out HOk.out (by rw[HS0.out];omega) HMo.out);go_wp2_with(first|(go_at_call 212;refine(HSz.out).mono ?_;rintro e _⟨rfl,rfl⟩)|(go_at_call 213;refine(HSp.out).mono ?_;rintro e w4⟨rb,a,rfl,hpa,hle,hri,hk4⟩;obtain⟨s1,s2,s3,s4,s5⟩:=hpa.sizes HOk.out (by rw[HS0.out];omega) HMo.out;have hst4:=HStp.out.aside hk4 (fun k e=>by rw[e];exact HNw.out nb (.inl rfl)) (fun k e e2=>HAp.out nb (.inl rfl) (by rw[←e2];exact e));have htr4:TreeAt w4 tb br pl:=⟨hk4.at HTr.out.cells (fun e=>HTo.out (.inl e))⟩;have HW:=Hd (kH htr4 hst4.at_ (by have:=HPu.out;omega) HHas.out.1 HHas.out.2 hle.r (HOk.out.take a) s1);have HPa:=Hd hpa;have HRi:=Hd hri;have HS2:=Hd s2;have HS4:=Hd s4;have HSt4:=Hd hst4;have HTr4:=Hd htr4;have HZ4:=Hd hk4.size;clear hpa hle hri s1 s2 s3 s4 s5 hst4 htr4 hk4)|(go_at_call 210;refine(HW.out).mono ?_;rintro e w5⟨rfl,R1,hs5,hw5⟩;have HS5:=Hd hs5;have HW5:=Hd hw5;clear hs5 hw5));have hk5:Keep (R2.foot br) w4 w5:=HS5.out.tx.keep.mono (fun _ _ e=>.inr (TxS.own_foot e));have htr5:TreeAt w5 tb br pl:=⟨hk5.at HTr4.out.cells HTb.out⟩;have hri5:NdRd w5 rb (x'.drop a) (fun k=>wn.heap.size≤k∧k<w4.heap.size):=HRi.out.keep hk5 (fun k e e2=>by have:=HStp.out.at_.foot_lt9 e2;omega);(have hf1:∀k,R1.foot br k→R2.foot br k∨w4.heap.size≤k:=fun k e=>by exact zSi);have htb5:¬R1.foot br tb:=fun e=>(hf1 tb e).elim HTb.out (fun e2=>by have:=(Gl HTr4.out.cells);omega);have hri1:∀k,(wn.heap.size≤k∧k<w4.heap.size)→¬R1.foot br k:=fun k e e2=>(hf1 k e2).elim (fun e3=>by have:=HStp.out.at_.foot_lt9 e3;omega) (fun e3=>by omega);obtain⟨q0,hq0,hq1⟩:=HFr.out;have hdw5:Below w5.heap.size w5 w5.drew:=⟨rfl,rfl,rfl,Qn _,fun _ _=>rfl⟩;(have hpp:R1.T.puts.length+10<1000000000000:=by exact zSj);(have hfit2:R2.pages≤R2.maps*4096:=by have:=HStp.out.at_.fit.1;omega);have HFs:=Hd (zAh (w:=w5.drew) (pl:=pl) (b:=rb) (x:=x'.drop a) ⟨htr5.cells⟩ htb5 (HS5.out.at_.still hdw5) hpp ⟨q0,by rw[HS5.out.pages];exact hq0,by rw[HW5.out.has q0 (by omega)];exact hq1⟩ (fun w' hk=>((hri5.keep (Keep.still hdw5) (fun _ _ e=>e)).keep hk hri1).r) (HOk.out.drop a) HS2.out);obtain⟨kvr,_,_,_,cr1,_,_,⟨ar,b1r,o1r,p1r,hkr,hxr,qr⟩,_,_,ow1,_⟩:=hri5.node;rw[ze]at hkr hxr;(have hdl:(x'.drop a).keys.length=x'.keys.length-a:=by show(x'.keys.drop a).length=_;rw[List.length_drop]);obtain⟨nr,hnr⟩:=qN ((x'.drop a).keys.length);(have hnr0:0<nr:=by rw[←hnr,hdl];have:=HS4.out;omega);have qr0:=qr 0 _ (yW _ 0 (by rw[hnr];exact hnr0));rw[hnr]at hkr hxr;obtain⟨rfl,hblt⟩:=hxr hnr0;subst hkr;have HNo1:=Hd (hri1 rb hri5.ob);have HNo2:=Hd (hri1 b1r (ow1 b1r rfl));obtain⟨fk,hfk⟩:=qN ((x'.drop a).keys.getD 0 ⟨#[]⟩);rw[hfk]at qr0;(have nr1:(0:Int)<(nr:Int):=by omega);have HCr:=Hd cr1;have HQr:=Hd qr0;have HFk:=Hd hfk;have HRb:=Hd hri5.lt;have HBl:=Hd hblt;clear hri5 htr5 htb5 hri1 hf1 hk5 hq0 hq1 hpp hdl hnr hxr qr qr0 cr1 hfk hblt ow1;obtain⟨S,HS⟩:=mkS (Keep (fun k=>R1.foot br k) (w5));have FR:=Hd (fun u(hu:S u)=>have hu:=(HS.out u).1 hu;have cr1:u.cell? ⟨rb,1,none⟩=some (.slice (some ⟨b1r,o1r,none⟩) nr p1r):=(by exact zSk);have qr0:u.cell? ⟨b1r,o1r,none⟩=some (.string fk):=(by exact zSl);And.intro cr1 qr0);refine rgo 9 [tR 0,tR 1,tR 2,tR 3,tR 4,tR 5,tR 6,tR 7,tD 8] HS (Keep.refl _ _).drew ?_;(iterate 8 refine rd1 ?_);refine doH ?_;intro K hK;go_simp;go_at_call 156;refine(HFs.out).mono ?_;rintro e w6⟨q,R',rfl,hs6,hf6⟩;have hs6':RoomStep br w5 R1 w6 R':=(RoomStep.still HS5.out.at_ hdw5).trans hs6;have HS6:=Hd hs6';have HF6:=Hd hf6;refine hK _ _ ((HS.out _).2 (hs6'.tx.keep.mono (fun _ _ e=>.inr (TxS.own_foot e)))) ?_;clear hK K hs6 hs6' hf6;refine zl ?_;clear FR;clear S HS;go_wp2;go_ret3;exact⟨R',(HSt4.out.trans HS5.out).trans HS6.out,.inr ⟨R2,k2,q2',HQ4.out,HSr.out.maps,HSr.out.pages,by exact zSm⟩⟩
theorem zFd{k:QB}{q:Nat}(h:zAi=oneMore k q):False:=by
 unfold zAi oneMore at h
 injection h with h
 injection h with h
 have:=congrArg (fun a:Array Value=>a[2]?) h
 simp at this
theorem zHn{k k':QB}{q q':Nat}(h:oneMore k q=oneMore k' q'):k=k'∧q=q':=by
 unfold oneMore at h
 injection h with h
 injection h with h
 have h1:=congrArg (fun a:Array Value=>a[0]?) h
 have h2:=congrArg (fun a:Array Value=>a[1]?) h
 simp at h1 h2
 exact⟨h1,by omega⟩
structure Turn(R R':RoomS)(ps new:List Nat)(m:Nat):Prop where
 free:∀q∈new,q<R.pages∧R.has q=false
 nodup:new.Nodup
 has:∀q,q<R.pages→R'.has q=(decide (q∈new)||R.has q)
 text:∀q,q<R.pages→q∉ps→q∉new→R'.text q=R.text q
 zero:R'.home 0=R.home 0
 maps:R'.maps=R.maps
 pages:R'.pages=R.pages
 puts:∃a,R'.T.puts=R.T.puts++a∧a.length≤m
def Shape(p:Nat)(m:List Kid)(e:Ending):Prop:=(∃c,m=[c]∧c.page=p∧e=zAi)∨∃c1 c2,m=[c1,c2]∧c1.page=p∧e=oneMore c2.key c2.page∧c2.key.size≤96∧c2.page<65536
def zQS(R R':RoomS)(h p:Nat)(lo:QB)(ps:List Nat)(kv:KV)(e:Ending):Prop:=∃m new,Shape p m e∧Kids (PageIs R') h lo m∧m.flatMap Kid.kv=kv∧(m.flatMap Kid.ps).Perm (ps++new)∧Turn R R' ps new (5*(h+1))∧new.length≤h+1
theorem PageIs.of{R R':RoomS}{p:Nat}{x:Nd}(h:PageIs R p x)(hp:R'.pages=R.pages)(hh:R'.has p=true)(ht:R'.text p=R.text p):PageIs R' p x:=by
 obtain⟨a,b,c,d,e,f⟩:=h
 exact⟨by rw[hp];exact a,hh,by rw[ht];exact c,d,e,f⟩
theorem Sub.page_has{R:RoomS}{h p:Nat}{lo:QB}{kv:KV}{ps:List Nat}(hs:Sub (PageIs R) h p lo kv ps):∀q∈ps,q<R.pages∧R.has q=true:=by
 induction h generalizing p lo kv ps with|zero=>obtain⟨e,_,hP,_⟩:=hs;intro q hq;rw[e]at hq;rw[List.mem_singleton.1 hq];exact⟨hP.1,hP.2.1⟩|succ h ih=>obtain⟨cs,_,_,hP,_,hps,hsub,_⟩:=hs;intro q hq;rw[hps]at hq;rcases List.mem_cons.1 hq with e|e;(·rw[e];exact⟨hP.1,hP.2.1⟩);·obtain⟨c,hc,hq2⟩:=List.mem_flatMap.1 e;exact ih (hsub c hc) q hq2
theorem Laid.turn{R R':RoomS}{p:Nat}{x:Nd}{e:Ending}(h:Laid R R' p x e)(hp:p<R.pages)(h1:R.has p=true)(hfit:R.pages≤R.maps*4096)(hm:R'.maps=R.maps)(hpg:R'.pages=R.pages)(ok:x.ok)(hne:x.keys≠[])(hmo:x.size≤512+x.most):(e=zAi∧PageIs R' p x∧Turn R R' [p] [] 5)∨∃a q,PartAt x a∧512<x.size∧e=oneMore ((x.drop a).keys.getD 0 ⟨#[]⟩) q∧q<R.pages∧R.has q=false∧PageIs R' p (x.take a)∧PageIs R' q (x.drop a)∧Turn R R' [p] [q] 5:=by
 rcases h with⟨hs,he,hw⟩|⟨a,q,R1,hpa,hs,he,hw,hm1,hp1,hf⟩
 ·refine .inl ⟨he,⟨by rw[hpg];exact hp,by rw[hw.has p (by omega)];exact h1,by rw[hw.text p hp,if_pos rfl],ok,hne,hs⟩,⟨by simp,by simp,fun q hq=>by rw[hw.has q (by omega)];simp,fun q hq h2 _=> ?_,hw.zero,hm,hpg,?_⟩⟩;(·rw[hw.text q hq,if_neg (by simpa using h2)]);·obtain⟨b,b1,b2⟩:=hw.puts;exact⟨b,b1,by omega⟩
 ·obtain⟨s1,s2,s3,s4,s5⟩:=hpa.sizes ok hs hmo;(have hq:q<R.pages:=by have:=hf.was.1;rw[hp1]at this;exact this);(have hq0:R.has q=false:=by have:=hf.was.2;rw[hw.has q (by omega)]at this;exact this);(have hqp:p≠q:=fun e=>by rw[e]at h1;rw[hq0]at h1;cases h1);(have hh:∀r,r<R.pages→R'.has r=(decide (r=q)||R.has r):=fun r hr=>by rw[hf.has r (by rw[hm1];omega),hw.has r (by omega)]);(have htx:∀r,r<R.pages→R'.text r=if r=q then zS (x.drop a).text else if r=p then zS (x.take a).text else R.text r:=fun r hr=>by rw[hf.text r (by rw[hp1];exact hr),hw.text r hr]);refine .inr ⟨a,q,hpa,hs,he,hq,hq0,⟨by rw[hpg];exact hp,by rw[hh p hp,h1];simp,by rw[htx p hp,if_neg hqp,if_pos rfl],ok.take a,?_,s1⟩,⟨by rw[hpg];exact hq,by rw[hh q hq];simp,by rw[htx q hq,if_pos rfl],ok.drop a,?_,s2⟩,⟨fun r hr=>by rw[List.mem_singleton.1 hr];exact⟨hq,hq0⟩,List.pairwise_singleton _ _,fun r hr=>by rw[hh r hr];simp,fun r hr h2 h3=> ?_,by rw[hf.zero,hw.zero],hm,hpg,?_⟩⟩;(·intro e0;(have:(x.keys.take a).length=0:=by show(x.take a).keys.length=0;rw[e0];rfl);rw[List.length_take]at this;omega);(·intro e0;(have:(x.keys.drop a).length=0:=by show(x.drop a).keys.length=0;rw[e0];rfl);rw[List.length_drop]at this;omega);(·rw[htx r hr,if_neg (by simpa using h3),if_neg (by simpa using h2)]);·obtain⟨b,b1,b2⟩:=hw.puts;obtain⟨d,d1,d2⟩:=hf.puts;exact⟨b++d,by rw[d1,b1,Qa],by rw[Ql];omega⟩
theorem zCW{R:RoomS}{L:List Nat}(hL:∀q,q<R.pages→R.has q=true→q∈L)(hn:L.length<R.pages):∃q,q<R.pages∧R.has q=false:=by
 by_cases h:∃q,q<R.pages∧R.has q=false
 ·exact h
 ·(have hsub:(List.range R.pages)⊆L:=fun q hq=>by have hq:=List.mem_range.1 hq;refine hL q hq ?_;cases hc:R.has q with|true=>rfl|false=>exact absurd ⟨q,hq,hc⟩ h);have:=(List.nodup_range (n:=R.pages)).length_le_of_subset hsub;rw[List.length_range]at this;omega
section
variable {R R1 R2 R' : RoomS} {h p : Nat} {lo key val : QB} {kv : KV} {ps ps1 ps2 new new1 zDo : List Nat} {m1 m2 m : Nat} {cs : List Kid}
theorem Turn.mono(h:Turn R R' ps new m)(hs:∀q∈ps,q∈ps1)(hm:m≤m1):Turn R R' ps1 new m1:=⟨h.free,h.nodup,h.has,fun q hq h1 h2=>h.text q hq (fun e=>h1 (hs q e)) h2,h.zero,h.maps,h.pages,by obtain⟨a,a1,a2⟩:=h.puts;exact⟨a,a1,by omega⟩⟩
theorem zSp{p:Prop}(h:p:=by obtain⟨a,a1,a2⟩:=h.puts;obtain⟨b,b1,b2⟩:=k.puts;exact⟨a++b,by rw[b1,a1,Qa],by rw[Ql];omega⟩):p:=h
theorem Turn.trans(h:Turn R R1 ps1 new1 m1)(k:Turn R1 R2 ps2 zDo m2):Turn R R2 (ps1++ps2) (new1++zDo) (m1+m2):=by
 have hk:∀q∈zDo,q<R.pages∧q∉new1∧R.has q=false:=fun q hq=>by obtain⟨a,b⟩:=k.free q hq;rw[h.pages]at a;rw[h.has q a]at b;simp only[Bool.or_eq_false_iff,decide_eq_false_iff_not]at b;exact⟨a,b.1,b.2⟩
 refine⟨fun q hq=> ?_,List.nodup_append.2 ⟨h.nodup,k.nodup,fun q hq r hr e=>(hk r hr).2.1 (e▸hq)⟩,fun q hq=> ?_,fun q hq h1 h2=> ?_,k.zero.trans h.zero,k.maps.trans h.maps,k.pages.trans h.pages,?_⟩
 ·rcases List.mem_append.1 hq with e|e;(·exact h.free q e);·exact⟨(hk q e).1,(hk q e).2.2⟩
 ·rw[k.has q (by rw[h.pages];exact hq),h.has q hq];by_cases e1:q∈new1<;>by_cases e2:q∈zDo<;>simp[e1,e2]
 ·simp only[List.mem_append,not_or]at h1 h2;rw[k.text q (by rw[h.pages];exact hq) h1.2 h2.2,h.text q hq h1.1 h2.1]
 ·exact zSp
theorem Sub.frame(hs:Sub (PageIs R) h p lo kv ps1)(ht:Turn R R' ps new m)(hd:∀q∈ps1,q∉ps):Sub (PageIs R') h p lo kv ps1:=hs.mono (fun q hq x hx=>by have h1:=hs.page_has q hq;exact hx.of ht.pages (by rw[ht.has q h1.1,h1.2];simp) (ht.text q h1.1 (hd q hq) (fun e=>by have:=(ht.free q e).2;rw[h1.2]at this;cases this)))
theorem Kids.frame(hk:Kids (PageIs R) h lo cs)(ht:Turn R R' ps new m)(hd:∀q∈cs.flatMap Kid.ps,q∉ps):Kids (PageIs R') h lo cs:=⟨hk.head,fun c hc=>(hk.sub c hc).frame ht (fun q hq=>hd q (List.mem_flatMap.2 ⟨c,hc,hq⟩)),hk.bef⟩
theorem zMk{a b c d:List Nat}:(a++((b++d)++c)).Perm ((a++(b++c))++d):=by
 rw[Qa,Qa,Qa]
 exact((List.perm_append_comm (l₁:=d) (l₂:=c)).append_left b).append_left a
theorem zHo{l1 l2 m:List Kid}{c:Kid}(hp:(m.flatMap Kid.ps).Perm (c.ps++new)):((l1++(m++l2)).flatMap Kid.ps).Perm ((l1++c::l2).flatMap Kid.ps++new):=by
 rw[List.flatMap_append,List.flatMap_append,List.flatMap_append,List.flatMap_cons]
 exact((hp.append_right _).append_left _).trans zMk
end
theorem zKw{R R':RoomS}{p:Nat}{lo key val:QB}{kv:KV}{e:Ending}(hs:Sub (PageIs R) 0 p lo kv [p])(hfit:R.pages≤R.maps*4096)(h16:R.pages≤65536)(hkl:¬bLt key lo)(hk:key.size≤96)(hv:val.size≤56)(hm:R'.maps=R.maps)(hpg:R'.pages=R.pages)(hl:Laid R R' p (zF (ins kv key val)) e):zQS R R' 0 p lo [p] (ins kv key val) e:=by
 obtain⟨_,hne,hP,hlo,hsr⟩:=hs
 have hlf:Lf lo (ins kv key val):=(Lf.mk hne hlo hsr).ins hkl val
 obtain⟨kv',hkv'⟩:∃kv',ins kv key val=kv':=⟨_,rfl⟩
 have hok:(zF kv').ok:=by rw[←hkv'];exact zMi hP.2.2.2.1 hk hv
 have hmo:(zF kv').size≤512+(zF kv').most:=by have h5:=zHm hsr hk hv;have h6:(zF (ins kv key val)).most=154:=rfl;have h7:=hP.2.2.2.2.2;rw[←hkv'];omega
 rw[hkv']at hl hlf⊢
 have hkne:(zF kv').keys≠[]:=by rw[yP];intro e0;exact hlf.ne (List.map_eq_nil_iff.1 e0)
 rcases hl.turn hP.1 hP.2.1 hfit hm hpg hok hkne hmo with⟨rfl,hp2,ht⟩|⟨a,q,hpa,hsz,rfl,hq,hq0,hp2,hp3,ht⟩
 ·exact⟨[⟨lo,p,kv',[p]⟩],[],.inl ⟨_,rfl,rfl,rfl⟩,zEC (hlf.whole hp2),by simp,by simp,ht,by simp⟩
 ·obtain⟨s1,s2,s3,s4,s5⟩:=hpa.sizes hok hsz hmo;rw[yP,List.length_map]at s4;obtain⟨f1,f2,f3⟩:=hlf.parted (a:=a) (by omega) s4;rw[zKa]at hp2;(have hdk:((zF kv').drop a).keys.getD 0 ⟨#[]⟩=kv'[a].1:=by show((kv'.map Prod.fst).drop a).getD 0 ⟨#[]⟩=_;rw[←List.map_drop,List.drop_eq_getElem_cons s4];rfl);have hkq:kv'[a].1.size≤96:=(zDy.1 hok _ (List.getElem_mem s4)).1;rw[zKb]at hp3;refine⟨[⟨lo,p,kv'.take a,[p]⟩,⟨kv'[a].1,q,kv'.drop a,[q]⟩],[q],.inr ⟨_,_,rfl,rfl,by rw[hdk],hkq,?_⟩,zHG (f1.whole hp2) (f2.whole hp3) f3,by simp,by simp,ht,by simp⟩;show q<65536;omega
theorem zQT{p:Prop}(h:p:=by rw[←List.flatMap_append,List.take_append_drop]):p:=h
theorem zJJ{R R':RoomS}{h p:Nat}{lo:QB}{cs:List Kid}{e:Ending}(hk:Kids (PageIs R) h lo cs)(h2:2≤cs.length)(hnd:p∉cs.flatMap Kid.ps)(hp:p<R.pages)(h1:R.has p=true)(hok:(zJ cs).ok)(hmo:(zJ cs).size≤512+101)(hfit:R.pages≤R.maps*4096)(h16:R.pages≤65536)(hm:R'.maps=R.maps)(hpg:R'.pages=R.pages)(hl:Laid R R' p (zJ cs) e):∃m new,Shape p m e∧Kids (PageIs R') (h+1) lo m∧m.flatMap Kid.kv=cs.flatMap Kid.kv∧(m.flatMap Kid.ps).Perm (p::cs.flatMap Kid.ps++new)∧Turn R R' [p] new 5∧new.length≤1:=by
 have hkl:(zJ cs).keys.length=cs.length:=by exact zQR
 have hkne:(zJ cs).keys≠[]:=by intro e0;rw[e0]at hkl;simp at hkl;omega
 rcases hl.turn hp h1 hfit hm hpg hok hkne hmo with⟨rfl,hp2,ht⟩|⟨a,q,hpa,hsz,rfl,hq,hq0,hp2,hp3,ht⟩
 ·have hk2:=hk.frame ht (fun q hq e=>hnd (by rw[←List.mem_singleton.1 e];exact hq));exact⟨[⟨lo,p,cs.flatMap Kid.kv,p::cs.flatMap Kid.ps⟩],[],.inl ⟨_,rfl,rfl,rfl⟩,zEC (hk2.whole h2 hp2),by simp,by simp,ht,by simp⟩
 ·have hk2:=hk.frame ht (fun q hq e=>hnd (by rw[←List.mem_singleton.1 e];exact hq));obtain⟨s1,s2,s3,s4,s5⟩:=hpa.sizes hok hsz hmo;have s6:=s5 rfl;rw[hkl]at s4 s6;obtain⟨f1,f2,f3⟩:=hk2.parted (a:=a) (by omega) s4;rw[zIx]at hp2;(have hdk:((zJ cs).drop a).keys.getD 0 ⟨#[]⟩=cs[a].key:=by show((cs.map Kid.key).drop a).getD 0 ⟨#[]⟩=_;rw[←List.map_drop,List.drop_eq_getElem_cons s4];rfl);have hkq:cs[a].key.size≤96:=(zAO.1 hok _ (List.getElem_mem s4)).1;rw[zIy]at hp3;have w1:=f1.whole (by rw[List.length_take];omega) hp2;have w2:=f2.whole (by rw[List.length_drop];omega) hp3;refine⟨[⟨lo,p,(cs.take a).flatMap Kid.kv,p::(cs.take a).flatMap Kid.ps⟩,⟨cs[a].key,q,(cs.drop a).flatMap Kid.kv,q::(cs.drop a).flatMap Kid.ps⟩],[q],.inr ⟨_,_,rfl,rfl,by rw[hdk],hkq,?_⟩,zHG w1 w2 f3,?_,?_,ht,by simp⟩;(·show q<65536;omega);(·show(cs.take a).flatMap Kid.kv++((cs.drop a).flatMap Kid.kv++[])=_;rw[List.append_nil,←List.flatMap_append,List.take_append_drop]);·show((p::(cs.take a).flatMap Kid.ps)++((q::(cs.drop a).flatMap Kid.ps)++[])).Perm _;(have e1:cs.flatMap Kid.ps=(cs.take a).flatMap Kid.ps++(cs.drop a).flatMap Kid.ps:=by exact zQT);rw[List.append_nil,e1,List.cons_append,List.cons_append,Qa];refine List.Perm.cons _ (List.Perm.append_left _ ?_);exact(List.perm_append_comm (l₁:=[q]) (l₂:=(cs.drop a).flatMap Kid.ps))
theorem zOc{tb br pl:Nat}{key val:QB}(hk:key.size≤96)(hv:val.size≤56)(h:Nat):∀{w:World}{R:RoomS}{p deep:Nat}{lo:QB}{kv:KV}{ps L:List Nat},TreeAt w tb br pl→¬R.foot br tb→RoomAt w br R→R.T.puts.length+1000<1000000000000→R.pages≤65536→Sub (PageIs R) h p lo kv ps→¬bLt key lo→deep+h≤20→ps.Nodup→(∀q,q<R.pages→R.has q=true→q∈L)→L.length+h+1≤R.pages→Calls prog 157 #[.pointer (some ⟨tb,0,none⟩),.int .i64 p,.string key,.string val,.int .i64 deep] w fun e w'=>∃R',RoomStep br w R w' R'∧zQS R R' h p lo ps (ins kv key val) e:=by
 induction h with|zero=>intro w R p deep lo kv ps L ht htb hr hlen h16 hs hkl hd hnd hL hn;obtain⟨rfl,hne,hP,hlo,hsr⟩:=id hs;(have hfit:R.pages≤R.maps*4096:=by have:=hr.fit.1;omega);exact(zMj ht htb hr (by omega) hP hsr hk hv (by omega) (zCW hL (by omega))).mono fun e w'⟨R',hst,hla⟩=>⟨R',hst,zKw hs hfit h16 hkl hk hv hst.maps hst.pages hla⟩|succ h ih=>intro w R p deep lo kv ps L ht htb hr hlen h16 hs hkl hd hnd hL hn;obtain⟨cs,hks,h2,hP,rfl,rfl⟩:=hs.kids;(have hfit:R.pages≤R.maps*4096:=by have:=hr.fit.1;omega);obtain⟨l1,c,l2,rfl,hb1,hb2,hb3⟩:=zHF hks.head hks.bef hkl;(have hcm:c∈l1++c::l2:=by simp);have hcs:=hks.sub c hcm;obtain⟨hnp,hnf⟩:=List.nodup_cons.1 hnd;(have hnf':(l1.flatMap Kid.ps++(c.ps++l2.flatMap Kid.ps)).Nodup:=by rw[List.flatMap_append,List.flatMap_cons]at hnf;exact hnf);obtain⟨n1,n2,n3⟩:=List.nodup_append.1 hnf';obtain⟨n4,n5,n6⟩:=List.nodup_append.1 n2;have hside:∀d,d∈l1∨d∈l2→∀q∈d.ps,q∉c.ps:=fun d hd q hq e=>hd.elim (fun e1=>n3 q (List.mem_flatMap.2 ⟨d,e1,hq⟩) q (List.mem_append.2 (.inl e)) rfl) (fun e1=>n6 q e q (List.mem_flatMap.2 ⟨d,e1,hq⟩) rfl);have hpc:p∉c.ps:=fun e=>hnp (List.mem_flatMap.2 ⟨c,hcm,e⟩);(have hkvm:∀m:List Kid,m.flatMap Kid.kv=ins c.kv key val→(l1++(m++l2)).flatMap Kid.kv=ins ((l1++c::l2).flatMap Kid.kv) key val:=fun m hm=>by rw[zMD rfl hks.sub hb1 hb2 hb3 val,List.flatMap_append,List.flatMap_append,hm]);refine(zKv (Q:=fun R2 e=>R2.maps=R.maps∧zQS R R2 h c.page c.key c.ps (ins c.kv key val) e) ht htb hr hP rfl (fun d hd=>fun e=> ?_) hb2 hb3 (by omega) (fun w1 ht1 hr1=> ?_) ?_).mono ?_;(·exact hb2 (zV e (hb1 d hd).1));(·exact(ih ht1 htb hr1 hlen h16 hcs hb2 (by omega) n4 hL (by omega)).mono fun e w2⟨R2,hs2,hq2⟩=>⟨R2,hs2,hs2.maps,hq2⟩);(·rintro R2 e⟨_,m,new,hsh,hkm,hkv,hpm,htu,hnl⟩;rcases hsh with⟨c',_,_,rfl⟩|⟨c1,c2,_,_,rfl,hc2,hc3⟩;(·exact .inl rfl);·refine .inr ⟨c2.key,c2.page,rfl,hc2,hc3,?_,?_,?_⟩;(·rw[htu.has p hP.1,hP.2.1];simp);(·obtain⟨a,a1,a2⟩:=htu.puts;rw[a1,Ql];omega);·refine zCW (L:=L++new) (fun q hq h=> ?_) (by rw[Ql,htu.pages];omega);rw[htu.pages]at hq;rw[htu.has q hq]at h;simp only[Bool.or_eq_true,decide_eq_true_eq]at h;exact List.mem_append.2 (h.elim (fun e=>.inr e) (fun e=>.inl (hL q hq e))));·rintro e w'⟨R',hst,⟨rfl,_,m,new,hsh,hkm,hkv,hpm,htu,hnl⟩|⟨R2,k2,q2,⟨_,m,new,hsh,hkm,hkv,hpm,htu,hnl⟩,hmp,hpg,hla⟩⟩;(·refine⟨R',hst,?_⟩;rcases hsh with⟨c',rfl,hc1,-⟩|⟨c1,c2,_,_,he,_⟩;(·have hkk:=hks.turn hb3 hkm hkv (fun d hd=>(hks.sub d (by rcases hd with e|e<;>simp[e])).frame htu (hside d hd));(have hk':c'.key=c.key:=by have:=hkm.head;simpa using this);(have e1:zJ (l1++([c']++l2))=zJ (l1++c::l2):=by unfold zJ;simp[hk',hc1]);(have hP':PageIs R' p (zJ (l1++([c']++l2))):=by rw[e1];exact hP.of htu.pages (by rw[htu.has p hP.1,hP.2.1];simp) (htu.text p hP.1 hpc (fun e=>by have:=(htu.free p e).2;rw[hP.2.1]at this;cases this)));refine⟨[⟨lo,p,(l1++([c']++l2)).flatMap Kid.kv,p::(l1++([c']++l2)).flatMap Kid.ps⟩],new,.inl ⟨_,rfl,rfl,rfl⟩,zEC (hkk.whole (by simp at h2⊢;omega) hP'),?_,?_,htu.mono (fun q hq=>List.mem_cons_of_mem _ (List.mem_flatMap.2 ⟨c,hcm,hq⟩)) (by omega),by omega⟩;(·rw[List.flatMap_cons,List.flatMap_nil,List.append_nil];exact hkvm _ hkv);·rw[List.flatMap_cons,List.flatMap_nil,List.append_nil];exact(zHo hpm).cons p);·exact(zFd he).elim);·refine⟨R',hst,?_⟩;rcases hsh with⟨c',_,_,he⟩|⟨c1,c2,rfl,hc1,he,hc2,hc3⟩;(·exact(zFd he.symm).elim);·obtain⟨rfl,rfl⟩:=zHn he;have hkk:=hks.turn hb3 hkm hkv (fun d hd=>(hks.sub d (by rcases hd with e|e<;>simp[e])).frame htu (hside d hd));(have hk':c1.key=c.key:=by have:=hkm.head;simpa using this);(have e3:zBx l1 l2 c c2.key c2.page=zJ (l1++([c1,c2]++l2)):=by unfold zBx zJ;simp[hk',hc1]);rw[e3]at hla;have hpm2:=zHo (l1:=l1) (l2:=l2) hpm;(have hpn:p∉(l1++([c1,c2]++l2)).flatMap Kid.ps:=fun e=>by rcases List.mem_append.1 (hpm2.mem_iff.1 e)with e4|e4;(·exact hnp e4);·have:=(htu.free p e4).2;rw[hP.2.1]at this;cases this);have hok0:=zAO.1 hP.2.2.2.1;(have hok:(zJ (l1++([c1,c2]++l2))).ok:=by refine zAO.2 (fun d hd=> ?_);simp only[List.mem_append,List.mem_cons,List.not_mem_nil,or_false]at hd;rcases hd with e|(e|e)|e;(·exact hok0 d (by simp[e]));(·rw[e,hk',hc1];exact hok0 c (by simp));(·rw[e];exact⟨hc2,hc3⟩);·exact hok0 d (by simp[e]));(have hmo:(zJ (l1++([c1,c2]++l2))).size≤512+101:=by have h8:=hP.2.2.2.2.2;rw[kI,yy,yy,xg,xg,hk'];rw[kI,yy,xg]at h8;have h10:vV ([]:List Kid)=0:=rfl;rw[h10];omega);obtain⟨m2,zDo,g1,g2,g3,g4,g5,g6⟩:=zJJ hkk (by simp;omega) hpn (by rw[htu.pages];exact hP.1) (by rw[htu.has p hP.1,hP.2.1];simp) hok hmo (by rw[hmp,hpg];exact hfit) (by rw[hpg];exact h16) (hst.maps.trans hmp.symm) (hst.pages.trans hpg.symm) hla;refine⟨m2,new++zDo,g1,g2,g3.trans (hkvm _ hkv),g4.trans ?_,(htu.trans g5).mono (fun q hq=> ?_) (by omega),by rw[Ql];omega⟩;(·(have e5:p::(l1++c::l2).flatMap Kid.ps++(new++zDo)=(p::((l1++c::l2).flatMap Kid.ps++new))++zDo:=by simp);rw[e5];exact(hpm2.cons p).append_right zDo);·rcases List.mem_append.1 hq with e|e;(·exact List.mem_cons_of_mem _ (List.mem_flatMap.2 ⟨c,hcm,e⟩));·rw[List.mem_singleton.1 e];simp
theorem xF(p:Addr)(w:World):CallsD prog 145 #[.pointer (some p)] .returning w fun e u' w'=>e= .returned (.tuple #[])∧u'= .returning∧w'=w:=by
 refine callsD_of_wpS func145 rfl fun c₀ cs hu=> ?_
 apply wpS_seq
 apply wpS_region
 simp[wpOpsS,go_sem,recoverD,hu,ntmps145,Exit.thenS]
 apply wpS_seq
 apply wpS_region
 simp[wpOpsS,go_sem,Exit.thenS]
 refine wpS_cond (t:=false) (by simp[Act.eval,Array.replicate]) ?_
 simp only[Bool.false_eq_true,if_false]
 refine wpS_of_wp (wp_skip ?_)
 cases c₀
 simp_all[bodyPostS,results,results145]
theorem zC6(q pm pt:Addr)(w:World)(he:w.cell? q=some (.int .i64 0))(u:FrameMode):CallsD prog 154 #[.pointer (some q),.pointer (some pt),.pointer (some pm)] u w fun e u' w'=>u'=u∧(e= .returned (.tuple #[])∧w'=w):=by
 go_enter_d func154,ntmps154
 go_wp2
 go_end0
 exact⟨rfl,rfl⟩
theorem Sub.p16{R:RoomS}{h p:Nat}{lo:QB}{kv:KV}{ps:List Nat}(hs:Sub (PageIs R) h p lo kv ps):p<R.pages:=by
 cases h with|zero=>exact hs.2.2.1.1|succ h=>obtain⟨cs,_,_,hP,_⟩:=hs;exact hP.1
theorem zKx{kv l1 l2:KV}{key:QB}(he:kv=l1++l2)(h1:∀x∈l1,bLt x.1 key)(h2:∀x∈l2,¬bLt x.1 key)(hs:zAa kv):look kv key=if(l2.map Prod.fst).head? =some key then some ((zF kv).vals.getD l1.length ⟨#[]⟩)else none:=by
 rw[he,kZ h1]
 cases l2 with|nil=>rfl|cons y t=>obtain⟨ya,yb⟩:=y;by_cases e:ya=key;(·subst e;(have e2:(zF (l1++(ya,yb)::t)).vals.getD l1.length ⟨#[]⟩=yb:=by show((l1++(ya,yb)::t).map Prod.snd).getD l1.length ⟨#[]⟩=yb;rw[List.map_append,List.getD_eq_getElem?_getD,List.getElem?_append_right (by simp)];simp);rw[e2];simp[look]);·(have hp:((ya,yb)::t).Pairwise (fun x y=>bLt x.1 y.1):=by rw[he]at hs;exact(List.pairwise_append.1 hs).2.1);have h3:=(List.pairwise_cons.1 hp).1;have h4:look ((ya,yb)::t) key=none:=zCu (fun x hx=>by rcases List.mem_cons.1 hx with e1|e1;(·rw[e1];exact e);·intro e2;have:=h3 x e1;rw[e2]at this;exact h2 (ya,yb) (by simp) this);rw[h4];(have e5:((((ya,yb)::t).map Prod.fst).head? =some key)=False:=by simp[e]);simp only[e5,if_false]
theorem zSq{p:Prop}(h:p:=by exact⟨⟨rfl,rfl⟩,(qT HBw.out HB3.out).setCell (by rw[HWe.out];exact Qn _) _⟩):p:=h
theorem zSr{p:Prop}(h:p:=by rw[hu.cell (p:=⟨nb,3,none⟩) HNB.out (fun e=>e)];exact HC3.out):p:=h
theorem zOd{w:World}{tb br pl h:Nat}{R:RoomS}{p:Nat}{kv:KV}{ps:List Nat}{key:QB}(ht:TreeAt w tb br pl)(hr:RoomAt w br R)(hpl:pl<16)(hk:R.root pl=p+1)(hp:R.pages≤65536)(hs:Sub (PageIs R) h p ⟨#[]⟩ kv ps)(hh:h<20):Calls prog 87 #[.pointer (some ⟨tb,0,none⟩),.string key] w fun e w'=>e= .returned (.tuple #[.string ((look kv key).getD ⟨#[]⟩),.bool (look kv key).isSome,.int .i64 0])∧Below w.heap.size w w':=by
 have hpp:=hs.p16
 have hb0:Below w.heap.size w (w.alloc (.cells #[.int .i64 0] 29)):=qA
 have HR:=Hd (zAN (w:=w.alloc (.cells #[.int .i64 0] 29)) ⟨qB hb0 ht.cells⟩ (hr.still hb0) hpl (by omega))
 rw[hk]at HR
 have he1:(((p+1:Nat):Int)-1)=(p:Int):=by omega
 rw[he1]at HR
 have HT:=Hd ht
 have HRm:=Hd hr
 have HS:=Hd hs
 have HB0:=Hd hb0
 have HP16:=Hd hp
 have hz:(w.alloc (.cells #[.int .i64 0] 29)).heap.size=w.heap.size+1:=by simp
 have q0:=qH w (.cells #[.int .i64 0] 29)
 have HQ0:=Hd q0
 clear ht hr hs hb0 he1 hk
 go_enter_defers func87,ntmps87
 go_wp2_with(fail)
 refine(HR.out).mono ?_
 rintro e w1⟨rfl,hb1⟩
 have HB1:=Hd (qT HB0.out hb1)
 have q1:w1.heap[w.heap.size]? =some (.cells #[.int .i64 0] 29 (0,0)):=(hb1.block _ (by rw[hz];omega)).trans HQ0.out
 have hz1:w.heap.size<w1.heap.size:=by have:=hb1.size;omega
 have HQ1:=Hd q1
 clear q0 q1 hb1
 obtain⟨we,hwe⟩:=qN w.heap.size
 rw[hwe]at HQ1 hz1
 have HWe:=Hd hwe
 clear hz
 go_wp2_with(fail)
 go_loopw [7,13](fun pg i wr=>∃(j h' p':Nat)(lo:QB)(kv':KV)(ps':List Nat),i= .int .i64 j∧j+h'<20∧pg= .int .i64 p'∧Sub (PageIs R) h' p' lo kv' ps'∧¬bLt key lo∧look kv' key=look kv key∧Below w1.heap.size w1 wr)(fun _ i _=>20-(intOf i).toNat)
 case atStart=>exact⟨0,h,p,_,kv,ps,rfl,by omega,rfl,HS.out,zA4 _,rfl,Below.refl _ _⟩
 case round=>obtain⟨j,h',p',lo,kv',ps',rfl,hj,rfl,hsub,hlo,hlk,hbel⟩:=hrel;have hp':=hsub.p16;(have p0:(0:Int)≤(p':Int):=by omega);(have pn:¬((p':Int)<0):=by omega);(have hj20:(j:Int)<20:=by omega);have hBw:Below w.heap.size w wr:=qT HB1.out hbel;have htr:TreeAt wr tb br pl:=⟨qB hBw HT.out.cells⟩;have HBw:=Hd hBw;have HBel:=Hd hbel;have qr:wr.heap[we]? =some (.cells #[.int .i64 0] 29 (0,0)):=(hbel.block we (by omega)).trans HQ1.out;have HQr:=Hd qr;have HLk:=Hd hlk;cases h' with|zero=>obtain⟨rfl,hne,hP,hlo2,hsr⟩:=id hsub;have HRd:=Hd (vr htr (HRm.out.still hBw) hP);obtain⟨l1,l2,he,h1,h2⟩:=zDu hsr key;have hlen6:=(zF kv').keys_lt hP.2.2.2.1 (by have:=hP.2.2.2.2.2;omega);have HFd:=Hd (fun u b(hu:NdR u b (zF kv'))=>zEQ (key:=key) (l1:=l1.map Prod.fst) (l2:=l2.map Prod.fst) hu (by rw[yP,he,List.map_append]) (fun k hk=>by exact zOa) (fun k hk=>by exact zOb) hlen6);rw[List.length_map]at HFd;have HLL:=Hd (zKx he h1 h2 hsr);(have hvl:(zF kv').vals.length=kv'.length:=by show(kv'.map Prod.snd).length=_;rw[List.length_map]);(have HIn:(l2.map Prod.fst).head? =some key→l1.length<(zF kv').vals.length:=fun hh=>by rw[hvl,he,Ql];cases l2 with|nil=>cases hh|cons y t=>simp);have HIN:=Hd HIn;have HL6:=Hd (show(zF kv').vals.length<65536 from by rw[hvl];rw[yP,List.length_map]at hlen6;exact hlen6);clear hsub hlo hlk hbel hBw htr hP hlo2 hsr he h1 h2 hlen6 hne hvl HIn qr;go_wp2_with(fail);refine(HRd.out).mono ?_;rintro e w2⟨nb,ka,va,ca,rfl,hnd,hnw,hb2⟩;have c0:w2.cell? ⟨nb,0,none⟩=some (.bool true):=Qc hnd.cells 0;have HF2:=Hd (HFd.out w2 nb hnd.read);have HN2:=Hd hnd;have HB2:=Hd hb2;clear hnd hnw hb2;obtain⟨i,hil⟩:=qN l1.length;rw[hil]at HF2 HLL HIN;by_cases hth:(l2.map Prod.fst).head? =some key;(·rw[decide_eq_true hth]at HF2;have hin:=HIN.out hth;have hll:=HLL.out;rw[if_pos hth]at hll;have HLl:=Hd hll;clear hth hll HIN HLL;go_wp2_with(fail);refine(HF2.out).mono ?_;rintro e w3⟨rfl,hb3⟩;have hn3:=HN2.out.still hb3;obtain⟨g2,p2,hva,hnp,_,_⟩:=zH hn3.vals (by omega);subst hva;(have q2:w3.cell? ⟨g2,i,none⟩=some (.string ((zF kv').vals.getD i ⟨#[]⟩)):=by have:=hn3.vals.cells rfl i _ (yW _ _ hin);rwa [yJ]at this);obtain⟨vn,hvn⟩:=qN ((zF kv').vals.getD i ⟨#[]⟩);have HVn:=Hd hvn;rw[hvn]at q2;have c2:w3.cell? ⟨nb,2,none⟩=some (.slice (some ⟨g2,0,none⟩) (zF kv').vals.length p2):=Qc hn3.cells 2;have HL7:=Hd HL6.out;obtain⟨n,hn⟩:=qN ((zF kv').vals.length);rw[hn]at c2 hin hnp;(have i0:(0:Int)≤(i:Int):=by omega);(have i1:(i:Int)<(n:Int):=by omega);have HB3:=Hd (qT HB2.out hb3);have q3:w3.heap[we]? =some (.cells #[.int .i64 0] 29 (0,0)):=(HB3.out.block we (by have:=(Gl HQr.out);exact this)).trans HQr.out;have f3:w3.frozen? ⟨we,0,none⟩=false:=zM q3;have c3:w3.cell? ⟨we,0,none⟩=some (.int .i64 0):=Qc q3 0;clear hn3 hb3 hvn hn q3;go_wp2_with(fail);refine leaves_cons (f:=145) (args:= #[.pointer (some ⟨we,0,none⟩)]) (by simp) (by simp[go_sem]) ?_;refine(xF _ _).mono ?_;rintro e u' w''⟨rfl,rfl,rfl⟩;have e9:(w3.setCell ⟨we,0,none⟩ (.int .i64 0)).cell? ⟨we,0,none⟩=some (.int .i64 0):=World.cell?_setCell_same _ _ _ c3;simp[Leaves,settle,results,results87,go_sem,e9];rw[←HLk.out,HLl.out,←HVn.out];exact zSq);(·rw[decide_eq_false hth]at HF2;have hll:=HLL.out;rw[if_neg hth]at hll;have HLl:=Hd hll;clear hth hll HIN HLL;go_wp2_with(fail);refine(HF2.out).mono ?_;rintro e w3⟨rfl,hb3⟩;have HB3:=Hd (qT HB2.out hb3);have q3:w3.heap[we]? =some (.cells #[.int .i64 0] 29 (0,0)):=(HB3.out.block we (by have:=(Gl HQr.out);exact this)).trans HQr.out;have f3:w3.frozen? ⟨we,0,none⟩=false:=zM q3;have c3:w3.cell? ⟨we,0,none⟩=some (.int .i64 0):=Qc q3 0;clear hb3 q3;go_wp2_with(fail);refine leaves_cons (f:=145) (args:= #[.pointer (some ⟨we,0,none⟩)]) (by simp) (by simp[go_sem]) ?_;refine(xF _ _).mono ?_;rintro e u' w''⟨rfl,rfl,rfl⟩;have e9:(w3.setCell ⟨we,0,none⟩ (.int .i64 0)).cell? ⟨we,0,none⟩=some (.int .i64 0):=World.cell?_setCell_same _ _ _ c3;simp[Leaves,settle,results,results87,go_sem,e9];rw[←HLk.out,HLl.out];exact zSq)|succ h'=>obtain⟨cs,hks,h2,hP,rfl,rfl⟩:=hsub.kids;obtain⟨l1,c,l2,rfl,hb1,hb2,hb3⟩:=zHF hks.head hks.bef hlo;have HRd:=Hd (vr htr (HRm.out.still hBw) hP);have hlen6:=(zJ (l1++c::l2)).keys_lt hP.2.2.2.1 (by have:=hP.2.2.2.2.2;omega);have HWy:=Hd (fun u b(hu:NdR u b (zJ (l1++c::l2)))=>zGZ (key:=key) (l1:=(l1++[c]).map Kid.key) (l2:=l2.map Kid.key) hu (by show(l1++c::l2).map Kid.key=_;rw[←List.map_append,Qa];rfl) (fun k hk=>by obtain⟨x,hx,rfl⟩:=List.mem_map.1 hk;rcases List.mem_append.1 hx with e|e;(·exact fun e2=>hb2 (zV e2 (hb1 x e).1));·rw[List.mem_singleton.1 e];exact hb2) (fun k hk=>by obtain⟨x,hx,rfl⟩:=List.mem_map.1 hk;exact hb3 x hx) hlen6);(have hli:((l1++[c]).map Kid.key).length-1=l1.length:=by rw[List.length_map,Ql];simp);rw[hli]at HWy;(have hkid:(yh (zJ (l1++c::l2)).kids)[l1.length]? =some (.int .i64 (c.page:Nat)):=by show(((l1++c::l2).map Kid.page).map _)[l1.length]? =_;rw[List.getElem?_map,List.getElem?_map,List.getElem?_append_right (Qn _),Nat.sub_self];rfl);have HKid:=Hd hkid;(have hcl:(zJ (l1++c::l2)).kids.length=(l1++c::l2).length:=by show((l1++c::l2).map Kid.page).length=_;rw[List.length_map]);(have hkl:(zJ (l1++c::l2)).keys.length=(l1++c::l2).length:=by show((l1++c::l2).map Kid.key).length=_;rw[List.length_map]);(have hlf:l1.length<(zJ (l1++c::l2)).kids.length:=by rw[hcl,Ql,List.length_cons];omega);(have hl6:(zJ (l1++c::l2)).kids.length<65536:=by rw[hcl,←hkl];exact hlen6);(have hlook:look c.kv key=look kv key:=by rw[←hlk];exact(zKZ rfl hks.sub hb1 hb2 hb3).symm);have HNext:=Hd (show Sub (PageIs R) h' c.page c.key c.kv c.ps∧¬bLt key c.key∧look c.kv key=look kv key from⟨hks.sub c (by simp),hb2,hlook⟩);obtain⟨i,hil⟩:=qN l1.length;rw[hil]at HWy HKid hlf;obtain⟨cp,hcp⟩:=qN c.page;rw[hcp]at HKid HNext;obtain⟨x,hx⟩:=qN (zJ (l1++c::l2));(have hlx:x.leaf=false:=by rw[←hx];rfl);rw[hx]at HRd HWy HKid hlf hl6;clear hsub hlo hlk hbel hBw htr hP hks h2 hb1 hb2 hb3 hlen6 hli hkid hcl hkl hlook HLk hx hil hcp;go_wp2_with(fail);refine(HRd.out).mono ?_;rintro e w2⟨nb,ka,va,ca,rfl,hnd,hnw,hb2⟩;(have c0:w2.cell? ⟨nb,0,none⟩=some (.bool false):=by have:=Qc hnd.cells 0;rw[hlx]at this;exact this);have hdw:Below w2.heap.size w2 w2.drew:=⟨rfl,rfl,rfl,Qn _,fun _ _=>rfl⟩;have HW2:=Hd (HWy.out w2.drew nb (hnd.read.still hdw));have HN2:=Hd hnd;have HB2:=Hd hb2;obtain⟨g2,p2,hca,hnp,_,_⟩:=zH hnd.kids (by omega);subst hca;have c3:w2.cell? ⟨nb,3,none⟩=some (.slice (some ⟨g2,0,none⟩) x.kids.length p2):=Qc hnd.cells 3;(have q2:w2.cell? ⟨g2,i,none⟩=some (.int .i64 cp):=by have:=hnd.kids.cells rfl i _ HKid.out;rwa [yJ]at this);obtain⟨n,hn⟩:=qN x.kids.length;rw[hn]at c3 hlf hnp hl6;(have i0:(0:Int)≤(i:Int):=by omega);(have i1:(i:Int)<(n:Int):=by omega);have HNB:=Hd (show nb<w2.heap.size from hnd.lt (.inl rfl));clear hnd hnw hb2 hn hlx hdw;go_wp2_with(fail);have HC3:=Hd c3;have HQ2:=Hd q2;have HNa:=Hd (show g2<w2.heap.size from World.block_lt_of_cell? w2 ⟨g2,i,none⟩ q2);obtain⟨S,HS⟩:=mkS (Keep (fun _=>False) (w2));have FR:=Hd (fun u(hu:S u)=>have hu:=(HS.out u).1 hu;have c3:u.cell? ⟨nb,3,none⟩=some (.slice (some ⟨g2,0,none⟩) n p2):=(by exact zSr);c3);refine rgo 7 [tR 0,tR 1,tR 2,tR 3,tR 4,tR 5,tD 6] HS (Keep.refl _ _).drew ?_;(iterate 6 refine rd1 ?_);refine doH ?_;intro K hK;go_simp;go_at_call 149;refine(HW2.out).mono ?_;rintro e w3⟨rfl,hb3⟩;have HB3:=Hd (show Below w2.heap.size w2 w3 from⟨hb3.os,hb3.tape,hb3.output,hb3.size,hb3.block⟩);refine hK _ _ ((HS.out _).2 (Keep.ofBelow HB3.out)) ?_;clear hK K hb3;refine zl ?_;clear FR;clear S HS;(have q3:w3.cell? ⟨g2,i,none⟩=some (.int .i64 cp):=by rw[HB3.out.cell (p:=⟨g2,i,none⟩) HNa.out];exact HQ2.out);clear q2 c3;go_wp2_with(fail);go_roundw;(case rel=>exact⟨j+1,h',cp,c.key,c.kv,c.ps,by go_num,by omega,rfl,HNext.out.1,HNext.out.2.1,HNext.out.2.2,HBel.out.trans ((qT HB2.out HB3.out).mono HBel.out.size)⟩);case measure=>simp[intOf];omega
section
variable {P : Program} {ops : Array Oper} {md : Region.Mode} {S : World → Prop}
inductive Way where|fin|read(k:Nat)(r:Way)|one(k:Nat)(r:Way)|two(k1:Nat)(r1:Way)(k2:Nat)(r2:Way)
def Way.len:Way→Nat| .fin=>0| .read _ r=>r.len+1| .one _ r=>r.len+1| .two _ r1 _ _=>r1.len+1
def zFI(md:Region.Mode)(ops:Array Oper)(n g:Nat):Way→Array Bool→Bool| .fin,listed=>Region.seqB md ops g n listed| .read k r,listed=>decide (k<n)&&((Region.ready md ops listed).contains k&&Region.free md ops listed k)&&zFI md ops n g r (listed.setIfInBounds k true)| .one k r,listed=>decide (k<n)&&decide (Region.ready md ops listed=[k])&&zFI md ops n g r (listed.setIfInBounds k true)| .two k1 r1 k2 r2,listed=>(decide (k1<n)&&decide (k2<n)&&decide (r1.len=r2.len)&&decide (Region.ready md ops listed=[k1,k2]))&&(zFI md ops n g r1 (listed.setIfInBounds k1 true)&&zFI md ops n g r2 (listed.setIfInBounds k2 true))
def zFJ(P:Program)(ops:Array Oper)(S:World→Prop)(l:List Oper)(k:Nat)(K:Act→World→Prop)(a:Act)(w:World):Prop:=match l[k]? with|none=>False|some o=>if Region.wanted o (yielded ops a.tmps)then o.wp P a w (fun a' w'=>S w'∧K a' w') zCL else K (a.put o.dst undef) w
def wpW (P : Program) (ops : Array Oper) (S : World → Prop) (l : List Oper) (Lq : Act → World → Prop) : Way → Act → World → Prop
  | .fin, a, w => Lq a w
  | .read k r, a, w =>
    match l[k]? with
    | none => False
    | some o => if Region.wanted o (yielded ops a.tmps) then ∃ v, HeldV P o a S v ∧ wpW P ops S l Lq r (a.put o.dst v) w else wpW P ops S l Lq r (a.put o.dst undef) w
  | .one k r, a, w => zFJ P ops S l k (wpW P ops S l Lq r) a w
  | .two k1 r1 k2 r2, a, w => zFJ P ops S l k1 (wpW P ops S l Lq r1) a w ∧ zFJ P ops S l k2 (wpW P ops S l Lq r2) a w
theorem yQ{l:List Oper}{Lq:Act→World→Prop}{k:Nat}{r:Way}{a:Act}{w:World}{o:Oper}(hk:l[k]? =some o)(hw:Region.wanted o (yielded ops a.tmps)=true)(h:∀K:Act→Prop,(∀a,wpW P ops S l Lq r a w→K a)→∃v,HeldV P o a S v∧K (a.put o.dst v)):wpW P ops S l Lq (.read k r) a w:=by
 unfold wpW
 simp only[hk,hw,if_true]
 exact h _ (fun _ h=>h)
theorem zi{l:List Oper}{k:Nat}{K0:Act→World→Prop}{a:Act}{w:World}{o:Oper}(hk:l[k]? =some o)(hw:Region.wanted o (yielded ops a.tmps)=true)(h:∀K:Act→World→Prop,(∀a w,S w→K0 a w→K a w)→o.wp P a w K zCL):zFJ P ops S l k K0 a w:=by
 unfold zFJ
 simp only[hk,hw,if_true]
 exact h _ (fun _ _ h1 h2=>⟨h1,h2⟩)
theorem yX{l:List Oper}{Lq:Act→World→Prop}{k:Nat}{r:Way}{a:Act}{w:World}(h:zFJ P ops S l k (wpW P ops S l Lq r) a w):wpW P ops S l Lq (.one k r) a w:=h
theorem zCX{l:List Oper}{Lq:Act→World→Prop}{k1 k2:Nat}{r1 r2:Way}{a:Act}{w:World}(h1:zFJ P ops S l k1 (wpW P ops S l Lq r1) a w)(h2:zFJ P ops S l k2 (wpW P ops S l Lq r2) a w):wpW P ops S l Lq (.two k1 r1 k2 r2) a w:=⟨h1,h2⟩
theorem zAj{l:List Oper}{Lq:Act→World→Prop}{a:Act}{w:World}(h:Lq a w):wpW P ops S l Lq .fin a w:=h
theorem zBD{l:List Oper}(hl:ops=l.toArray){k:Nat}{K0 K1:Act→World→Prop}{a:Act}{w:World}(hS:S w)(h:zFJ P ops S l k K0 a w)(hK:∀a w,S w→K0 a w→K1 a w):opW P ops k (fun a' w'=>S w'∧K1 a' w') a w:=by
 have hlk:l[k]? =ops[k]? :=by rw[hl];simp
 unfold zFJ at h
 rw[hlk]at h
 unfold opW
 cases ho:ops[k]? with|none=>rw[ho]at h;exact h.elim|some o=>rw[ho]at h;simp only at h⊢;by_cases hw:Region.wanted o (yielded ops a.tmps)=true;(·simp only[hw,if_true]at h⊢;exact Oper.wp_mono (fun a' w' h'=>⟨h'.1,hK a' w' h'.1 h'.2⟩) h);·simp only[hw]at h⊢;exact⟨hS,hK _ _ hS h⟩
theorem kJ{n g:Nat}{l:List Oper}{Lq:Act→World→Prop}(hl:ops=l.toArray)(hsel:Region.noSelect ops=true)(hs:Region.sinkB md ops n=true)(hc:Region.chainB md ops n=true)(hn:n<ops.size):∀(r:Way)(listed:Array Bool)(a:Act)(w:World),HeadInv md ops n listed→zFI md ops n g r listed=true→S w→wpW P ops S l Lq r a w→wpZ P md ops S n (fun listed' a' w'=>Region.seqB md ops g n listed'=true∧Lq a' w') r.len listed a w| .fin,listed,a,w,_,hB,_,h=>⟨by simpa[zFI]using hB,h⟩| .read k r,listed,a,w,inv,hB,hS,h=>by simp only[zFI,Bool.and_eq_true,decide_eq_true_eq]at hB;obtain⟨⟨hkn,hp1,hp2⟩,hB'⟩:=hB;(have hlk:l[k]? =ops[k]? :=by rw[hl];simp);unfold wpW at h;rw[hlk]at h;(cases ho:ops[k]? with|none=>rw[ho]at h;exact h.elim|some o=>rw[ho]at h;simp only at h;(have hr:k∈Region.ready md ops listed:=by simpa using hp1);have hfree:=Region.free_spec ho hp2;have fin:∀v,YieldsIf P ops S o v a→wpW P ops S l Lq r (a.put o.dst v) w→wpZ P md ops S n (fun listed' a' w'=>Region.seqB md ops g n listed'=true∧Lq a' w') (r.len+1) listed a w:=fun v hy hK=>zFS ho (Region.noSelect_spec hsel) hs hc hn hkn (fun listed' a' w' hL=>seqB_ready hL.1) r.len listed a w inv hfree hr hy hS (kJ hl hsel hs hc hn r _ _ w (inv.set hr hkn) hB' hS hK);by_cases hw:Region.wanted o (yielded ops a.tmps)=true;(·exact zRZ);·exact zRa)| .one k r,listed,a,w,inv,hB,hS,h=>by simp only[zFI,Bool.and_eq_true,decide_eq_true_eq]at hB;obtain⟨⟨hkn,hp⟩,hB'⟩:=hB;(have hr:k∈Region.ready md ops listed:=by rw[hp];simp);refine⟨fun h0=>(by rw[hp]at h0;cases h0),fun j hj=> ?_⟩;rw[hp]at hj;(obtain rfl:j=k:=by simpa using hj);exact⟨hkn,zBD hl hS h (fun a' w' hS' h'=>kJ hl hsel hs hc hn r _ a' w' (inv.set hr hkn) hB' hS' h')⟩| .two k1 r1 k2 r2,listed,a,w,inv,hB,hS,h=>by simp only[zFI,Bool.and_eq_true,decide_eq_true_eq]at hB;obtain⟨⟨⟨⟨hk1,hk2⟩,hlen⟩,hp⟩,hB1,hB2⟩:=hB;(have hr1:k1∈Region.ready md ops listed:=by rw[hp];simp);(have hr2:k2∈Region.ready md ops listed:=by rw[hp];simp);refine⟨fun h0=>(by rw[hp]at h0;cases h0),fun j hj=> ?_⟩;rw[hp]at hj;(have hj2:j=k1∨j=k2:=by simpa using hj);rcases hj2 with rfl|rfl;(·exact⟨hk1,zBD hl hS h.1 (fun a' w' hS' h'=>kJ hl hsel hs hc hn r1 _ a' w' (inv.set hr1 hk1) hB1 hS' h')⟩);·refine⟨hk2,zBD hl hS h.2 (fun a' w' hS' h'=> ?_)⟩;have:=kJ hl hsel hs hc hn r2 _ a' w' (inv.set hr2 hk2) hB2 hS' h';rw[←hlen]at this;exact this
def zKF(md:Region.Mode)(ops:Array Oper)(n:Nat)(r:Way):Bool:=Region.noSelect ops&&decide (n<ops.size)&&decide (r.len=n)&&Region.sinkB md ops n&&Region.chainB md ops n&&zFI md ops n (ops.size-n) r (Array.replicate ops.size false)
theorem xT{id:Nat}{Q:Exit→Act→World→Prop}{a:Act}{w:World}{l:List Oper}(n:Nat)(r:Way)(S:World→Prop)(hm:P.follows .mixedOrders=true)(hB:zKF .any l.toArray n r=true)(hS:S w.drew)(h:wpW P l.toArray S l (fun a' w'=>wpList P l.toArray Q (l.drop n) a' w') r a w.drew):(Code.region id l.toArray true).wp P Q a w:=by
 simp only[zKF,Bool.and_eq_true,decide_eq_true_eq]at hB
 obtain⟨⟨⟨⟨⟨hsel,hn⟩,hlen⟩,hs⟩,hc⟩,hheld⟩:=hB
 have hn':n<l.length:=by simpa using hn
 have hdl:(l.drop n).length=l.toArray.size-n:=by simp
 have inv0:HeadInv .any l.toArray n (Array.replicate l.toArray.size false):=⟨by simp,fun j oj _ hl=>(by rw[getD_replicate_false]at hl;cases hl),fun t _ ht=>getD_in (by simpa using ht) (getD_replicate_false _ _)⟩
 have H:=kJ (md:=.any) (g:=l.toArray.size-n) rfl hsel hs hc hn r _ a w.drew inv0 hheld hS h
 exact zQC
end
theorem xN{w:World}{br:Nat}{R:RoomS}(h:RoomAt w br R):Calls prog 40 #[.pointer (some ⟨br,0,none⟩)] w fun e w'=>e= .returned (.int .i64 R.T.puts.length)∧w=w':=by
 have H:=Hd (zI6 h.tx)
 have c0:w.cell? ⟨br,0,none⟩=some (.pointer (some ⟨R.bt,0,none⟩)):=Qc h.cells 0
 go_enter func40,ntmps40
 go_wp2_with(go_at_call 100;refine(H.out).mono ?_;rintro e w1⟨rfl,rfl⟩)
 go_ret
 exact⟨rfl,rfl⟩
def TreeIs(R:RoomS)(pl:Nat)(kv:KV)(ps:List Nat):Prop:=(R.root pl=0∧kv=[]∧ps=[])∨∃h p,R.root pl=p+1∧Sub (PageIs R) h p ⟨#[]⟩ kv ps
structure TurnR(R R':RoomS)(pl:Nat)(ps new:List Nat)(m:Nat):Prop where
 free:∀q∈new,q<R.pages∧R.has q=false
 nodup:new.Nodup
 has:∀q,q<R.pages→R'.has q=(decide (q∈new)||R.has q)
 text:∀q,q<R.pages→q∉ps→q∉new→R'.text q=R.text q
 root:∀j,j≠pl→R'.root j=R.root j
 maps:R'.maps=R.maps
 pages:R'.pages=R.pages
 puts:∃a,R'.T.puts=R.T.puts++a∧a.length≤m
section
variable {R R1 R2 R' : RoomS} {h p pl n : Nat} {lo key val : QB} {kv : KV} {ps new : List Nat} {m : Nat}
theorem vt(h:R'.home 0=R.home 0)(j:Nat):R'.root j=R.root j:=by
 unfold RoomS.root
 rw[h]
theorem Turn.r(h:Turn R R' ps new m):TurnR R R' pl ps new m:=⟨h.free,h.nodup,h.has,h.text,fun j _=>vt h.zero j,h.maps,h.pages,h.puts⟩
theorem Turn.rooted(h:Turn R R1 ps new m)(hfit:R.pages≤R.maps*4096)(hm:R2.maps=R1.maps)(hp:R2.pages=R1.pages)(k:Rooted R1 R2 pl n):TurnR R R2 pl ps new (m+1):=by
 refine⟨h.free,h.nodup,fun q hq=> ?_,fun q hq h1 h2=> ?_,fun j hj=> ?_,hm.trans h.maps,hp.trans h.pages,?_⟩
 ·rw[k.has q (by rw[h.maps];omega),h.has q hq]
 ·rw[k.text q (by rw[h.pages];exact hq),h.text q hq h1 h2]
 ·rw[k.root j,if_neg hj,vt h.zero]
 ·exact zSp
theorem Rooted.sub(k:Rooted R1 R2 pl n)(hfit:R1.pages≤R1.maps*4096)(hp:R2.pages=R1.pages)(hs:Sub (PageIs R1) h p lo kv ps):Sub (PageIs R2) h p lo kv ps:=hs.mono (fun q hq x hx=>by have h1:=hs.page_has q hq;exact hx.of hp (by rw[k.has q (by omega)];exact h1.2) (k.text q h1.1))
theorem Freshed.page{q:Nat}{x:Nd}(h:Freshed R R' q (zS x.text))(hfit:R.pages≤R.maps*4096)(hp:R'.pages=R.pages)(ok:x.ok)(hne:x.keys≠[])(hs:x.size≤512):PageIs R' q x:=by
 have hq:=h.was.1
 exact⟨by rw[hp];exact hq,by rw[h.has q (by omega)];simp,by rw[h.text q hq,if_pos rfl],ok,hne,hs⟩
theorem TurnR.mono(h:TurnR R R' pl ps new m){ps1:List Nat}{m1:Nat}(hs:∀q∈ps,q∈ps1)(hm:m≤m1):TurnR R R' pl ps1 new m1:=⟨h.free,h.nodup,h.has,fun q hq h1 h2=>h.text q hq (fun e=>h1 (hs q e)) h2,h.root,h.maps,h.pages,by obtain⟨a,a1,a2⟩:=h.puts;exact⟨a,a1,by omega⟩⟩
theorem Freshed.turn{q:Nat}{s:QB}(h:Freshed R R' q s)(hfit:R.pages≤R.maps*4096)(hm:R'.maps=R.maps)(hp:R'.pages=R.pages):Turn R R' [] [q] 3:=⟨fun r hr=>by rw[List.mem_singleton.1 hr];exact h.was,List.pairwise_singleton _ _,fun r hr=>by rw[h.has r (by omega)];simp,fun r hr _ h2=>by rw[h.text r hr,if_neg (by simpa using h2)],h.zero,hm,hp,h.puts⟩
end
theorem RoomStep.keep9{br:Nat}{w w':World}{R R':RoomS}(h:RoomStep br w R w' R'):Keep (R.foot br) w w':=h.tx.keep.mono (fun _ _ e=>.inr (TxS.own_foot e))
theorem RoomStep.foot9{br:Nat}{w w':World}{R R':RoomS}(h:RoomStep br w R w' R'){k:Nat}(e:R'.foot br k):R.foot br k∨w.heap.size≤k:=by
 rcases e with e|e
 ·exact .inl (.inl e)
 ·rw[h.bt]at e;exact(h.tx.foot e).imp .inr id
theorem xG{u:World}{b:Nat}{c:Array Value}{T:TypeId}(h:u.heap[b]? =some (.cells c T (0,0))){n:Nat}{l:List Value}(hn:c.toList=l:=by rfl):RowAt u (.slice (some ⟨b,0,none⟩) l.length n) l:=by
 refine⟨some ⟨b,0,none⟩,b,0,n,rfl,fun _=>⟨rfl,(Gl h)⟩,fun j v hj=> ?_⟩
 rw[Nat.zero_add,Qc h j,←hj,←hn,Array.getElem?_toList]
theorem zDz{u:World}:RowAt u (.slice none 0 0) []:=⟨none,0,0,0,rfl,fun h=>absurd h (by simp),fun j v hj=>by simp at hj⟩
theorem zCY{u:World}{B:Nat}{x:Nd}{kv vv cv:Value}(hk:RowAt u kv (zW x.keys))(hv:RowAt u vv (zW x.vals))(hc:RowAt u cv (yh x.kids))(hB:B≤u.heap.size)(ok:∀k,kv.ownBlock=some k→B≤k)(ov:∀k,vv.ownBlock=some k→B≤k)(oc:∀k,cv.ownBlock=some k→B≤k):NdRd (u.alloc (.cells #[.bool x.leaf,kv,vv,cv] 247)) u.heap.size x (fun k=>B≤k):=by
 have hb:Below u.heap.size u (u.alloc (.cells #[.bool x.leaf,kv,vv,cv] 247)):=qA
 have hn:=qH u (.cells #[.bool x.leaf,kv,vv,cv] 247)
 exact⟨by simp,hB,kv,vv,cv,Qc hn 0,Qc hn 1,Qc hn 2,Qc hn 3,hk.still hb,hv.still hb,hc.still hb,ok,ov,oc⟩
theorem zSs{p:Prop}(h:p:=by rw[hb3.cell (p:=⟨tb,0,none⟩) htl];exact Qc ht.cells 0):p:=h
theorem zSt{p:Prop}(h:p:=by have:=(Keep.still ((Below.refl _ _).alloc (Qn _) (.cells #[.int .i64 mk] 3))).at (qH (w.alloc (.cells #[.pointer (some ⟨tb,0,none⟩)] 170)) (.cells #[.int .i64 0] 29)) (fun e=>e);rw[World.size_alloc]at this;exact this):p:=h
theorem zSu{p:Prop}(h:p:=by have hu:=(HS.out u).1 hu;have c0:u.cell? ⟨ws,0,none⟩=some (.pointer (some ⟨tb,0,none⟩)):=Qc (hu.at HP1.out (fun e=>(HNF.out _ e).1 rfl)) 0;clear hu;go_simp;exact⟨rfl,rfl⟩):p:=h
theorem zSv{p:Prop}(h:p:=by obtain⟨a,a1,a2⟩:=hf6.puts;have:=HPU.out;rw[a1,Ql];omega):p:=h
theorem zSw{p:Prop}(h:p:=by rcases HS7.out.foot9 e with e|e;(·rcases HS6.out.foot9 e with e|e;(·exact(HNF.out _ e).2 e2);·have:=HW6.out;omega);·have:=HW6.out;have:=HS6.out.tx.keep.size;omega):p:=h
theorem zSx{p:Prop}(h:p:=by rw[hw5]at hk5 hnd;rw[hw5];have hb5:Below w4.heap.size w4 w5:=hk5.below (Qn _) (fun _ _ e=>e);clear k1 k1a k2 g0 g1 hk5 hw5 hz2 hnd0;have HB5:=Hd hb5;have HNd:=Hd hnd;have htl5:=(Gl HTW.out.cells);have HT5:=Hd (show TreeAt w5 tb br pl from⟨(hb5.block tb htl5).trans HTW.out.cells⟩);have HFr:=Hd (zAh (w:=w5) (tb:=tb) (pl:=pl) (br:=br) (R:=R) (b:=w4.heap.size+1+1) (x:=zF [(key,val)]) HT5.out HTbW.out (HRW.out.still hb5) (by have:=HPU.out;omega) HFREE.out (fun w' hk=>(HNd.out.keep hk (fun k e e2=>by have:=HRW.out.foot_lt9 e2;omega)).r) HOX.out HSX.out);clear hnd htl5;refine yX ?_;refine zi rfl (by rfl) (fun K hK=> ?_);go_simp;go_at_call 156;refine(HFr.out).mono ?_;rintro e w6⟨q,R5,rfl,hs6,hf6⟩;refine hK _ _ ((HS.out _).2 ((Keep.ofBelow (S:=R.foot br) hb5).trans hs6.keep9 (fun _ _ e=>e))) ?_;clear hK K;refine zAj ?_;simp only[List.drop_succ_cons,List.drop_zero];clear S HS;have hq6:q<R.pages:=hf6.was.1;have HSr:=Hd (zCU (⟨hs6.keep9.at HT5.out.cells HTbW.out⟩:TreeAt w6 tb br pl) hs6.at_ (by exact zSv) hpl (p:=q) (by have:=HP16.out;omega));have HS6:=Hd hs6;have HF6:=Hd hf6;clear hs6 hf6 hb5;go_wp2_with(go_at_call 155;refine(HSr.out).mono ?_;rintro e w7⟨rfl,R2,hs7,hro7⟩;(have hw6:ws+1<w5.heap.size:=by have:=(Gl HP2.out);have:=HB5.out.size;omega);have q7:w7.heap[ws+1]? =some (.cells #[.int .i64 0] 29 (0,0)):=hs7.keep9.at (HS6.out.keep9.at (qB HB5.out HP2.out) (fun e=>(HNF.out _ e).2 rfl)) (fun e=>(HS6.out.foot9 e).elim (fun e=>(HNF.out _ e).2 rfl) (fun e=>by omega));have f7:w7.frozen? ⟨ws+1,0,none⟩=false:=zM q7;have c7:w7.cell? ⟨ws+1,0,none⟩=some (.int .i64 0):=Qc q7 0;have HS7:=Hd hs7;have HR7:=Hd hro7;have HW6:=Hd hw6;clear q7 hs7 hro7 hw6);have e9:(w7.setCell ⟨ws+1,0,none⟩ (.int .i64 0)).cell? ⟨ws+1,0,none⟩=some (.int .i64 0):=World.cell?_setCell_same _ _ _ c7;refine leaves_cons (f:=145) (args:= #[.pointer (some ⟨ws+1,0,none⟩)]) (by simp) (by simp[go_sem]) ?_;refine(xF _ _).mono ?_;rintro e u' w''⟨rfl,rfl,rfl⟩;simp only[settle];refine leaves_cons (f:=154) (args:= #[.pointer (some ⟨ws+1,0,none⟩),.pointer (some ⟨ws,0,none⟩),.pointer (some ⟨ws+1+1,0,none⟩)]) (by simp) (by simp[go_sem]) ?_;refine(zC6 _ _ _ _ e9 _).mono ?_;rintro e u' w''⟨rfl,rfl,rfl⟩;simp[Leaves,settle,results,results92,go_sem,e9];(have hnf7:∀k,R2.foot br k→¬k=ws+1:=fun k e e2=>by exact zSw);have hk7:Keep (fun k=>k=ws+1) w7 (w7.setCell ⟨ws+1,0,none⟩ (.int .i64 0)):=(Keep.refl (fun k=>k=ws+1) w7).setCell (p:=⟨ws+1,0,none⟩) (fun _=>rfl) _;(have hfit6:R.pages≤R.maps*4096:=by have:=HRW.out.fit.1;omega);have hpg6:=HF6.out.page hfit6 HS6.out.pages HOX.out (by rw[yP];simp) HSX.out;have htu6:=HF6.out.turn hfit6 HS6.out.maps HS6.out.pages;(have hfit7:R5.pages≤R5.maps*4096:=by rw[HS6.out.pages,HS6.out.maps];exact hfit6);exact⟨R2,(((RoomStep.still HR.out (qT HB4.out HB5.out)).trans HS6.out).trans HS7.out).aside hk7 (fun k e=>by have:=HWs.out;omega) hnf7,q,by rw[HR7.out.root pl,if_pos rfl],HR7.out.sub hfit7 HS7.out.pages ((Lf.mk (by simp) (fun x hx=>zA4 _) (List.pairwise_singleton _ _)).whole hpg6),(htu6.rooted hfit6 HS7.out.maps HS7.out.pages HR7.out).mono (fun q h=>h) (by omega)⟩):p:=h
theorem zKy{w:World}{tb br pl:Nat}{R:RoomS}{L:List Nat}{key val:QB}(ht:TreeAt w tb br pl)(htb:¬R.foot br tb)(hr:RoomAt w br R)(hlen:R.T.puts.length+2000<1000000000000)(h16:R.pages≤65536)(hpl:pl<16)(hk:key.size≤96)(hv:val.size≤56)(hT:R.root pl=0)(hL:∀q,q<R.pages→R.has q=true→q∈L)(hn:L.length+1≤R.pages):Calls prog 92 #[.pointer (some ⟨tb,0,none⟩),.string key,.string val] w fun e w'=>e= .returned (.int .i64 0)∧∃R' p,RoomStep br w R w' R'∧R'.root pl=p+1∧Sub (PageIs R') 0 p ⟨#[]⟩ [(key,val)] [p]∧TurnR R R' pl [] [p] 200:=by
 have hmf:∀(fn:Fn)(first cap:Array Value)(w:World),(Instr.makeFunc fn first cap).run prog w= .ok (.func fn first cap) w:=fun _ _ _ _=>rfl
 have HR:=Hd hr
 have HT:=Hd ht
 have HTb:=Hd htb
 have htl:=(Gl ht.cells)
 have HTl:=Hd htl
 have hb3:Below w.heap.size w (((w.alloc (.cells #[.pointer (some ⟨tb,0,none⟩)] 170)).alloc (.cells #[.int .i64 0] 29)).alloc (.cells #[.int .i64 0] 3)):=((qA).alloc (by simp) _).alloc (by simp;omega) _
 have c0:(((w.alloc (.cells #[.pointer (some ⟨tb,0,none⟩)] 170)).alloc (.cells #[.int .i64 0] 29)).alloc (.cells #[.int .i64 0] 3)).cell? ⟨tb,0,none⟩=some (.pointer (some ⟨br,0,none⟩)):=by exact zSs
 have HM:=Hd (xN (hr.still hb3))
 obtain⟨mk,hmk⟩:=qN R.T.puts.length
 rw[hmk]at HM
 clear hb3 ht htb hr htl
 go_enter_defers func92,ntmps92
 go_wp2_with(fail)
 refine(HM.out).mono ?_
 rintro e _⟨rfl,rfl⟩
 clear HM c0
 go_wp2_with(fail)
 have hb3:Below w.heap.size w (((w.alloc (.cells #[.pointer (some ⟨tb,0,none⟩)] 170)).alloc (.cells #[.int .i64 0] 29)).alloc (.cells #[.int .i64 mk] 3)):=((qA).alloc (by simp) _).alloc (by simp;omega) _
 have q1:(((w.alloc (.cells #[.pointer (some ⟨tb,0,none⟩)] 170)).alloc (.cells #[.int .i64 0] 29)).alloc (.cells #[.int .i64 mk] 3)).heap[w.heap.size]? =some (.cells #[.pointer (some ⟨tb,0,none⟩)] 170 (0,0)):=(Keep.still (((Below.refl _ _).alloc (Qn _) (.cells #[.int .i64 0] 29)).alloc (by simp) (.cells #[.int .i64 mk] 3))).at (qH w _) (fun e=>e)
 have q2:(((w.alloc (.cells #[.pointer (some ⟨tb,0,none⟩)] 170)).alloc (.cells #[.int .i64 0] 29)).alloc (.cells #[.int .i64 mk] 3)).heap[w.heap.size+1]? =some (.cells #[.int .i64 0] 29 (0,0)):=by exact zSt
 obtain⟨w3,hw3⟩:=qN (((w.alloc (.cells #[.pointer (some ⟨tb,0,none⟩)] 170)).alloc (.cells #[.int .i64 0] 29)).alloc (.cells #[.int .i64 mk] 3))
 rw[hw3]at hb3 q1 q2
 rw[hw3]
 have HB3:=Hd hb3
 obtain⟨ws,hws⟩:=qN w.heap.size
 rw[hws]at q1 q2
 rw[hws]
 have HWs:=Hd hws
 have HQ1:=Hd q1
 have HQ2:=Hd q2
 have htr3:TreeAt w3 tb br pl:=⟨(HB3.out.block tb HTl.out).trans HT.out.cells⟩
 have hr3:=HR.out.still HB3.out
 have HT3:=Hd htr3
 have HR3:=Hd hr3
 clear hw3 hws q1 q2 hb3
 have HRt:=Hd (zAN htr3 hr3 hpl (by omega))
 rw[hT]at HRt
 have k96:¬((96:Int)<(key.size:Int)):=by omega
 have v56:¬((56:Int)<(val.size:Int)):=by omega
 clear htr3 hr3
 refine(HRt.out).mono ?_
 rintro e w4⟨rfl,hb4⟩
 have HB4:=Hd (qT HB3.out hb4)
 have q1:w4.heap[ws]? =some (.cells #[.pointer (some ⟨tb,0,none⟩)] 170 (0,0)):=qB hb4 HQ1.out
 have q2:w4.heap[ws+1]? =some (.cells #[.int .i64 0] 29 (0,0)):=qB hb4 HQ2.out
 have HP1:=Hd q1
 have HP2:=Hd q2
 have HRW:=Hd (HR.out.still HB4.out)
 have HTW:=Hd (show TreeAt w4 tb br pl from⟨(HB4.out.block tb HTl.out).trans HT.out.cells⟩)
 have HTbW:=Hd HTb.out
 have HNF:=Hd (show∀k,R.foot br k→k≠ws∧k≠ws+1 from fun k e=>by have:=HR.out.foot_lt9 e;have:=HWs.out;omega)
 have HFREE:=Hd (zCW hL (by omega))
 have HPU:=Hd (show R.T.puts.length+500<1000000000000 by omega)
 have HP16:=Hd h16
 have HOX:=Hd (show(zF [(key,val)]).ok from zDy.2 (fun y hy=>by rw[List.mem_singleton.1 hy];exact⟨hk,hv⟩))
 have HSX:=Hd (show(zF [(key,val)]).size≤512 by rw[zC5];unfold zBj;simp;omega)
 clear hb4 q1 q2 HQ1 HQ2 HT3 HR3 HRt
 go_wp2_with(fail)
 obtain⟨S,hS⟩:∃S:World→Prop,∀u,S u↔Keep (R.foot br) w4 u:=⟨fun u=>Keep (R.foot br) w4 u,fun _=>Iff.rfl⟩
 have HS:=Hd hS
 clear hS
 refine xT 9 (.read 0 (.read 1 (.read 2 (.read 4 (.two 3 (.one 5 (.read 6 (.one 7 (.one 8 .fin)))) 5 (.one 3 (.read 6 (.one 7 (.one 8 .fin))))))))) S (by kernel_rfl) (by kernel_rfl) ((HS.out _).2 (Keep.refl (R.foot br) w4).drew) ?_
 iterate 4 refine yQ rfl (by rfl) (fun K hK=> ?_);apply Exists.intro;refine⟨fun u hu=> ?_,?_⟩;(·exact zSu);go_simp;refine hK _ ?_;clear hK K
 refine zCX ?_ ?_
 ·refine zi rfl (by rfl) (fun K hK=> ?_);go_simp;have k1a:Keep (fun _=>False) w4 (w4.alloc (.cells #[.string key] 9)):=(Keep.refl (fun _=>False) w4).alloc _;have k1:Keep (fun _=>False) w4 (w4.alloc (.cells #[.string key] 9)).drew:=k1a.drew;refine hK _ _ ((HS.out _).2 (k1.mono (fun _ _ e=>e.elim))) ?_;clear hK K;refine yX ?_;refine zi rfl (by rfl) (fun K hK=> ?_);go_simp;have k2:Keep (fun _=>False) w4 ((w4.alloc (.cells #[.string key] 9)).alloc (.cells #[.string val] 9)).drew:=(k1a.alloc _).drew;refine hK _ _ ((HS.out _).2 (k2.mono (fun _ _ e=>e.elim))) ?_;clear hK K;have g0:((w4.alloc (.cells #[.string key] 9)).alloc (.cells #[.string val] 9)).heap[w4.heap.size]? =some (.cells #[.string key] 9 (0,0)):=(Keep.still ((Below.refl _ _).alloc (Qn _) (.cells #[.string val] 9))).at (qH w4 _) (fun e=>e);(have g1:((w4.alloc (.cells #[.string key] 9)).alloc (.cells #[.string val] 9)).heap[w4.heap.size+1]? =some (.cells #[.string val] 9 (0,0)):=by have:=qH (w4.alloc (.cells #[.string key] 9)) (.cells #[.string val] 9);rw[World.size_alloc]at this;exact this);refine yQ rfl (by rfl) (fun K hK=> ?_);apply Exists.intro;refine⟨fun u hu=> ?_,?_⟩;(·go_simp;exact⟨rfl,rfl⟩);go_simp;refine hK _ ?_;clear hK K;refine yX ?_;refine zi rfl (by rfl) (fun K hK=> ?_);go_simp;(have hz2:((w4.alloc (.cells #[.string key] 9)).alloc (.cells #[.string val] 9)).heap.size=w4.heap.size+1+1:=by simp);have hnd0:=zCY (u:=((w4.alloc (.cells #[.string key] 9)).alloc (.cells #[.string val] 9))) (B:=w4.heap.size) (x:=zF [(key,val)]) (xG (n:=1) (l:=zW [key]) g0 rfl) (xG (n:=1) (l:=zW [val]) g1 rfl) zDz (by omega) (fun k e=>by have e2:w4.heap.size=k:=Option.some.inj e;omega) (fun k e=>by have e2:w4.heap.size+1=k:=Option.some.inj e;omega) (fun k e=>by cases e);rw[hz2]at hnd0;have hnd:NdRd (((w4.alloc (.cells #[.string key] 9)).alloc (.cells #[.string val] 9)).alloc (.cells #[.bool true,.slice (some ⟨w4.heap.size,0,none⟩) 1 1,.slice (some ⟨w4.heap.size+1,0,none⟩) 1 1,.slice none 0 0] 247)).drew (w4.heap.size+1+1) (zF [(key,val)]) (fun k=>w4.heap.size≤k):=hnd0.keep (Keep.refl (fun _=>False) (((w4.alloc (.cells #[.string key] 9)).alloc (.cells #[.string val] 9)).alloc (.cells #[.bool true,.slice (some ⟨w4.heap.size,0,none⟩) 1 1,.slice (some ⟨w4.heap.size+1,0,none⟩) 1 1,.slice none 0 0] 247))).drew (fun _ _ e=>e);have hk5:Keep (fun _=>False) w4 (((w4.alloc (.cells #[.string key] 9)).alloc (.cells #[.string val] 9)).alloc (.cells #[.bool true,.slice (some ⟨w4.heap.size,0,none⟩) 1 1,.slice (some ⟨w4.heap.size+1,0,none⟩) 1 1,.slice none 0 0] 247)).drew:=((k1a.alloc _).alloc _).drew;refine hK _ _ ((HS.out _).2 (hk5.mono (fun _ _ e=>e.elim))) ?_;clear hK K;obtain⟨w5,hw5⟩:=qN ((((w4.alloc (.cells #[.string key] 9)).alloc (.cells #[.string val] 9)).alloc (.cells #[.bool true,.slice (some ⟨w4.heap.size,0,none⟩) 1 1,.slice (some ⟨w4.heap.size+1,0,none⟩) 1 1,.slice none 0 0] 247)).drew);exact zSx
 ·refine zi rfl (by rfl) (fun K hK=> ?_);go_simp;have k1a:Keep (fun _=>False) w4 (w4.alloc (.cells #[.string val] 9)):=(Keep.refl (fun _=>False) w4).alloc _;have k1:Keep (fun _=>False) w4 (w4.alloc (.cells #[.string val] 9)).drew:=k1a.drew;refine hK _ _ ((HS.out _).2 (k1.mono (fun _ _ e=>e.elim))) ?_;clear hK K;refine yX ?_;refine zi rfl (by rfl) (fun K hK=> ?_);go_simp;have k2:Keep (fun _=>False) w4 ((w4.alloc (.cells #[.string val] 9)).alloc (.cells #[.string key] 9)).drew:=(k1a.alloc _).drew;refine hK _ _ ((HS.out _).2 (k2.mono (fun _ _ e=>e.elim))) ?_;clear hK K;have g0:((w4.alloc (.cells #[.string val] 9)).alloc (.cells #[.string key] 9)).heap[w4.heap.size]? =some (.cells #[.string val] 9 (0,0)):=(Keep.still ((Below.refl _ _).alloc (Qn _) (.cells #[.string key] 9))).at (qH w4 _) (fun e=>e);(have g1:((w4.alloc (.cells #[.string val] 9)).alloc (.cells #[.string key] 9)).heap[w4.heap.size+1]? =some (.cells #[.string key] 9 (0,0)):=by have:=qH (w4.alloc (.cells #[.string val] 9)) (.cells #[.string key] 9);rw[World.size_alloc]at this;exact this);refine yQ rfl (by rfl) (fun K hK=> ?_);apply Exists.intro;refine⟨fun u hu=> ?_,?_⟩;(·go_simp;exact⟨rfl,rfl⟩);go_simp;refine hK _ ?_;clear hK K;refine yX ?_;refine zi rfl (by rfl) (fun K hK=> ?_);go_simp;(have hz2:((w4.alloc (.cells #[.string val] 9)).alloc (.cells #[.string key] 9)).heap.size=w4.heap.size+1+1:=by simp);have hnd0:=zCY (u:=((w4.alloc (.cells #[.string val] 9)).alloc (.cells #[.string key] 9))) (B:=w4.heap.size) (x:=zF [(key,val)]) (xG (n:=1) (l:=zW [key]) g1 rfl) (xG (n:=1) (l:=zW [val]) g0 rfl) zDz (by omega) (fun k e=>by have e2:w4.heap.size+1=k:=Option.some.inj e;omega) (fun k e=>by have e2:w4.heap.size=k:=Option.some.inj e;omega) (fun k e=>by cases e);rw[hz2]at hnd0;have hnd:NdRd (((w4.alloc (.cells #[.string val] 9)).alloc (.cells #[.string key] 9)).alloc (.cells #[.bool true,.slice (some ⟨w4.heap.size+1,0,none⟩) 1 1,.slice (some ⟨w4.heap.size,0,none⟩) 1 1,.slice none 0 0] 247)).drew (w4.heap.size+1+1) (zF [(key,val)]) (fun k=>w4.heap.size≤k):=hnd0.keep (Keep.refl (fun _=>False) (((w4.alloc (.cells #[.string val] 9)).alloc (.cells #[.string key] 9)).alloc (.cells #[.bool true,.slice (some ⟨w4.heap.size+1,0,none⟩) 1 1,.slice (some ⟨w4.heap.size,0,none⟩) 1 1,.slice none 0 0] 247))).drew (fun _ _ e=>e);have hk5:Keep (fun _=>False) w4 (((w4.alloc (.cells #[.string val] 9)).alloc (.cells #[.string key] 9)).alloc (.cells #[.bool true,.slice (some ⟨w4.heap.size+1,0,none⟩) 1 1,.slice (some ⟨w4.heap.size,0,none⟩) 1 1,.slice none 0 0] 247)).drew:=((k1a.alloc _).alloc _).drew;refine hK _ _ ((HS.out _).2 (hk5.mono (fun _ _ e=>e.elim))) ?_;clear hK K;obtain⟨w5,hw5⟩:=qN ((((w4.alloc (.cells #[.string val] 9)).alloc (.cells #[.string key] 9)).alloc (.cells #[.bool true,.slice (some ⟨w4.heap.size+1,0,none⟩) 1 1,.slice (some ⟨w4.heap.size,0,none⟩) 1 1,.slice none 0 0] 247)).drew);exact zSx
def rootOf(p:Nat)(k2:QB)(q2:Nat):Nd:=⟨false,[⟨#[]⟩,k2],[],[p,q2]⟩
theorem zFe{p q2:Nat}{k2:QB}{kv1 kv2:KV}{ps1 ps2:List Nat}:rootOf p k2 q2=zJ [⟨⟨#[]⟩,p,kv1,ps1⟩,⟨k2,q2,kv2,ps2⟩]:=rfl
theorem zSy{p:Prop}(h:p:=by rw[hw5]at hk5 hnd;rw[hw5];have hb5:Below w5p.heap.size w5p w5:=hk5.below (Qn _) (fun _ _ e=>e);clear k1 k1a k2 g0 g1 hk5 hw5 hz2 hnd0;have HB5:=Hd hb5;have HNd:=Hd hnd;have htl5:=(Gl HTW.out.cells);have HT5:=Hd (show TreeAt w5 tb br pl from⟨(hb5.block tb htl5).trans HTW.out.cells⟩);have HFr:=Hd (zAh (w:=w5) (tb:=tb) (pl:=pl) (br:=br) (R:=R1) (b:=w5p.heap.size+1+1) (x:=rootOf p key2 q2) HT5.out HTbW.out (HRW.out.still hb5) (by have:=HPU.out;omega) HFREE.out (fun w' hk=>(HNd.out.keep hk (fun k e e2=>by have:=HRW.out.foot_lt9 e2;omega)).r) HOX.out HSX.out);clear hnd htl5;refine yX ?_;refine zi rfl (by rfl) (fun K hK=> ?_);go_simp;go_at_call 156;refine(HFr.out).mono ?_;rintro e w6⟨q,R5,rfl,hs6,hf6⟩;refine hK _ _ ((HS.out _).2 ((Keep.ofBelow (S:=R1.foot br) hb5).trans hs6.keep9 (fun _ _ e=>e))) ?_;clear hK K;refine zAj ?_;simp only[List.drop_succ_cons,List.drop_zero];clear S HS;have hq6:q<R1.pages:=hf6.was.1;have HSr:=Hd (zCU (⟨hs6.keep9.at HT5.out.cells HTbW.out⟩:TreeAt w6 tb br pl) hs6.at_ (by exact zSv) hpl (p:=q) (by have:=HP16.out;omega));have HS6:=Hd hs6;have HF6:=Hd hf6;clear hs6 hf6 hb5;go_wp2_with(go_at_call 155;refine(HSr.out).mono ?_;rintro e w7⟨rfl,R2,hs7,hro7⟩;(have hw6:ws+1<w5.heap.size:=by have:=(Gl HP2.out);have:=HB5.out.size;omega);have q7:w7.heap[ws+1]? =some (.cells #[.int .i64 0] 29 (0,0)):=hs7.keep9.at (HS6.out.keep9.at (qB HB5.out HP2.out) (fun e=>(HNF.out _ e).2 rfl)) (fun e=>(HS6.out.foot9 e).elim (fun e=>(HNF.out _ e).2 rfl) (fun e=>by omega));have f7:w7.frozen? ⟨ws+1,0,none⟩=false:=zM q7;have c7:w7.cell? ⟨ws+1,0,none⟩=some (.int .i64 0):=Qc q7 0;have HS7:=Hd hs7;have HR7:=Hd hro7;have HW6:=Hd hw6;clear q7 hs7 hro7 hw6);have e9:(w7.setCell ⟨ws+1,0,none⟩ (.int .i64 0)).cell? ⟨ws+1,0,none⟩=some (.int .i64 0):=World.cell?_setCell_same _ _ _ c7;refine leaves_cons (f:=145) (args:= #[.pointer (some ⟨ws+1,0,none⟩)]) (by simp) (by simp[go_sem]) ?_;refine(xF _ _).mono ?_;rintro e u' w''⟨rfl,rfl,rfl⟩;simp only[settle];refine leaves_cons (f:=154) (args:= #[.pointer (some ⟨ws+1,0,none⟩),.pointer (some ⟨ws,0,none⟩),.pointer (some ⟨ws+1+1,0,none⟩)]) (by simp) (by simp[go_sem]) ?_;refine(zC6 _ _ _ _ e9 _).mono ?_;rintro e u' w''⟨rfl,rfl,rfl⟩;simp[Leaves,settle,results,results92,go_sem,e9];(have hnf7:∀k,R2.foot br k→¬k=ws+1:=fun k e e2=>by exact zSw);have hk7:Keep (fun k=>k=ws+1) w7 (w7.setCell ⟨ws+1,0,none⟩ (.int .i64 0)):=(Keep.refl (fun k=>k=ws+1) w7).setCell (p:=⟨ws+1,0,none⟩) (fun _=>rfl) _;(have hfit6:R1.pages≤R1.maps*4096:=by have:=HRW.out.fit.1;omega);have hpg6:=HF6.out.page hfit6 HS6.out.pages HOX.out (by unfold rootOf;simp) HSX.out;have htu6:=HF6.out.turn hfit6 HS6.out.maps HS6.out.pages;(have hfit7:R5.pages≤R5.maps*4096:=by rw[HS6.out.pages,HS6.out.maps];exact hfit6);have hk2m:=HKm.out.frame htu6 (fun q _ e=>by cases e);(have hlo:c1.key=⟨#[]⟩:=by have:=HKm.out.head;simpa using this);(have hro:rootOf p key2 q2=zJ [c1,c2]:=by rw[←HC1.out,←HK2.out,←HQ2.out];unfold rootOf zJ;simp[hlo]);rw[hro]at hpg6;have hsub5:=hk2m.whole (by simp) hpg6;rw[HKv.out]at hsub5;have htt:=(HTu.out.trans htu6).rooted (by have:=HR.out.fit.1;omega) HS7.out.maps HS7.out.pages HR7.out;exact⟨R2,(((HS5.out.trans (RoomStep.still HRW.out HB5.out)).trans HS6.out).trans HS7.out).aside hk7 (fun k e=>by have:=HWs.out;omega) hnf7,h+1,q,by rw[HR7.out.root pl,if_pos rfl],q::[c1,c2].flatMap Kid.ps,HR7.out.sub hfit7 HS7.out.pages hsub5,new++[q],((HPm.out.cons q).trans (by rw[←Qa];exact List.perm_append_comm (l₁:=[q]) (l₂:=ps++new))),by rw[Ql];have:=HNl.out;simp;omega,htt.mono (fun q h=>by simpa using h) (by omega)⟩):p:=h
theorem zKz{w:World}{tb br pl h p:Nat}{R:RoomS}{kv:KV}{ps L:List Nat}{key val:QB}(ht:TreeAt w tb br pl)(htb:¬R.foot br tb)(hr:RoomAt w br R)(hlen:R.T.puts.length+2000<1000000000000)(h16:R.pages≤65536)(hpl:pl<16)(hk:key.size≤96)(hv:val.size≤56)(hT:R.root pl=p+1)(hs:Sub (PageIs R) h p ⟨#[]⟩ kv ps)(hh:h<20)(hnd:ps.Nodup)(hL:∀q,q<R.pages→R.has q=true→q∈L)(hn:L.length+h+2≤R.pages):Calls prog 92 #[.pointer (some ⟨tb,0,none⟩),.string key,.string val] w fun e w'=>e= .returned (.int .i64 0)∧∃R' h' p' ps' new,RoomStep br w R w' R'∧R'.root pl=p'+1∧Sub (PageIs R') h' p' ⟨#[]⟩ (ins kv key val) ps'∧ps'.Perm (ps++new)∧new.length≤30∧TurnR R R' pl ps new 200:=by
 have hmf:∀(fn:Fn)(first cap:Array Value)(w:World),(Instr.makeFunc fn first cap).run prog w= .ok (.func fn first cap) w:=fun _ _ _ _=>rfl
 have HR:=Hd hr
 have HT:=Hd ht
 have HTb:=Hd htb
 have htl:=(Gl ht.cells)
 have HTl:=Hd htl
 have hb3:Below w.heap.size w (((w.alloc (.cells #[.pointer (some ⟨tb,0,none⟩)] 170)).alloc (.cells #[.int .i64 0] 29)).alloc (.cells #[.int .i64 0] 3)):=((qA).alloc (by simp) _).alloc (by simp;omega) _
 have c0:(((w.alloc (.cells #[.pointer (some ⟨tb,0,none⟩)] 170)).alloc (.cells #[.int .i64 0] 29)).alloc (.cells #[.int .i64 0] 3)).cell? ⟨tb,0,none⟩=some (.pointer (some ⟨br,0,none⟩)):=by exact zSs
 have HM:=Hd (xN (hr.still hb3))
 obtain⟨mk,hmk⟩:=qN R.T.puts.length
 rw[hmk]at HM
 clear hb3 ht htb hr htl
 go_enter_defers func92,ntmps92
 go_wp2_with(fail)
 refine(HM.out).mono ?_
 rintro e _⟨rfl,rfl⟩
 clear HM c0
 go_wp2_with(fail)
 have hb3:Below w.heap.size w (((w.alloc (.cells #[.pointer (some ⟨tb,0,none⟩)] 170)).alloc (.cells #[.int .i64 0] 29)).alloc (.cells #[.int .i64 mk] 3)):=((qA).alloc (by simp) _).alloc (by simp;omega) _
 have q1:(((w.alloc (.cells #[.pointer (some ⟨tb,0,none⟩)] 170)).alloc (.cells #[.int .i64 0] 29)).alloc (.cells #[.int .i64 mk] 3)).heap[w.heap.size]? =some (.cells #[.pointer (some ⟨tb,0,none⟩)] 170 (0,0)):=(Keep.still (((Below.refl _ _).alloc (Qn _) (.cells #[.int .i64 0] 29)).alloc (by simp) (.cells #[.int .i64 mk] 3))).at (qH w _) (fun e=>e)
 have q2:(((w.alloc (.cells #[.pointer (some ⟨tb,0,none⟩)] 170)).alloc (.cells #[.int .i64 0] 29)).alloc (.cells #[.int .i64 mk] 3)).heap[w.heap.size+1]? =some (.cells #[.int .i64 0] 29 (0,0)):=by exact zSt
 obtain⟨w3,hw3⟩:=qN (((w.alloc (.cells #[.pointer (some ⟨tb,0,none⟩)] 170)).alloc (.cells #[.int .i64 0] 29)).alloc (.cells #[.int .i64 mk] 3))
 rw[hw3]at hb3 q1 q2
 rw[hw3]
 have HB3:=Hd hb3
 obtain⟨ws,hws⟩:=qN w.heap.size
 rw[hws]at q1 q2
 rw[hws]
 have HWs:=Hd hws
 have HQ1:=Hd q1
 have HQ2:=Hd q2
 have htr3:TreeAt w3 tb br pl:=⟨(HB3.out.block tb HTl.out).trans HT.out.cells⟩
 have hr3:=HR.out.still HB3.out
 have HT3:=Hd htr3
 have HR3:=Hd hr3
 clear hw3 hws q1 q2 hb3
 have hpp:=hs.p16
 have HRt:=Hd (zAN htr3 hr3 hpl (by omega))
 rw[hT]at HRt
 have hp1:(((p+1:Nat):Int)-1)=(p:Int):=by omega
 rw[hp1]at HRt
 have k96:¬((96:Int)<(key.size:Int)):=by omega
 have v56:¬((56:Int)<(val.size:Int)):=by omega
 have p0:(0:Int)≤(p:Int):=by omega
 clear htr3 hr3 hp1
 refine(HRt.out).mono ?_
 rintro e w4⟨rfl,hb4⟩
 have HB4:=Hd (qT HB3.out hb4)
 have q1:w4.heap[ws]? =some (.cells #[.pointer (some ⟨tb,0,none⟩)] 170 (0,0)):=qB hb4 HQ1.out
 have q2:w4.heap[ws+1]? =some (.cells #[.int .i64 0] 29 (0,0)):=qB hb4 HQ2.out
 have d1:w4.cell? ⟨ws,0,none⟩=some (.pointer (some ⟨tb,0,none⟩)):=Qc q1 0
 have HO1:=Hd q1
 have HO2:=Hd q2
 have HTW4:=Hd (show TreeAt w4 tb br pl from⟨(HB4.out.block tb HTl.out).trans HT.out.cells⟩)
 have HNF4:=Hd (show∀k,R.foot br k→k≠ws∧k≠ws+1 from fun k e=>by have:=HR.out.foot_lt9 e;have:=HWs.out;omega)
 have hpt:=zOc (tb:=tb) (br:=br) (pl:=pl) hk hv h (w:=w4) (deep:=0) HTW4.out HTb.out (HR.out.still HB4.out) (by omega) h16 hs (zA4 key) (by omega) hnd hL (by omega)
 rw[show(((0:Nat)):Int)=0 from rfl]at hpt
 have HPt:=Hd hpt
 have HLn:=Hd hlen
 have HLL:=Hd (show(∀q,q<R.pages→R.has q=true→q∈L)∧L.length+h+2≤R.pages from⟨hL,hn⟩)
 have H16:=Hd h16
 have HSb:=Hd hs
 have HRoot:=Hd hT
 clear hb4 q1 q2 HQ1 HQ2 HT3 HR3 HRt hpt hs hnd hL hT
 go_wp2_with(fail)
 refine(HPt.out).mono ?_
 rintro e w5p⟨R1,hs5,m,new,hsh,hkm,hkv,hpm,htu,hnl⟩
 have g1:w5p.heap[ws]? =some (.cells #[.pointer (some ⟨tb,0,none⟩)] 170 (0,0)):=hs5.keep9.at HO1.out (fun e=>(HNF4.out _ e).1 rfl)
 have g2:w5p.heap[ws+1]? =some (.cells #[.int .i64 0] 29 (0,0)):=hs5.keep9.at HO2.out (fun e=>(HNF4.out _ e).2 rfl)
 have f5:w5p.frozen? ⟨ws+1,0,none⟩=false:=zM g2
 have c5:w5p.cell? ⟨ws+1,0,none⟩=some (.int .i64 0):=Qc g2 0
 have HP1:=Hd g1
 have HP2:=Hd g2
 have HNF:=Hd (show∀k,R1.foot br k→k≠ws∧k≠ws+1 from fun k e=>(hs5.foot9 e).elim (HNF4.out k) (fun e2=>by have:=(Gl HO2.out);have:=(Gl HO1.out);omega))
 have HS5:=Hd ((RoomStep.still HR.out HB4.out).trans hs5)
 have HTu:=Hd htu
 have HKm:=Hd hkm
 have HKv:=Hd hkv
 have HPm:=Hd hpm
 have HNl:=Hd hnl
 have HHh:=Hd hh
 rcases hsh with⟨c,rfl,hc1,rfl⟩|⟨c1,c2,rfl,hc1,rfl,hc2,hc3⟩
 ·have HC1:=Hd hc1;clear hs5 htu hkm hkv hpm g1 g2 hc1;unfold zAi;go_wp2_with(fail);have e9:(w5p.setCell ⟨ws+1,0,none⟩ (.int .i64 0)).cell? ⟨ws+1,0,none⟩=some (.int .i64 0):=World.cell?_setCell_same _ _ _ c5;refine leaves_cons (f:=145) (args:= #[.pointer (some ⟨ws+1,0,none⟩)]) (by simp) (by simp[go_sem]) ?_;refine(xF _ _).mono ?_;rintro e u' w''⟨rfl,rfl,rfl⟩;simp only[settle];refine leaves_cons (f:=154) (args:= #[.pointer (some ⟨ws+1,0,none⟩),.pointer (some ⟨ws,0,none⟩),.pointer (some ⟨ws+1+1,0,none⟩)]) (by simp) (by simp[go_sem]) ?_;refine(zC6 _ _ _ _ e9 _).mono ?_;rintro e u' w''⟨rfl,rfl,rfl⟩;simp[Leaves,settle,results,results92,go_sem,e9];have hk7:Keep (fun k=>k=ws+1) w5p (w5p.setCell ⟨ws+1,0,none⟩ (.int .i64 0)):=(Keep.refl (fun k=>k=ws+1) w5p).setCell (p:=⟨ws+1,0,none⟩) (fun _=>rfl) _;have hsb:=HKm.out.sub c (by simp);(have hlo:c.key=⟨#[]⟩:=by have:=HKm.out.head;simpa using this);rw[HC1.out,hlo]at hsb;(have hkv9:c.kv=ins kv key val:=by have:=HKv.out;simpa using this);rw[hkv9]at hsb;(have hpm9:c.ps.Perm (ps++new):=by have:=HPm.out;simpa using this);exact⟨R1,HS5.out.aside hk7 (fun k e=>by have:=HWs.out;omega) (fun k e e2=>(HNF.out k e).2 e2),h,p,by rw[vt HTu.out.zero,HRoot.out],c.ps,hsb,new,hpm9,by have:=HHh.out;omega,(HTu.out.r).mono (fun q h=>h) (by have:=HHh.out;omega)⟩
 ·obtain⟨key2,hk2⟩:=qN c2.key;obtain⟨q2,hq2⟩:=qN c2.page;rw[hk2]at hc2;rw[hq2]at hc3;rw[hk2,hq2];have HC1:=Hd hc1;have HK2:=Hd hk2;have HQ2:=Hd hq2;have HRW:=Hd hs5.at_;have HTW:=Hd (show TreeAt w5p tb br pl from⟨hs5.keep9.at HTW4.out.cells HTb.out⟩);have HTbW:=Hd (show¬R1.foot br tb from fun e=>(hs5.foot9 e).elim HTb.out (fun e2=>by have:=(Gl HTW4.out.cells);omega));have HFREE:=Hd (show∃q,q<R1.pages∧R1.has q=false from by refine zCW (L:=L++new) (fun q hq h=> ?_) (by rw[Ql,htu.pages];have:=HLL.out.2;omega);rw[htu.pages]at hq;rw[htu.has q hq]at h;simp only[Bool.or_eq_true,decide_eq_true_eq]at h;exact List.mem_append.2 (h.elim (fun e=>.inr e) (fun e=>.inl (HLL.out.1 q hq e))));have HPU:=Hd (show R1.T.puts.length+500<1000000000000 by obtain⟨a,a1,a2⟩:=htu.puts;rw[a1,Ql];have:=HLn.out;omega);have HP16:=Hd (show R1.pages≤65536 by rw[htu.pages];exact H16.out);have HOX:=Hd (show(rootOf p key2 q2).ok from by rw[zFe (kv1:=[]) (kv2:=[]) (ps1:=[]) (ps2:=[])];refine zAO.2 (fun y hy=> ?_);simp only[List.mem_cons,List.not_mem_nil,or_false]at hy;rcases hy with e|e<;>rw[e];(·exact⟨(by show(⟨#[]⟩:QB).size≤96;decide),(by show p<65536;have:=H16.out;omega)⟩);·exact⟨hc2,hc3⟩);have HSX:=Hd (show(rootOf p key2 q2).size≤512 from by rw[zFe (kv1:=[]) (kv2:=[]) (ps1:=[]) (ps2:=[]),kI];show 3+((5+(⟨#[]⟩:QB).size)+((5+key2.size)+0))≤512;have:(⟨#[]⟩:QB).size=0:=rfl;omega);clear hs5 htu hkm hkv hpm g1 g2 hc1 hk2 hq2;unfold oneMore;go_wp2_with(fail);obtain⟨S,hS⟩:∃S:World→Prop,∀u,S u↔Keep (R1.foot br) w5p u:=⟨fun u=>Keep (R1.foot br) w5p u,fun _=>Iff.rfl⟩;have HS:=Hd hS;clear hS;refine xT 10 (.read 0 (.read 1 (.read 2 (.read 4 (.read 5 (.two 3 (.one 6 (.read 7 (.one 8 (.one 9 .fin)))) 6 (.one 3 (.read 7 (.one 8 (.one 9 .fin)))))))))) S (by kernel_rfl) (by kernel_rfl) ((HS.out _).2 (Keep.refl (R1.foot br) w5p).drew) ?_;(iterate 5 refine yQ rfl (by rfl) (fun K hK=> ?_);apply Exists.intro;refine⟨fun u hu=> ?_,?_⟩;(·exact zSu);go_simp;refine hK _ ?_;clear hK K);refine zCX ?_ ?_;(·refine zi rfl (by rfl) (fun K hK=> ?_);go_simp;have k1a:Keep (fun _=>False) w5p (w5p.alloc (.cells #[.string ⟨#[]⟩,.string key2] 9)):=(Keep.refl (fun _=>False) w5p).alloc _;have k1:Keep (fun _=>False) w5p (w5p.alloc (.cells #[.string ⟨#[]⟩,.string key2] 9)).drew:=k1a.drew;refine hK _ _ ((HS.out _).2 (k1.mono (fun _ _ e=>e.elim))) ?_;clear hK K;refine yX ?_;refine zi rfl (by rfl) (fun K hK=> ?_);go_simp;have k2:Keep (fun _=>False) w5p ((w5p.alloc (.cells #[.string ⟨#[]⟩,.string key2] 9)).alloc (.cells #[.int .i64 p,.int .i64 q2] 3)).drew:=(k1a.alloc _).drew;refine hK _ _ ((HS.out _).2 (k2.mono (fun _ _ e=>e.elim))) ?_;clear hK K;have g0:((w5p.alloc (.cells #[.string ⟨#[]⟩,.string key2] 9)).alloc (.cells #[.int .i64 p,.int .i64 q2] 3)).heap[w5p.heap.size]? =some (.cells #[.string ⟨#[]⟩,.string key2] 9 (0,0)):=(Keep.still ((Below.refl _ _).alloc (Qn _) (.cells #[.int .i64 p,.int .i64 q2] 3))).at (qH w5p _) (fun e=>e);(have g1:((w5p.alloc (.cells #[.string ⟨#[]⟩,.string key2] 9)).alloc (.cells #[.int .i64 p,.int .i64 q2] 3)).heap[w5p.heap.size+1]? =some (.cells #[.int .i64 p,.int .i64 q2] 3 (0,0)):=by have:=qH (w5p.alloc (.cells #[.string ⟨#[]⟩,.string key2] 9)) (.cells #[.int .i64 p,.int .i64 q2] 3);rw[World.size_alloc]at this;exact this);refine yQ rfl (by rfl) (fun K hK=> ?_);apply Exists.intro;refine⟨fun u hu=> ?_,?_⟩;(·go_simp;exact⟨rfl,rfl⟩);go_simp;refine hK _ ?_;clear hK K;refine yX ?_;refine zi rfl (by rfl) (fun K hK=> ?_);go_simp;(have hz2:((w5p.alloc (.cells #[.string ⟨#[]⟩,.string key2] 9)).alloc (.cells #[.int .i64 p,.int .i64 q2] 3)).heap.size=w5p.heap.size+1+1:=by simp);have hnd0:=zCY (u:=((w5p.alloc (.cells #[.string ⟨#[]⟩,.string key2] 9)).alloc (.cells #[.int .i64 p,.int .i64 q2] 3))) (B:=w5p.heap.size) (x:=rootOf p key2 q2) (xG (n:=2) (l:=zW [⟨#[]⟩,key2]) g0 rfl) zDz (xG (n:=2) (l:=yh [p,q2]) g1 rfl) (by omega) (fun k e=>by have e2:w5p.heap.size=k:=Option.some.inj e;omega) (fun k e=>by cases e) (fun k e=>by have e2:w5p.heap.size+1=k:=Option.some.inj e;omega);rw[hz2]at hnd0;have hnd:NdRd (((w5p.alloc (.cells #[.string ⟨#[]⟩,.string key2] 9)).alloc (.cells #[.int .i64 p,.int .i64 q2] 3)).alloc (.cells #[.bool false,.slice (some ⟨w5p.heap.size,0,none⟩) 2 2,.slice none 0 0,.slice (some ⟨w5p.heap.size+1,0,none⟩) 2 2] 247)).drew (w5p.heap.size+1+1) (rootOf p key2 q2) (fun k=>w5p.heap.size≤k):=hnd0.keep (Keep.refl (fun _=>False) (((w5p.alloc (.cells #[.string ⟨#[]⟩,.string key2] 9)).alloc (.cells #[.int .i64 p,.int .i64 q2] 3)).alloc (.cells #[.bool false,.slice (some ⟨w5p.heap.size,0,none⟩) 2 2,.slice none 0 0,.slice (some ⟨w5p.heap.size+1,0,none⟩) 2 2] 247))).drew (fun _ _ e=>e);have hk5:Keep (fun _=>False) w5p (((w5p.alloc (.cells #[.string ⟨#[]⟩,.string key2] 9)).alloc (.cells #[.int .i64 p,.int .i64 q2] 3)).alloc (.cells #[.bool false,.slice (some ⟨w5p.heap.size,0,none⟩) 2 2,.slice none 0 0,.slice (some ⟨w5p.heap.size+1,0,none⟩) 2 2] 247)).drew:=((k1a.alloc _).alloc _).drew;refine hK _ _ ((HS.out _).2 (hk5.mono (fun _ _ e=>e.elim))) ?_;clear hK K;obtain⟨w5,hw5⟩:=qN ((((w5p.alloc (.cells #[.string ⟨#[]⟩,.string key2] 9)).alloc (.cells #[.int .i64 p,.int .i64 q2] 3)).alloc (.cells #[.bool false,.slice (some ⟨w5p.heap.size,0,none⟩) 2 2,.slice none 0 0,.slice (some ⟨w5p.heap.size+1,0,none⟩) 2 2] 247)).drew);exact zSy);·refine zi rfl (by rfl) (fun K hK=> ?_);go_simp;have k1a:Keep (fun _=>False) w5p (w5p.alloc (.cells #[.int .i64 p,.int .i64 q2] 3)):=(Keep.refl (fun _=>False) w5p).alloc _;have k1:Keep (fun _=>False) w5p (w5p.alloc (.cells #[.int .i64 p,.int .i64 q2] 3)).drew:=k1a.drew;refine hK _ _ ((HS.out _).2 (k1.mono (fun _ _ e=>e.elim))) ?_;clear hK K;refine yX ?_;refine zi rfl (by rfl) (fun K hK=> ?_);go_simp;have k2:Keep (fun _=>False) w5p ((w5p.alloc (.cells #[.int .i64 p,.int .i64 q2] 3)).alloc (.cells #[.string ⟨#[]⟩,.string key2] 9)).drew:=(k1a.alloc _).drew;refine hK _ _ ((HS.out _).2 (k2.mono (fun _ _ e=>e.elim))) ?_;clear hK K;have g0:((w5p.alloc (.cells #[.int .i64 p,.int .i64 q2] 3)).alloc (.cells #[.string ⟨#[]⟩,.string key2] 9)).heap[w5p.heap.size]? =some (.cells #[.int .i64 p,.int .i64 q2] 3 (0,0)):=(Keep.still ((Below.refl _ _).alloc (Qn _) (.cells #[.string ⟨#[]⟩,.string key2] 9))).at (qH w5p _) (fun e=>e);(have g1:((w5p.alloc (.cells #[.int .i64 p,.int .i64 q2] 3)).alloc (.cells #[.string ⟨#[]⟩,.string key2] 9)).heap[w5p.heap.size+1]? =some (.cells #[.string ⟨#[]⟩,.string key2] 9 (0,0)):=by have:=qH (w5p.alloc (.cells #[.int .i64 p,.int .i64 q2] 3)) (.cells #[.string ⟨#[]⟩,.string key2] 9);rw[World.size_alloc]at this;exact this);refine yQ rfl (by rfl) (fun K hK=> ?_);apply Exists.intro;refine⟨fun u hu=> ?_,?_⟩;(·go_simp;exact⟨rfl,rfl⟩);go_simp;refine hK _ ?_;clear hK K;refine yX ?_;refine zi rfl (by rfl) (fun K hK=> ?_);go_simp;(have hz2:((w5p.alloc (.cells #[.int .i64 p,.int .i64 q2] 3)).alloc (.cells #[.string ⟨#[]⟩,.string key2] 9)).heap.size=w5p.heap.size+1+1:=by simp);have hnd0:=zCY (u:=((w5p.alloc (.cells #[.int .i64 p,.int .i64 q2] 3)).alloc (.cells #[.string ⟨#[]⟩,.string key2] 9))) (B:=w5p.heap.size) (x:=rootOf p key2 q2) (xG (n:=2) (l:=zW [⟨#[]⟩,key2]) g1 rfl) zDz (xG (n:=2) (l:=yh [p,q2]) g0 rfl) (by omega) (fun k e=>by have e2:w5p.heap.size+1=k:=Option.some.inj e;omega) (fun k e=>by cases e) (fun k e=>by have e2:w5p.heap.size=k:=Option.some.inj e;omega);rw[hz2]at hnd0;have hnd:NdRd (((w5p.alloc (.cells #[.int .i64 p,.int .i64 q2] 3)).alloc (.cells #[.string ⟨#[]⟩,.string key2] 9)).alloc (.cells #[.bool false,.slice (some ⟨w5p.heap.size+1,0,none⟩) 2 2,.slice none 0 0,.slice (some ⟨w5p.heap.size,0,none⟩) 2 2] 247)).drew (w5p.heap.size+1+1) (rootOf p key2 q2) (fun k=>w5p.heap.size≤k):=hnd0.keep (Keep.refl (fun _=>False) (((w5p.alloc (.cells #[.int .i64 p,.int .i64 q2] 3)).alloc (.cells #[.string ⟨#[]⟩,.string key2] 9)).alloc (.cells #[.bool false,.slice (some ⟨w5p.heap.size+1,0,none⟩) 2 2,.slice none 0 0,.slice (some ⟨w5p.heap.size,0,none⟩) 2 2] 247))).drew (fun _ _ e=>e);have hk5:Keep (fun _=>False) w5p (((w5p.alloc (.cells #[.int .i64 p,.int .i64 q2] 3)).alloc (.cells #[.string ⟨#[]⟩,.string key2] 9)).alloc (.cells #[.bool false,.slice (some ⟨w5p.heap.size+1,0,none⟩) 2 2,.slice none 0 0,.slice (some ⟨w5p.heap.size,0,none⟩) 2 2] 247)).drew:=((k1a.alloc _).alloc _).drew;refine hK _ _ ((HS.out _).2 (hk5.mono (fun _ _ e=>e.elim))) ?_;clear hK K;obtain⟨w5,hw5⟩:=qN ((((w5p.alloc (.cells #[.int .i64 p,.int .i64 q2] 3)).alloc (.cells #[.string ⟨#[]⟩,.string key2] 9)).alloc (.cells #[.bool false,.slice (some ⟨w5p.heap.size+1,0,none⟩) 2 2,.slice none 0 0,.slice (some ⟨w5p.heap.size,0,none⟩) 2 2] 247)).drew);exact zSy
def zc(n:Nat):Nat:=if n≤506 then 1 else(n-1)/506+1
theorem zBy(n:Nat):1≤zc n:=by
 unfold zc
 split<;>omega
theorem zBk(n:Nat):n≤506*zc n:=by
 unfold zc
 split<;>omega
theorem zCZ(n i:Nat)(h:i+1<zc n):506*(i+1)<n:=by
 unfold zc at h
 split at h<;>omega
theorem zFf(n:Nat)(h:n≤131072):zc n≤260:=by
 unfold zc
 split<;>omega
def zBl(next n:Nat):List UInt8:=[UInt8.ofNat (next/16777216 %256),UInt8.ofNat (next/65536 %256),UInt8.ofNat (next/256 %256),UInt8.ofNat (next %256),UInt8.ofNat (n/256 %256),UInt8.ofNat (n %256)]
def kK(next n:Nat):QB:=⟨(zBl next n).toArray⟩
def ye(next:Nat)(s:QB):QB:=kK next s.size++s
theorem kL(next n:Nat):(kK next n).size=6:=rfl
theorem zBz(next:Nat)(s:QB):(ye next s).size=6+s.size:=by
 unfold ye
 rw[ByteArray.size_append,kL]
theorem zET(next:Nat)(s:QB):(ye next s).data.toList=zBl next s.size++s.data.toList:=by
 unfold ye kK
 simp
theorem zJK(next:Nat)(s:QB)(k:Nat)(hk:k<6):zG (zS (ye next s)) k=((zBl next s.size).getD k 0).toNat:=by
 rw[zDS]
 unfold zG
 rw[zET,List.getD_eq_getElem?_getD,List.getD_eq_getElem?_getD,List.getElem?_append_left (by show k<6;exact hk)]
theorem zJL(next:Nat)(s:QB):zG (zS (ye next s)) 0=next/16777216 %256∧zG (zS (ye next s)) 1=next/65536 %256∧zG (zS (ye next s)) 2=next/256 %256∧zG (zS (ye next s)) 3=next %256∧zG (zS (ye next s)) 4=s.size/256 %256∧zG (zS (ye next s)) 5=s.size %256:=by
 refine⟨?_,?_,?_,?_,?_,?_⟩<;>rw[zJK _ _ _ (by decide)]<;>simp[zBl]
theorem zK0(next:Nat)(s:QB)(hs:s.size≤506):(zS (ye next s)).extract 6 (6+s.size)=s:=by
 have hz:(zS (ye next s)).size=512:=vz _ (by rw[zBz];omega)
 have hb:∀k,zG (zS (ye next s)) k=zG (ye next s) k:=fun k=>zDS _ k
 generalize zS (ye next s)=t at*
 have he:(t.extract 6 (6+s.size)).size=s.size:=by rw[ByteArray.size_extract];omega
 refine zFV he (fun k hk=> ?_)
 rw[he]at hk
 have h1:zG (t.extract 6 (6+s.size)) k=zG t (6+k):=by unfold zG;rw[ext_get t 6 (6+s.size) k (by omega) (by omega)]
 rw[h1,hb]
 unfold zG
 rw[zET,List.getD_eq_getElem?_getD,List.getElem?_append_right (by show 6≤6+k;omega)]
 show((s.data.toList[6+k-6]?).getD 0).toNat=_
 rw[show 6+k-6=k by omega,List.getD_eq_getElem?_getD]
theorem zOe{p:Prop}(h:p:=by rw[this,←Nat.two_pow_add_eq_or_of_lt (by omega)];omega):p:=h
theorem or4(n:Nat)(h:n<4294967296):n/16777216 %256*16777216|||n/65536 %256*65536|||n/256 %256*256|||n %256=n:=by
 have e1:n/16777216 %256*16777216|||n/65536 %256*65536=n/65536*65536:=by(have:n/16777216 %256*16777216=2^24*(n/16777216):=by omega);exact zOe
 have e2:n/65536*65536|||n/256 %256*256=n/256*256:=by(have:n/65536*65536=2^16*(n/65536):=by omega);exact zOe
 have e3:n/256*256|||n %256=n:=by(have:n/256*256=2^8*(n/256):=by omega);exact zOe
 rw[e1,e2,e3]
theorem or2(n:Nat)(h:n<65536):n/256 %256*256|||n %256=n:=by
 have:n/256 %256*256=2^8*(n/256):=by omega
 exact zOe
theorem zK1(n:Int)(h₀:0≤n)(h₁:n<2^62):IntKind.i64.wrap n=n:=by
 rw[IntKind.wrap_i64]
 omega
theorem kj(a b:Nat)(ha:a<2^62)(hb:b<2^62):bits .or .i64 a b=((a|||b:Nat):Int):=(bits_nat .i64 62 (by decide) zK1 a b ha hb).2
def xQ(s:QB)(i:Nat):QB:=s.extract (506*i) s.size
def yi(s:QB)(i:Nat):QB:=s.extract (506*i) (min (506*(i+1)) s.size)
theorem zJM(s:QB):xQ s 0=s:=by
 unfold xQ
 rw[Nat.mul_zero]
 exact extract_all s
theorem zB0(s:QB)(i:Nat):(xQ s i).size=s.size-506*i:=by
 unfold xQ
 rw[ByteArray.size_extract]
 omega
theorem zDT(s:QB)(i:Nat):(yi s i).size=min 506 (s.size-506*i):=by
 unfold yi
 rw[ByteArray.size_extract]
 omega
theorem zMl(s:QB)(a b c d:Nat):(s.extract a b).extract c d=s.extract (a+c) (min (a+d) b):=by
 apply ByteArray.ext
 simp[Array.extract_extract]
theorem zJN(s:QB)(i n:Nat)(h:506*i≤s.size)(hn:n=min 506 (s.size-506*i)):(xQ s i).extract 0 n=yi s i:=by
 unfold xQ yi
 rw[zMl]
 congr 1
 omega
theorem zEU(s:QB)(i k:Nat)(h:k<s.size-506*i):(xQ s i).data.toList.getD k 0=s.data.toList.getD (506*i+k) 0:=ext_get s (506*i) s.size k (Qn _) (by omega)
theorem zJO(s:QB)(i n:Nat)(hn:n=min 506 (s.size-506*i)):(xQ s i).extract n (xQ s i).size=xQ s (i+1):=by
 have hz:=zB0 s i
 have hz2:=zB0 s (i+1)
 apply zFV
 ·rw[ByteArray.size_extract];omega
 ·intro k hk;rw[ByteArray.size_extract]at hk;have e1:((xQ s i).extract n (xQ s i).size).data.toList.getD k 0=(xQ s i).data.toList.getD (n+k) 0:=ext_get (xQ s i) n (xQ s i).size k (Qn _) (by omega);unfold zG;rw[e1,zEU s i (n+k) (by omega),zEU s (i+1) k (by omega),show 506*i+(n+k)=506*(i+1)+k by omega]
theorem zK2(s:QB)(i:Nat)(h:506*i≤s.size):s.data.toList.take (506*i)++(yi s i).data.toList=s.data.toList.take (506*(i+1)):=by
 have hl:s.data.toList.length=s.size:=by simp
 have e:(yi s i).data.toList=(s.data.toList.drop (506*i)).take 506:=by unfold yi;rw[ByteArray.data_extract,Array.toList_extract,List.extract_eq_take_drop];rw[List.take_eq_take_iff,List.length_drop];omega
 rw[e,show 506*(i+1)=506*i+506 by omega,List.take_add]
def zAk(ps:List Nat)(i:Nat):Nat:=if i+1<ps.length then ps.getD (i+1) 0+1 else 0
structure BlobIn(R:RoomS)(s:QB)(ps:List Nat):Prop where
 len:ps.length=zc s.size
 nodup:ps.Nodup
 pages:∀p∈ps,p<R.pages∧R.has p=true
 text:∀i,i<ps.length→R.text (ps.getD i 0)=zS (ye (zAk ps i) (yi s i))
theorem vu{ps:List Nat}{i:Nat}(h:i<ps.length):ps.getD i 0∈ps:=zz h
theorem getD_inj{ps:List Nat}(hn:ps.Nodup){i j:Nat}(hi:i<ps.length)(hj:j<ps.length)(h:ps.getD i 0=ps.getD j 0):i=j:=by
 rw[List.getD_eq_getElem?_getD,List.getD_eq_getElem?_getD,Qg hi,Qg hj]at h
 exact(List.getElem_inj hn).1 h
theorem BlobIn.congr{R R':RoomS}{s:QB}{ps:List Nat}(h:BlobIn R s ps)(hp:R'.pages=R.pages)(hh:∀p∈ps,R'.has p=R.has p)(ht:∀p∈ps,R'.text p=R.text p):BlobIn R' s ps:=⟨h.len,h.nodup,fun p hm=>by rw[hp,hh p hm];exact h.pages p hm,fun i hi=>by rw[ht _ (zz hi)];exact h.text i hi⟩
def beW(w n j:Nat):List UInt8:=(List.range j).map (fun t=>UInt8.ofNat (n/2^(8*(w-1-t))%256))
theorem zHp(w n j:Nat):beW w n (j+1)=beW w n j++[UInt8.ofNat (n/2^(8*(w-1-j))%256)]:=by
 unfold beW
 rw[List.range_succ,List.map_append]
 rfl
theorem zO(w n j:Nat):(beW w n j).length=j:=by
 unfold beW
 simp
theorem zOf{w n:Nat}(hn:n<2^(8*w))(j:Nat)(hj:j≤w):beN (beW w n j)=n/2^(8*(w-j)):=by
 induction j with|zero=>rw[Nat.sub_zero,Nat.div_eq_of_lt hn];rfl|succ j ih=>rw[zHp,zCE,ih (by omega)];(have e1:8*(w-j)=8*(w-(j+1))+8:=by omega);(have e2:w-1-j=w-(j+1):=by omega);rw[e1,e2,Nat.pow_add,←Nat.div_div_eq_div_mul];(have e3:(UInt8.ofNat (n/2^(8*(w-(j+1)))%256)).toNat=n/2^(8*(w-(j+1)))%256:=by simp);rw[e3];omega
theorem zBE{w n:Nat}(hn:n<2^(8*w)):beN (beW w n w)=n:=by
 rw[zOf hn w (Qn _),Nat.sub_self,Nat.mul_zero,Nat.pow_zero,Nat.div_one]
def wid(k:Nat):Nat:=if k=110 then 8 else if k=104 then 4 else if k=98 then 1 else 0
abbrev Fld:=Nat×QB
def enc(k:Nat)(f:Fld):List UInt8:=if k=116 then beW 2 f.2.size 2++f.2.data.toList else if wid k=0 then f.2.data.toList else beW (wid k) f.1 (wid k)
def Fits(k:Nat)(f:Fld):Prop:=((k=110∨k=104∨k=98)∧f.2=⟨#[]⟩∧f.1<2^(8*wid k))∨((k=116∧f.2.size≤65535)∧f.1=0)∨(k=114∧f.1=0∧f.2.size≤1000000)
def letter(ks:QB)(i:Nat):Nat:=zG ks i
def yf(ks:QB)(fs:List Fld)(j:Nat):List UInt8:=(List.range j).flatMap (fun i=>enc (letter ks i) (fs.getD i (0,⟨#[]⟩)))
theorem zU(ks:QB)(fs:List Fld)(j:Nat):yf ks fs (j+1)=yf ks fs j++enc (letter ks j) (fs.getD j (0,⟨#[]⟩)):=by
 unfold yf
 rw[List.range_succ,List.flatMap_append]
 simp
theorem vF(ks:QB)(fs:List Fld):yf ks fs 0=[]:=rfl
def packed(ks:QB)(fs:List Fld):QB:=⟨(yf ks fs fs.length).toArray⟩
structure Fields(ks:QB)(fs:List Fld):Prop where
 len:ks.size=fs.length
 few:fs.length≤64
 fit:∀i,i<fs.length→Fits (letter ks i) (fs.getD i (0,⟨#[]⟩))
 last:∀i,i<fs.length→letter ks i=114→i+1=fs.length
theorem zSz{p:Prop}(h:p:=by rw[zO];unfold wid;split<;>(try split)<;>(try split)<;>omega):p:=h
theorem zJP{k:Nat}{f:Fld}(h:Fits k f):(enc k f).length≤1000000:=by
 unfold enc
 have hl:f.2.data.toList.length=f.2.size:=by simp
 rcases h with⟨h,h1,h2⟩|⟨⟨h,h1⟩,h2⟩|⟨h,h1,h2⟩
 ·rw[if_neg (by omega)];split;(·rw[h1];decide);·exact zSz
 ·rw[if_pos h,Ql,zO,hl];omega
 ·rw[if_neg (by omega)];split;(·omega);·exact zSz
theorem zGa{ks:QB}{fs:List Fld}(h:Fields ks fs)(j:Nat)(hj:j≤fs.length):(yf ks fs j).length≤1000000*j:=by
 induction j with|zero=>exact Qn _|succ j ih=>rw[zU,Ql];have h1:=ih (by omega);have h2:=zJP (h.fit j (by omega));omega
def zA0(ks:QB)(fs:List Fld)(j:Nat):QB:=⟨((yf ks fs fs.length).drop (yf ks fs j).length).toArray⟩
theorem zJQ(ks:QB)(fs:List Fld):zA0 ks fs 0=packed ks fs:=rfl
theorem zFg(ks:QB)(fs:List Fld):zA0 ks fs fs.length=⟨#[]⟩:=by
 unfold zA0
 rw[List.drop_length]
theorem zGb(ks:QB)(fs:List Fld)(j n:Nat)(h:j≤n):∃t,yf ks fs n=yf ks fs j++t:=by
 induction n with|zero=>(obtain rfl:j=0:=by omega);exact⟨[],by simp⟩|succ n ih=>by_cases e:j=n+1;(·exact⟨[],by rw[e];simp⟩);·obtain⟨t,ht⟩:=ih (by omega);exact⟨t++enc (letter ks n) (fs.getD n (0,⟨#[]⟩)),by rw[zU,ht,Qa]⟩
theorem zEV(ks:QB)(fs:List Fld)(j:Nat)(h:j<fs.length):(zA0 ks fs j).data.toList=enc (letter ks j) (fs.getD j (0,⟨#[]⟩))++(zA0 ks fs (j+1)).data.toList:=by
 obtain⟨t,ht⟩:=zGb ks fs (j+1) fs.length (by omega)
 unfold zA0
 have h1:=zU ks fs j
 dsimp only
 rw[ht,List.drop_left]
 rw[h1,Qa,List.drop_left]
theorem zBF{s t:QB}{l:List UInt8}(h:s.data.toList=l++t.data.toList):s.extract 0 l.length=⟨l.toArray⟩∧s.extract l.length s.size=t∧l.length≤s.size:=by
 have hz:s.size=l.length+t.size:=by have:=congrArg List.length h;rw[Ql,Array.length_toList,Array.length_toList]at this;exact this
 refine⟨?_,?_,by omega⟩
 ·apply ByteArray.ext;apply Array.toList_inj.1;rw[ByteArray.data_extract,Array.toList_extract,List.extract_eq_take_drop,h];simp
 ·apply ByteArray.ext;apply Array.toList_inj.1;rw[ByteArray.data_extract,Array.toList_extract,List.extract_eq_take_drop,h];simp;rw[Qk];rw[Array.length_toList];show t.size≤_;omega
end Go.Proofs.YtaokjeokpifjgaaGreatDoor
