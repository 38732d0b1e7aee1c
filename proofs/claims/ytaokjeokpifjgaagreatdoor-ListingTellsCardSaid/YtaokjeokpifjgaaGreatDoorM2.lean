/-
  Texts of this claim, one behind the other: TxAll Awk6 Rooms7 NdM Rdr Parse NdS Lay9 Find Way Text TrW.
-/
import Derived.Test.YtaokjeokpifjgaaGreatDoorM1
import Derived.Shelf.Spec.SearchS
open Go.Proofs.Tryz
set_option maxRecDepth 100000
set_option maxHeartbeats 4000000
namespace Go.Proofs.YtaokjeokpifjgaaGreatDoor
section
open Go.RowKit Go.MapKept
attribute [local go_sem] yo yg
def LogView(w:World)(bl:Nat)(n:Nat)(f:Int→QB)(F:Nat→Prop):Prop:=∃L:LogS,LogAt w bl L∧L.down=false∧L.D.down=false∧L.homes=n∧(∀i:Int,0≤i→i<(n:Int)→L.read i=f i)∧(∀k,L.foot bl k→F k)∧∀k,F k→k<w.heap.size
theorem LogView.keep{w w':World}{bl n:Nat}{f:Int→QB}{F:Nat→Prop}(h:LogView w bl n f F){S:Nat→Prop}(hk:Keep S w w')(hn:∀k,F k→¬S k):LogView w' bl n f F:=by
 obtain⟨L,h1,h2,h3,h4,h5,h6⟩:=h
 exact⟨L,h1.keep hk (fun k hf=>hn k (h6.1 k hf)),h2,h3,h4,h5,h6.1,fun k hf=>Qt (h6.2 k hf) hk.size⟩
theorem LogView.lt{w:World}{bl n:Nat}{f:Int→QB}{F:Nat→Prop}(h:LogView w bl n f F){k:Nat}(hk:F k):k<w.heap.size:=by
 obtain⟨L,h1,h2,h3,h4,h5,h6⟩:=h
 exact h6.2 k hk
theorem LogIn.view{B:Nat}{w:World}{bl:Nat}{L:LogS}{d:Dk}{N homes ring:Nat}{W:Int→QB}(h:LogIn B w bl L d N homes ring W):LogView w bl homes W (L.foot bl):=⟨L,h.up.at_,h.up.lup,h.up.dup,h.homes,fun i h0 h1=>by have:=h.up.read i.toNat (by rw[h.homes];omega);rwa [Int.toNat_of_nonneg h0]at this,fun _ h=>h,fun k hk=>h.up.at_.foot_lt hk⟩
structure TxS where
 bl:Nat
 n:Nat
 f:Int→QB
 rowv:Value
 puts:Puts
 bw:Nat
 g:Int→Option Value
 ng:Nat
 Fl:Nat→Prop
structure TxAt(w:World)(bt:Nat)(T:TxS):Prop where
 cells:w.heap[bt]? =some (.cells #[.pointer (some ⟨T.bl,0,none⟩),T.rowv,.map (some T.bw)] 169 (0,0))
 log:LogView w T.bl T.n T.f T.Fl
 row:w.ownsRow 0 314 2 T.rowv T.puts.length (zY T.puts)
 where_:IMap w T.bw T.g T.ng
 none_:∀i,zX T.puts i=[]→T.g i=none
 some_:∀i,zX T.puts i≠[]→∃v,T.g i=some v∧w.ownsRow 0 3 1 v (zX T.puts i).length ((zX T.puts i).map (fun k=>Value.int .i64 (k:Nat)))
 apart:bt≠T.bw∧¬T.Fl bt∧¬T.Fl T.bw∧∀k,T.rowv.ownBlock=some k→k≠bt∧k≠T.bw∧¬T.Fl k
 lists:∀i v k,T.g i=some v→v.ownBlock=some k→k≠bt∧k≠T.bw∧¬T.Fl k∧T.rowv.ownBlock≠some k
 each:∀i j v v' k,T.g i=some v→T.g j=some v'→i≠j→v.ownBlock=some k→v'.ownBlock≠some k
 good:∀x∈T.puts,0≤x.1∧x.1<T.n∧x.2.size=512
def TxS.foot(T:TxS)(bt k:Nat):Prop:=k=bt∨k=T.bw∨T.Fl k∨T.rowv.ownBlock=some k∨∃i v,T.g i=some v∧v.ownBlock=some k
theorem TxAt.keep{w w':World}{bt:Nat}{T:TxS}(h:TxAt w bt T){S:Nat→Prop}(hk:Keep S w w')(hn:∀k,T.foot bt k→¬S k):TxAt w' bt T:=⟨hk.at h.cells (hn _ (.inl rfl)),h.log.keep hk (fun k hf=>hn k (.inr (.inr (.inl hf)))),hk.ownsRow h.row (fun k e=>hn k (.inr (.inr (.inr (.inl e))))),h.where_.keep hk (hn _ (.inr (.inl rfl))),h.none_,fun i hi=>by obtain⟨v,hv,ho⟩:=h.some_ i hi;exact⟨v,hv,hk.ownsRow ho (fun k e=>hn k (.inr (.inr (.inr (.inr ⟨i,v,hv,e⟩)))))⟩,h.apart,h.lists,h.each,h.good⟩
theorem LogView.still{w u:World}{bl n:Nat}{f:Int→QB}{F:Nat→Prop}(h:LogView w bl n f F)(hb:Below w.heap.size w u):LogView u bl n f F:=h.keep (Keep.still hb) (fun _ _ h=>h)
theorem zKn{w:World}{bl n:Nat}{f:Int→QB}{F:Nat→Prop}(h:LogView w bl n f F):Calls prog 262 #[.pointer (some ⟨bl,0,none⟩)] w fun e w'=>e= .returned (.bool false)∧w=w':=by
 obtain⟨L,h1,h2,h3,h4,h5,h6⟩:=h
 exact h2▸zDN h1.cells
theorem zI5{w:World}{bl n:Nat}{f:Int→QB}{F:Nat→Prop}(h:LogView w bl n f F):Calls prog 144 #[.pointer (some ⟨bl,0,none⟩)] w fun e w'=>e= .returned (.int .i64 n)∧Below w.heap.size w w':=by
 obtain⟨L,h1,h2,h3,h4,h5,h6⟩:=h
 exact h4▸zAb h1
def zAf(n:Nat)(f:Int→QB)(i:Int):QB:=if 0≤i∧i<n then f i else⟨#[]⟩
def zBR(n:Nat)(i:Int):Int:=if 0≤i∧i<n then 0 else 2
theorem zEM{n:Nat}{f:Int→QB}{i:Int}(h:0≤i∧i<n):zAf n f i=f i:=if_pos h
theorem zEN{n:Nat}{i:Int}(h:0≤i∧i<n):zBR n i=0:=if_pos h
def xn(n:Nat)(f:Int→QB)(i:Int):Value:=.tuple #[.string (zAf n f i),.int .i64 (zBR n i)]
theorem zKo{w:World}{bl n:Nat}{f:Int→QB}{F:Nat→Prop}(h:LogView w bl n f F){i:Int}(hi:(Lit.int .i64 i).wf=true):Calls prog 227 #[.pointer (some ⟨bl,0,none⟩),.int .i64 i] w fun e w'=>e= .returned (xn n f i)∧Below w.heap.size w w':=by
 obtain⟨L,h1,h2,h3,h4,h5,h6⟩:=h
 have:=zHJ h1 h2 h3 hi
 have e:L.says i=xn n f i:=by unfold LogS.says xn zAf zBR;rw[h4];split;(·rename_i h;rw[h5 i h.1 h.2]);·rfl
 rwa [e]at this
theorem LogView.size{w:World}{bl n:Nat}{f:Int→QB}{F:Nat→Prop}(h:LogView w bl n f F)(i:Int)(h0:0≤i)(hn:i<n):(f i).size=512:=by
 obtain⟨L,h1,h2,h3,h4,h5,h6⟩:=h
 rw[←h5 i h0 hn]
 exact LogS.read_size h1 i
theorem LogView.small{w:World}{bl n:Nat}{f:Int→QB}{F:Nat→Prop}(h:LogView w bl n f F):n≤65536:=by
 obtain⟨L,h1,h2,h3,h4,h5,h6⟩:=h
 have:=h1.disk.size
 rw[←h4]
 unfold LogS.homes
 omega
theorem yN{w:World}{b:Nat}{v0 v1 v2:Value}{t:TypeId}(h:w.heap[b]? =some (.cells #[v0,v1,v2] t (0,0))):(w.cell? ⟨b,0,none⟩=some v0∧w.cell? ⟨b,1,none⟩=some v1∧w.cell? ⟨b,2,none⟩=some v2)∧w.frozen? ⟨b,0,none⟩=false∧w.frozen? ⟨b,1,none⟩=false∧w.frozen? ⟨b,2,none⟩=false:=by
 simp[World.cell?,World.frozen?,h]
def TxS.own(T:TxS)(bt k:Nat):Prop:=k=bt∨k=T.bw∨T.rowv.ownBlock=some k∨∃i v,T.g i=some v∧v.ownBlock=some k
theorem TxS.own_foot{T:TxS}{bt k:Nat}(h:T.own bt k):T.foot bt k:=by
 rcases h with h|h|h|h
 ·exact .inl h
 ·exact .inr (.inl h)
 ·exact .inr (.inr (.inr (.inl h)))
 ·exact .inr (.inr (.inr (.inr h)))
theorem TxAt.still{w u:World}{bt:Nat}{T:TxS}(h:TxAt w bt T)(hb:Below w.heap.size w u):TxAt u bt T:=h.keep (Keep.still hb) (fun _ _ h=>h)
theorem zAg{w:World}{bt:Nat}{T:TxS}(h:TxAt w bt T):Calls prog 226 #[.pointer (some ⟨bt,0,none⟩)] w fun e w'=>e= .returned (.bool false)∧w=w':=by
 have H:=Hd (zKn h.log)
 obtain⟨⟨c0,c1,c2⟩,_⟩:=yN h.cells
 go_enter func226,ntmps226
 go_wp2_with(go_at_call 262;refine(H.out).mono ?_;rintro e w1⟨rfl,rfl⟩)
 go_ret
 exact⟨rfl,rfl⟩
theorem kh{w:World}{bt:Nat}{T:TxS}(h:TxAt w bt T):Calls prog 81 #[.pointer (some ⟨bt,0,none⟩)] w fun e w'=>e= .returned (.int .i64 T.n)∧Below w.heap.size w w':=by
 have H:=Hd (zI5 h.log)
 obtain⟨⟨c0,c1,c2⟩,_⟩:=yN h.cells
 go_enter func81,ntmps81
 go_wp2_with(go_at_call 144;refine(H.out).mono ?_;rintro e w1⟨rfl,hb⟩)
 go_ret
 exact⟨rfl,hb⟩
theorem zI6{w:World}{bt:Nat}{T:TxS}(h:TxAt w bt T):Calls prog 100 #[.pointer (some ⟨bt,0,none⟩)] w fun e w'=>e= .returned (.int .i64 T.puts.length)∧w=w':=by
 obtain⟨⟨c0,c1,c2⟩,_⟩:=yN h.cells
 obtain⟨a,c,hv,_⟩:=slice_form h.row
 rw[hv]at c1
 clear hv
 go_enter func100,ntmps100
 go_wp2
 go_ret
 exact⟨rfl,rfl⟩
def TxS.read(T:TxS):Int→QB:=seen T.puts T.f
def TxS.says(T:TxS)(i:Int):Value:=xn T.n T.read i
set_option maxRecDepth 100000
theorem zI7{w:World}{bt:Nat}{T:TxS}(h:TxAt w bt T){i:Int}(hi:(Lit.int .i64 i).wf=true):Calls prog 179 #[.pointer (some ⟨bt,0,none⟩),.int .i64 i] w fun e w'=>e= .returned (T.says i)∧Below w.heap.size w w':=by
 have H1:=Hd (zAg h)
 have H2:=Hd (zKo h.log hi)
 obtain⟨⟨c0,c1,c2⟩,_⟩:=yN h.cells
 have l1:=h.where_.run_lookup underlying3 underlying166 (zEH w) hi false
 by_cases hp:zX T.puts i=[]
 ·rw[h.none_ i hp]at l1;(have hs:T.says i=xn T.n T.f i:=by unfold TxS.says xn zAf TxS.read;rw[zFT _ _ _ hp]);rw[hs];unfold xn at*;generalize zAf T.n T.f i=s at*;generalize zBR T.n i=c at*;simp only[Option.getD_none,Bool.false_eq_true,if_false]at l1;clear hp hs;go_enter func179,ntmps179;go_wp2_with(first|(go_at_call 226;refine(H1.out).mono ?_;rintro e w1⟨rfl,rfl⟩)|(go_at_call 227;refine(H2.out).mono ?_;rintro e w1⟨rfl,hb⟩));go_ret2;exact⟨rfl,hb⟩
 ·obtain⟨v,hv,ho⟩:=h.some_ i hp;rw[hv]at l1;simp only[Option.getD_some,Bool.false_eq_true,if_false]at l1;obtain⟨l,k,hlk⟩:∃l k,zX T.puts i=l++[k]:=⟨_,_,(List.dropLast_concat_getLast hp).symm⟩;obtain⟨hk,hpk⟩:=zFU T.puts T.f i l k hlk;obtain⟨g,c,rfl,hc1,hc2,hcell⟩:=zDv ho (by rw[hlk];simp);obtain⟨r,rc,hr,hr1,hr2,hrow⟩:=zDv h.row (by omega);have ha:=hcell l.length (.int .i64 (k:Nat)) (by rw[hlk];simp);have hb:=hrow (k*2+1) _ (zBf T.puts k i _ hpk).2;have hg:=h.good _ (List.mem_of_getElem? hpk);(have hs:T.says i= .tuple #[.string (T.read i),.int .i64 0]:=by unfold TxS.says xn;rw[zEM ⟨hg.1,hg.2.1⟩,zEN ⟨hg.1,hg.2.1⟩]);rw[hs];have hb':w.cell? ⟨r,k*2+1,none⟩=some (.string (T.read i)):=hb;rw[hr]at c1;(have hln:(zX T.puts i).length=l.length+1:=by rw[hlk];simp);rw[hln]at l1 hc1;unfold maxLen at hc2 hr2;(have hk0:(0:Int)≤(k:Int):=by omega);(have hk1:(k:Int)<(T.puts.length:Int):=by omega);clear hb hrow hcell ho hlk hv hpk hs hg hr hln;generalize T.read i=s at*;generalize l.length=m at*;generalize T.puts.length=q at*;go_enter func179,ntmps179;go_wp2_with(first|(go_at_call 226;refine(H1.out).mono ?_;rintro e w1⟨rfl,rfl⟩));go_quiet(fail);go_wp2;go_ret2;exact⟨rfl,⟨rfl,rfl,rfl,Qn _,fun _ _=>rfl⟩⟩
structure TxStep(bt:Nat)(w:World)(T:TxS)(w':World)(T':TxS):Prop where
 at_:TxAt w' bt T'
 bl:T'.bl=T.bl
 n:T'.n=T.n
 f:T'.f=T.f
 Fl:T'.Fl=T.Fl
 keep:Keep (T.own bt) w w'
 own:∀k,T'.own bt k→T.own bt k∨w.heap.size≤k
theorem TxStep.refl{bt:Nat}{w:World}{T:TxS}(h:TxAt w bt T):TxStep bt w T w T:=⟨h,rfl,rfl,rfl,rfl,Keep.refl _ _,fun _ h=>.inl h⟩
theorem TxStep.trans{bt:Nat}{w w' w'':World}{T T' T'':TxS}(h:TxStep bt w T w' T')(k:TxStep bt w' T' w'' T''):TxStep bt w T w'' T'':=⟨k.at_,k.bl.trans h.bl,k.n.trans h.n,k.f.trans h.f,k.Fl.trans h.Fl,h.keep.trans k.keep (fun i hi hs=>(h.own i hs).resolve_right (by omega)),fun i hi=>(k.own i hi).elim (h.own i) (fun hge=>.inr (Nat.le_trans h.keep.size hge))⟩
theorem TxStep.still{bt:Nat}{w u:World}{T:TxS}(h:TxAt w bt T)(hb:Below w.heap.size w u):TxStep bt w T u T:=⟨h.still hb,rfl,rfl,rfl,rfl,Keep.ofBelow hb,fun _ h=>.inl h⟩
def TxS.slot(T:TxS)(i:Int):Value:=(T.g i).getD (.slice none 0 0)
theorem TxAt.slot{w:World}{bt:Nat}{T:TxS}(h:TxAt w bt T)(i:Int):w.ownsRow 0 3 1 (T.slot i) (zX T.puts i).length ((zX T.puts i).map (fun k=>Value.int .i64 (k:Nat))):=by
 unfold TxS.slot
 by_cases hp:zX T.puts i=[]
 ·rw[h.none_ i hp,hp];exact qO
 ·obtain⟨v,hv,ho⟩:=h.some_ i hp;rw[hv];exact ho
theorem TxS.slot_some{T:TxS}{i:Int}{k:Nat}(h:(T.slot i).ownBlock=some k):∃v,T.g i=some v∧v.ownBlock=some k:=by
 unfold TxS.slot at h
 cases hg:T.g i with|none=>rw[hg]at h;cases h|some v=>rw[hg]at h;exact⟨v,rfl,h⟩
theorem TxAt.slot_ne{w:World}{bt:Nat}{T:TxS}(h:TxAt w bt T){i:Int}{k:Nat}(hk:(T.slot i).ownBlock=some k):k≠bt∧k≠T.bw∧¬T.Fl k∧T.rowv.ownBlock≠some k:=by
 obtain⟨v,hv,hvk⟩:=TxS.slot_some hk
 exact h.lists i v k hv hvk
theorem zHZ(p:Puts)(i:Int):(zX p i).length≤p.length:=by
 unfold zX
 have:=List.length_filter_le (fun k=>decide ((p[k]?.map (·.1))=some i)) (List.range p.length)
 simpa using this
def TxS.put(T:TxS)(i:Int)(s:QB)(v' rowv':Value)(ng':Nat):TxS:={T with puts:=T.puts++[(i,s)],rowv:=rowv',g:=putAt T.g i v',ng:=ng'}
theorem zMQ{w:World}{bt:Nat}{T:TxS}(h:TxAt w bt T){i:Int}{s:QB}(hi:0≤i∧i<T.n)(hs:s.size=512){u3 u4 u7:World}{v' rowv':Value}{ng':Nat}(k3':Keep (fun k=>(T.slot i).ownBlock=some k) w u3)(hown3:u3.ownsRow 0 3 1 v' ((zX T.puts i).length+1) ((zX T.puts i).map (fun k=>Value.int .i64 (k:Nat))++[.int .i64 (T.puts.length:Nat)]))(hloc3:v'.ownBlock=(T.slot i).ownBlock∨∃k,v'.ownBlock=some k∧w.heap.size≤k)(hm4:IMap u4 T.bw (putAt T.g i v') ng')(hk4:Keep (·=T.bw) u3 u4)(k47:Keep (fun k=>T.rowv.ownBlock=some k) u4 u7)(hown7:u7.ownsRow 0 314 2 rowv' (T.puts.length+1) (zY T.puts++[.int .i64 i,.string s]))(hloc7:rowv'.ownBlock=T.rowv.ownBlock∨∃k,rowv'.ownBlock=some k∧u3.heap.size≤k):TxStep bt w T (u7.setCell ⟨bt,1,none⟩ rowv') (T.put i s v' rowv' ng'):=by
 have hbt:bt<w.heap.size:=(Gl h.cells)
 have hbw:T.bw<w.heap.size:=h.where_.lt
 have s3:=k3'.size
 have s4:=hk4.size
 have hslot:∀k,(T.slot i).ownBlock=some k→k≠bt∧k≠T.bw∧¬T.Fl k∧T.rowv.ownBlock≠some k∧k<w.heap.size:=fun k hk=>by obtain⟨v,hv,hvk⟩:=TxS.slot_some hk;obtain⟨a,b,c,d⟩:=h.lists i v k hv hvk;exact⟨a,b,c,d,((h.slot i).lt k hk).2⟩
 have hrow:∀k,T.rowv.ownBlock=some k→k≠bt∧k≠T.bw∧¬T.Fl k∧k<w.heap.size:=fun k hk=>by obtain⟨a,b,c⟩:=h.apart.2.2.2 k hk;exact⟨a,b,c,(h.row.lt k hk).2⟩
 let S0:Nat→Prop:=fun k=>k=T.bw∨T.rowv.ownBlock=some k∨(T.slot i).ownBlock=some k
 have k3:Keep S0 w u3:=k3'.mono (fun k _ e=>.inr (.inr e))
 have k4:Keep S0 w u4:=k3.trans hk4 (fun k _ e=>.inl e)
 have k7:Keep S0 w u7:=k4.trans k47 (fun k _ e=>.inr (.inl e))
 have nbt:¬S0 bt:=by rintro(e|e|e);(·exact h.apart.1 e);(·exact(hrow _ e).1 rfl);·exact(hslot _ e).1 rfl
 have c7:u7.heap[bt]? =some (.cells #[.pointer (some ⟨T.bl,0,none⟩),T.rowv,.map (some T.bw)] 169 (0,0)):=k7.at h.cells nbt
 have kset:Keep (·=bt) u7 (u7.setCell ⟨bt,1,none⟩ rowv'):=(Keep.refl (·=bt) u7).setCell (p:=⟨bt,1,none⟩) (fun _=>rfl) _
 have kall:Keep (fun k=>S0 k∨k=bt) w (u7.setCell ⟨bt,1,none⟩ rowv'):=(k7.mono (fun _ _ e=>.inl e)).trans kset (fun _ _ e=>.inr e)
 have hv'lt:∀k,v'.ownBlock=some k→k<u3.heap.size:=fun k hk=>(hown3.lt k hk).2
 have hv'ne:∀k,v'.ownBlock=some k→k≠bt∧k≠T.bw∧¬T.Fl k∧T.rowv.ownBlock≠some k∧((T.slot i).ownBlock=some k∨w.heap.size≤k):=fun k hk=>by rcases hloc3 with e|e;(·obtain⟨a,b,c,d,_⟩:=hslot k (e▸hk);exact⟨a,b,c,d,.inl (e▸hk)⟩);·obtain⟨k',e,hge⟩:=e;(have:k=k':=by rw[e]at hk;exact(Option.some.inj hk).symm);refine⟨by omega,by omega,fun hf=> ?_,fun hr=> ?_,.inr (by omega)⟩;(·have:=h.log.lt hf;omega);·have:=(hrow k hr).2.2.2;omega
 have hrv'ne:∀k,rowv'.ownBlock=some k→k≠bt∧k≠T.bw∧¬T.Fl k∧(T.rowv.ownBlock=some k∨u3.heap.size≤k):=fun k hk=>by rcases hloc7 with e|e;(·obtain⟨a,b,c,_⟩:=hrow k (e▸hk);exact⟨a,b,c,.inl (e▸hk)⟩);·obtain⟨k',e,hge⟩:=e;(have:k=k':=by rw[e]at hk;exact(Option.some.inj hk).symm);refine⟨by omega,by omega,fun hf=> ?_,.inr (by omega)⟩;have:=h.log.lt hf;omega
 refine⟨⟨?_,?_,?_,?_,?_,?_,?_,?_,?_,?_⟩,rfl,rfl,rfl,rfl,?_,?_⟩
 ·show(u7.setCell ⟨bt,1,none⟩ rowv').heap[bt]? =some (.cells #[.pointer (some ⟨T.bl,0,none⟩),rowv',.map (some T.bw)] 169 (0,0));simp[World.setCell,Array.getElem?_modify,c7]
 ·refine h.log.keep kall (fun k hf e=> ?_);rcases e with(e|e|e)|e;(·exact h.apart.2.2.1 (e▸hf));(·exact(hrow _ e).2.2.1 hf);(·exact(hslot _ e).2.2.1 hf);·exact h.apart.2.1 (e▸hf)
 ·show World.ownsRow _ 0 314 2 rowv' (T.puts++[(i,s)]).length (zY (T.puts++[(i,s)]));(have e1:zY (T.puts++[(i,s)])=zY T.puts++[.int .i64 i,.string s]:=by simp[zY]);rw[e1,Ql];exact kset.ownsRow hown7 (fun k hk e=>(hrv'ne k hk).1 e)
 ·refine(hm4.keep k47 (fun e=>(hrow _ e).2.1 rfl)).keep kset (fun e=>h.apart.1 e.symm)
 ·intro j hj;show putAt T.g i v' j=none;rw[show(T.put i s v' rowv' ng').puts=T.puts++[(i,s)]from rfl,xD]at hj;obtain⟨hj1,hj2⟩:=List.append_eq_nil_iff.1 hj;(have hne:¬j=i:=fun e=>by rw[if_pos e.symm]at hj2;cases hj2);unfold putAt;rw[if_neg hne];exact h.none_ j hj1
 ·intro j hj;show∃v,putAt T.g i v' j=some v∧World.ownsRow _ 0 3 1 v (zX (T.puts++[(i,s)]) j).length _;rw[show(T.put i s v' rowv' ng').puts=T.puts++[(i,s)]from rfl]at hj⊢;rw[xD]at hj⊢;by_cases hji:j=i;(·subst hji;refine⟨v',by simp[putAt],?_⟩;rw[if_pos rfl,Ql,List.map_append];have o4:=hk4.ownsRow hown3 (fun k hk e=>(hv'ne k hk).2.1 e);have o7:=k47.ownsRow o4 (fun k hk e=>(hv'ne k hk).2.2.2.1 e);exact kset.ownsRow o7 (fun k hk e=>(hv'ne k hk).1 e));·rw[if_neg (fun e=>hji e.symm),List.append_nil]at hj⊢;obtain⟨v,hv,ho⟩:=h.some_ j hj;refine⟨v,by simp[putAt,hji,hv],kall.ownsRow ho (fun k hk e=> ?_)⟩;obtain⟨a,b,c,d⟩:=h.lists j v k hv hk;rcases e with(e|e|e)|e;(·exact b e);(·exact d e);(·obtain⟨v2,hv2,hk2⟩:=TxS.slot_some e;exact h.each j i v v2 k hv hv2 hji hk hk2);·exact a e
 ·refine⟨h.apart.1,h.apart.2.1,h.apart.2.2.1,fun k hk=> ?_⟩;obtain⟨a,b,c,_⟩:=hrv'ne k hk;exact⟨a,b,c⟩
 ·intro j v k hv hk;show k≠bt∧k≠T.bw∧¬T.Fl k∧rowv'.ownBlock≠some k;have hv2:putAt T.g i v' j=some v:=hv;unfold putAt at hv2;by_cases hji:j=i;(·rw[if_pos hji]at hv2;cases hv2;obtain⟨a,b,c,d,_⟩:=hv'ne k hk;refine⟨a,b,c,fun e=> ?_⟩;have hlt:=hv'lt k hk;rcases(hrv'ne k e).2.2.2 with e|e;(·exact d e);·omega);·rw[if_neg hji]at hv2;obtain⟨a,b,c,d⟩:=h.lists j v k hv2 hk;refine⟨a,b,c,fun e=> ?_⟩;(have hne:zX T.puts j≠[]:=fun hp=>by rw[h.none_ j hp]at hv2;cases hv2);obtain⟨v2,hv3,ho⟩:=h.some_ j hne;rw[hv2]at hv3;cases hv3;have hlt:=(ho.lt k hk).2;rcases(hrv'ne k e).2.2.2 with e|e;(·exact d e);·omega
 ·intro j j' v v2 k hv hv2 hjj hk hk2;have e1:putAt T.g i v' j=some v:=hv;have e2:putAt T.g i v' j'=some v2:=hv2;unfold putAt at e1 e2;(have old:∀j v,T.g j=some v→v.ownBlock=some k→j≠i→v'.ownBlock=some k→False:=fun j v hv hk hji hvk=>by(have hne:zX T.puts j≠[]:=fun hp=>by rw[h.none_ j hp]at hv;cases hv);obtain⟨v3,hv3,ho⟩:=h.some_ j hne;rw[hv]at hv3;cases hv3;have hlt:=(ho.lt k hk).2;rcases(hv'ne k hvk).2.2.2.2 with e|e;(·obtain⟨v4,hv4,hk4⟩:=TxS.slot_some e;exact h.each j i v v4 k hv hv4 hji hk hk4);·omega);by_cases hji:j=i;(·rw[if_pos hji]at e1;cases e1;rw[if_neg (fun e=>hjj (hji.trans e.symm))]at e2;exact old j' v2 e2 hk2 (fun e=>hjj (hji.trans e.symm)) hk);·rw[if_neg hji]at e1;by_cases hji':j'=i;(·rw[if_pos hji']at e2;cases e2;exact old j v e1 hk hji hk2);·rw[if_neg hji']at e2;exact h.each j j' v v2 k e1 e2 hjj hk hk2
 ·intro x hx;rcases List.mem_append.1 hx with hx|hx;(·exact h.good x hx);·(obtain rfl:x=(i,s):=by simpa using hx);exact⟨hi.1,hi.2,hs⟩
 ·refine kall.mono (fun k _ e=> ?_);rcases e with(e|e|e)|e;(·exact .inr (.inl e));(·exact .inr (.inr (.inl e)));(·exact .inr (.inr (.inr ((TxS.slot_some e).elim fun v hv=>⟨i,v,hv.1,hv.2⟩))));·exact .inl e
 ·intro k hk;rcases hk with e|e|e|⟨j,v,hv,e⟩;(·exact .inl (.inl e));(·exact .inl (.inr (.inl e)));(·rcases(hrv'ne k e).2.2.2 with e|e;(·exact .inl (.inr (.inr (.inl e))));·exact .inr (by omega));·have e1:putAt T.g i v' j=some v:=hv;unfold putAt at e1;by_cases hji:j=i;(·rw[if_pos hji]at e1;cases e1;rcases(hv'ne k e).2.2.2.2 with e|e;(·exact .inl (.inr (.inr (.inr ((TxS.slot_some e).elim fun v hv=>⟨i,v,hv.1,hv.2⟩)))));·exact .inr e);·rw[if_neg hji]at e1;exact .inl (.inr (.inr (.inr ⟨j,v,e1,e⟩)))
def zOK(bl n:Nat)(f:Int→QB)(F:Nat→Prop)(bw:Nat):TxS:={bl:=bl,n:=n,f:=f,rowv:=.slice none 0 0,puts:=[],bw:=bw,g:=fun _=>none,ng:=0,Fl:=F}
theorem zKp{w:World}{bl n:Nat}{f:Int→QB}{F:Nat→Prop}(h:LogView w bl n f F):Calls prog 30 #[.pointer (some ⟨bl,0,none⟩)] w fun e w'=>∃bt T,e= .returned (.pointer (some ⟨bt,0,none⟩))∧T=zOK bl n f F w.heap.size∧TxAt w' bt T∧bt=w.heap.size+1∧Below w.heap.size w w':=by
 have hmm:= @run_makeMap prog
 have HN:=Hd (zDo w (Obj.map #[] 0) (Obj.cells #[.pointer (some ⟨bl,0,none⟩),.slice none 0 0,.map (some w.heap.size)] 169))
 go_enter func30,ntmps30
 go_wp2
 go_ret
 obtain⟨n1,n2,nb⟩:=HN.out
 refine⟨w.heap.size+1,_,rfl,rfl,⟨n2,h.still nb,qO,zAZ n1,fun _ _=>rfl,fun i hi=>absurd rfl hi,⟨?_,?_,?_,?_⟩,?_,?_,?_⟩,rfl,nb⟩
 ·show w.heap.size+1≠w.heap.size;omega
 ·intro hf;have:=h.lt hf;omega
 ·intro hf;have hlt:w.heap.size<w.heap.size:=h.lt hf;omega
 ·intro k hk;cases hk
 ·intro i v k hv;cases hv
 ·intro i j v v' k hv;cases hv
 ·intro x hx;cases hx
def xp(n:Nat)(i:Int)(s:QB):Int:=if 0≤i∧i<n then(if 512<s.size then 5 else 0)else 2
set_option maxRecDepth 100000
theorem zRk{p:Prop}(h:p:=by have hu:=(HS.out u).1 hu;obtain⟨⟨c0,c1,c2⟩,_⟩:=yN (hu.at HC4.out (fun e=>(HA1.out.apart.2.2.2 _ e).1 rfl));have l1:=HCat.out u;rw[HR.out]at c1;clear hu;go_simp;exact⟨rfl,rfl⟩):p:=h
theorem kE{w:World}{bt:Nat}{T:TxS}(h:TxAt w bt T)(hlen:T.puts.length<1000000000000){i:Int}(hi:0≤i∧i<T.n)(s:QB)(hs:s.size≤512):Calls prog 217 #[.pointer (some ⟨bt,0,none⟩),.int .i64 i,.string s] w fun e w'=>e= .returned (.int .i64 0)∧∃T',TxStep bt w T w' T'∧T'.puts=T.puts++[(i,zS s)]:=by
 have hn:=h.log.small
 have H1:=Hd (fun u(hu:TxAt u bt T)=>zAg hu)
 have H2:=Hd (fun u(hu:TxAt u bt T)=>kh hu)
 have H3:=Hd (fun u=>zHM s hs u)
 have HCat:=Hd (fun u=>zKe s hs u)
 obtain⟨ra,rc,hr,_⟩:=slice_form h.row
 have HR:=Hd hr
 clear hr
 have e1:decide (i<0)=false:=by simp;omega
 have e2:decide ((T.n:Int)≤i)=false:=by simp;omega
 have e3:decide ((512:Int)<(s.size:Nat))=false:=by simp;omega
 have e4:IntKind.i64.wrap ((512:Int)-(s.size:Nat))=(512:Int)-(s.size:Nat):=zv (by omega) (by omega)
 have hwf:(Lit.int .i64 i).wf=true:=zFQ (by omega) (by omega)
 obtain⟨i0,hi0,hz0,hz1,hz2⟩:=info_parts zGP
 obtain⟨j0,hj0,hy0,hy1,hy2⟩:=info_parts zN9
 have HI:=Hd hi0
 have HJ:=Hd hj0
 have Hz0:=Hd hz0
 have Hz1:=Hd hz1
 have Hz2:=Hd hz2
 have Hy0:=Hd hy0
 have Hy1:=Hd hy1
 have Hy2:=Hd hy2
 clear hi0 hj0 hz0 hz1 hz2 hy0 hy1 hy2
 have H:=Hd h
 have HIi:=Hd hi
 clear hi
 clear h
 go_enter func217,ntmps217
 go_wp2_with(first|(go_at_call 226;refine(H1.out _ H.out).mono ?_;rintro e w1⟨rfl,rfl⟩)|(go_at_call 81;refine(H2.out _ H.out).mono ?_;rintro e w1⟨rfl,hb1⟩))
 have HA1:=Hd (H.out.still hb1)
 have HB1:=Hd hb1
 clear hb1
 have HL:=Hd (zHZ T.puts i)
 have h63:(zX T.puts i).length+1≤maxLen:=by have:=HL.out;unfold maxLen;omega
 obtain⟨S,HS⟩:=mkS (Keep (fun k=>(T.slot i).ownBlock=some k) (w1))
 refine rgo 18 [tR 0,tR 1,tR 2,tR 3,tR 4,tR 5,tR 6,tR 7,tR 8,tR 9,tR 10,tR 11,tR 12,tR 13,tR 14,tR 15,tD 16,tD 17] HS (Keep.refl _ _).drew ?_
 iterate 16 first|(refine wpH_passed rfl (by rfl) (fun K hK=> ?_);go_simp;refine hK _ ?_;clear hK K)|((first|refine kD rfl rfl (fun K hK=> ?_)|refine wpH_readw rfl (by rfl) (fun K hK=> ?_));apply Exists.intro;refine⟨fun u hu=> ?_,?_⟩;(·have hu:=(HS.out u).1 hu;obtain⟨⟨c0,c1,c2⟩,_⟩:=yN (hu.at HA1.out.cells (fun e=>(HA1.out.slot_ne e).1 rfl));have l1:=(HA1.out.where_.keep hu (fun e=>(HA1.out.slot_ne e).2.1 rfl)).run_lookup underlying3 underlying166 (zEH u) hwf false;simp only[Bool.false_eq_true,if_false]at l1;rw[HR.out]at c1;clear hu;go_simp;exact⟨rfl,rfl⟩);go_simp;refine hK _ ?_;clear hK K)
 refine doH ?_
 intro K hK
 go_simp
 have kA:Keep (fun k=>(T.slot i).ownBlock=some k) w1 (w1.alloc (Obj.cells #[Value.int IntKind.i64 (T.puts.length:Nat)] 3)).drew:=((Keep.refl _ _).alloc _).drew
 refine hK _ _ ((HS.out _).2 kA) ?_
 clear hK K
 refine doH ?_
 intro K hK
 refine wp_append_lies _ _ _ 68 (by rfl) 0 3 i0 (.int .i64 0) 1 8 underlying68 HI.out Hz0.out Hz1.out Hz2.out (by rfl) (by decide) (T.slot i) _ _ (by rfl) (((HA1.out.slot i).alloc _).drew) ⟨w1.heap.size,0,none⟩ 1 1 [.int .i64 (T.puts.length:Nat)] (by rfl) (by rfl) (World.news_of_block (cs:= #[.int .i64 (T.puts.length:Nat)]) (t:=3) (fr:=(0,0)) (qH w1 _)) (ints_oneCell .i64 [(T.puts.length:Nat)]) (by decide) h63 ?_ (Nat.zero_le _) _ rfl ?_
 ·have:=HL.out;omega
 intro g cap u3 hown3 hg3 hloc hglt
 have k3:=kA.grown hg3 (fun k _ e=>e)
 refine hK _ _ ((HS.out _).2 k3) ?_
 clear hK K
 refine zl ?_
 have hm3:=HA1.out.where_.keep k3 (fun e=>(HA1.out.slot_ne e).2.1 rfl)
 obtain⟨u4,hr4,hm4,hk4,hz4,hd4⟩:=hm3.run_update underlying3 underlying166 hwf (.slice (some ⟨g,0,none⟩) ((zX T.puts i).length+1) cap)
 have hloc3:(Value.slice (some ⟨g,0,none⟩) ((zX T.puts i).length+1) cap).ownBlock=(T.slot i).ownBlock∨∃k,(Value.slice (some ⟨g,0,none⟩) ((zX T.puts i).length+1) cap).ownBlock=some k∧w1.heap.size≤k:=by rcases hloc with e|e;(·exact .inl (e▸rfl));·exact .inr ⟨g,rfl,by rw[e];simp⟩
 have c4:=hk4.at (k3.at HA1.out.cells (fun e=>(HA1.out.slot_ne e).1 rfl)) HA1.out.apart.1
 have r4:=hk4.ownsRow (k3.ownsRow HA1.out.row (fun k hk e=>(HA1.out.slot_ne e).2.2.2 hk)) (fun k hk e=>(HA1.out.apart.2.2.2 k hk).2.1 e)
 have HK3:=Hd k3
 have HK4:=Hd hk4
 have HM4:=Hd hm4
 have HO3:=Hd hown3
 have HLoc:=Hd hloc3
 have HC4:=Hd c4
 have HR4:=Hd r4
 clear kA k3 hm3 hm4 hk4 hz4 hd4 hg3 hown3 hloc hloc3 hglt c4 r4 S HS
 go_wp2
 obtain⟨S,HS⟩:=mkS (Keep (fun k=>T.rowv.ownBlock=some k) (u4))
 refine rgo 15 [tR 0,tR 1,tR 2,tR 3,tR 4,tR 5,tR 6,tR 7,tR 8,tR 9,tD 10,tR 11,tR 12,tD 13,tD 14] HS (Keep.refl _ _).drew ?_
 iterate 10 first|(refine wpH_passed rfl (by rfl) (fun K hK=> ?_);go_simp;refine hK _ ?_;clear hK K)|((first|refine kD rfl rfl (fun K hK=> ?_)|refine wpH_readw rfl (by rfl) (fun K hK=> ?_));apply Exists.intro;refine⟨fun u hu=> ?_,?_⟩;(·exact zRk);go_simp;refine hK _ ?_;clear hK K)
 refine doH ?_
 intro K hK
 go_simp
 go_at_call 236
 refine(H3.out _).mono ?_
 rintro e u5⟨rfl,hb5⟩
 have k5:Keep (fun k=>T.rowv.ownBlock=some k) u4 u5:=(Keep.refl _ _).drew.trans (Keep.ofBelow (S:=fun k=>T.rowv.ownBlock=some k) hb5) (fun _ _ h=>h)
 refine hK _ _ ((HS.out _).2 k5) ?_
 clear hK K
 iterate 2 first|(refine wpH_passed rfl (by rfl) (fun K hK=> ?_);go_simp;refine hK _ ?_;clear hK K)|((first|refine kD rfl rfl (fun K hK=> ?_)|refine wpH_readw rfl (by rfl) (fun K hK=> ?_));apply Exists.intro;refine⟨fun u hu=> ?_,?_⟩;(·exact zRk);go_simp;refine hK _ ?_;clear hK K)
 refine doH ?_
 intro K hK
 go_simp
 have k6:=k5.alloc (Obj.cells #[Value.int IntKind.i64 i,Value.string (zS s)] 314)
 refine hK _ _ ((HS.out _).2 k6) ?_
 clear hK K
 refine doH ?_
 intro K hK
 refine wp_append_lies _ _ _ 167 (by rfl) 0 314 j0 _ 2 24 underlying167 HJ.out Hy0.out Hy1.out Hy2.out (by rfl) (by decide) T.rowv _ _ (by exact HR.out.symm) (((Keep.ofBelow (S:=fun _=>False) hb5).ownsRow (HR4.out.drew) (fun _ _ h=>h)).alloc _) ⟨u5.heap.size,0,none⟩ 1 1 [.int .i64 i,.string (zS s)] (by rfl) (by rfl) (World.news_of_block (cs:= #[.int .i64 i,.string (zS s)]) (t:=314) (fr:=(0,0)) (qH u5 _)) (by simp[Value.oneCell']) (by decide) (by unfold maxLen;omega) (by omega) (Nat.zero_le _) _ rfl ?_
 intro r2 cap2 u7 hown7 hg7 hloc7 hglt7
 have k7:=k6.grown hg7 (fun k _ e=>e)
 refine hK _ _ ((HS.out _).2 k7) ?_
 clear hK K
 refine zl ?_
 have hloc7':(Value.slice (some ⟨r2,0,none⟩) (T.puts.length+1) cap2).ownBlock=T.rowv.ownBlock∨∃k,(Value.slice (some ⟨r2,0,none⟩) (T.puts.length+1) cap2).ownBlock=some k∧u3.heap.size≤k:=by rcases hloc7 with e|e;(·exact .inl (e▸rfl));·have s5:=hb5.size;have s4:=HK4.out.size;have e2:u4.drew.heap.size=u4.heap.size:=rfl;exact .inr ⟨r2,rfl,by rw[e,World.size_alloc];omega⟩
 obtain⟨⟨c0,c1,c2⟩,f0,f1,f2⟩:=yN (k7.at HC4.out (fun e=>(HA1.out.apart.2.2.2 _ e).1 rfl))
 have P:=Hd (zMQ HA1.out HIi.out (vz s hs) HK3.out HO3.out HLoc.out HM4.out HK4.out k7 hown7 hloc7')
 clear k5 k6 k7 hb5 hown7 hg7 hloc7 hglt7 hloc7' S HS
 go_wp2
 go_ret
 exact⟨rfl,_,(TxStep.still H.out HB1.out).trans P.out,rfl⟩
def kF(n:Nat)(i:Int)(s:QB):Puts:=if 0≤i∧i<n∧s.size≤512 then[(i,zS s)]else[]
theorem zRl{p:Prop}(h:p:=by go_enter func217,ntmps217;go_wp2_with(first|(go_at_call 226;refine(H1.out _ H.out).mono ?_;rintro e w1⟨rfl,rfl⟩)|(go_at_call 81;refine(H2.out _ H.out).mono ?_;rintro e w1⟨rfl,hb1⟩));go_ret;exact⟨rfl,T,TxStep.still H.out hb1,by simp⟩):p:=h
theorem zHa{w:World}{bt:Nat}{T:TxS}(h:TxAt w bt T)(hlen:T.puts.length<1000000000000){i:Int}(s:QB)(hs:s.size≤9223372036854775807):Calls prog 217 #[.pointer (some ⟨bt,0,none⟩),.int .i64 i,.string s] w fun e w'=>e= .returned (.int .i64 (xp T.n i s))∧∃T',TxStep bt w T w' T'∧T'.puts=T.puts++kF T.n i s:=by
 have hn:=h.log.small
 by_cases hr:0≤i∧i<T.n
 ·by_cases h5:s.size≤512;(·(have e1:xp T.n i s=0:=by unfold xp;rw[if_pos hr,if_neg (by omega)]);(have e2:kF T.n i s=[(i,zS s)]:=by unfold kF;rw[if_pos ⟨hr.1,hr.2,h5⟩]);rw[e1,e2];exact kE h hlen hr s h5);·(have e1:xp T.n i s=5:=by unfold xp;rw[if_pos hr,if_pos (by omega)]);(have e2:kF T.n i s=[]:=by unfold kF;rw[if_neg (by omega)]);rw[e1,e2];have H1:=Hd (fun u(hu:TxAt u bt T)=>zAg hu);have H2:=Hd (fun u(hu:TxAt u bt T)=>kh hu);(have d1:decide (i<0)=false:=by simp;omega);(have d2:decide ((T.n:Int)≤i)=false:=by simp;omega);(have d3:decide ((512:Int)<(s.size:Nat))=true:=by simp;omega);have H:=Hd h;clear h e1 e2 hr h5;exact zRl
 ·(have e1:xp T.n i s=2:=by unfold xp;rw[if_neg hr]);(have e2:kF T.n i s=[]:=by unfold kF;rw[if_neg (fun h=>hr ⟨h.1,h.2.1⟩)]);rw[e1,e2];have H1:=Hd (fun u(hu:TxAt u bt T)=>zAg hu);have H2:=Hd (fun u(hu:TxAt u bt T)=>kh hu);have H:=Hd h;clear h e1 e2;by_cases h0:i<0;(·(have d1:decide (i<0)=true:=by simpa using h0);clear hr;go_enter func217,ntmps217;go_wp2_with(first|(go_at_call 226;refine(H1.out _ H.out).mono ?_;rintro e w1⟨rfl,rfl⟩)|(go_at_call 81;refine(H2.out _ H.out).mono ?_;rintro e w1⟨rfl,hb1⟩));go_ret;exact⟨rfl,T,TxStep.refl H.out,by simp⟩);·(have d1:decide (i<0)=false:=by simpa using h0);(have d2:decide ((T.n:Int)≤i)=true:=by simp;omega);clear hr;exact zRl
theorem zDR{w:World}{e:TypeId}{size:Nat}{g n c m:Nat}{xs:List Value}(h:w.ownsRow 0 e size (.slice (some ⟨g,0,none⟩) n c) n xs)(hm:m≤n):w.ownsRow 0 e size (.slice (some ⟨g,0,none⟩) m c) m (xs.take (m*size)):=by
 rcases h.2 with⟨h1,_⟩|⟨g',cap,cur,hv,hb,hg,h1,h2,h3,h4⟩
 ·cases h1
 ·cases hv;have hms:m*size≤n*size:=Nat.mul_le_mul_right _ hm;refine⟨by rw[List.length_take,h.1];omega,.inr ⟨g,c,cur,rfl,hb,hg,by omega,h2,h3,?_⟩⟩;rw[←h4,List.take_take,Nat.min_eq_left hms]
def TxS.cut(T:TxS)(Q:Puts)(g':Int→Option Value)(ng':Nat)(rowv':Value):TxS:={T with puts:=Q,rowv:=rowv',g:=g',ng:=ng'}
theorem zQG{p:Prop}(h:p:=by rcases e with e|e;(·exact b e);·exact a e):p:=h
theorem zFX{w:World}{bt:Nat}{T:TxS}(h:TxAt w bt T){Q:Puts}{x:Int×QB}(hp:T.puts=Q++[x]){u:World}{g':Int→Option Value}{ng':Nat}{rowv':Value}(hm:IMap u T.bw g' ng')(hk:Keep (·=T.bw) w u)(hg':∀j,j≠x.1→g' j=T.g j)(hgx:zX Q x.1=[]→g' x.1=none)(hgy:zX Q x.1≠[]→∃v,g' x.1=some v∧v.ownBlock=(T.slot x.1).ownBlock∧w.ownsRow 0 3 1 v (zX Q x.1).length ((zX Q x.1).map (fun k=>Value.int .i64 (k:Nat))))(hrow:w.ownsRow 0 314 2 rowv' Q.length (zY Q))(hrv:rowv'.ownBlock=T.rowv.ownBlock):TxStep bt w T (u.setCell ⟨bt,1,none⟩ rowv') (T.cut Q g' ng' rowv'):=by
 have nbw:∀k,T.rowv.ownBlock=some k→k≠bt∧k≠T.bw∧¬T.Fl k:=h.apart.2.2.2
 have cu:u.heap[bt]? =some (.cells #[.pointer (some ⟨T.bl,0,none⟩),T.rowv,.map (some T.bw)] 169 (0,0)):=hk.at h.cells h.apart.1
 have kset:Keep (·=bt) u (u.setCell ⟨bt,1,none⟩ rowv'):=(Keep.refl (·=bt) u).setCell (p:=⟨bt,1,none⟩) (fun _=>rfl) _
 have kall:Keep (fun k=>k=T.bw∨k=bt) w (u.setCell ⟨bt,1,none⟩ rowv'):=(hk.mono (fun _ _ e=>.inl e)).trans kset (fun _ _ e=>.inr e)
 have lst:∀j v,g' j=some v→∃v0,T.g j=some v0∧v.ownBlock=v0.ownBlock:=fun j v hv=>by by_cases hj:j=x.1;(·subst hj;by_cases hq:zX Q x.1=[];(·rw[hgx hq]at hv;cases hv);·obtain⟨v2,hv2,ho,hw2⟩:=hgy hq;rw[hv]at hv2;cases hv2;(have hne:zX T.puts x.1≠[]:=by rw[hp,xD,if_pos rfl];simp);obtain⟨v0,hv0,_⟩:=h.some_ x.1 hne;exact⟨v0,hv0,by rw[ho];unfold TxS.slot;rw[hv0];rfl⟩);·exact⟨v,by rw[←hg' j hj];exact hv,rfl⟩
 refine⟨⟨?_,?_,?_,?_,?_,?_,?_,?_,?_,?_⟩,rfl,rfl,rfl,rfl,?_,?_⟩
 ·show(u.setCell ⟨bt,1,none⟩ rowv').heap[bt]? =some (.cells #[.pointer (some ⟨T.bl,0,none⟩),rowv',.map (some T.bw)] 169 (0,0));simp[World.setCell,Array.getElem?_modify,cu]
 ·refine h.log.keep kall (fun k hf e=> ?_);rcases e with e|e;(·exact h.apart.2.2.1 (e▸hf));·exact h.apart.2.1 (e▸hf)
 ·refine kall.ownsRow hrow (fun k hk e=> ?_);obtain⟨a,b,_⟩:=nbw k (hrv▸hk);exact zQG
 ·exact hm.keep kset (fun e=>h.apart.1 e.symm)
 ·intro j hj;by_cases hjx:j=x.1;(·subst hjx;exact hgx hj);·show g' j=none;rw[hg' j hjx];refine h.none_ j ?_;rw[hp,xD,if_neg (fun e=>hjx e.symm),List.append_nil];exact hj
 ·intro j hj;show∃v,g' j=some v∧World.ownsRow _ 0 3 1 v (zX Q j).length _;by_cases hjx:j=x.1;(·subst hjx;obtain⟨v,hv,ho,hw2⟩:=hgy hj;refine⟨v,hv,kall.ownsRow hw2 (fun k hk e=> ?_)⟩;obtain⟨a,b,_⟩:=h.slot_ne (ho▸hk);exact zQG);·(have hj2:zX T.puts j=zX Q j:=by rw[hp,xD,if_neg (fun e=>hjx e.symm),List.append_nil]);obtain⟨v,hv,ho⟩:=h.some_ j (by rw[hj2];exact hj);rw[hj2]at ho;refine⟨v,by rw[hg' j hjx];exact hv,kall.ownsRow ho (fun k hk e=> ?_)⟩;obtain⟨a,b,_⟩:=h.lists j v k hv hk;exact zQG
 ·exact⟨h.apart.1,h.apart.2.1,h.apart.2.2.1,fun k hk=>nbw k (hrv▸hk)⟩
 ·intro j v k hv hk;obtain⟨v0,hv0,ho⟩:=lst j v hv;show k≠bt∧k≠T.bw∧¬T.Fl k∧rowv'.ownBlock≠some k;rw[hrv];exact h.lists j v0 k hv0 (ho▸hk)
 ·intro i j v v' k hv hv' hij hk hk';obtain⟨v0,hv0,ho⟩:=lst i v hv;obtain⟨v1,hv1,ho1⟩:=lst j v' hv';exact h.each i j v0 v1 k hv0 hv1 hij (ho▸hk) (ho1▸hk')
 ·intro y hy;exact h.good y (by rw[hp];exact Qm _ hy)
 ·refine kall.mono (fun k _ e=> ?_);rcases e with e|e;(·exact .inr (.inl e));·exact .inl e
 ·intro k hk;rcases hk with e|e|e|⟨j,v,hv,e⟩;(·exact .inl (.inl e));(·exact .inl (.inr (.inl e)));(·exact .inl (.inr (.inr (.inl (hrv▸e)))));·obtain⟨v0,hv0,ho⟩:=lst j v hv;exact .inl (.inr (.inr (.inr ⟨j,v0,hv0,ho▸e⟩)))
def zI8(w:World)(bt:Nat):Nat:=match w.cell? ⟨bt,1,none⟩with|some (.slice _ n _)=>n|_=>0
theorem zFY{w:World}{bt:Nat}{T:TxS}(h:TxAt w bt T):zI8 w bt=T.puts.length:=by
 obtain⟨⟨c0,c1,c2⟩,_⟩:=yN h.cells
 obtain⟨a,c,hv,_⟩:=slice_form h.row
 unfold zI8
 rw[c1,hv]
theorem zDq(p:Puts)(m:Nat):(zY p).take (m*2)=zY (p.take m):=by
 induction p generalizing m with|nil=>simp[zY]|cons x p ih=>have e:∀p,zY (x::p)= .int .i64 x.1:: .string x.2::zY p:=fun _=>rfl;cases m with|zero=>simp[zY]|succ m=>rw[e,List.take_succ_cons,e,show(m+1)*2=m*2+1+1 by omega,List.take_succ_cons,List.take_succ_cons,ih]
def zOL(bt:Nat)(w:World)(T:TxS)(tgt:Nat)(wr:World):Prop:=∃T',TxStep bt w T wr T'∧∃k,k≤T.puts.length∧T'.puts=T.puts.take k∧(tgt≤k∨k=T.puts.length)
theorem zRm{p:Prop}(h:p:=by go_wp2;refine⟨⟨_,HST.out.trans ST.out,m,by omega,rfl,.inl (by omega)⟩,?_⟩;rw[zFY ST.out.at_,HRL.out];show(T.puts.take m).length<m+1;rw[HQL.out];omega):p:=h
theorem zI9{w:World}{bt:Nat}{T:TxS}(h:TxAt w bt T)(hlen:T.puts.length<1000000000000)(mark:Int):Calls prog 167 #[.pointer (some ⟨bt,0,none⟩),.int .i64 mark] w fun e w'=>e= .returned (.tuple #[])∧∃T',TxStep bt w T w' T'∧T'.puts=T.puts.take mark.toNat:=by
 obtain⟨tgt,em⟩:∃tgt:Nat,max mark 0=(tgt:Int):=⟨mark.toNat,by omega⟩
 have hmt:mark.toNat=tgt:=by omega
 rw[hmt]
 clear hmt
 have H:=Hd h
 clear h
 go_enter func167,ntmps167
 go_wp2
 go_loopw [4,5,6](fun a b c wr=>zOL bt w T tgt wr)(fun _ _ _ wr=>zI8 wr bt)
 case atStart=>exact⟨T,TxStep.refl H.out,T.puts.length,Qn _,by simp,.inr rfl⟩
 case round=>obtain⟨T',hst,k,hk,hpk,hor⟩:=hrel;(have hkl:T'.puts.length=k:=by rw[hpk,List.length_take];omega);have hA:=hst.at_;obtain⟨⟨c0,c1,c2⟩,f0,f1,f2⟩:=yN hA.cells;by_cases hgo:tgt<k;(·obtain⟨m,rfl⟩:∃m,k=m+1:=⟨k-1,by omega⟩;(have hml:m<T.puts.length:=by omega);(have hQ:T'.puts=T.puts.take m++[T.puts[m]]:=by rw[hpk,List.take_succ_eq_append_getElem hml]);(have hQl:(T.puts.take m).length=m:=by rw[List.length_take];omega);generalize hx:T.puts[m]=x at hQ;have hgood:=hA.good x (by rw[hQ];simp);have hn:=hA.log.small;have hwf:(Lit.int .i64 x.1).wf=true:=zFQ (by omega) (by omega);(have hmem:T'.puts[m]? =some (x.1,x.2):=by rw[hQ,List.getElem?_append_right (by omega)];simp[hQl]);obtain⟨r,rc,hr,hr1,hr2,hrow⟩:=zDv hA.row (by omega);have hrow':=hA.row;rw[hr,hkl]at hrow';have cx:=hrow (m*2) _ (zBf T'.puts m x.1 x.2 hmem).1;have hcut:=zDR hrow' (show m≤m+1 by omega);rw[zDq,hpk,List.take_take,Nat.min_eq_left (by omega)]at hcut;(have hpos:zX T'.puts x.1=zX (T.puts.take m) x.1++[m]:=by rw[hQ,xD,if_pos rfl,hQl]);have hs0:=hA.slot x.1;obtain⟨g,c,hg,hg1,hg2,_⟩:=zDv hs0 (by rw[hpos];simp);rw[hpos,Ql,List.length_singleton]at hg;rw[hg,hpos,Ql,List.length_singleton]at hs0;have hscut:=zDR hs0 (show(zX (T.puts.take m) x.1).length≤(zX (T.puts.take m) x.1).length+1 by omega);(have htk:(((zX (T.puts.take m) x.1++[m]).map (fun k=>Value.int .i64 (k:Nat))).take ((zX (T.puts.take m) x.1).length*1))=(zX (T.puts.take m) x.1).map (fun k=>Value.int .i64 (k:Nat)):=by rw[Nat.mul_one,List.map_append,List.take_left' (by simp)]);rw[htk]at hscut;have l1:=hA.where_.run_lookup underlying3 underlying166 (zEH wr) hwf false;simp only[Bool.false_eq_true,if_false]at l1;have hslot:(T'.g x.1).getD (Value.slice none 0 0)=T'.slot x.1:=rfl;rw[hslot,hg]at l1;rw[hr,hkl]at c1;rw[hpos,Ql,List.length_singleton]at hg1;(have hpl:(zX (T.puts.take m) x.1).length≤m:=by have:=zHZ (T.puts.take m) x.1;omega);(have e1:decide ((tgt:Int)<(m:Int)+1)=true:=by simp;omega);unfold maxLen at hg2 hr2;have hrl:=zFY hA;rw[hkl]at hrl;have HST:=Hd hst;have HPK:=Hd hpk;have HQ:=Hd hQ;have HQL:=Hd hQl;have HCut:=Hd hcut;have HSC:=Hd hscut;have HR:=Hd hr;have HG:=Hd hg;have HA:=Hd hA;have HRL:=Hd hrl;rw[hkl]at hr1;have hx0:0≤x.1:=hgood.1;generalize hq:(zX (T.puts.take m) x.1).length=q at*;have HQQ:=Hd hq;clear hq hst hpk hQ hQl hcut hscut hr hg hA hrl hrow hrow' hs0 htk hslot hpos hmem hkl hgood hx;by_cases hq0:0<q;(·(have e2:decide ((1:Int)<(q:Int)+1)=true:=by simp;omega);(have hq1:(0:Int)≤(q:Int):=by omega);(have hq2:(q:Int)≤(c:Int):=by omega);have hqw:IntKind.i64.wrap (q:Int)=(q:Int):=zv (by omega) (by omega);have hmu:IMap wr.drew T'.bw T'.g T'.ng:=HA.out.where_.congr rfl;obtain⟨u4,hr4,hm4,hk4,hz4,hd4⟩:=hmu.run_update underlying3 underlying166 hwf (.slice (some ⟨g,0,none⟩) q c);have hk4':Keep (·=T'.bw) wr u4:=((Keep.refl _ wr).drew).trans hk4 (fun _ _ e=>e);have c4:=hk4'.at HA.out.cells HA.out.apart.1;rw[HR.out]at c4;obtain⟨⟨d0,d1,d2⟩,g0,g1,g2⟩:=yN c4;(have hpl2:T'.puts.length=m+1:=by rw[HQ.out,Ql,HQL.out];rfl);rw[hpl2]at d1;have ST:=Hd (zFX HA.out HQ.out (g':=putAt T'.g x.1 (.slice (some ⟨g,0,none⟩) q c)) (rowv':=.slice (some ⟨r,0,none⟩) m rc) hm4 hk4' (fun j hj=>if_neg hj) (fun he=>by have:=HQQ.out;rw[he]at this;simp at this;omega) (fun _=>⟨_,if_pos rfl,by rw[HG.out];rfl,by have:=HSC.out;rwa [HQQ.out]⟩) (by have:=HCut.out;rwa [HQL.out]) (by rw[HR.out];rfl));have HK4:=Hd hk4';(have HM1:(0:Int)≤(m:Int):=by omega);(have HM2:(m:Int)≤(rc:Int):=by omega);clear hmu hm4 hk4 hk4' hz4 hd4 c4 hpl2 hor hpl hg1;go_wp2;obtain⟨S,HS⟩:=mkS (Keep (fun _=>False) (wr));have FR:=Hd (fun u(hu:S u)=>have hu:=(HS.out u).1 hu;have o09:=yN (hu.at HA.out.cells (fun e=>e));o09);refine rgo 10 [tR 0,tR 1,tR 2,tR 3,tR 4,tR 5,tR 6,tR 7,tR 8,tR 9] HS (Keep.refl _ _).drew ?_;(iterate 10 refine rd1 ?_);refine zl ?_;clear FR;clear S HS;exact zRm);·(have e2:decide ((1:Int)<(q:Int)+1)=false:=by simp;omega);have hqe:zX (T.puts.take m) x.1=[]:=List.eq_nil_of_length_eq_zero (by have:=HQQ.out;omega);obtain⟨u4,hr4,hm4,hk4,hz4,hd4⟩:=HA.out.where_.run_delete (ty:=0) underlying3 underlying166 hwf;have c4:=hk4.at HA.out.cells HA.out.apart.1;rw[HR.out]at c4;obtain⟨⟨d0,d1,d2⟩,g0,g1,g2⟩:=yN c4;(have hpl2:T'.puts.length=m+1:=by rw[HQ.out,Ql,HQL.out];rfl);rw[hpl2]at d1;have ST:=Hd (zFX HA.out HQ.out (g':=zGO T'.g x.1) (rowv':=.slice (some ⟨r,0,none⟩) m rc) hm4 hk4 (fun j hj=>if_neg hj) (fun _=>if_pos rfl) (fun he=>absurd hqe he) (by have:=HCut.out;rwa [HQL.out]) (by rw[HR.out];rfl));have HK4:=Hd hk4;(have HM1:(0:Int)≤(m:Int):=by omega);(have HM2:(m:Int)≤(rc:Int):=by omega);clear hm4 hk4 hz4 hd4 c4 hpl2 hor hpl hg1 hqe hq0;exact zRm);·obtain⟨a,c,hv,_⟩:=slice_form hA.row;rw[hv]at c1;rw[hkl]at c1;(have e1:decide ((tgt:Int)<(k:Int))=false:=by simp;omega);have HST:=Hd hst;have HPK:=Hd hpk;clear hv hst hpk hkl hA;go_wp2;go_end0;refine⟨rfl,T',HST.out,?_⟩;rw[HPK.out];rcases hor with h1|h1;(·rw[show tgt=k by omega]);·rw[Qk (by omega),Qk (by omega)]
theorem TxAt.own_lt{w:World}{bt:Nat}{T:TxS}(h:TxAt w bt T){k:Nat}(hk:T.own bt k):k<w.heap.size:=by
 rcases hk with rfl|rfl|e|⟨i,v,hv,e⟩
 ·exact(Gl h.cells)
 ·exact h.where_.lt
 ·exact(h.row.lt k e).2
 ·(have hne:zX T.puts i≠[]:=fun hp=>by rw[h.none_ i hp]at hv;cases hv);obtain⟨v2,hv2,ho⟩:=h.some_ i hne;rw[hv]at hv2;cases hv2;exact(ho.lt k e).2
section
variable {B : Nat} {w w' : World} {bl : Nat} {L : LogS} {d : Dk} {N homes ring : Nat} {W : Int → QB} {bt : Nat} {T T' : TxS}
end
theorem zOM{B:Nat}{w1 w3 w4:World}{bd bl size ring homes:Nat}{D:DiskS}{L:LogS}(hf:Fresh5 w1 w3 bd D size)(ho:Open5 w3 w4 bd D (zCz size) ring 0 (fun _=>yn 512) bl L)(hh:size-1-ring=homes)(hB:B≤w1.heap.size):LogIn B w4 bl L (zCz size) 0 homes ring (fun _=>yn 512)∧Below w1.heap.size w1 w4:=by
 have hn:=ho.newer hf.newer hf.below.size
 exact⟨⟨ho.up,by rw[ho.homes,hf.size];exact hh,ho.ringE,fun k hk=>Nat.le_trans hB (hn.1 k hk),rfl⟩,hf.below.trans hn.2⟩
theorem zKq(n:Nat)(h1:4≤n)(h2:n≤65335)(w:World):Calls prog 28 #[.int .i64 n] w fun e w'=>∃bd bl L,e= .returned (.tuple #[.pointer (some ⟨bd,0,none⟩),.pointer (some ⟨bl,0,none⟩)])∧LogIn w.heap.size w' bl L (zCz (201+n)) 0 n 200 (fun _=>yn 512)∧Below w.heap.size w w':=by
 have H1:=Hd (zMP (201+n) (by omega) (by omega) w)
 have e1:((201:Int)+(n:Int))=((201+n:Nat):Int):=by omega
 have e2:IntKind.i64.wrap ((201+n:Nat):Int)=((201+n:Nat):Int):=zv (by omega) (by omega)
 have e3:max (n:Int) 4=n:=by omega
 have hn4:(4:Int)≤n:=by omega
 obtain⟨m,hm⟩:=qN (201+n)
 rw[hm]at H1 e1 e2
 rw[hm]
 have HM:=Hd hm
 clear hm
 go_enter func28,ntmps28
 go_wp2_with(go_at_call 78;refine(H1.out).mono ?_;rintro e w1⟨bd,D,rfl,hf⟩;have HF:=Hd hf;have HO:=Hd (zKm hf.at_ hf.dk rfl rfl 200 (by decide) (by decide) (homes:=n) (by rw[hf.size];have:=HM.out;omega) (by omega) (by decide) (zGW m 200 n (by have:=HM.out;omega)));clear hf)
 refine(HO.out).mono ?_
 rintro e w2⟨bl,L,rfl,ho⟩
 go_wp2
 go_ret2
 obtain⟨hl,hb⟩:=zOM (homes:=n) HF.out ho (by have:=HM.out;omega) (Qn _)
 exact⟨bd,bl,L,rfl,hl,hb⟩
theorem zMR(n:Nat)(h1:4≤n)(h2:n≤65335)(w:World):Calls prog 28 #[.int .i64 n] w fun e w'=>∃bd bl,e= .returned (.tuple #[.pointer (some ⟨bd,0,none⟩),.pointer (some ⟨bl,0,none⟩)])∧LogView w' bl n (fun _=>yn 512) (fun k=>w.heap.size≤k∧k<w'.heap.size)∧Below w.heap.size w w':=(zKq n h1 h2 w).mono fun e w'⟨bd,bl,L,he,hl,hb⟩=>⟨bd,bl,he,by obtain⟨L',g1,g2,g3,g4,g5,g6,g7⟩:=hl.view;exact⟨L',g1,g2,g3,g4,g5,fun k hk=>⟨hl.newer k (g6 k hk),g7 k (g6 k hk)⟩,fun k hk=>hk.2⟩,hb⟩
def yI(h:Int):Int:=if h<3 then 0 else(min h 1048576-1)/4097*4096+max ((min h 1048576-1)%4097-1) 0
theorem zJA(h:Int):0≤yI h∧yI h≤1048576:=by
 unfold yI
 split
 ·omega
 ·omega
theorem zRn{p:Prop}(h:p:=by go_enter func80,ntmps80;go_wp2;go_ret;exact⟨rfl,rfl⟩):p:=h
theorem zFG(h:Int)(w:World):Calls prog 80 #[.int .i64 h] w fun e w'=>e= .returned (.int .i64 (yI h))∧w=w':=by
 by_cases h3:h<3
 ·(have e1:decide (h<3)=true:=by simpa using h3);(have e2:yI h=0:=by unfold yI;rw[if_pos h3]);rw[e2];clear e2;exact zRn
 ·(have e1:decide (h<3)=false:=by simpa using h3);obtain⟨m,hm⟩:=qN (min h 1048576);(have hm3:3≤m:=by omega);(have hm4:m≤1048576:=by omega);(have e2:yI h=(m-1)/4097*4096+max ((m-1)%4097-1) 0:=by unfold yI;rw[if_neg h3,hm]);rw[e2];clear e2 h3;exact zRn
theorem zJB(p:Int)(h0:0≤p)(h1:p≤1048576)(w:World):Calls prog 82 #[.int .i64 p] w fun e w'=>e= .returned (.int .i64 ((p+4095)/4096))∧w=w':=by
 go_enter func82,ntmps82
 go_wp2
 go_ret
 refine⟨?_,rfl⟩
 show Ending.returned (Value.int IntKind.i64 ((p+4096-1)/4096))=_
 rw[show p+4096-1=p+4095 by omega]
theorem zKC(p H K M:Nat)(hp:p<1073741824)(hH:H=1+p/4096)(hK:K=p %4096/8)(hM:M=2^(p %8))(w:World):Calls prog 260 #[.int .i64 p] w fun e w'=>e= .returned (.tuple #[.int .i64 H,.int .i64 K,.int .u8 M])∧Below w.heap.size w w':=by
 have e1:(1:Int)+(p:Int)/4096=(H:Int):=by omega
 have e2:(p:Int)%4096/8=(K:Int):=by omega
 have e3:((2:Int)^(p %8)%256)=(M:Int):=by have h8:p %8<8:=Nat.mod_lt _ (by decide);subst hM;have:(2^(p %8):Nat)<256:=Nat.pow_lt_pow_right (n:=8) (by decide) h8;rw[show((2:Int)^(p %8))=((2^(p %8):Nat):Int)by simp];generalize 2^(p %8)=x at*;omega
 have E1:=Hd e1
 have E2:=Hd e2
 have E3:=Hd e3
 clear e1 e2 e3 hH hK hM
 go_enter func260,ntmps260
 go_wp2
 go_quiet(fail)
 go_wp2
 rw[E1.out,E2.out,E3.out]
 go_ret3
 exact⟨rfl,⟨rfl,rfl,rfl,Qn _,fun _ _=>rfl⟩⟩
structure RoomS where
 bt:Nat
 T:TxS
 maps:Nat
 pages:Nat
structure RoomAt(w:World)(br:Nat)(R:RoomS):Prop where
 cells:w.heap[br]? =some (.cells #[.pointer (some ⟨R.bt,0,none⟩),.int .i64 R.maps,.int .i64 R.pages] 165 (0,0))
 tx:TxAt w R.bt R.T
 apart:¬R.T.foot R.bt br
 fit:R.maps=(R.pages+4095)/4096∧1+R.maps+R.pages≤R.T.n
def RoomS.foot(R:RoomS)(br k:Nat):Prop:=k=br∨R.T.foot R.bt k
theorem RoomAt.keep{w w':World}{br:Nat}{R:RoomS}(h:RoomAt w br R){S:Nat→Prop}(hk:Keep S w w')(hn:∀k,R.foot br k→¬S k):RoomAt w' br R:=⟨hk.at h.cells (hn _ (.inl rfl)),h.tx.keep hk (fun k hf=>hn k (.inr hf)),h.apart,h.fit⟩
theorem RoomAt.still{w u:World}{br:Nat}{R:RoomS}(h:RoomAt w br R)(hb:Below w.heap.size w u):RoomAt u br R:=h.keep (Keep.still hb) (fun _ _ h=>h)
structure RoomStep(br:Nat)(w:World)(R:RoomS)(w':World)(R':RoomS):Prop where
 at_:RoomAt w' br R'
 bt:R'.bt=R.bt
 maps:R'.maps=R.maps
 pages:R'.pages=R.pages
 tx:TxStep R.bt w R.T w' R'.T
theorem RoomStep.refl{br:Nat}{w:World}{R:RoomS}(h:RoomAt w br R):RoomStep br w R w R:=⟨h,rfl,rfl,rfl,TxStep.refl h.tx⟩
theorem RoomStep.still{br:Nat}{w u:World}{R:RoomS}(h:RoomAt w br R)(hb:Below w.heap.size w u):RoomStep br w R u R:=⟨h.still hb,rfl,rfl,rfl,TxStep.still h.tx hb⟩
theorem RoomStep.trans{br:Nat}{w w' w'':World}{R R' R'':RoomS}(h:RoomStep br w R w' R')(k:RoomStep br w' R' w'' R''):RoomStep br w R w'' R'':=⟨k.at_,k.bt.trans h.bt,k.maps.trans h.maps,k.pages.trans h.pages,h.tx.trans (h.bt▸k.tx)⟩
def RoomS.turned(R:RoomS)(T:TxS):RoomS:={R with T:=T}
theorem TxAt.foot_lt{w:World}{bt:Nat}{T:TxS}(h:TxAt w bt T){k:Nat}(hk:T.foot bt k):k<w.heap.size:=by
 rcases hk with hk|hk|hk|hk|hk
 ·exact h.own_lt (.inl hk)
 ·exact h.own_lt (.inr (.inl hk))
 ·exact h.log.lt hk
 ·exact h.own_lt (.inr (.inr (.inl hk)))
 ·exact h.own_lt (.inr (.inr (.inr hk)))
theorem TxStep.foot{bt:Nat}{w w':World}{T T':TxS}(h:TxStep bt w T w' T'){k:Nat}(hk:T'.foot bt k):T.foot bt k∨w.heap.size≤k:=by
 rcases hk with hk|hk|hk|hk|hk
 ·exact(h.own k (.inl hk)).imp TxS.own_foot id
 ·exact(h.own k (.inr (.inl hk))).imp TxS.own_foot id
 ·exact .inl (.inr (.inr (.inl (h.Fl▸hk))))
 ·exact(h.own k (.inr (.inr (.inl hk)))).imp TxS.own_foot id
 ·exact(h.own k (.inr (.inr (.inr hk)))).imp TxS.own_foot id
theorem RoomAt.step{w w':World}{br:Nat}{R:RoomS}(h:RoomAt w br R){T':TxS}(hs:TxStep R.bt w R.T w' T'):RoomStep br w R w' (R.turned T'):=by
 have hlt:br<w.heap.size:=(Gl h.cells)
 refine⟨⟨hs.keep.at h.cells (fun e=>h.apart (TxS.own_foot e)),hs.at_,fun e=> ?_,⟨h.fit.1,by show 1+R.maps+R.pages≤T'.n;rw[hs.n];exact h.fit.2⟩⟩,rfl,rfl,rfl,hs⟩
 rcases hs.foot e with e|e
 ·exact h.apart e
 ·omega
def RoomS.home(R:RoomS)(i:Int):QB:=R.T.read i
theorem zMS{w:World}{br:Nat}{R:RoomS}(h:RoomAt w br R){i:Int}(hi:(Lit.int .i64 i).wf=true):Calls prog 114 #[.pointer (some ⟨br,0,none⟩),.int .i64 i] w fun e w'=>e= .returned (.tuple #[.string (zAf R.T.n R.T.read i),.int .i64 (zBR R.T.n i)])∧Below w.heap.size w w':=by
 have H:=Hd (zI7 h.tx hi)
 obtain⟨⟨c0,c1,c2⟩,_⟩:=yN h.cells
 unfold TxS.says xn at H
 generalize zAf R.T.n R.T.read i=s at*
 generalize zBR R.T.n i=c at*
 go_enter func114,ntmps114
 go_wp2_with(go_at_call 179;refine(H.out).mono ?_;rintro e w1⟨rfl,hb⟩)
 go_ret2
 exact⟨rfl,hb⟩
theorem ki{w:World}{br:Nat}{R:RoomS}(h:RoomAt w br R){i:Nat}(hi:i<R.T.n):Calls prog 114 #[.pointer (some ⟨br,0,none⟩),.int .i64 i] w fun e w'=>e= .returned (.tuple #[.string (R.home i),.int .i64 0])∧Below w.heap.size w w':=by
 have:=zMS h (i:=(i:Int)) (zFQ (by omega) (by have:=h.tx.log.small;omega))
 rwa [zEM (by omega),zEN (by omega)]at this
theorem RoomAt.pos{w:World}{br:Nat}{R:RoomS}(h:RoomAt w br R):0<R.T.n:=by
 have:=h.fit.2
 omega
theorem vX{w:World}{br:Nat}{R:RoomS}(h:RoomAt w br R):Calls prog 113 #[.pointer (some ⟨br,0,none⟩)] w fun e w'=>e= .returned (.bool false)∧Below w.heap.size w w':=by
 have H:=Hd (ki h h.pos)
 go_enter func113,ntmps113
 go_wp2_with(go_at_call 114;refine(H.out).mono ?_;rintro e w1⟨rfl,hb⟩)
 go_ret
 exact⟨rfl,hb⟩
theorem kG{w:World}{br:Nat}{R:RoomS}(h:RoomAt w br R)(p:Nat)(hp:p<R.pages):Calls prog 224 #[.pointer (some ⟨br,0,none⟩),.int .i64 p] w fun e w'=>e= .returned (.int .i64 (1+R.maps+p:Nat))∧w=w':=by
 obtain⟨⟨c0,c1,c2⟩,_⟩:=yN h.cells
 have hf:=h.fit
 have hn:=h.tx.log.small
 have e1:(1:Int)+(R.maps:Int)+(p:Int)=((1+R.maps+p:Nat):Int):=by omega
 have hm:(R.maps:Int)≤65536:=by omega
 have hp2:(p:Int)≤65536:=by omega
 have E1:=Hd e1
 clear e1 hf
 go_enter func224,ntmps224
 go_wp2
 rw[E1.out]
 go_ret
 exact⟨rfl,rfl⟩
theorem zHb(n:Nat)(hn:n≤65536)(h1:1≤n):1+((yI n).toNat+4095)/4096+(yI n).toNat≤n:=by
 unfold yI
 split
 ·simp;omega
 ·omega
theorem zQH{w:World}{bt:Nat}{T:TxS}(h:TxAt w bt T)(h1:1≤T.n):Calls prog 29 #[.pointer (some ⟨bt,0,none⟩)] w fun e w'=>∃br R,e= .returned (.pointer (some ⟨br,0,none⟩))∧RoomAt w' br R∧R.bt=bt∧R.T=T∧R.pages=(yI T.n).toNat∧w.heap.size≤br∧Below w.heap.size w w':=by
 have hsm:=h.log.small
 have H1:=Hd (kh h)
 have H2:=Hd (fun w=>zFG T.n w)
 have hbd:=zJA T.n
 have hfit:=zHb T.n hsm h1
 have H3:=Hd (fun w=>zJB (yI T.n) hbd.1 hbd.2 w)
 obtain⟨pg,hpg⟩:∃pg:Nat,yI T.n=(pg:Int):=⟨(yI T.n).toNat,by omega⟩
 rw[hpg]at H2 H3 hfit⊢
 have e1:((pg:Int)+4095)/4096=(((pg+4095)/4096:Nat):Int):=by omega
 rw[e1]at H3
 have H:=Hd h
 have HF:=Hd hfit
 clear h hfit hbd hpg e1
 generalize hmp:(pg+4095)/4096=mp at*
 have HMP:=Hd hmp
 clear hmp
 go_enter func29,ntmps29
 go_wp2_with(first|(go_at_call 81;refine(H1.out).mono ?_;rintro e w1⟨rfl,hb⟩)|(go_at_call 80;refine(H2.out _).mono ?_;rintro e w2⟨rfl,rfl⟩)|(go_at_call 82;refine(H3.out _).mono ?_;rintro e w2⟨rfl,rfl⟩))
 go_ret
 have hb2:Below w.heap.size w (w1.alloc (Obj.cells #[.pointer (some ⟨bt,0,none⟩),.int .i64 mp,.int .i64 pg] 165)):=hb.alloc hb.size _
 refine⟨w1.heap.size,⟨bt,T,mp,pg⟩,rfl,⟨qH w1 _,H.out.still hb2,fun hf=> ?_,⟨HMP.out.symm,?_⟩⟩,rfl,rfl,by simp,hb.size,hb2⟩
 ·have:=H.out.foot_lt hf;have:=hb.size;omega
 ·have:=HF.out;have:=HMP.out;show 1+mp+pg≤T.n;omega
theorem TxAt.read_size{w:World}{bt:Nat}{T:TxS}(h:TxAt w bt T)(i:Int)(h0:0≤i)(hn:i<T.n):(T.read i).size=512:=by
 unfold TxS.read
 by_cases hp:zX T.puts i=[]
 ·rw[zFT _ _ _ hp];exact h.log.size i h0 hn
 ·obtain⟨hk,hpk⟩:=zFU T.puts T.f i _ _ (List.dropLast_concat_getLast hp).symm;exact(h.good _ (List.mem_of_getElem? hpk)).2.2
theorem RoomAt.home_size{w:World}{br:Nat}{R:RoomS}(h:RoomAt w br R){i:Nat}(hi:i<R.T.n):(R.home (i:Int)).size=512:=h.tx.read_size i (by omega) (by omega)
theorem zMT{w:World}{br:Nat}{R:RoomS}(h:RoomAt w br R)(hlen:R.T.puts.length<1000000000000)(p:Nat)(hp:p<R.pages):Calls prog 223 #[.pointer (some ⟨br,0,none⟩),.int .i64 p] w fun e w'=>e= .returned (.int .i64 0)∧∃R',RoomStep br w R w' R'∧R'.T.puts=R.T.puts++[(((1+p/4096:Nat):Int),zAJ (R.home (1+p/4096:Nat)) (p %4096/8) (2^(p %8)))]:=by
 have hf:=h.fit
 have hn:=h.tx.log.small
 have hp2:p<1073741824:=by omega
 obtain⟨H,hH⟩:∃H,H=1+p/4096:=⟨_,rfl⟩
 obtain⟨K,hK⟩:∃K,K=p %4096/8:=⟨_,rfl⟩
 obtain⟨M,hM⟩:∃M,M=2^(p %8):=⟨_,rfl⟩
 have B:=Hd (fun w=>zKC p H K M hp2 hH hK hM w)
 have hHn:H<R.T.n:=by omega
 have HM:=Hd (fun u(hu:RoomAt u br R)=>ki hu hHn)
 have hK5:K<512:=by omega
 rw[←hH,←hK,←hM]
 have hsz:(R.home H).size=512:=h.home_size (by omega)
 have hM8:M<256:=by rw[hM];exact zGQ p
 generalize hs:R.home H=s at*
 have HHs:=Hd hs
 have HR:=Hd h
 clear h hf hH hK hM hs
 go_enter func223,ntmps223
 go_wp2_with(first|(go_at_call 260;refine(B.out _).mono ?_;rintro e w1⟨rfl,hb1⟩;have HR1:=Hd (HR.out.still hb1);have HB1:=Hd hb1;clear hb1)|(go_at_call 114;refine(HM.out _ HR1.out).mono ?_;rintro e w2⟨rfl,hb2⟩;have HR2:=Hd (HR1.out.still hb2);have HB2:=Hd hb2;obtain⟨c,w3,hcv,hb3,hz3,hc3,⟨cs,hcs,hcl⟩,hcell⟩:=zBt (P:=prog) w2 9 121 5 s underlying9 underlying121 underlying5;have hk3:=hcell K (by omega);rw[zL]at hk3;(have f3:w3.frozen? ⟨w2.heap.size,K,none⟩=false:=by simp[World.frozen?,hcs];omega);have hx:=zDO (zG s K) M (vP _ _) hM8;(have hK0:(0:Int)≤(K:Int):=by omega);(have hK1:(K:Int)<512:=by omega);have HCs:=Hd hcs;have HCell:=Hd hcell;have HB3:=Hd hb3;have HZ3:=Hd hz3;rw[hsz]at hcv;clear hb2 hcs hcell hb3 hz3))
 have hbW:Below w.heap.size w (w3.setCell ⟨w2.heap.size,K,none⟩ (.int .u8 (zG s K^^^M:Nat))):=by have b2:=qT HB1.out HB2.out;have b3:=qT b2 HB3.out;exact b3.setCell (p:=⟨w2.heap.size,K,none⟩) b2.size _
 have hBy:Lib.Bytes (w3.setCell ⟨w2.heap.size,K,none⟩ (.int .u8 (zG s K^^^M:Nat))) w2.heap.size 0 (zAJ s K M):=by intro i hi;rw[vE]at hi;rw[Nat.zero_add,zL _ i (by rw[vE];exact hi),zDP _ _ _ _ hM8 (by omega)];by_cases hik:i=K;(·subst hik;rw[if_pos rfl];exact World.cell?_setCell_same (h:=hk3) .. );·have hne:(⟨w2.heap.size,K,none⟩:Addr)≠⟨w2.heap.size,i,none⟩:=fun e=>hik (by cases e;rfl);rw[if_neg hik,World.cell?_setCell_other (h:=hne) ..,HCell.out i hi,zL]
 have HRW:=Hd (HR.out.still hbW)
 have HBW:=Hd hbW
 have HBy:=Hd hBy
 clear hbW hBy hcv hk3 f3 hx
 generalize w3.setCell ⟨w2.heap.size,K,none⟩ (.int .u8 (zG s K^^^M:Nat))=W at*
 have hx5:(zAJ s K M).size=512:=by rw[vE];exact hsz
 have HW:=Hd (kE (HRW.out.tx) hlen (i:=(H:Int)) (by omega) (zAJ s K M) (by omega))
 rw[zBs _ hx5]at HW
 have HCV:=Hd (fun u(hu:Lib.Bytes u w2.heap.size 0 (zAJ s K M))=>Lib.run_convert_whole (P:=prog) u 121 5 9 underlying121 underlying5 underlying9 w2.heap.size 0 (zAJ s K M) hu c)
 rw[hx5]at HCV
 generalize hs2:zAJ s K M=s2 at*
 have HS2:=Hd hs2
 clear hs2
 have hHn2:(H:Int)<65536:=by omega
 obtain⟨S,HS⟩:=mkS (Keep (fun _=>False) (W))
 have FR:=Hd (fun u(hu:S u)=>have hu:=(HS.out u).1 hu;have o09:=yN (hu.at HRW.out.cells (fun e=>e));have l1:=(HCV.out u (fun i hi=>(World.cell?_of_block (hu.block _ (World.block_lt_of_cell? _ _ (HBy.out i hi)) (fun e=>e))).trans (HBy.out i hi)));And.intro o09 l1)
 refine rgo 7 [tR 0,tR 1,tR 2,tR 3,tR 4,tR 5,tR 6] HS (Keep.refl _ _).drew ?_
 iterate 7 refine rd1 ?_
 refine zl ?_
 clear FR
 have HWd:=Hd (kE ((HRW.out.tx).keep (Keep.refl (fun _=>False) W).drew (fun _ _ e=>e)) hlen (i:=(H:Int)) (by omega) s2 (by omega))
 rw[zBs _ hx5]at HWd
 clear S HS HCV HBy HW
 go_wp2_with(go_at_call 217;refine(HWd.out).mono ?_;rintro e w5⟨rfl,T',hst,hpp⟩)
 go_ret
 refine⟨rfl,R.turned T',?_,by rw[HS2.out];exact hpp⟩
 have hbd:Below w.heap.size w W.drew:=HBW.out.drew
 exact(RoomStep.still HR.out hbd).trans ((HR.out.still hbd).step hst)
def zCP(f:Int→QB)(pages:Nat)(r:Int):Prop:=(r= -1∧∀q,q<pages→yG f q=true)∨∃p:Nat,r=p∧p<pages∧yG f p=false∧∀q,q<p→yG f q=true
def zMU(f:Int→QB)(pages:Nat)(w:World)(e:Ending)(w':World):Prop:=∃r:Int,zCP f pages r∧e= .returned (.tuple #[.int .i64 r,.int .i64 0])∧Below w.heap.size w w'
theorem zQI{f:Int→QB}{pages m k:Nat}(hk:k<512)(hall:∀q,q<m*4096+8*k→yG f q=true)(hb:zG (f ((1+m:Nat):Int)) k≠255)(t:Nat)(ht:t=Lib.trailingZeros8 (255-zG (f ((1+m:Nat):Int)) k)):t<8∧zCP f pages (if m*4096+8*k+t<pages then((m*4096+8*k+t:Nat):Int)else-1):=by
 obtain⟨h1,h2,h3⟩:=zOC ⟨_,vP (f ((1+m:Nat):Int)) k⟩ hb
 simp only at h1 h2 h3
 rw[←ht]at h1 h2 h3
 have hp:yG f (m*4096+8*k+t)=false:=by rw[ke f m k t hk h1];exact h2
 have hq:∀q,q<m*4096+8*k+t→yG f q=true:=fun q hq=>by by_cases h:q<m*4096+8*k;(·exact hall q h);·obtain⟨j,rfl⟩:∃j,q=m*4096+8*k+j:=⟨q-(m*4096+8*k),by omega⟩;rw[ke f m k j hk (by omega)];exact h3 ⟨j,by omega⟩ (by show j<t;omega)
 refine⟨h1,?_⟩
 split
 ·exact .inr ⟨_,rfl,by assumption,hp,hq⟩
 ·exact .inl ⟨rfl,fun q hqp=>hq q (by omega)⟩
theorem zON{f:Int→QB}{m k:Nat}(hk:k<512)(hall:∀q,q<m*4096+8*k→yG f q=true)(hb:zG (f ((1+m:Nat):Int)) k=255):∀q,q<m*4096+8*(k+1)→yG f q=true:=fun q hq=>by
 by_cases h:q<m*4096+8*k
 ·exact hall q h
 ·obtain⟨j,rfl⟩:∃j,q=m*4096+8*k+j:=⟨q-(m*4096+8*k),by omega⟩;rw[ke f m k j hk (by omega),hb];exact zOE ⟨j,by omega⟩
theorem zHc{w:World}{br:Nat}{R:RoomS}(h:RoomAt w br R):Calls prog 222 #[.pointer (some ⟨br,0,none⟩)] w (zMU R.home R.pages w):=by
 have hf:=h.fit
 have hn:=h.tx.log.small
 obtain⟨⟨c0,c1,c2⟩,_⟩:=yN h.cells
 have HM:=Hd (fun(i:Nat)(hi:i<R.T.n)u(hu:RoomAt u br R)=>ki hu hi)
 have HSz:=Hd (fun(i:Nat)(hi:i<R.T.n)=>h.home_size hi)
 have HR:=Hd h
 have HF:=Hd hf
 have hmaps:R.maps≤17:=by omega
 clear h hf
 go_enter func222,ntmps222
 go_wp2
 go_loopw [13](fun i wr=>(∃m:Nat,m≤R.maps∧i= .int .i64 m∧∀q,q<m*4096→yG R.home q=true)∧Below w.heap.size w wr)(fun i _=>R.maps-(intOf i).toNat)
 case atStart=>exact⟨⟨0,by omega,rfl,fun q hq=>by omega⟩,Below.refl _ _⟩
 case round=>obtain⟨⟨m,hm,rfl,hall⟩,hb⟩:=hrel;have HA:=Hd hall;have HB:=Hd hb;clear hall hb;by_cases hlt:m<R.maps;(·(have e1:decide ((m:Int)<(R.maps:Int))=true:=by simp;omega);(have e2:(1:Int)+(m:Int)=((1+m:Nat):Int):=by omega);(have hin:1+m<R.T.n:=by have:=HF.out;omega);have hsz:(R.home ((1+m:Nat):Int)).size=512:=HSz.out _ hin;have HM1:=Hd (HM.out (1+m) hin);generalize hs:R.home ((1+m:Nat):Int)=s at*;have HS:=Hd hs;have HE2:=Hd e2;clear hs e2;go_wp2_with(fail);rw[HE2.out];refine(HM1.out _ (HR.out.still HB.out)).mono ?_;rintro e w1⟨rfl,hb1⟩;have HB1:=Hd (qT HB.out hb1);obtain⟨⟨d0,d1,d2⟩,_⟩:=yN (HR.out.still HB1.out).cells;clear hb1;go_wp2_with(fail);go_loop [28](fun i=>∃k:Nat,k≤512∧i= .int .i64 k∧∀q,q<m*4096+8*k→yG R.home q=true)(fun i=>512-(intOf i).toNat);(case atStart=>exact⟨0,by omega,rfl,fun q hq=>HA.out q (by omega)⟩);case round=>obtain⟨k,hk,rfl,hall⟩:=hrel;have HK:=Hd hall;clear hall;by_cases hk5:k<512;(·(have f1:decide ((k:Int)<512)=true:=by simp;omega);(have hk0:(0:Int)≤(k:Int):=by omega);(have hk1:(k:Int)<512:=by omega);have hbn:=zL s k (by omega);have hbl:=vP s k;by_cases hbb:zG s k=255;(·(have f2:((zG s k:Int)==255)=true:=by simp;omega);have hnext:=zON hk5 HK.out (by rw[HS.out];exact hbb);have HN:=Hd hnext;clear hnext;go_wp2;go_round;(case rel=>exact⟨k+1,by omega,by go_num,HN.out⟩);case measure=>simp[intOf];omega);·(have f2:((zG s k:Int)==255)=false:=by simp;omega);have hx:=zOD (zG s k) hbl;obtain⟨t,ht⟩:∃t,t=Lib.trailingZeros8 (255-zG s k):=⟨_,rfl⟩;obtain⟨ht8,hsay⟩:=zQI (f:=R.home) (pages:=R.pages) hk5 HK.out (by rw[HS.out];exact hbb) t (by rw[HS.out];exact ht);have hz:=fun w=>Tryz.bits_TrailingZeros8 ((255-zG s k:Nat):Int) w (by omega) (by omega);rw[Int.toNat_natCast,←ht]at hz;have HZ:=Hd hz;have HSay:=Hd hsay;clear hz ht hsay hbb;generalize hb:zG s k=b at*;have HBB:=Hd hb;clear hb;go_wp2_with(fail);refine(HZ.out _).mono ?_;rintro e w2⟨rfl,rfl⟩;(have ht0:(0:Int)≤(t:Int):=by omega);by_cases hpp:m*4096+8*k+t<R.pages;(·(have g1:decide ((m:Int)*4096+8*(k:Int)+(t:Int)<(R.pages:Int))=true:=by simp;omega);have hsay:=HSay.out;rw[if_pos hpp]at hsay;have HSay2:=Hd hsay;(have eP:(m:Int)*4096+8*(k:Int)+(t:Int)=((m*4096+8*k+t:Nat):Int):=by omega);have EP:=Hd eP;clear hsay hpp eP;go_wp2;go_ret2;exact⟨_,HSay2.out,by rw[←EP.out];rfl,HB1.out⟩);·(have g1:decide ((m:Int)*4096+8*(k:Int)+(t:Int)<(R.pages:Int))=false:=by simp;omega);have hsay:=HSay.out;rw[if_neg hpp]at hsay;have HSay2:=Hd hsay;clear hsay hpp;go_wp2;go_ret2;exact⟨_,HSay2.out,rfl,HB1.out⟩);·(obtain rfl:k=512:=by omega);have hall2:∀q,q<(m+1)*4096→yG R.home q=true:=fun q hq=>HK.out q (by omega);have HA2:=Hd hall2;clear hall2;go_wp2;go_roundw;(case rel=>exact⟨⟨m+1,by omega,by go_num,HA2.out⟩,HB1.out⟩);case measure=>simp[intOf];omega);·(obtain rfl:m=R.maps:=by omega);have hall2:∀q,q<R.pages→yG R.home q=true:=fun q hq=>HA.out q (by have:=HF.out;omega);have HA2:=Hd hall2;clear hall2;go_wp2;go_ret2;exact⟨-1,.inl ⟨rfl,HA2.out⟩,rfl,HB.out⟩
def RoomS.has(R:RoomS)(p:Nat):Bool:=yG R.home p
def RoomS.text(R:RoomS)(p:Nat):QB:=R.home ((1+R.maps+p:Nat):Int)
def RoomS.hasAt(R:RoomS)(i:Int):Bool:=decide (0≤i∧i<R.pages)&&R.has i.toNat
def RoomS.hasErr(R:RoomS)(i:Int):Int:=if 0≤i∧i<R.pages then 0 else 2
def RoomS.err(R:RoomS)(i:Int):Int:=if 0≤i∧i<R.pages then(if R.has i.toNat then 0 else 6)else 2
theorem zRo{p:Prop}(h:p:=by (have e1:R.hasAt i=false:=by unfold RoomS.hasAt;rw[decide_eq_false (by omega)];rfl);(have e2:R.hasErr i=2:=by unfold RoomS.hasErr;rw[if_neg (by omega)]);rw[e1,e2];clear e1 e2 hf h;go_enter func261,ntmps261;go_wp2_with(first|(go_at_call 113;refine(HD.out _ HR.out).mono ?_;rintro e w1⟨rfl,hb1⟩;obtain⟨⟨c0,c1,c2⟩,_⟩:=yN (HR.out.still hb1).cells));go_ret2;exact⟨rfl,hb1⟩):p:=h
theorem zOO{w:World}{br:Nat}{R:RoomS}(h:RoomAt w br R)(i:Int):Calls prog 261 #[.pointer (some ⟨br,0,none⟩),.int .i64 i] w fun e w'=>e= .returned (.tuple #[.bool (R.hasAt i),.int .i64 (R.hasErr i)])∧Below w.heap.size w w':=by
 have hf:=h.fit
 have hn:=h.tx.log.small
 have HD:=Hd (fun u(hu:RoomAt u br R)=>vX hu)
 have HR:=Hd h
 by_cases h0:i<0
 ·(have d1:decide (i<0)=true:=by simpa using h0);exact zRo
 ·(have d1:decide (i<0)=false:=by simpa using h0);by_cases hge:(R.pages:Int)≤i;(·(have d2:decide ((R.pages:Int)≤i)=true:=by simpa using hge);exact zRo);·(have d2:decide ((R.pages:Int)≤i)=false:=by simpa using hge);obtain⟨p,rfl⟩:∃p:Nat,i=p:=⟨i.toNat,by omega⟩;(have hp:p<R.pages:=by omega);(have e1:R.hasAt p=yG R.home p:=by unfold RoomS.hasAt;rw[decide_eq_true (by omega)];rfl);(have e2:R.hasErr p=0:=by unfold RoomS.hasErr;rw[if_pos (by omega)]);rw[e1,e2];obtain⟨H,hH⟩:∃H,H=1+p/4096:=⟨_,rfl⟩;obtain⟨K,hK⟩:∃K,K=p %4096/8:=⟨_,rfl⟩;obtain⟨M,hM⟩:∃M,M=2^(p %8):=⟨_,rfl⟩;have B:=Hd (fun w=>zKC p H K M (by omega) hH hK hM w);(have hHn:H<R.T.n:=by omega);have HM:=Hd (fun u(hu:RoomAt u br R)=>ki hu hHn);(have hK5:K<512:=by omega);(have hM8:M<256:=by rw[hM];exact zGQ p);have hsz:(R.home H).size=512:=h.home_size (by omega);(have e3:yG R.home p=(zG (R.home H) K&&&M !=0):=by unfold yG;rw[←hH,←hK,hM,zHP]);rw[e3];generalize R.home H=s at*;(have hKs:K<s.size:=by omega);have hbn:=zL s K hKs;have hx:=zHO (zG s K) M (vP _ _) hM8;(have hx2:(((zG s K&&&M:Nat):Int) !=0)=(zG s K&&&M !=0):=by generalize zG s K&&&M=x;cases x;(·rfl);·simp;omega);have HX2:=Hd hx2;(have hK0:(0:Int)≤(K:Int):=by omega);(have hK1:(K:Int)<512:=by omega);clear e1 e2 e3 hf h hx2 hH hK hM;go_enter func261,ntmps261;go_wp2_with(first|(go_at_call 113;refine(HD.out _ HR.out).mono ?_;rintro e w1⟨rfl,hb1⟩;have HR1:=Hd (HR.out.still hb1);have HB1:=Hd hb1;obtain⟨⟨c0,c1,c2⟩,_⟩:=yN HR1.out.cells;clear hb1)|(go_at_call 260;refine(B.out _).mono ?_;rintro e w2⟨rfl,hb2⟩;have HR2:=Hd (HR1.out.still hb2);have HB2:=Hd (qT HB1.out hb2);clear hb2)|(go_at_call 114;refine(HM.out _ HR2.out).mono ?_;rintro e w3⟨rfl,hb3⟩;have HB3:=Hd (qT HB2.out hb3);clear hb3));go_ret2;exact⟨by rw[←HX2.out];rfl,HB3.out⟩
theorem zRp{R:RoomS}{p:Nat}(hp:p<R.pages):R.hasAt p=R.has p:=by
 unfold RoomS.hasAt
 rw[decide_eq_true (by omega)]
 rfl
theorem zQJ(R:RoomS)(i:Int):R.err i=if R.hasErr i=0 then(if R.hasAt i then 0 else 6)else R.hasErr i:=by
 unfold RoomS.err RoomS.hasErr RoomS.hasAt
 by_cases h:0≤i∧i<R.pages
 ·simp[h]
 ·simp[h]
theorem zFZ{w:World}{br:Nat}{R:RoomS}(h:RoomAt w br R)(i:Int):Calls prog 225 #[.pointer (some ⟨br,0,none⟩),.int .i64 i] w fun e w'=>e= .returned (.int .i64 (R.err i))∧Below w.heap.size w w':=by
 have H1:=Hd (zOO h i)
 rw[zQJ]
 generalize R.hasAt i=b at*
 have h2:R.hasErr i=0∨R.hasErr i=2:=by unfold RoomS.hasErr;split<;>simp
 generalize R.hasErr i=c at*
 clear h
 rcases h2 with rfl|rfl
 ·cases b;all_goals go_enter func225,ntmps225;go_wp2_with(first|(go_at_call 261;refine(H1.out).mono ?_;rintro e w1⟨rfl,hb1⟩));go_ret;exact⟨rfl,hb1⟩
 ·go_enter func225,ntmps225;go_wp2_with(first|(go_at_call 261;refine(H1.out).mono ?_;rintro e w1⟨rfl,hb1⟩));go_ret;exact⟨rfl,hb1⟩
theorem zC0{R R':RoomS}{i:Int}{s:QB}(hf:R'.T.f=R.T.f)(hp:R'.T.puts=R.T.puts++[(i,s)])(j:Int):R'.home j=if i=j then s else R.home j:=by
 unfold RoomS.home TxS.read
 rw[hf,hp,zBP]
structure Alloced(R R':RoomS)(p:Nat):Prop where
 has:∀q,q<R.maps*4096→R'.has q=(decide (q=p)||R.has q)
 text:∀q,q<R.pages→R'.text q=if q=p then yn 512 else R.text q
 zero:R'.home 0=R.home 0
 puts:∃a,R'.T.puts=R.T.puts++a∧a.length≤2
structure Wrote(R R':RoomS)(p:Nat)(s:QB):Prop where
 has:∀q,q<R.maps*4096→R'.has q=R.has q
 text:∀q,q<R.pages→R'.text q=if q=p then s else R.text q
 zero:R'.home 0=R.home 0
 puts:∃a,R'.T.puts=R.T.puts++a∧a.length≤1
theorem zKr{w:World}{br:Nat}{R R1:RoomS}(h:RoomAt w br R){p:Nat}(hp:p<R.pages)(hf1:R1.T.f=R.T.f)(hm:R1.maps=R.maps)(hp1:R1.T.puts=R.T.puts++[(((1+p/4096:Nat):Int),zAJ (R.home (1+p/4096:Nat)) (p %4096/8) (2^(p %8)))]):(∀q,R1.has q=if q=p then !R.has p else R.has q)∧(∀q,q<R.pages→R1.text q=R.text q)∧R1.home 0=R.home 0:=by
 have hfit:=h.fit
 have hh:=zC0 hf1 hp1
 refine⟨fun q=> ?_,fun q hq=> ?_,?_⟩
 ·refine zI2 (h.home_size (by omega)) ?_ (fun hne=> ?_);(·rw[hh,if_pos rfl]);·rw[hh,if_neg (by omega)]
 ·unfold RoomS.text;rw[hm,hh,if_neg (by omega)]
 ·rw[hh,if_neg (by omega)]
theorem zHd{R R1:RoomS}{p:Nat}{s:QB}(hf1:R1.T.f=R.T.f)(hm:R1.maps=R.maps)(hp1:R1.T.puts=R.T.puts++[(((1+R.maps+p:Nat):Int),s)]):Wrote R R1 p s:=by
 have hh:=zC0 hf1 hp1
 refine⟨fun q hq=> ?_,fun q hq=> ?_,?_,_,hp1,by simp⟩
 ·unfold RoomS.has yG;rw[hh,if_neg (by omega)]
 ·unfold RoomS.text;rw[hm,hh];by_cases hqp:q=p;(·rw[if_pos hqp,if_pos (by omega)]);·rw[if_neg hqp,if_neg (by omega)]
 ·rw[hh,if_neg (by omega)]
theorem zJC{w:World}{br:Nat}{R R1 R2:RoomS}(h:RoomAt w br R){p:Nat}(hp:p<R.pages)(h0:R.has p=false)(hf1:R1.T.f=R.T.f)(hm1:R1.maps=R.maps)(hg1:R1.pages=R.pages)(hp1:R1.T.puts=R.T.puts++[(((1+p/4096:Nat):Int),zAJ (R.home (1+p/4096:Nat)) (p %4096/8) (2^(p %8)))])(hf2:R2.T.f=R1.T.f)(hm2:R2.maps=R1.maps)(hp2:R2.T.puts=R1.T.puts++[(((1+R.maps+p:Nat):Int),yn 512)]):Alloced R R2 p:=by
 obtain⟨t1,t2,t3⟩:=zKr h hp hf1 hm1 hp1
 have W:=zHd (R:=R1) (R1:=R2) (p:=p) hf2 hm2 (by rw[hm1];exact hp2)
 refine⟨fun q hq=> ?_,fun q hq=> ?_,W.zero.trans t3,_,by rw[hp2,hp1,Qa],by simp⟩
 ·rw[W.has q (by rw[hm1];exact hq),t1];by_cases hqp:q=p;(·subst hqp;simp[h0]);·simp[hqp]
 ·rw[W.text q (by rw[hg1];exact hq)];by_cases hqp:q=p;(·rw[if_pos hqp,if_pos hqp]);·rw[if_neg hqp,if_neg hqp,t2 q hq]
theorem zHe{f:Int→QB}{pages:Nat}{r:Int}(h:zCP f pages r){p:Nat}(hp:p<pages)(h0:yG f p=false)(h1:∀q,q<p→yG f q=true):r=p:=by
 rcases h with⟨_,h2⟩|⟨p',rfl,hp',h2,h3⟩
 ·rw[h2 p hp]at h0;cases h0
 ·rcases Nat.lt_trichotomy p p' with h|h|h;(·rw[h3 p h]at h0;cases h0);(·rw[h]);·rw[h1 p' h]at h2;cases h2
theorem zFH{f:Int→QB}{pages:Nat}{r:Int}(h:zCP f pages r)(h1:∀q,q<pages→yG f q=true):r= -1:=by
 rcases h with⟨h2,_⟩|⟨p',rfl,hp',h2,h3⟩
 ·exact h2
 ·rw[h1 p' hp']at h2;cases h2
theorem zJD{w:World}{br:Nat}{R:RoomS}(h:RoomAt w br R)(hall:∀q,q<R.pages→R.has q=true):Calls prog 172 #[.pointer (some ⟨br,0,none⟩)] w fun e w'=>e= .returned (.tuple #[.int .i64 0,.int .i64 4])∧Below w.heap.size w w':=by
 have HD:=Hd (vX h)
 have HF:=Hd (fun u(hu:RoomAt u br R)=>zHc hu)
 have HA:=Hd hall
 have HR:=Hd h
 clear h hall
 go_enter func172,ntmps172
 go_wp2_with(first|(go_at_call 113;refine(HD.out).mono ?_;rintro e w1⟨rfl,hb1⟩;have HB1:=Hd hb1;clear hb1)|(go_at_call 222;refine(HF.out _ (HR.out.still HB1.out)).mono ?_;rintro e w2⟨r,hr,rfl,hb2⟩;obtain rfl:=zFH hr HA.out;have HB2:=Hd (qT HB1.out hb2);clear hr hb2))
 go_ret2
 exact⟨rfl,HB2.out⟩
theorem zHf{w:World}{br:Nat}{R:RoomS}(h:RoomAt w br R)(hlen:R.T.puts.length+1<1000000000000)(p:Nat)(hp:p<R.pages)(h0:R.has p=false)(h1:∀q,q<p→R.has q=true):Calls prog 172 #[.pointer (some ⟨br,0,none⟩)] w fun e w'=>e= .returned (.tuple #[.int .i64 p,.int .i64 0])∧∃R',RoomStep br w R w' R'∧Alloced R R' p:=by
 have hf:=h.fit
 have hn:=h.tx.log.small
 have HD:=Hd (vX h)
 have HF:=Hd (fun u(hu:RoomAt u br R)=>zHc hu)
 have HT:=Hd (fun u(hu:RoomAt u br R)=>zMT hu (by omega) p hp)
 obtain⟨A,hA⟩:∃A,A=1+R.maps+p:=⟨_,rfl⟩
 have HAt:=Hd (fun u R1(hu:RoomAt u br R1)(hm:R1.maps=R.maps)(hg:R1.pages=R.pages)=>(by have:=kG hu p (by omega);rw[hm,←hA]at this;exact this:Calls prog 224 #[.pointer (some ⟨br,0,none⟩),.int .i64 p] u fun e w'=>e= .returned (.int .i64 A)∧u=w'))
 have HU:=Hd (fun r hr=>zHe (r:=r) hr hp h0 h1)
 have HR:=Hd h
 have HH0:=Hd h0
 have HA:=Hd hA
 have HFit:=Hd hf
 have hp0:(0:Int)≤(p:Int):=by omega
 clear h h0 h1 hA hf
 go_enter func172,ntmps172
 go_wp2_with(first|(go_at_call 113;refine(HD.out).mono ?_;rintro e w1⟨rfl,hb1⟩;have HB1:=Hd hb1;clear hb1)|(go_at_call 222;refine(HF.out _ (HR.out.still HB1.out)).mono ?_;rintro e w2⟨r,hr,rfl,hb2⟩;obtain rfl:=HU.out r hr;have HB2:=Hd (qT HB1.out hb2);clear hr hb2)|(go_at_call 223;refine(HT.out _ (HR.out.still HB2.out)).mono ?_;rintro e w3⟨rfl,R1,hst,hpp⟩;have HST:=Hd ((RoomStep.still HR.out HB2.out).trans hst);have HPP:=Hd hpp;clear hst hpp))
 obtain⟨S,HS⟩:=mkS (Keep (fun _=>False) (w3))
 refine rgo 7 [tR 0,tR 1,tR 2,tR 3,tR 4,tR 5,tD 6] HS (Keep.refl _ _).drew ?_
 iterate 6 first|(refine wpH_passed rfl (by rfl) (fun K hK=> ?_);go_simp;refine hK _ ?_;clear hK K)|((first|refine kD rfl rfl (fun K hK=> ?_)|refine wpH_readw rfl (by rfl) (fun K hK=> ?_));apply Exists.intro;refine⟨fun u hu=> ?_,?_⟩;(·have hu:=(HS.out u).1 hu;obtain⟨⟨c0,c1,c2⟩,_⟩:=yN (hu.at HST.out.at_.cells (fun e=>e));rw[HST.out.bt]at c0;clear hu;go_simp;exact⟨rfl,rfl⟩);go_simp;refine hK _ ?_;clear hK K)
 refine doH ?_
 intro K hK
 go_simp
 go_at_call 224
 refine(HAt.out _ R1 (HST.out.at_.keep (Keep.refl (fun _=>False) w3).drew (fun _ _ e=>e)) HST.out.maps HST.out.pages).mono ?_
 rintro e u5⟨rfl,rfl⟩
 refine hK _ _ ((HS.out _).2 (Keep.refl _ _).drew) ?_
 clear hK K
 refine zl ?_
 clear S HS
 have hw3:RoomAt w3.drew br R1:=HST.out.at_.keep (Keep.refl (fun _=>False) w3).drew (fun _ _ e=>e)
 have hpl:R1.T.puts.length=R.T.puts.length+1:=by rw[HPP.out];simp
 have hn1:R1.T.n=R.T.n:=HST.out.tx.n
 have hz0:(⟨#[]⟩:QB).size=0:=rfl
 have HW:=Hd (kE hw3.tx (by omega) (i:=(A:Int)) (by have:=HA.out;have:=HFit.out;omega) ⟨#[]⟩ (by omega))
 rw[HST.out.bt]at HW
 have HW3:=Hd hw3
 clear hw3 hpl hn1 hz0
 go_wp2_with(go_at_call 217;refine(HW.out).mono ?_;rintro e w5⟨rfl,T',hst,hpp⟩)
 go_ret2
 have hs1:RoomStep br w R w3.drew R1:=HST.out.trans (RoomStep.still HST.out.at_ (Below.refl _ _).drew)
 have hst2:=HW3.out.step (T':=T') (by rw[HST.out.bt];exact hst)
 refine⟨rfl,_,hs1.trans hst2,?_⟩
 have hfe:zS ⟨#[]⟩=yn 512:=zDL
 rw[hfe]at hpp
 exact zJC HR.out hp HH0.out HST.out.tx.f HST.out.maps HST.out.pages HPP.out hst.f rfl (by rw[←HA.out];exact hpp)
theorem zFa{R:RoomS}{p:Nat}(hp:p<R.pages)(h1:R.has p=true):R.err p=0:=by
 unfold RoomS.err
 rw[if_pos (by omega),Int.toNat_natCast,h1]
 rfl
theorem zKD{w:World}{br:Nat}{R:RoomS}(h:RoomAt w br R)(p:Nat)(hp:p<R.pages)(h1:R.has p=true):Calls prog 204 #[.pointer (some ⟨br,0,none⟩),.int .i64 p] w fun e w'=>e= .returned (.tuple #[.string (R.text p),.int .i64 0])∧Below w.heap.size w w':=by
 have hf:=h.fit
 have H1:=Hd (zFZ h p)
 rw[zFa hp h1]at H1
 have H2:=Hd (fun u(hu:RoomAt u br R)=>kG hu p hp)
 have hin:1+R.maps+p<R.T.n:=by omega
 have H3:=Hd (fun u(hu:RoomAt u br R)=>ki hu hin)
 unfold RoomS.text
 generalize 1+R.maps+p=A at*
 generalize R.home (A:Int)=s at*
 have HR:=Hd h
 clear h h1 hf
 go_enter func204,ntmps204
 go_wp2_with(first|(go_at_call 225;refine(H1.out).mono ?_;rintro e w1⟨rfl,hb1⟩;have HB1:=Hd hb1;clear hb1)|(go_at_call 224;refine(H2.out _ (HR.out.still HB1.out)).mono ?_;rintro e w2⟨rfl,rfl⟩)|(go_at_call 114;refine(H3.out _ (HR.out.still HB1.out)).mono ?_;rintro e w3⟨rfl,hb3⟩))
 go_ret2
 exact⟨rfl,qT HB1.out hb3⟩
theorem zHg{w:World}{br:Nat}{R:RoomS}(h:RoomAt w br R)(hlen:R.T.puts.length<1000000000000)(p:Nat)(hp:p<R.pages)(h1:R.has p=true)(s:QB)(hs:s.size≤9223372036854775807):Calls prog 173 #[.pointer (some ⟨br,0,none⟩),.int .i64 p,.string s] w fun e w'=>e= .returned (.int .i64 (if 512<s.size then 5 else 0))∧∃R',RoomStep br w R w' R'∧((512<s.size∧R'.T.puts=R.T.puts)∨(s.size≤512∧Wrote R R' p (zS s))):=by
 have hf:=h.fit
 have H1:=Hd (zFZ h p)
 rw[zFa hp h1]at H1
 have H2:=Hd (fun u(hu:RoomAt u br R)=>kG hu p hp)
 obtain⟨A,hA⟩:∃A,A=1+R.maps+p:=⟨_,rfl⟩
 rw[←hA]at H2
 have hin:(A:Int)<R.T.n:=by omega
 have HW:=Hd (fun u(hu:TxAt u R.bt R.T)=>zHa hu hlen (i:=(A:Int)) s hs)
 have e1:xp R.T.n (A:Int) s=if 512<s.size then 5 else 0:=by unfold xp;rw[if_pos ⟨by omega,hin⟩]
 rw[e1]at HW
 have HR:=Hd h
 have HA:=Hd hA
 have HIn:=Hd hin
 clear h h1 hf e1 hA hin
 generalize hcc:(if 512<s.size then 5 else 0:Int)=c at*
 have HCC:=Hd hcc
 clear hcc
 go_enter func173,ntmps173
 go_wp2_with(first|(go_at_call 225;refine(H1.out).mono ?_;rintro e w1⟨rfl,hb1⟩;have HB1:=Hd hb1;clear hb1))
 obtain⟨S,HS⟩:=mkS (Keep (fun _=>False) (w1))
 have FR:=Hd (fun u(hu:S u)=>have hu:=(HS.out u).1 hu;have o09:=yN (hu.at (HR.out.still HB1.out).cells (fun e=>e));o09)
 refine rgo 8 [tR 0,tR 1,tR 2,tR 3,tR 4,tR 5,tR 7,tD 6] HS (Keep.refl _ _).drew ?_
 iterate 7 refine rd1 ?_
 refine doH ?_
 intro K hK
 go_simp
 go_at_call 224
 refine(H2.out _ ((HR.out.still HB1.out).keep (Keep.refl (fun _=>False) w1).drew (fun _ _ e=>e))).mono ?_
 rintro e u5⟨rfl,rfl⟩
 refine hK _ _ ((HS.out _).2 (Keep.refl _ _).drew) ?_
 clear hK K
 refine zl ?_
 clear FR
 clear S HS
 have HW3:=Hd (HR.out.still HB1.out.drew)
 go_wp2_with(go_at_call 217;refine(HW.out _ HW3.out.tx).mono ?_;rintro e w5⟨rfl,T',hst,hpp⟩)
 go_ret
 refine⟨rfl,?_⟩
 have hst2:=(RoomStep.still HR.out HB1.out.drew).trans (HW3.out.step hst)
 by_cases h5:512<s.size
 ·(have e2:kF R.T.n (A:Int) s=[]:=by unfold kF;rw[if_neg (by omega)]);rw[e2,List.append_nil]at hpp;exact⟨_,hst2,.inl ⟨h5,hpp⟩⟩
 ·(have e2:kF R.T.n (A:Int) s=[((A:Int),zS s)]:=by unfold kF;rw[if_pos ⟨by omega,HIn.out,by omega⟩]);rw[e2]at hpp;exact⟨_,hst2,.inr ⟨by omega,zHd hst.f rfl (by rw[←HA.out];exact hpp)⟩⟩
theorem zOP(f:Nat→Bool)(a b:Nat):cnt f (a+b)=cnt f a+((List.range b).filter (fun j=>f (a+j))).length:=by
 induction b with|zero=>simp|succ b ih=>rw[←Nat.add_assoc,zA6,ih,List.range_succ,List.filter_append,Ql,Nat.add_assoc];congr 2;by_cases h:f (a+b)<;>simp[h]
theorem zMV{f:Int→QB}{m k:Nat}(hk:k<512):cnt (yG f) (m*4096+8*(k+1))=cnt (yG f) (m*4096+8*k)+Lib.onesCount (zG (f ((1+m:Nat):Int)) k):=by
 rw[show m*4096+8*(k+1)=m*4096+8*k+8 by omega,zOP,zKf ⟨_,vP (f ((1+m:Nat):Int)) k⟩]
 congr 2
 apply List.filter_congr
 intro j hj
 exact ke f m k j hk (by simpa using hj)
def RoomS.used(R:RoomS):Nat:=cnt R.has (R.maps*4096)
theorem zMW{w:World}{br:Nat}{R:RoomS}(h:RoomAt w br R):Calls prog 49 #[.pointer (some ⟨br,0,none⟩)] w fun e w'=>e= .returned (.tuple #[.int .i64 R.used,.int .i64 0])∧Below w.heap.size w w':=by
 have hf:=h.fit
 have hn:=h.tx.log.small
 have HD:=Hd (vX h)
 have HM:=Hd (fun(i:Nat)(hi:i<R.T.n)u(hu:RoomAt u br R)=>ki hu hi)
 have HSz:=Hd (fun(i:Nat)(hi:i<R.T.n)=>h.home_size hi)
 have HR:=Hd h
 have HF:=Hd hf
 have hmaps:R.maps≤17:=by omega
 have hus:R.used=cnt (yG R.home) (R.maps*4096):=rfl
 rw[hus]
 clear h hf hus
 go_enter func49,ntmps49
 go_wp2_with(go_at_call 113;refine(HD.out).mono ?_;rintro e w1⟨rfl,hb1⟩;obtain⟨⟨c0,c1,c2⟩,_⟩:=yN (HR.out.still hb1).cells)
 have HB0:=Hd hb1
 clear hb1
 go_loopw [4,15](fun n i wr=>(∃m:Nat,m≤R.maps∧i= .int .i64 m∧n= .int .i64 (cnt (yG R.home) (m*4096)))∧Below w.heap.size w wr)(fun _ i _=>R.maps-(intOf i).toNat)
 case atStart=>exact⟨⟨0,by omega,rfl,rfl⟩,HB0.out⟩
 case round=>obtain⟨⟨m,hm,rfl,rfl⟩,hb⟩:=hrel;have HB:=Hd hb;clear hb;by_cases hlt:m<R.maps;(·(have e1:decide ((m:Int)<(R.maps:Int))=true:=by simp;omega);(have e2:(1:Int)+(m:Int)=((1+m:Nat):Int):=by omega);(have hin:1+m<R.T.n:=by have:=HF.out;omega);have hsz:(R.home ((1+m:Nat):Int)).size=512:=HSz.out _ hin;have HM1:=Hd (HM.out (1+m) hin);generalize hs:R.home ((1+m:Nat):Int)=s at*;have HS:=Hd hs;have HE2:=Hd e2;clear hs e2;go_wp2_with(fail);rw[HE2.out];refine(HM1.out _ (HR.out.still HB.out)).mono ?_;rintro e w2⟨rfl,hb2⟩;have HB1:=Hd (qT HB.out hb2);clear hb2;go_wp2_with(fail);go_loop [4,30](fun n i=>∃k:Nat,k≤512∧i= .int .i64 k∧n= .int .i64 (cnt (yG R.home) (m*4096+8*k)))(fun _ i=>512-(intOf i).toNat);(case atStart=>exact⟨0,by omega,rfl,rfl⟩);case round=>obtain⟨k,hk,rfl,rfl⟩:=hrel;by_cases hk5:k<512;(·(have f1:decide ((k:Int)<512)=true:=by simp;omega);(have hk0:(0:Int)≤(k:Int):=by omega);(have hk1:(k:Int)<512:=by omega);have hbn:=zL s k (by omega);have hbl:=vP s k;have hnext:=zMV (f:=R.home) (m:=m) hk5;rw[HS.out]at hnext;have hc:=zMI (yG R.home) (m*4096+8*k);have hz:=fun w=>Tryz.bits_OnesCount8 ((zG s k:Nat):Int) w (by omega) (by omega);rw[Int.toNat_natCast]at hz;have ho:Lib.onesCount (zG s k)≤8:=Lib.onesCount_le8 ⟨_,hbl⟩;generalize Lib.onesCount (zG s k)=o at*;generalize hcc:cnt (yG R.home) (m*4096+8*k)=cc at*;have HZ:=Hd hz;have HN:=Hd hnext;clear hz hnext hcc;(have hcb:(cc:Int)≤100000:=by omega);(have hob:(o:Int)≤8:=by omega);go_wp2_with(fail);refine(HZ.out _).mono ?_;rintro e w3⟨rfl,rfl⟩;go_wp2;go_round;(case rel=>exact⟨k+1,by omega,by go_num,by rw[HN.out];go_num⟩);case measure=>simp[intOf];omega);·(obtain rfl:k=512:=by omega);go_wp2;go_roundw;(case rel=>exact⟨⟨m+1,by omega,by go_num,by rw[show(m+1)*4096=m*4096+8*512 by omega]⟩,HB1.out⟩);case measure=>simp[intOf];omega);·(obtain rfl:m=R.maps:=by omega);go_wp2;go_ret2;exact⟨rfl,HB.out⟩
theorem vK{w:World}{B b:Nat}{bs:List Value}(h:IsB B b bs w)(hB:B≤w.heap.size)(hlen:bs.length+1≤140737488355328)(c:Int):Calls prog 102 #[.pointer (some ⟨b,0,none⟩),.int .u8 c] w fun e w'=>e= .returned .nilIface∧IsB B b (bs++[.int .u8 c]) w'∧Below B w w'∧Lib.OthersKept 5 (some b) w w':=by
 have HC:=Hd (zBg h)
 obtain⟨i0,hi,hz0,hz1,hz2⟩:=info_parts zEJ
 have HI:=Hd hi
 have Hz0:=Hd hz0
 have Hz1:=Hd hz1
 have Hz2:=Hd hz2
 clear h hi hz0 hz1 hz2
 go_enter func102,ntmps102
 go_wp2_with(fail)
 refine(HC.out).mono ?_
 rintro e w1⟨rfl,⟨hBb,v,hbk,hown,hne⟩,hb1,ho1⟩
 obtain⟨⟨c0,c1⟩,f0,f1,_⟩:=zAM hbk
 have hlt:b<w1.heap.size:=(Gl hbk)
 have HO:=Hd hown
 have HBK:=Hd hbk
 have HB1:=Hd hb1
 have HO1:=Hd ho1
 have HNE:=Hd hne
 have HLT:=Hd hlt
 clear hown hbk hb1 ho1 hne hlt
 go_wp2_with(at_builtin;refine wpList_append_own_at _ (by rfl) _ _ 121 (by rfl) B 5 i0 (.int .u8 0) 1 1 underlying121 HI.out Hz0.out Hz1.out Hz2.out (by rfl) (by decide) v _ _ (by rfl) (HO.out.alloc _) ⟨w1.heap.size,0,none⟩ 1 1 [.int .u8 c] (by rfl) (by rfl) (cell_one_new _ _ _) (ints_oneCell .u8 [c]) (by unfold maxLen;omega) (by omega) ?_ ?_;(·have:=HB1.out.size;simp;omega);intro v' w2 hown2 hg2 hnil hloc;obtain⟨a2,c2,hv2⟩:=zA hown2;(have hb2:w2.heap[b]? =some (.cells #[.pointer (some ⟨b,0,none⟩),v] 123 (0,0)):=by rw[hg2.block b (by have:=HLT.out;simp;omega) (fun e=>HNE.out e.symm)];exact((World.grownBy_alloc w1 _ none).block b HLT.out (by simp)).trans HBK.out);obtain⟨⟨d0,d1⟩,g0,g1,_⟩:=zAM hb2;subst hv2;have HO2:=Hd hown2;have HB2:=Hd hb2;have HG2:=Hd hg2;clear hown2 hb2 hg2 hnil hloc)
 go_wp2
 go_ret
 refine⟨rfl,.inr (Lib.BuilderAt.put hBb HB2.out (by simpa using HO2.out) (by decide)),?_,?_⟩
 ·exact((HB1.out.alloc (by have:=HB1.out.size;omega) _).grown HG2.out (by have:=HB1.out.size;simp;omega) (fun k hk=>(HO.out.lt k hk).1)).setCell (p:=⟨b,1,none⟩) hBb _
 ·exact((HO1.out.alloc _).grown HG2.out (zEK (HO.out.alloc _))).setCell ⟨b,1,none⟩ rfl _
structure Fresh(R:RoomS)(n:Nat):Prop where
 n_:R.T.n=n
 puts:R.T.puts=[]
 f:∀i,R.T.f i=yn 512
 pages:R.pages=(yI n).toNat
theorem Fresh.home{R:RoomS}{n:Nat}(h:Fresh R n)(i:Int):R.home i=yn 512:=by
 unfold RoomS.home TxS.read
 rw[h.puts]
 exact h.f i
theorem Fresh.has{R:RoomS}{n:Nat}(h:Fresh R n)(q:Nat):R.has q=false:=by
 unfold RoomS.has yG
 rw[h.home,zA7]
 exact Nat.zero_testBit _
section on
variable {w0 w : World} {br : Nat} {R : RoomS}
end on
theorem zDS(s:QB)(k:Nat):zG (zS s) k=zG s k:=by
 unfold zG zS
 simp only[Array.toList_append,List.getD,List.getElem?_append]
 split
 ·rfl
 ·rename_i h;rw[List.getElem?_eq_none (l:=s.data.toList) (by omega),List.getElem?_replicate];split<;>rfl
def xY(s:QB)(k i:Nat):Nat:=(List.range i).foldl (fun x j=>x*256 %18446744073709551616+zG s (8*k+j)) 0
theorem vQ(s:QB)(k i:Nat):xY s k (i+1)=xY s k i*256 %18446744073709551616+zG s (8*k+i):=by
 unfold xY
 rw[List.range_succ,List.foldl_append]
 rfl
def RoomS.root(R:RoomS)(k:Nat):Nat:=xY (R.home 0) k 8
theorem orR(x:Nat)(c:Nat)(hc:c<256):bits .or .u64 (IntKind.u64.wrap ((x:Int)*256)) (c:Int)=((x*256 %18446744073709551616+c:Nat):Int):=by
 have:=orT x (UInt8.ofNat c)
 unfold stepT at this
 have e:(UInt8.ofNat c).toNat=c:=by simp;omega
 rwa [e]at this
theorem zEO{w:World}{br:Nat}{R:RoomS}(h:RoomAt w br R)(k:Nat)(hk:k<16):Calls prog 165 #[.pointer (some ⟨br,0,none⟩),.int .i64 k] w fun e w'=>e= .returned (.tuple #[.int .u64 (R.root k),.int .i64 0])∧Below w.heap.size w w':=by
 have HM:=Hd (ki h h.pos)
 have hsz:(R.home ((0:Nat):Int)).size=512:=h.home_size h.pos
 have e1:decide ((k:Int)<0)=false:=by simp
 have e2:decide ((16:Int)≤(k:Int))=false:=by simp;omega
 have hroot:R.root k=xY (R.home ((0:Nat):Int)) k 8:=rfl
 rw[hroot]
 generalize R.home ((0:Nat):Int)=s at*
 clear h hroot
 go_enter func165,ntmps165
 go_wp2_with(fail)
 refine(HM.out).mono ?_
 rintro e w1⟨rfl,hb1⟩
 go_wp2
 go_loop [8,26](fun x i=>∃j:Nat,j≤8∧i= .int .i64 j∧x= .int .u64 (xY s k j))(fun _ i=>8-(intOf i).toNat)
 case atStart=>exact⟨0,by omega,rfl,rfl⟩
 case round=>obtain⟨j,hj,rfl,rfl⟩:=hrel;by_cases hlt:j<8;(·(have f1:decide ((j:Int)<8)=true:=by simp;omega);have hs1:=vQ s k j;obtain⟨q,hq⟩:∃q,q=8*k+j:=⟨_,rfl⟩;have hx:=orR (xY s k j) (zG s q) (vP _ _);(have hkj:q<s.size:=by omega);have hbn:=zL s q hkj;(have hw:IntKind.u64.wrap ((zG s q:Nat):Int)=((zG s q:Nat):Int):=by have:=vP s q;rw[IntKind.wrap_u64];omega);rw[←hq]at hs1;generalize zG s q=c at*;generalize xY s k j=x at*;generalize x*256 %18446744073709551616+c=y at*;have HS1:=Hd hs1;(have e5:(8:Int)*(k:Int)+(j:Int)=(q:Int):=by omega);(have hj0:(0:Int)≤(j:Int):=by omega);(have hk16:(k:Int)<16:=by omega);(have hq0:(0:Int)≤(q:Int):=by omega);(have hq1:(q:Int)<512:=by omega);clear hs1 hq;go_wp2;go_round;(case rel=>exact⟨j+1,by omega,by go_num,by rw[HS1.out]⟩);case measure=>simp[intOf];omega);·(obtain rfl:j=8:=by omega);go_wp2;go_ret2;exact⟨rfl,hb1⟩
def be(n j:Nat):List UInt8:=(List.range j).map (fun t=>UInt8.ofNat (n/2^(56-8*t)%256))
theorem zOQ(n j:Nat):be n (j+1)=be n j++[UInt8.ofNat (n/2^(56-8*j)%256)]:=by
 unfold be
 rw[List.range_succ,List.map_append]
 rfl
theorem zC1(n j:Nat):(be n j).length=j:=by
 unfold be
 simp
theorem zMX{B b:Nat}{bs:List Value}{w:World}(h:IsB B b bs w):IsB B b bs w.drew:=h.imp (fun⟨a,v,hb,ho,hn⟩=>⟨a,v,hb,ho.drew,hn⟩) (fun⟨a,v,hb,ho,hn⟩=>⟨a,v,hb,ho.drew,hn⟩)
theorem Keep.over{B:Nat}{w w':World}(h:Below B w w'):Keep (fun k=>B≤k) w w':=⟨h.os,h.tape,h.output,h.size,fun k _ hn=>h.block k (by omega)⟩
def yu(s:QB)(k n:Nat):QB:=⟨((s.extract 0 (8*k)).data.toList++be n 8++(s.extract (8*k+8) s.size).data.toList).toArray⟩
theorem zDx(s:QB)(a b:Nat)(h:b≤s.size):(s.extract a b).data.toList.length=b-a:=by
 have:(s.extract a b).size=b-a:=by rw[ByteArray.size_extract];omega
 rw[←this,Array.length_toList]
 rfl
theorem zBh{s:QB}(hs:s.size=512){k:Nat}(hk:k<16)(n:Nat):(yu s k n).size=512:=by
 show((s.extract 0 (8*k)).data.toList++be n 8++(s.extract (8*k+8) s.size).data.toList).toArray.size=512
 rw[List.size_toArray,Ql,Ql,zDx _ _ _ (by omega),zDx _ _ _ (Qn _),zC1]
 omega
theorem zRq{p:Prop}(h:p:=by rw[Ql,Lib.strCells_length,ByteArray.size_extract];simp[Lib.byteCells,zC1];omega):p:=h
theorem zRr{p:Prop}(h:p:=by have h1:(n/2^sh %256)<256:=Nat.mod_lt _ (by decide);(have h2:(UInt8.ofNat (n/2^sh %256)).toNat=n/2^sh %256:=by simp);rw[h2];simp):p:=h
theorem zBB{w:World}{br:Nat}{R:RoomS}(h:RoomAt w br R)(hlen:R.T.puts.length<1000000000000)(k:Nat)(hk:k<16)(n:Nat)(hn:n<18446744073709551616):Calls prog 166 #[.pointer (some ⟨br,0,none⟩),.int .i64 k,.int .u64 n] w fun e w'=>e= .returned (.int .i64 0)∧∃R',RoomStep br w R w' R'∧R'.T.puts=R.T.puts++[(((0:Nat):Int),yu (R.home 0) k n)]:=by
 have HM:=Hd (ki h h.pos)
 have hsz:(R.home ((0:Nat):Int)).size=512:=h.home_size h.pos
 have e1:decide ((k:Int)<0)=false:=by simp
 have e2:decide ((16:Int)≤(k:Int))=false:=by simp;omega
 have hg:R.home 0=R.home ((0:Nat):Int):=rfl
 rw[hg]
 generalize hs:R.home ((0:Nat):Int)=s at*
 obtain⟨q,hq⟩:∃q,q=8*k:=⟨_,rfl⟩
 have e5:(8:Int)*(k:Int)=(q:Int):=by omega
 have e6:(q:Int)+8=((q+8:Nat):Int):=by omega
 have hq0:(0:Int)≤(q:Int):=by omega
 have hq1:(q:Int)≤120:=by omega
 have hk16:(k:Int)<16:=by omega
 have HR:=Hd h
 have HQ:=Hd hq
 have HS0:=Hd hs
 have HN:=Hd hn
 clear h hg hq hs hn e6
 go_enter func166,ntmps166
 go_wp2_with(fail)
 refine(HM.out).mono ?_
 rintro e w1⟨rfl,hb1⟩
 have HB1:=Hd hb1
 clear hb1
 have hf0:IsB w1.heap.size w1.heap.size [] (w1.alloc (.cells #[.pointer none,.slice none 0 0] 123)):=Lib.fresh_isBuilder _ _ w1
 have A1:=Hd (zn hf0 (by simp) (s.extract 0 q) (by rw[ByteArray.size_extract];simp;omega))
 clear hf0
 go_wp2_with(fail)
 refine(A1.out).mono ?_
 rintro e w2⟨rfl,hi2,hb2,ho2⟩
 have hbb:Below w1.heap.size w1 w2:=(qA).trans (hb2.mono (Qn _))
 have HI2:=Hd hi2
 have HB2:=Hd hbb
 clear hi2 hb2 ho2 hbb
 go_wp2
 go_loopw [10](fun i wr=>∃j:Nat,j≤8∧i= .int .i64 (56-8*(j:Int))∧IsB w1.heap.size w1.heap.size (Lib.strCells (s.extract 0 q)++Lib.byteCells (be n j)) wr∧Below w1.heap.size w1 wr)(fun i _=>(intOf i+16).toNat)
 case atStart=>exact⟨0,by omega,rfl,by have:=HI2.out;simpa[be,Lib.byteCells]using this,HB2.out⟩
 case round=>obtain⟨j,hj,rfl,hib,hbj⟩:=hrel;have HIB:=Hd hib;have HBJ:=Hd hbj;clear hib hbj;by_cases hlt:j<8;(·obtain⟨sh,hsh⟩:∃sh:Nat,(56:Int)-8*(j:Int)=(sh:Int):=⟨56-8*j,by omega⟩;rw[hsh];(have hshn:sh=56-8*j:=by omega);(have f1:decide ((0:Int)≤(sh:Int))=true:=by simp);(have hsh56:sh≤56:=by omega);have HSH:=Hd hsh;have HSN:=Hd hshn;clear hsh hshn;(have hcl:(Lib.strCells (s.extract 0 q)++Lib.byteCells (be n j)).length≤1000:=by exact zRq);have A2:=Hd (vK HIB.out (Nat.le_trans (Qn _) HBJ.out.size) (by omega) ((n:Int)/2^sh %256));(have hce:((n:Int)/2^sh %256)=((UInt8.ofNat (n/2^sh %256)).toNat:Int):=by exact zRr);have HCE:=Hd hce;clear hcl hce;go_wp2_with(fail);refine(A2.out).mono ?_;rintro e w3⟨rfl,hi3,hb3,ho3⟩;rw[HCE.out,Qa,←xk]at hi3;(have hi4:IsB w1.heap.size w1.heap.size (Lib.strCells (s.extract 0 q)++Lib.byteCells (be n (j+1))) w3:=by rw[zOQ,←HSN.out];exact hi3);have HI4:=Hd hi4;have HB4:=Hd (HBJ.out.trans hb3);clear hi3 hi4 hb3 ho3;go_wp2;go_roundw;(case rel=>exact⟨j+1,by omega,by have:=HSH.out;congr 1;omega,HI4.out,HB4.out⟩);case measure=>simp[intOf];omega);·(obtain rfl:j=8:=by omega);rw[show(56:Int)-8*((8:Nat):Int)= -8 by omega];(have hcl:(Lib.strCells (s.extract 0 q)++Lib.byteCells (be n 8)).length≤1000:=by exact zRq);have A3:=Hd (zn HIB.out (Nat.le_trans (Qn _) HBJ.out.size) (s.extract (q+8) 512) (by rw[ByteArray.size_extract];omega));(have e7:(q:Int)+8=((q+8:Nat):Int):=by omega);clear hcl e7;go_wp2_with(fail);refine(A3.out).mono ?_;rintro e w4⟨rfl,hi4,hb4,ho4⟩;rw[strCells_eq,strCells_eq,←byteCells_append,←byteCells_append]at hi4;(have hl2:yu s k n=⟨((s.extract 0 q).data.toList++be n 8++(s.extract (q+8) 512).data.toList).toArray⟩:=by unfold yu;rw[←HQ.out,hsz]);generalize(s.extract 0 q).data.toList++be n 8++(s.extract (q+8) 512).data.toList=l at*;have HL2:=Hd hl2;have HI5:=Hd (zMX hi4);have hbw:Below w1.heap.size w1 w4:=HBJ.out.trans hb4;have HBW:=Hd hbw;have HRW:=Hd (HR.out.still (qT HB1.out hbw));have HSt:=Hd (fun(hB:w1.heap.size≤w4.drew.heap.size)=>Tryz.Builder_String_any_k w1.heap.size w1.heap.size l w4.drew (Lib.IsBuilderF.of HI5.out) hB);clear hi4 hb4 ho4 hbw hl2;go_wp2;obtain⟨S,HS⟩:=mkS (Keep (fun k=>w1.heap.size≤k) (w4));have FR:=Hd (fun u(hu:S u)=>have hu:=(HS.out u).1 hu;have o09:=yN (hu.at HRW.out.cells (fun e=>by have h1:=HB1.out.size;have h2:=(Gl HR.out.cells);omega));o09);refine rgo 5 [tR 0,tR 1,tR 2,tR 3,tD 4] HS (Keep.refl _ _).drew ?_;(iterate 4 refine rd1 ?_);refine doH ?_;intro K hK;go_simp;go_at_call 57;refine(HSt.out (Nat.le_trans HBW.out.size (Qn _))).mono ?_;rintro e u5⟨rfl,hi5,hb5,ho5⟩;have HB5:=Hd (HBW.out.drew.trans hb5);refine hK _ _ ((HS.out _).2 ((Keep.refl _ _).drew.trans (Keep.over hb5) (fun _ _ h=>h))) ?_;clear hK K hi5 hb5 ho5;refine zl ?_;clear FR;clear S HS;(have hl5:(⟨l.toArray⟩:QB).size=512:=by rw[←HL2.out];exact zBh hsz hk n);have hbu:Below w.heap.size w u5:=qT HB1.out HB5.out;have HU:=Hd (HR.out.still hbu);have HW:=Hd (kE HU.out.tx hlen (i:=0) ⟨by omega,by have:=HU.out.pos;omega⟩ ⟨l.toArray⟩ (by omega));rw[zBs _ hl5]at HW;have HBU:=Hd hbu;clear hbu hl5;go_wp2_with(go_at_call 217;refine(HW.out).mono ?_;rintro e w6⟨rfl,T',hst,hpp⟩);go_ret;exact⟨rfl,R.turned T',(RoomStep.still HR.out HBU.out).trans (HU.out.step hst),by rw[HL2.out];exact hpp⟩
theorem ext_get(s:QB)(a b i:Nat)(hb:b≤s.size)(hi:i<b-a):(s.extract a b).data.toList.getD i 0=s.data.toList.getD (a+i) 0:=by
 have h1:i<(s.extract a b).size:=by rw[ByteArray.size_extract];omega
 have h2:a+i<s.size:=by omega
 have e1:=zL (s.extract a b) i h1
 have e2:=zL s (a+i) h2
 have e3:(s.extract a b)[i]=s[a+i]:=by rw[ByteArray.getElem_extract]
 rw[e3,e2]at e1
 unfold zG at e1
 exact UInt8.toNat_inj.1 e1.symm
theorem zBi{s:QB}(hs:s.size=512){k:Nat}(hk:k<16)(n i:Nat):zG (yu s k n) i=if 8*k≤i∧i<8*k+8 then n/2^(56-8*(i-8*k))%256 else zG s i:=by
 have hA:=zDx s 0 (8*k) (by omega)
 have hC:=zDx s (8*k+8) s.size (Qn _)
 by_cases hi:i<512
 ·unfold zG yu;show(((s.extract 0 (8*k)).data.toList++be n 8++(s.extract (8*k+8) s.size).data.toList).getD i 0).toNat=_;rw[List.getD,Qa,List.getElem?_append];by_cases h1:i<8*k;(·rw[if_pos (by omega),if_neg (by omega)];have:=ext_get s 0 (8*k) i (by omega) (by omega);rw[Nat.zero_add]at this;rw[←List.getD,this]);·rw[if_neg (by omega),List.getElem?_append,hA,zC1];by_cases h2:i<8*k+8;(·rw[if_pos (by omega),if_pos ⟨by omega,h2⟩];(have h3:(be n 8)[i-(8*k-0)]? =some (UInt8.ofNat (n/2^(56-8*(i-8*k))%256)):=by unfold be;rw[List.getElem?_map,List.getElem?_range (by omega)];simp);rw[h3];simp);·rw[if_neg (by omega),if_neg (by omega)];have:=ext_get s (8*k+8) s.size (i-(8*k-0)-8) (Qn _) (by omega);rw[←List.getD,this,show 8*k+8+(i-(8*k-0)-8)=i by omega]
 ·rw[zAI _ _ (by rw[zBh hs hk];omega),if_neg (by omega),zAI _ _ (by omega)]
theorem zGX{s t:QB}{k:Nat}(j:Nat)(h:∀i,i<j→zG s (8*k+i)=zG t (8*k+i)):xY s k j=xY t k j:=by
 induction j with|zero=>rfl|succ j ih=>rw[vQ,vQ,ih (fun i hi=>h i (by omega)),h j (by omega)]
theorem zMY{s:QB}(hs:s.size=512){k:Nat}(hk:k<16){n:Nat}(hn:n<18446744073709551616):xY (yu s k n) k 8=n:=by
 have h:∀j,j≤8→xY (yu s k n) k j=n/2^(64-8*j):=by intro j hj;induction j with|zero=>show 0=n/2^64;rw[Nat.div_eq_of_lt (by simpa using hn)]|succ j ih=>rw[vQ,ih (by omega),zBi hs hk,if_pos ⟨by omega,by omega⟩,show 8*k+j-8*k=j by omega];(have e1:64-8*j=(56-8*j)+8:=by omega);(have e2:64-8*(j+1)=56-8*j:=by omega);rw[e1,e2,Nat.pow_add,←Nat.div_div_eq_div_mul];have e3:n/2^(56-8*j)≤n:=Nat.div_le_self _ _;generalize n/2^(56-8*j)=m at*;omega
 have:=h 8 (Qn _)
 simpa using this
theorem zJE{s:QB}(hs:s.size=512){k k':Nat}(hk:k<16)(hne:k'≠k)(n:Nat):xY (yu s k n) k' 8=xY s k' 8:=by
 refine zGX 8 (fun i hi=> ?_)
 rw[zBi hs hk,if_neg (by omega)]
structure Rooted(R R':RoomS)(k n:Nat):Prop where
 has:∀q,q<R.maps*4096→R'.has q=R.has q
 text:∀q,q<R.pages→R'.text q=R.text q
 root:∀k',R'.root k'=if k'=k then n else R.root k'
 puts:∃a,R'.T.puts=R.T.puts++a∧a.length≤1
theorem zC2{w:World}{br:Nat}{R R':RoomS}(h:RoomAt w br R){k n:Nat}(hk:k<16)(hn:n<18446744073709551616)(hf:R'.T.f=R.T.f)(hm:R'.maps=R.maps)(hp:R'.T.puts=R.T.puts++[(((0:Nat):Int),yu (R.home 0) k n)]):Rooted R R' k n:=by
 have hh:=zC0 hf hp
 refine⟨fun q hq=> ?_,fun q hq=> ?_,fun k'=> ?_,_,hp,by simp⟩
 ·unfold RoomS.has yG;rw[hh,if_neg (by omega)]
 ·unfold RoomS.text;rw[hm,hh,if_neg (by omega)]
 ·unfold RoomS.root;rw[hh,if_pos (show((0:Nat):Int)=0 from rfl)];by_cases hkk:k'=k;(·subst hkk;rw[if_pos rfl];exact zMY (h.home_size (i:=0) h.pos) hk hn);·rw[if_neg hkk];exact zJE (h.home_size (i:=0) h.pos) hk hkk n
section on
variable {w0 w : World} {br : Nat} {R : RoomS}
end on
def zW(l:List QB):List Value:=l.map Value.string
def yh(l:List Nat):List Value:=l.map (fun(n:Nat)=>Value.int .i64 (n:Int))
theorem zCQ(l:List QB):∀u∈zW l,u.oneCell'=true:=by
 intro u hu
 obtain⟨x,_,rfl⟩:=List.mem_map.1 hu
 rfl
theorem zHh(l:List Nat):∀u∈yh l,u.oneCell'=true:=by
 intro u hu
 obtain⟨x,_,rfl⟩:=List.mem_map.1 hu
 rfl
def RowAt(w:World)(v:Value)(l:List Value):Prop:=∃a b off c,v= .slice a l.length c∧(0<l.length→a=some ⟨b,off,none⟩∧b<w.heap.size)∧∀(j:Nat)u,l[j]? =some u→w.cell? ⟨b,off+j,none⟩=some u
theorem zQK{p:Prop}(h:p:=by have:=(List.getElem?_eq_some_iff.1 hj).1;omega):p:=h
theorem RowAt.keep{S:Nat→Prop}{w w':World}{v:Value}{l:List Value}(h:RowAt w v l)(hk:Keep S w w')(hn:∀k,v.ownBlock=some k→¬S k):RowAt w' v l:=by
 obtain⟨a,b,off,c,rfl,h1,h2⟩:=h
 refine⟨a,b,off,c,rfl,fun h0=>⟨(h1 h0).1,Qt (h1 h0).2 hk.size⟩,fun j u hj=> ?_⟩
 have h0:0<l.length:=by exact zQK
 obtain⟨rfl,hb⟩:=h1 h0
 rw[hk.cell (p:=⟨b,off+j,none⟩) hb (hn b rfl)]
 exact h2 j u hj
theorem RowAt.still{w w':World}{v:Value}{l:List Value}(h:RowAt w v l)(hb:Below w.heap.size w w'):RowAt w' v l:=h.keep (Keep.still hb) (fun _ _ e=>e)
theorem xt{w:World}{e:TypeId}{v:Value}{n:Nat}{l:List Value}(h:w.ownsRow 0 e 1 v n l):RowAt w v l:=by
 obtain⟨hl,h2⟩:=h
 rw[Nat.mul_one]at hl
 rcases h2 with⟨rfl,rfl⟩|⟨g,cap,cur,rfl,_,hg,hc,_,_,ht⟩
 ·rw[List.length_eq_zero_iff.1 hl];exact⟨none,0,0,0,rfl,fun h=>absurd h (by simp),fun j u hj=>by simp at hj⟩
 ·rw[←hl];refine⟨some ⟨g,0,none⟩,g,0,cap,rfl,fun _=>⟨rfl,(Gl hg)⟩,fun j u hj=> ?_⟩;rw[Nat.zero_add];(have hj2:j<n:=by exact zQK);rw[Qc hg j];rw[←ht,List.getElem?_take,if_pos (by omega)]at hj;simpa using hj
structure NdR(w:World)(b:Nat)(x:Nd):Prop where
 lt:b<w.heap.size
 node:∃kv vv cv,w.cell? ⟨b,0,none⟩=some (.bool x.leaf)∧w.cell? ⟨b,1,none⟩=some kv∧w.cell? ⟨b,2,none⟩=some vv∧w.cell? ⟨b,3,none⟩=some cv∧RowAt w kv (zW x.keys)∧RowAt w vv (zW x.vals)∧RowAt w cv (yh x.kids)
theorem NdR.still{w w':World}{b:Nat}{x:Nd}(h:NdR w b x)(hb:Below w.heap.size w w'):NdR w' b x:=by
 obtain⟨kv,vv,cv,c0,c1,c2,c3,r1,r2,r3⟩:=h.node
 have hc:∀k,w'.cell? ⟨b,k,none⟩=w.cell? ⟨b,k,none⟩:=fun k=>hb.cell (p:=⟨b,k,none⟩) h.lt
 exact⟨Qt h.lt hb.size,kv,vv,cv,by rw[hc];exact c0,by rw[hc];exact c1,by rw[hc];exact c2,by rw[hc];exact c3,r1.still hb,r2.still hb,r3.still hb⟩
structure NdAt(w:World)(b:Nat)(kv vv cv:Value)(x:Nd):Prop where
 cells:w.heap[b]? =some (.cells #[.bool x.leaf,kv,vv,cv] 247 (0,0))
 keys:w.ownsRow 0 9 1 kv x.keys.length (zW x.keys)
 vals:w.ownsRow 0 9 1 vv x.vals.length (zW x.vals)
 kids:w.ownsRow 0 3 1 cv x.kids.length (yh x.kids)
 ne:kv.ownBlock≠some b∧vv.ownBlock≠some b∧cv.ownBlock≠some b
 apart:(∀k,kv.ownBlock=some k→vv.ownBlock≠some k∧cv.ownBlock≠some k)∧∀k,vv.ownBlock=some k→cv.ownBlock≠some k
def yK(b:Nat)(kv vv cv:Value)(k:Nat):Prop:=k=b∨kv.ownBlock=some k∨vv.ownBlock=some k∨cv.ownBlock=some k
section
variable {w w' : World} {b : Nat} {kv vv cv : Value} {x : Nd}
theorem NdAt.keep{S:Nat→Prop}(h:NdAt w b kv vv cv x)(hk:Keep S w w')(hn:∀k,yK b kv vv cv k→¬S k):NdAt w' b kv vv cv x:=⟨hk.at h.cells (hn _ (.inl rfl)),hk.ownsRow h.keys (fun k e=>hn k (.inr (.inl e))),hk.ownsRow h.vals (fun k e=>hn k (.inr (.inr (.inl e)))),hk.ownsRow h.kids (fun k e=>hn k (.inr (.inr (.inr e)))),h.ne,h.apart⟩
theorem NdAt.still(h:NdAt w b kv vv cv x)(hb:Below w.heap.size w w'):NdAt w' b kv vv cv x:=h.keep (Keep.still hb) (fun _ _ e=>e)
theorem NdAt.lt(h:NdAt w b kv vv cv x){k:Nat}(hk:yK b kv vv cv k):k<w.heap.size:=by
 rcases hk with e|e|e|e
 ·subst e;exact(Gl h.cells)
 ·exact(h.keys.lt k e).2
 ·exact(h.vals.lt k e).2
 ·exact(h.kids.lt k e).2
theorem NdAt.read(h:NdAt w b kv vv cv x):NdR w b x:=⟨h.lt (.inl rfl),kv,vv,cv,Qc h.cells 0,Qc h.cells 1,Qc h.cells 2,Qc h.cells 3,xt h.keys,xt h.vals,xt h.kids⟩
end
section
variable {w w' : World} {b : Nat} {kv vv cv : Value} {x : Nd}
theorem zOR{p:Prop}(h:p:=by simp[World.setCell,Array.getElem?_modify,hc]):p:=h
theorem NdAt.putKeys{w8:World}{kv':Value}{l:List QB}(h:NdAt w b kv vv cv x)(K1:Keep (fun k=>kv.ownBlock=some k) w w8)(hrow:w8.ownsRow 0 9 1 kv' l.length (zW l))(hloc:∀k,kv'.ownBlock=some k→kv.ownBlock=some k∨w.heap.size≤k):NdAt (w8.setCell ⟨b,1,none⟩ kv') b kv' vv cv {x with keys:=l}∧Keep (yK b kv vv cv) w (w8.setCell ⟨b,1,none⟩ kv'):=by
 have hlt:b<w.heap.size:=h.lt (.inl rfl)
 have hb':kv'.ownBlock≠some b:=fun e=>(hloc b e).elim (fun n=>h.ne.1 n) (fun n=>by omega)
 have K2:Keep (fun k=>k=b) w8 (w8.setCell ⟨b,1,none⟩ kv'):=(Keep.refl (fun k=>k=b) w8).setCell (p:=⟨b,1,none⟩) (fun _=>rfl) _
 have hc:=K1.at h.cells (fun e=>h.ne.1 e)
 refine⟨⟨by exact zOR,K2.ownsRow hrow (fun k e e2=>hb' (by rw[e,e2])),K2.ownsRow (K1.ownsRow h.vals (fun k e e2=>(h.apart.1 k e2).1 e)) (fun k e e2=>h.ne.2.1 (by rw[e,e2])),K2.ownsRow (K1.ownsRow h.kids (fun k e e2=>(h.apart.1 k e2).2 e)) (fun k e e2=>h.ne.2.2 (by rw[e,e2])),⟨hb',h.ne.2.1,h.ne.2.2⟩,⟨fun k e=>⟨fun e2=>(hloc k e).elim (fun n=>(h.apart.1 k n).1 e2) (fun n=>by have:=(h.vals.lt k e2).2;omega),fun e2=>(hloc k e).elim (fun n=>(h.apart.1 k n).2 e2) (fun n=>by have:=(h.kids.lt k e2).2;omega)⟩,h.apart.2⟩⟩,?_⟩
 exact(K1.mono (S':=yK b kv vv cv) (fun k _ e=>.inr (.inl e))).trans K2 (fun k _ e=>.inl e)
theorem NdAt.putVals{w8:World}{vv':Value}{l:List QB}(h:NdAt w b kv vv cv x)(K1:Keep (fun k=>vv.ownBlock=some k) w w8)(hrow:w8.ownsRow 0 9 1 vv' l.length (zW l))(hloc:∀k,vv'.ownBlock=some k→vv.ownBlock=some k∨w.heap.size≤k):NdAt (w8.setCell ⟨b,2,none⟩ vv') b kv vv' cv {x with vals:=l}∧Keep (yK b kv vv cv) w (w8.setCell ⟨b,2,none⟩ vv'):=by
 have hlt:b<w.heap.size:=h.lt (.inl rfl)
 have hb':vv'.ownBlock≠some b:=fun e=>(hloc b e).elim (fun n=>h.ne.2.1 n) (fun n=>by omega)
 have K2:Keep (fun k=>k=b) w8 (w8.setCell ⟨b,2,none⟩ vv'):=(Keep.refl (fun k=>k=b) w8).setCell (p:=⟨b,2,none⟩) (fun _=>rfl) _
 have hc:=K1.at h.cells (fun e=>h.ne.2.1 e)
 refine⟨⟨by exact zOR,K2.ownsRow (K1.ownsRow h.keys (fun k e e2=>(h.apart.1 k e).1 e2)) (fun k e e2=>h.ne.1 (by rw[e,e2])),K2.ownsRow hrow (fun k e e2=>hb' (by rw[e,e2])),K2.ownsRow (K1.ownsRow h.kids (fun k e e2=>h.apart.2 k e2 e)) (fun k e e2=>h.ne.2.2 (by rw[e,e2])),⟨h.ne.1,hb',h.ne.2.2⟩,⟨fun k e=>⟨fun e2=>(hloc k e2).elim (fun n=>(h.apart.1 k e).1 n) (fun n=>by have:=(h.keys.lt k e).2;omega),(h.apart.1 k e).2⟩,fun k e e2=>(hloc k e).elim (fun n=>h.apart.2 k n e2) (fun n=>by have:=(h.kids.lt k e2).2;omega)⟩⟩,?_⟩
 exact(K1.mono (S':=yK b kv vv cv) (fun k _ e=>.inr (.inr (.inl e)))).trans K2 (fun k _ e=>.inl e)
theorem NdAt.putKids{w8:World}{cv':Value}{l:List Nat}(h:NdAt w b kv vv cv x)(K1:Keep (fun k=>cv.ownBlock=some k) w w8)(hrow:w8.ownsRow 0 3 1 cv' l.length (yh l))(hloc:∀k,cv'.ownBlock=some k→cv.ownBlock=some k∨w.heap.size≤k):NdAt (w8.setCell ⟨b,3,none⟩ cv') b kv vv cv' {x with kids:=l}∧Keep (yK b kv vv cv) w (w8.setCell ⟨b,3,none⟩ cv'):=by
 have hlt:b<w.heap.size:=h.lt (.inl rfl)
 have hb':cv'.ownBlock≠some b:=fun e=>(hloc b e).elim (fun n=>h.ne.2.2 n) (fun n=>by omega)
 have K2:Keep (fun k=>k=b) w8 (w8.setCell ⟨b,3,none⟩ cv'):=(Keep.refl (fun k=>k=b) w8).setCell (p:=⟨b,3,none⟩) (fun _=>rfl) _
 have hc:=K1.at h.cells (fun e=>h.ne.2.2 e)
 refine⟨⟨by exact zOR,K2.ownsRow (K1.ownsRow h.keys (fun k e e2=>(h.apart.1 k e).2 e2)) (fun k e e2=>h.ne.1 (by rw[e,e2])),K2.ownsRow (K1.ownsRow h.vals (fun k e e2=>h.apart.2 k e e2)) (fun k e e2=>h.ne.2.1 (by rw[e,e2])),K2.ownsRow hrow (fun k e e2=>hb' (by rw[e,e2])),⟨h.ne.1,h.ne.2.1,hb'⟩,⟨fun k e=>⟨(h.apart.1 k e).1,fun e2=>(hloc k e2).elim (fun n=>(h.apart.1 k e).2 n) (fun n=>by have:=(h.keys.lt k e).2;omega)⟩,fun k e e2=>(hloc k e2).elim (fun n=>h.apart.2 k e n) (fun n=>by have:=(h.vals.lt k e).2;omega)⟩⟩,?_⟩
 exact(K1.mono (S':=yK b kv vv cv) (fun k _ e=>.inr (.inr (.inr e)))).trans K2 (fun k _ e=>.inl e)
end
theorem zJF(x:Nd):zS x.text=bs (x.bytes++List.replicate (512-x.size) 0):=by
 unfold zS Nd.text Nd.size
 rw[kX]
 apply ByteArray.ext
 simp[bs]
def kt(w:World)(b:Nat)(s:QB):Prop:=w.heap[b]? =some (.cells #[.string s,.bool false] 329 (0,0))
section
variable {w w' : World} {b n : Nat} {A B : List UInt8}
theorem zEP(h:kt w b (bs (A++B)))(hn:A.length=n)(hsz:(A++B).length≤9223372036854775807):Calls prog 242 #[.pointer (some ⟨b,0,none⟩),.int .i64 n] w fun e w'=>e= .returned (.string (bs A))∧kt w' b (bs B)∧Keep (fun k=>k=b) w w':=by
 have x1:(bs (A++B)).extract 0 n=bs A:=by rw[←hn];exact zN2 A B
 have x2:(bs (A++B)).extract n (bs (A++B)).size=bs B:=by rw[←hn];exact zN3 A B _ (kX _)
 have x3:n≤(bs (A++B)).size:=by rw[kX,Ql];omega
 have x4:(bs (A++B)).size≤9223372036854775807:=by rw[kX];exact hsz
 generalize bs (A++B)=s at*
 unfold kt at h
 have c0:w.cell? ⟨b,0,none⟩=some (.string s):=Qc h 0
 have c1:w.cell? ⟨b,1,none⟩=some (.bool false):=Qc h 1
 have fz:w.frozen? ⟨b,0,none⟩=false:=by simp[World.frozen?,h]
 obtain⟨m,hm⟩:=qN s.size
 have d1:decide ((m:Int)<(n:Int))=false:=by simp;omega
 have d2:decide (m<n)=false:=by simp;omega
 have HH:=Hd h
 rw[hm]at x2 x3 x4
 go_enter func242,ntmps242
 go_wp2
 go_ret
 exact⟨rfl,by simp[kt,World.setCell,Array.getElem?_modify,HH.out],((Keep.refl (fun k=>k=b) w).setCell (p:=⟨b,0,none⟩) (fun _=>rfl) _)⟩
theorem zQL(a b:Nat)(ha:a<2^62)(hb:b<2^62):bits .or .i64 a b=((a|||b:Nat):Int):=by
 exact(bits_nat .i64 62 (by decide) (fun n h0 h1=>by rw[IntKind.wrap_i64];omega) a b ha hb).2
theorem zOS(x c:Nat)(hx:x<16777216)(hc:c<256):bits .or .i64 ((x:Int)*256) (c:Int)=((x*256+c:Nat):Int):=by
 have h1:x*256|||c=x*256+c:=by have:=Nat.shiftLeft_add_eq_or_of_lt (i:=8) (a:=x) (b:=c) (by omega);rw[Nat.shiftLeft_eq]at this;exact this.symm
 have h2:=zQL (x*256) c (by omega) (by omega)
 rw[h1]at h2
 rw[←h2]
 push_cast
 rfl
theorem zRs{p:Prop}(h:p:=by (have c1:(c:Int)≤255:=by omega);have HNw:=Hd hnew;clear hA hA2 hx hc hnew;go_wp2;go_round;(case rel=>exact⟨j+1,by omega,by go_num,by rw[HNw.out];go_num⟩);case measure=>simp[intOf];omega):p:=h
theorem zGY(h:kt w b (bs (A++B)))(hn:A.length=n)(h4:n≤4)(hsz:(A++B).length≤9223372036854775807):Calls prog 243 #[.pointer (some ⟨b,0,none⟩),.int .i64 n] w fun e w'=>e= .returned (.int .i64 (beN A))∧kt w' b (bs B)∧Keep (fun k=>k=b) w w':=by
 have HT:=Hd (zEP h hn hsz)
 obtain⟨s,hs⟩:=qN (bs A)
 have hsl:s.data.toList=A:=by rw[←hs];exact zN1 A
 have hss:s.size=n:=by rw[←hs,kX,hn]
 rw[hs]at HT
 have HSl:=Hd hsl
 have HSs:=Hd hss
 have HN:=Hd hn
 clear h hs hsl hss hn
 go_enter func243,ntmps243
 go_wp2_with(go_at_call 242;refine(HT.out).mono ?_;rintro e w1⟨rfl,hr,hk⟩;obtain⟨cc,wc,hcv,hbc,_,_,_,hcc⟩:=zBt (P:=prog) w1 9 121 5 s underlying9 underlying121 underlying5;rw[HSs.out]at hcv;have HCc:=Hd hcc;have HR:=Hd hr;have HK:=Hd hk;have HBc:=Hd hbc;clear hcc hr hk hbc)
 go_loop [5,13](fun x i=>∃j:Nat,j≤n∧i= .int .i64 j∧x= .int .i64 (beN (A.take j)))(fun _ i=>n-(intOf i).toNat)
 case atStart=>exact⟨0,by omega,rfl,rfl⟩
 case round=>obtain⟨j,hj,rfl,rfl⟩:=hrel;by_cases hlt:j<n;(·(have g1:decide ((j:Int)<(n:Int))=true:=by simp;omega);(have g1':decide (j<n)=true:=by simpa using hlt);(have hj0:(0:Int)≤(j:Int):=by omega);(have hj1:(j:Int)<(n:Int):=by omega);(have hs:j<s.size:=by rw[HSs.out];exact hlt);have q0:=HCc.out j hs;(have hA:A[j]? =some s[j]:=by rw[←HSl.out,Array.getElem?_toList];exact Array.getElem?_eq_getElem hs);(have hA2:A.take (j+1)=A.take j++[s[j]]:=by rw[List.take_add_one,hA];rfl);obtain⟨x,hx⟩:=qN (beN (A.take j));(have hx2:x<16777216:=by have h1:=zIt (A.take j);(have h2:(A.take j).length=j:=by rw[List.length_take,HN.out];omega);rw[hx,h2]at h1;have h3:256^j≤256^3:=Nat.pow_le_pow_right (by decide) (by omega);have h4:(256:Nat)^3=16777216:=rfl;omega);obtain⟨c,hc⟩:=qN (s[j].toNat);(have hc2:c<256:=by rw[←hc];exact s[j].toNat_lt);(have hnew:beN (A.take (j+1))=x*256+c:=by rw[hA2,zCE,hx,hc]);rw[hc]at q0;rw[hx];have o1:=zOS x c hx2 hc2;(have x0:(0:Int)≤(x:Int):=by omega);(have x1:(x:Int)≤16777215:=by omega);(have c0:(0:Int)≤(c:Int):=by omega);exact zRs);·(have g1:decide ((j:Int)<(n:Int))=false:=by simp;omega);(have g1':decide (j<n)=false:=by simpa using hlt);(have hjn:j=n:=by omega);(have hA:A.take j=A:=by rw[hjn,←HN.out,List.take_length]);rw[hA];go_wp2;go_ret;exact⟨rfl,(Keep.still HBc.out).at HR.out (fun e=>e),HK.out.trans (Keep.ofBelow (S:=fun k=>k=b) HBc.out) (fun _ _ e=>e)⟩
theorem zRt{p:Prop}(h:p:=by unfold beN;simp only[List.foldl_cons,List.foldl_nil,zD7];omega):p:=h
theorem zC3{t:List UInt8}{s:QB}(h:kt w b (bs (zAE s++t)))(hs:s.size<256)(hsz:(zAE s++t).length≤9223372036854775807):Calls prog 244 #[.pointer (some ⟨b,0,none⟩)] w fun e w'=>e= .returned (.string s)∧kt w' b (bs t)∧Keep (fun k=>k=b) w w':=by
 have e1:zAE s++t=[UInt8.ofNat s.size]++(s.data.toList++t):=rfl
 have e2:beN [UInt8.ofNat s.size]=s.size:=by exact zRt
 have hl:(s.data.toList++t).length≤9223372036854775807:=by rw[e1,Ql,List.length_singleton]at hsz;omega
 rw[e1]at h hsz
 have H1:=Hd (zGY (n:=1) h rfl (by decide) hsz)
 rw[e2]at H1
 have H2:=Hd (fun u(hu:kt u b (bs (s.data.toList++t)))=>zEP hu (n:=s.size) (by rw[Array.length_toList];rfl) hl)
 rw[zKY]at H2
 obtain⟨n,hn⟩:=qN s.size
 rw[hn]at H1 H2
 clear h e1 e2 hl hsz hs hn
 go_enter func244,ntmps244
 go_wp2_with(fail)
 refine(H1.out).mono ?_
 rintro e w1⟨rfl,hr1,hk1⟩
 have HK1:=Hd hk1
 have H3:=Hd (H2.out _ hr1)
 clear hr1 hk1
 go_wp2_with(fail)
 refine(H3.out).mono ?_
 rintro e w2⟨rfl,hr2,hk2⟩
 go_wp2
 go_ret
 exact⟨rfl,hr2,HK1.out.trans hk2 (fun _ _ e=>e)⟩
end
theorem zCR:(prog.info? 9).map (fun i=>(i.zero,i.size,i.bytes))=some (some (.string ⟨#[]⟩),1,16):=by
 kernel_rfl
theorem zHi:(prog.info? 3).map (fun i=>(i.zero,i.size,i.bytes))=some (some (.int .i64 0),1,8):=by
 kernel_rfl
def Nd.rest(x:Nd)(i:Nat):List UInt8:=vN x.leaf (x.keys.drop i) (x.vals.drop i) (x.kids.drop i)
theorem Nd.rest_all(x:Nd):x.rest x.keys.length=[]:=by
 unfold Nd.rest
 rw[List.drop_length]
 rfl
theorem Nd.rest_one(x:Nd)(i:Nat)(hi:i<x.keys.length):x.rest i=zAE (x.keys.getD i ⟨#[]⟩)++((if x.leaf then zAE (x.vals.getD i ⟨#[]⟩)else be4 (x.kids.getD i 0))++x.rest (i+1)):=by
 unfold Nd.rest
 rw[zD8 x.leaf x.keys x.vals x.kids i hi,vD x.keys i ⟨#[]⟩ hi]
 unfold zHD
 rw[Qa]
theorem Nd.upto_ge(x:Nd)(i:Nat):3≤x.upto i:=by
 induction i with|zero=>exact Qn _|succ i ih=>exact Nat.le_trans ih (Nat.le_add_right _ _)
theorem Nd.rest_le(x:Nd)(k:Nat)(hk:k≤x.keys.length):(x.rest k).length≤(x.rest 0).length:=by
 have h1:=x.ents_split k hk
 have h2:=x.ents_split 0 (Nat.zero_le _)
 have h3:=x.upto_ge k
 have h4:x.upto 0=3:=rfl
 unfold Nd.rest
 omega
theorem zC4{α:Type}(l:List α)(i:Nat)(d:α)(h:i<l.length):l.take (i+1)=l.take i++[l.getD i d]:=by
 rw[List.take_add_one,Qg h,←vD l i d h]
 rfl
structure PInv(w wr:World)(rb nb:Nat)(kv vv cv:Value)(x:Nd)(t:List UInt8)(i:Nat):Prop where
 nd:NdAt wr nb kv vv cv (x.take i)
 rd:kt wr rb (bs (x.rest i++t))
 new:∀k,yK nb kv vv cv k→w.heap.size≤k∧k≠rb
 below:Below w.heap.size w wr
 rbn:w.heap.size≤rb
theorem zRu{p:Prop}(h:p:=by have h1:=HBa.out.trans (hk1.below HBa.out.size (fun i hi e=>by omega));exact h1.alloc h1.size _):p:=h
theorem zRv{p:Prop}(h:p:=by rcases hk with e|e|e|e;(·have:=HRb.out;omega);(·cases e);(·cases e);·cases e):p:=h
theorem zRw{p:Prop}(h:p:=by have HFi:=Hd hfin;clear hfin hpb hkpb hxe hrowb;go_wp2;go_roundw;(case rel=>exact⟨k+1,_,_,_,by omega,rfl,HFi.out⟩);case measure=>simp[intOf];omega):p:=h
theorem zOT{p:Prop}(h:p:=by rw[←hkey];exact HOk.out.k96 _ (zz (by rw[HM.out];exact hlt))):p:=h
theorem zRx{p:Prop}(h:p:=by have h1:=HOa.out;rw[←HKey.out]at h1;have e1:(x.take (k+1)).keys=(x.take k).keys++[x.keys.getD k ⟨#[]⟩]:=zC4 x.keys k ⟨#[]⟩ (by rw[HVa.out];exact hlt);(have e2:(x.take (k+1)).keys.length=k+1:=by rw[e1,Ql,HLa.out];rfl);rw[e2,e1];unfold zW at h1⊢;rw[List.map_append];exact h1):p:=h
theorem zOU{p:Prop}(h:p:=by rw[e2]at e;exact Nat.le_of_eq (Option.some.inj e)):p:=h
theorem zMZ{p:Prop}(h:p:=by rw[e2]at e;have e3:=Option.some.inj e;simp at e3;omega):p:=h
theorem zRy{p:Prop}(h:p:=by (have hrlt:rb<wa3.heap.size:=by have:=(Gl HRa3.out);omega);have hge:w.heap.size≤wr.heap.size:=HI2.out.below.size;rcases hq with e|e|e|e;(·exact HWa.out q (.inl e));(·rcases HQa.out with e2|e2;(·exact HWa.out q (.inr (.inl (by rw[←e2];exact e))));·exact zMZ);(·exact HWa.out q (.inr (.inr (.inl e))));·exact HWa.out q (.inr (.inr (.inr e)))):p:=h
theorem zRz{p:Prop}(h:p:=by have h1:=HI2.out.below.trans (HKa3.out.below HI2.out.below.size (fun i hi e=>by have:=HI2.out.rbn;omega));have h2:=h1.alloc h1.size (.cells #[.string key] 9);exact h2.trans (hkpa.below h2.size (fun i hi e=>by have:=(HWa.out i e).1;omega))):p:=h
theorem zR0{p:Prop}(h:p:=by have:=Qc hpa.cells 0;rw[show(#[Value.bool ({x.take k with keys:=(x.take (k+1)).keys}:Nd).leaf,.slice saa (k+1) sca,vv,cv])[0]? =some (.bool x.leaf)from rfl,HLf.out]at this;exact this):p:=h
theorem zR1{p:Prop}(h:p:=by exact h2.trans (hkpb.below h2.size (fun i hi e=>by have:=(HWb.out i e).1;omega))):p:=h
theorem zR2{p:Prop}(h:p:=by have c1:wr.cell? ⟨nb,1,none⟩=some (.slice ka m kc):=Qc hnd.cells 1;(have g2:decide ((0:Int)<(m:Int))=true:=by simp;omega);(have g2':decide (0<m)=true:=by simpa using hm0);clear hinv hnd htk;go_wp2;go_quiet(fail);go_wp2;go_ret2;exact⟨nb,_,_,_,rfl,HNd.out.still ⟨rfl,rfl,rfl,Qn _,fun _ _=>rfl⟩,fun q hq=>(HNw.out q hq).1,HBl.out.trans (Below.mono ⟨rfl,rfl,rfl,Qn _,fun _ _=>rfl⟩ HBl.out.size)⟩):p:=h
theorem zR3{p:Prop}(h:p:=by obtain⟨a,c,e,_⟩:=slice_form hnd.keys;rw[HM.out]at e;exact⟨a,c,e⟩):p:=h
theorem zR4{p:Prop}(h:p:=by have:=Qc hnd.cells 0;rw[HLf.out]at this;exact this):p:=h
theorem zR5{p:Prop}(h:p:=by rw[HLf.out]at this;simp only[Bool.false_eq_true,if_false]at this;omega):p:=h
theorem zKs(x:Nd)(ok:x.ok)(hne:x.keys≠[])(hm:x.keys.length<65536)(t:List UInt8)(hsz:(x.bytes++t).length≤4611686018427387904)(w:World):Calls prog 205 #[.string (bs (x.bytes++t))] w fun e w'=>∃nb kv vv cv,e= .returned (.tuple #[.pointer (some ⟨nb,0,none⟩),.bool true])∧NdAt w' nb kv vv cv x∧(∀k,yK nb kv vv cv k→w.heap.size≤k)∧Below w.heap.size w w':=by
 obtain⟨i0,hi0,hz0,hz1,hz2⟩:=info_parts zCR
 have HI:=Hd hi0
 have Hz0:=Hd hz0
 have Hz1:=Hd hz1
 have Hz2:=Hd hz2
 obtain⟨j0,hj0,hy0,hy1,hy2⟩:=info_parts zHi
 have HJ:=Hd hj0
 have Hy0:=Hd hy0
 have Hy1:=Hd hy1
 have Hy2:=Hd hy2
 clear hi0 hz0 hz1 hz2 hj0 hy0 hy1 hy2
 obtain⟨m,hmm⟩:=qN x.keys.length
 have hm0:0<m:=by rw[←hmm];exact List.length_pos_iff.2 hne
 rw[hmm]at hm
 have e0:x.bytes++t=[if x.leaf then 76 else 78]++([UInt8.ofNat (m/256),UInt8.ofNat m]++(x.rest 0++t)):=by unfold Nd.bytes Nd.rest;rw[List.drop_zero,List.drop_zero,List.drop_zero,hmm];rfl
 have e2:beN [UInt8.ofNat (m/256),UInt8.ofNat m]=m:=by exact zRt
 rw[e0]at hsz⊢
 have hsz1:([UInt8.ofNat (m/256),UInt8.ofNat m]++(x.rest 0++t)).length≤4611686018427387904:=by rw[Ql,List.length_singleton]at hsz;omega
 have hsz2:(x.rest 0++t).length≤4611686018427387904:=by rw[Ql]at hsz1;omega
 have HT1:=Hd (fun u b(hu:kt u b (bs ([if x.leaf then 76 else 78]++([UInt8.ofNat (m/256),UInt8.ofNat m]++(x.rest 0++t)))))=>zEP (n:=1) hu rfl (by omega))
 have HT2:=Hd (fun u b(hu:kt u b (bs ([UInt8.ofNat (m/256),UInt8.ofNat m]++(x.rest 0++t))))=>zGY (n:=2) hu rfl (by decide) (by omega))
 rw[e2]at HT2
 have HE0:=Hd e0
 have HM:=Hd hmm
 have HOk:=Hd ok
 have HSz:=Hd hsz2
 obtain⟨s,hs⟩:=qN (bs ([if x.leaf then 76 else 78]++([UInt8.ofNat (m/256),UInt8.ofNat m]++(x.rest 0++t))))
 rw[hs]at HT1⊢
 clear hs e0 e2 hsz hsz1 hsz2 hmm ok hne
 have hrd:kt (w.alloc (.cells #[.string s,.bool false] 329)) w.heap.size s:=qH w _
 have HA:=Hd (HT1.out _ _ hrd)
 have HBa:=Hd ((Below.refl w.heap.size w).alloc (Qn _) (.cells #[.string s,.bool false] 329))
 clear hrd
 have hk:∃kd,bs [if x.leaf then 76 else 78]=kd:=⟨_,rfl⟩
 obtain⟨lf,hlf⟩:=qN x.leaf
 rw[hlf]at HA
 have HLf:=Hd hlf
 clear hlf hk
 cases lf with|true=>have hbk:bs [76]=⟨#[76]⟩:=rfl;simp only[if_true]at HA;rw[hbk]at HA;clear hbk;go_enter func205,ntmps205;go_wp2_with(fail);refine(HA.out).mono ?_;rintro e w1⟨rfl,hr1,hk1⟩;(have hba:Below w.heap.size w (w1.alloc (.cells #[.bool true,.slice none 0 0,.slice none 0 0,.slice none 0 0] 247)):=by exact zRu);(have hlt1:w.heap.size<w1.heap.size:=by have:=hk1.size;simp at this;omega);have hrx:kt (w1.alloc (.cells #[.bool true,.slice none 0 0,.slice none 0 0,.slice none 0 0] 247)) w.heap.size _:=(Keep.still ((Below.refl w1.heap.size w1).alloc (Qn _) (.cells #[.bool true,.slice none 0 0,.slice none 0 0,.slice none 0 0] 247))).at hr1 (fun e=>e);have HT:=Hd (HT2.out _ _ hrx);have HBb:=Hd hba;have hnn:=qH w1 (.cells #[.bool true,.slice none 0 0,.slice none 0 0,.slice none 0 0] 247);obtain⟨w2,hw2⟩:=qN (w1.alloc (.cells #[.bool true,.slice none 0 0,.slice none 0 0,.slice none 0 0] 247));obtain⟨nb,hnb⟩:=qN w1.heap.size;obtain⟨rb,hrb⟩:=qN w.heap.size;rw[hw2,hnb]at hnn;rw[hw2]at HBb HT;rw[hnb,hrb]at hlt1;rw[hrb]at HT;have HNn:=Hd hnn;have HRb:=Hd hrb;clear hr1 hk1 hba hrx hnn;go_wp2_with(fail);(try rw[hw2]);(try rw[hnb]);(try rw[hrb]);refine(HT.out).mono ?_;rintro e w3⟨rfl,hr2,hk2⟩;have HNe:=Hd (show nb≠rb by omega);(have hin:PInv w w3 rb nb (.slice none 0 0) (.slice none 0 0) (.slice none 0 0) x t 0:=by have h2:=hk2.at HNn.out HNe.out;refine⟨⟨by rw[h2];show some (Obj.cells #[.bool true,_,_,_] _ _)=some (Obj.cells #[.bool x.leaf,_,_,_] _ _);rw[HLf.out],qO,qO,qO,⟨(fun e=>by cases e),(fun e=>by cases e),(fun e=>by cases e)⟩,⟨(fun k e=>by cases e),(fun k e=>by cases e)⟩⟩,hr2,fun k hk=> ?_,HBb.out.trans (hk2.below HBb.out.size (fun i hi e=>by have:=HRb.out;omega)),Nat.le_of_eq HRb.out⟩;exact zRv);have HIn:=Hd hin;clear hin hr2 hk2 hw2 hnb hrb HA HBa HT1 HT2 HNn;go_wp2;go_loopw [18](fun i wr=>∃(k:Nat)(kv vv cv:Value),k≤m∧i= .int .i64 k∧PInv w wr rb nb kv vv cv x t k)(fun i _=>m-(intOf i).toNat);(case atStart=>exact⟨0,_,_,_,by omega,rfl,HIn.out⟩);(case round=>obtain⟨k,kv,vv,cv,hk,rfl,hinv⟩:=hrel;have HI2:=Hd hinv;have cb:wr.cell? ⟨rb,1,none⟩=some (.bool false):=Qc hinv.rd 1;by_cases hlt:k<m;(·(have g1:decide ((k:Int)<(m:Int))=true:=by simp;omega);(have g1':decide (k<m)=true:=by simpa using hlt);have hr1:=x.rest_one k (by rw[HM.out];exact hlt);rw[HLf.out]at hr1;simp only[if_true]at hr1;have hrl:=x.rest_le k (by rw[HM.out];omega);have hszk:=HSz.out;rw[Ql]at hszk;obtain⟨key,hkey⟩:=qN (x.keys.getD k ⟨#[]⟩);(have hk96:key.size≤96:=by exact zOT);have hrd:=hinv.rd;rw[hr1,hkey,Qa]at hrd;rw[hr1,hkey]at hrl;simp only[Ql]at hrl;have hdr:Below wr.heap.size wr wr.drew:=⟨rfl,rfl,rfl,Qn _,fun _ _=>rfl⟩;have HXa:=Hd (zC3 ((Keep.still hdr).at hrd (fun e=>e):kt wr.drew rb _) (by omega) (by simp only[Ql];omega));have HNa:=Hd hinv.nd;have HWa:=Hd hinv.new;have HLa:=Hd (show(x.take k).keys.length=k by show(x.keys.take k).length=k;rw[List.length_take,HM.out];omega);have HVa:=Hd HM.out;have HRl:=Hd hrl;have HSk:=Hd hszk;have HKey:=Hd hkey;clear hr1 hrd hrl hszk hkey hinv hdr;go_wp2_with(fail);obtain⟨S,HS⟩:=mkS (Keep (fun k=>k=rb∨kv.ownBlock=some k) (wr));have FR:=Hd (fun u(hu:S u)=>have hu:=(HS.out u).1 hu;have hn:=(hu.at HNa.out.cells (fun e=>e.elim HNe.out HNa.out.ne.1));have c1:u.cell? ⟨nb,1,none⟩=some kv:=Qc hn 1;And.intro hn c1);refine rgo 9 [tR 0,tR 1,tR 2,tR 3,tR 4,tR 5,tD 6,tD 7,tD 8] HS (Keep.refl _ _).drew ?_;(iterate 6 refine rd1 ?_);refine doH ?_;intro K hK;go_simp;go_at_call 244;refine(HXa.out).mono ?_;rintro e wa3⟨rfl,hr3,hk3⟩;have k3:Keep (fun k=>k=rb) wr wa3:=(Keep.refl (fun k=>k=rb) wr).drew.trans hk3 (fun _ _ e=>e);have HRa3:=Hd hr3;have HKa3:=Hd k3;refine hK _ _ ((HS.out _).2 (k3.mono (fun _ _ e=>.inl e))) ?_;clear hK K hr3 hk3 k3;refine doH ?_;intro K hK;go_simp;refine hK _ _ ((HS.out _).2 ((HKa3.out.mono (fun _ _ e=>.inl e)).alloc _)) ?_;clear hK K;have hna:=(HNa.out.keep HKa3.out (fun k hk e=>(HWa.out k hk).2 e)).still ((Below.refl _ _).alloc (Qn _) (.cells #[.string key] 9));have HBa:=Hd hna;clear hna;refine doH ?_;intro K hK;refine yF _ _ 22 (by rfl) 0 9 i0 _ 1 16 underlying22 HI.out Hz0.out Hz1.out Hz2.out (by rfl) (by decide) _ _ _ (by rfl) HBa.out.keys ⟨wa3.heap.size,0,none⟩ 1 1 [.string key] (by rfl) (by rfl) (World.news_of_block (cs:= #[.string key]) (t:=9) (fr:=(0,0)) (qH wa3 _)) (by simp[Value.oneCell']) (by rw[HLa.out];unfold maxLen;omega) (by rw[HLa.out];omega) (Nat.zero_le _) ?_;intro va wa8 hown8 hg8 hloc;have hown9:wa8.ownsRow 0 9 1 va ((x.take k).keys.length+1) (zW (x.take k).keys++[.string key]):=hown8;rw[HLa.out]at hown9;obtain⟨saa,sca,hsl⟩:=zA hown9;subst hsl;have HOa:=Hd hown9;have HGa:=Hd hg8;have HQa:=Hd hloc;have kga:=(Keep.refl (fun k=>kv.ownBlock=some k) _).grown hg8 (fun q _ e=>e);have kqa:wa8.heap[nb]? =_:=kga.at HBa.out.cells (fun e=>HBa.out.ne.1 e);have cza:wa8.cell? ⟨nb,1,none⟩=some kv:=Qc kqa 1;(have cfa:wa8.frozen? ⟨nb,1,none⟩=false:=by simp only[World.frozen?,kqa];rfl);refine hK _ _ ((HS.out _).2 (((HKa3.out.mono (fun _ _ e=>.inl e)).alloc (.cells #[.string key] 9)).trans kga (fun _ _ e=>.inr e))) ?_;clear hK K hown8 hown9 hg8 hloc kqa kga;refine zl ?_;clear FR;clear S HS;(have hrowa:wa8.ownsRow 0 9 1 (.slice saa (k+1) sca) (x.take (k+1)).keys.length (zW (x.take (k+1)).keys):=by exact zRx);obtain⟨hpa,hkpa⟩:=HBa.out.putKeys ((Keep.refl (fun k=>kv.ownBlock=some k) _).grown HGa.out (fun q _ e=>e)) hrowa (fun q e=>HQa.out.imp (fun e2=>by rw[←e2];exact e) (fun e2=>by exact zOU));(have hlen2:x.vals.length=m:=by have:=HOk.out.vals;rw[HLf.out]at this;rw[←HM.out];simpa using this);have hra:kt (wa8.setCell ⟨nb,1,none⟩ (.slice saa (k+1) sca)) rb _:=hkpa.at ((Keep.still ((Below.refl wa3.heap.size wa3).alloc (Qn _) (.cells #[.string key] 9))).at HRa3.out (fun e=>e)) (fun e=>(HWa.out rb e).2 rfl);have hsza:wr.heap.size≤wa3.heap.size:=HKa3.out.size;(have hown2:∀q,yK nb (.slice saa (k+1) sca) vv cv q→w.heap.size≤q∧q≠rb:=fun q hq=>by exact zRy);(have hbel2:Below w.heap.size w (wa8.setCell ⟨nb,1,none⟩ (.slice saa (k+1) sca)):=by exact zRz);obtain⟨wm,hwm⟩:=qN (wa8.setCell ⟨nb,1,none⟩ (.slice saa (k+1) sca));rw[hwm]at hpa hra hbel2;(have cl:wm.cell? ⟨nb,0,none⟩=some (.bool true):=by exact zR0);have HNb:=Hd hpa;have HRd2:=Hd hra;have HWb:=Hd hown2;have HBl2:=Hd hbel2;have HVb:=Hd hlen2;clear hpa hra hown2 hbel2 hlen2 hsza hrowa hkpa HOa HGa HQa HBa;obtain⟨val,hval⟩:=qN (x.vals.getD k ⟨#[]⟩);(have hv56:val.size≤56:=by rw[←hval];exact HOk.out.v56 _ (zz (by rw[HVb.out];exact hlt)));have hrd:=HRd2.out;rw[hval,Qa]at hrd;have hdr:Below wm.heap.size wm wm.drew:=⟨rfl,rfl,rfl,Qn _,fun _ _=>rfl⟩;have hrl:=HRl.out;have hszk:=HSk.out;rw[hval]at hrl;have HXb:=Hd (zC3 ((Keep.still hdr).at hrd (fun e=>e):kt wm.drew rb _) (by omega) (by simp only[Ql];omega));have HKv:=Hd hval;have HLb:=Hd (show(x.take k).vals.length=k by show(x.vals.take k).length=k;rw[List.length_take,HVb.out];omega);clear hval hrd hdr hrl hszk;go_wp2_with(fail);obtain⟨S,HS⟩:=mkS (Keep (fun k=>k=rb∨vv.ownBlock=some k) (wm));have FR:=Hd (fun u(hu:S u)=>have hu:=(HS.out u).1 hu;have hn:=(hu.at HNb.out.cells (fun e=>e.elim HNe.out HNb.out.ne.2.1));have c1:u.cell? ⟨nb,2,none⟩=some vv:=Qc hn 2;And.intro hn c1);refine rgo 9 [tR 0,tR 1,tR 2,tR 3,tR 4,tR 5,tD 6,tD 7,tD 8] HS (Keep.refl _ _).drew ?_;(iterate 6 refine rd1 ?_);refine doH ?_;intro K hK;go_simp;go_at_call 244;refine(HXb.out).mono ?_;rintro e wb3⟨rfl,hr3,hk3⟩;have k3:Keep (fun k=>k=rb) wm wb3:=(Keep.refl (fun k=>k=rb) wm).drew.trans hk3 (fun _ _ e=>e);have HRb3:=Hd hr3;have HKb3:=Hd k3;refine hK _ _ ((HS.out _).2 (k3.mono (fun _ _ e=>.inl e))) ?_;clear hK K hr3 hk3 k3;refine doH ?_;intro K hK;go_simp;refine hK _ _ ((HS.out _).2 ((HKb3.out.mono (fun _ _ e=>.inl e)).alloc _)) ?_;clear hK K;have hnb:=(HNb.out.keep HKb3.out (fun k hk e=>(HWb.out k hk).2 e)).still ((Below.refl _ _).alloc (Qn _) (.cells #[.string val] 9));have HBb:=Hd hnb;clear hnb;refine doH ?_;intro K hK;refine yF _ _ 22 (by rfl) 0 9 i0 _ 1 16 underlying22 HI.out Hz0.out Hz1.out Hz2.out (by rfl) (by decide) _ _ _ (by rfl) HBb.out.vals ⟨wb3.heap.size,0,none⟩ 1 1 [.string val] (by rfl) (by rfl) (World.news_of_block (cs:= #[.string val]) (t:=9) (fr:=(0,0)) (qH wb3 _)) (by simp[Value.oneCell']) (by show(x.take k).vals.length+1≤_;rw[HLb.out];unfold maxLen;omega) (by show((x.take k).vals.length+1)*_≤_;rw[HLb.out];omega) (Nat.zero_le _) ?_;intro vb wb8 hown8 hg8 hloc;have hown9:wb8.ownsRow 0 9 1 vb ((x.take k).vals.length+1) (zW (x.take k).vals++[.string val]):=hown8;rw[HLb.out]at hown9;obtain⟨sab,scb,hsl⟩:=zA hown9;subst hsl;have HOb:=Hd hown9;have HGb:=Hd hg8;have HQb:=Hd hloc;have kgb:=(Keep.refl (fun k=>vv.ownBlock=some k) _).grown hg8 (fun q _ e=>e);have kqb:wb8.heap[nb]? =_:=kgb.at HBb.out.cells (fun e=>HBb.out.ne.2.1 e);have czb:wb8.cell? ⟨nb,2,none⟩=some vv:=Qc kqb 2;(have cfb:wb8.frozen? ⟨nb,2,none⟩=false:=by simp only[World.frozen?,kqb];rfl);refine hK _ _ ((HS.out _).2 (((HKb3.out.mono (fun _ _ e=>.inl e)).alloc (.cells #[.string val] 9)).trans kgb (fun _ _ e=>.inr e))) ?_;clear hK K hown8 hown9 hg8 hloc kqb kgb;refine zl ?_;clear FR;clear S HS;(have hrowb:wb8.ownsRow 0 9 1 (.slice sab (k+1) scb) (x.take (k+1)).vals.length (zW (x.take (k+1)).vals):=by have h1:=HOb.out;rw[←HKv.out]at h1;have e1:(x.take (k+1)).vals=(x.take k).vals++[x.vals.getD k ⟨#[]⟩]:=zC4 x.vals k ⟨#[]⟩ (by rw[HVb.out];exact hlt);(have e2:(x.take (k+1)).vals.length=k+1:=by rw[e1,Ql,HLb.out];rfl);rw[e2,e1];unfold zW at h1⊢;rw[List.map_append];exact h1);obtain⟨hpb,hkpb⟩:=HBb.out.putVals ((Keep.refl (fun k=>vv.ownBlock=some k) _).grown HGb.out (fun q _ e=>e)) hrowb (fun q e=>HQb.out.imp (fun e2=>by rw[←e2];exact e) (fun e2=>by exact zOU));(have hxe:({({x.take k with keys:=(x.take (k+1)).keys}:Nd)with vals:=(x.take (k+1)).vals}:Nd)=x.take (k+1):=by have h0:x.kids=[]:=List.length_eq_zero_iff.1 (by have:=HOk.out.kids;rw[HLf.out]at this;simpa using this);unfold Nd.take;rw[h0];simp);(have hfin:PInv w (wb8.setCell ⟨nb,2,none⟩ (.slice sab (k+1) scb)) rb nb (.slice saa (k+1) sca) (.slice sab (k+1) scb) cv x t (k+1):=by rw[hxe]at hpb;refine⟨hpb,hkpb.at ((Keep.still ((Below.refl wb3.heap.size wb3).alloc (Qn _) (.cells #[.string val] 9))).at HRb3.out (fun e=>e)) (fun e=>(HWb.out rb e).2 rfl),fun q hq=> ?_,?_,HI2.out.rbn⟩;(·(have hrlt:rb<wb3.heap.size:=by have:=(Gl HRb3.out);omega);have hge:w.heap.size≤wm.heap.size:=HBl2.out.size;have hge2:wm.heap.size≤wb3.heap.size:=HKb3.out.size;(have hnew:(Value.slice sab (k+1) scb).ownBlock=some q→w.heap.size≤q∧q≠rb:=fun e=>by rcases HQb.out with e2|e2;(·exact HWb.out q (.inr (.inr (.inl (by rw[←e2];exact e)))));·exact zMZ);rcases hq with e|e|e|e;(·exact HWb.out q (.inl e));(·exact HWb.out q (.inr (.inl e)));(·exact hnew e);·exact HWb.out q (.inr (.inr (.inr e))));·have h1:=HBl2.out.trans (HKb3.out.below HBl2.out.size (fun i hi e=>by have:=HI2.out.rbn;omega));have h2:=h1.alloc h1.size (.cells #[.string val] 9);exact zR1);exact zRw);·(have g1:decide ((k:Int)<(m:Int))=false:=by simp;omega);(have g1':decide (k<m)=false:=by simpa using hlt);(have hkm:k=m:=by omega);have hnd:=hinv.nd;(have htk:x.take k=x:=by unfold Nd.take;rw[hkm,←HM.out,List.take_length,Qk (by have:=HOk.out.vals;rw[HLf.out]at this;simp only[if_true]at this;omega),Qk (by have:=HOk.out.kids;rw[HLf.out]at this;simp only[if_true]at this;omega)]);rw[htk]at hnd;have HNd:=Hd hnd;have HNw:=Hd hinv.new;have HBl:=Hd hinv.below;(obtain⟨ka,kc,hkv⟩:∃a c,kv= .slice a m c:=by exact zR3);subst hkv;(have cl:wr.cell? ⟨nb,0,none⟩=some (.bool true):=by exact zR4);exact zR2)|false=>have hbk:bs [78]=⟨#[78]⟩:=rfl;simp only[Bool.false_eq_true,if_false]at HA;rw[hbk]at HA;clear hbk;go_enter func205,ntmps205;go_wp2_with(fail);refine(HA.out).mono ?_;rintro e w1⟨rfl,hr1,hk1⟩;(have hba:Below w.heap.size w (w1.alloc (.cells #[.bool false,.slice none 0 0,.slice none 0 0,.slice none 0 0] 247)):=by exact zRu);(have hlt1:w.heap.size<w1.heap.size:=by have:=hk1.size;simp at this;omega);have hrx:kt (w1.alloc (.cells #[.bool false,.slice none 0 0,.slice none 0 0,.slice none 0 0] 247)) w.heap.size _:=(Keep.still ((Below.refl w1.heap.size w1).alloc (Qn _) (.cells #[.bool false,.slice none 0 0,.slice none 0 0,.slice none 0 0] 247))).at hr1 (fun e=>e);have HT:=Hd (HT2.out _ _ hrx);have HBb:=Hd hba;have hnn:=qH w1 (.cells #[.bool false,.slice none 0 0,.slice none 0 0,.slice none 0 0] 247);obtain⟨w2,hw2⟩:=qN (w1.alloc (.cells #[.bool false,.slice none 0 0,.slice none 0 0,.slice none 0 0] 247));obtain⟨nb,hnb⟩:=qN w1.heap.size;obtain⟨rb,hrb⟩:=qN w.heap.size;rw[hw2,hnb]at hnn;rw[hw2]at HBb HT;rw[hnb,hrb]at hlt1;rw[hrb]at HT;have HNn:=Hd hnn;have HRb:=Hd hrb;clear hr1 hk1 hba hrx hnn;go_wp2_with(fail);(try rw[hw2]);(try rw[hnb]);(try rw[hrb]);refine(HT.out).mono ?_;rintro e w3⟨rfl,hr2,hk2⟩;have HNe:=Hd (show nb≠rb by omega);(have hin:PInv w w3 rb nb (.slice none 0 0) (.slice none 0 0) (.slice none 0 0) x t 0:=by have h2:=hk2.at HNn.out HNe.out;refine⟨⟨by rw[h2];show some (Obj.cells #[.bool false,_,_,_] _ _)=some (Obj.cells #[.bool x.leaf,_,_,_] _ _);rw[HLf.out],qO,qO,qO,⟨(fun e=>by cases e),(fun e=>by cases e),(fun e=>by cases e)⟩,⟨(fun k e=>by cases e),(fun k e=>by cases e)⟩⟩,hr2,fun k hk=> ?_,HBb.out.trans (hk2.below HBb.out.size (fun i hi e=>by have:=HRb.out;omega)),Nat.le_of_eq HRb.out⟩;exact zRv);have HIn:=Hd hin;clear hin hr2 hk2 hw2 hnb hrb HA HBa HT1 HT2 HNn;go_wp2;go_loopw [18](fun i wr=>∃(k:Nat)(kv vv cv:Value),k≤m∧i= .int .i64 k∧PInv w wr rb nb kv vv cv x t k)(fun i _=>m-(intOf i).toNat);(case atStart=>exact⟨0,_,_,_,by omega,rfl,HIn.out⟩);case round=>obtain⟨k,kv,vv,cv,hk,rfl,hinv⟩:=hrel;have HI2:=Hd hinv;have cb:wr.cell? ⟨rb,1,none⟩=some (.bool false):=Qc hinv.rd 1;by_cases hlt:k<m;(·(have g1:decide ((k:Int)<(m:Int))=true:=by simp;omega);(have g1':decide (k<m)=true:=by simpa using hlt);have hr1:=x.rest_one k (by rw[HM.out];exact hlt);rw[HLf.out]at hr1;simp only[Bool.false_eq_true,if_false]at hr1;have hrl:=x.rest_le k (by rw[HM.out];omega);have hszk:=HSz.out;rw[Ql]at hszk;obtain⟨key,hkey⟩:=qN (x.keys.getD k ⟨#[]⟩);(have hk96:key.size≤96:=by exact zOT);have hrd:=hinv.rd;rw[hr1,hkey,Qa]at hrd;rw[hr1,hkey]at hrl;simp only[Ql]at hrl;have hdr:Below wr.heap.size wr wr.drew:=⟨rfl,rfl,rfl,Qn _,fun _ _=>rfl⟩;have HXa:=Hd (zC3 ((Keep.still hdr).at hrd (fun e=>e):kt wr.drew rb _) (by omega) (by simp only[Ql];omega));have HNa:=Hd hinv.nd;have HWa:=Hd hinv.new;have HLa:=Hd (show(x.take k).keys.length=k by show(x.keys.take k).length=k;rw[List.length_take,HM.out];omega);have HVa:=Hd HM.out;have HRl:=Hd hrl;have HSk:=Hd hszk;have HKey:=Hd hkey;clear hr1 hrd hrl hszk hkey hinv hdr;go_wp2_with(fail);obtain⟨S,HS⟩:=mkS (Keep (fun k=>k=rb∨kv.ownBlock=some k) (wr));have FR:=Hd (fun u(hu:S u)=>have hu:=(HS.out u).1 hu;have hn:=(hu.at HNa.out.cells (fun e=>e.elim HNe.out HNa.out.ne.1));have c1:u.cell? ⟨nb,1,none⟩=some kv:=Qc hn 1;And.intro hn c1);refine rgo 9 [tR 0,tR 1,tR 2,tR 3,tR 4,tR 5,tD 6,tD 7,tD 8] HS (Keep.refl _ _).drew ?_;(iterate 6 refine rd1 ?_);refine doH ?_;intro K hK;go_simp;go_at_call 244;refine(HXa.out).mono ?_;rintro e wa3⟨rfl,hr3,hk3⟩;have k3:Keep (fun k=>k=rb) wr wa3:=(Keep.refl (fun k=>k=rb) wr).drew.trans hk3 (fun _ _ e=>e);have HRa3:=Hd hr3;have HKa3:=Hd k3;refine hK _ _ ((HS.out _).2 (k3.mono (fun _ _ e=>.inl e))) ?_;clear hK K hr3 hk3 k3;refine doH ?_;intro K hK;go_simp;refine hK _ _ ((HS.out _).2 ((HKa3.out.mono (fun _ _ e=>.inl e)).alloc _)) ?_;clear hK K;have hna:=(HNa.out.keep HKa3.out (fun k hk e=>(HWa.out k hk).2 e)).still ((Below.refl _ _).alloc (Qn _) (.cells #[.string key] 9));have HBa:=Hd hna;clear hna;refine doH ?_;intro K hK;refine yF _ _ 22 (by rfl) 0 9 i0 _ 1 16 underlying22 HI.out Hz0.out Hz1.out Hz2.out (by rfl) (by decide) _ _ _ (by rfl) HBa.out.keys ⟨wa3.heap.size,0,none⟩ 1 1 [.string key] (by rfl) (by rfl) (World.news_of_block (cs:= #[.string key]) (t:=9) (fr:=(0,0)) (qH wa3 _)) (by simp[Value.oneCell']) (by rw[HLa.out];unfold maxLen;omega) (by rw[HLa.out];omega) (Nat.zero_le _) ?_;intro va wa8 hown8 hg8 hloc;have hown9:wa8.ownsRow 0 9 1 va ((x.take k).keys.length+1) (zW (x.take k).keys++[.string key]):=hown8;rw[HLa.out]at hown9;obtain⟨saa,sca,hsl⟩:=zA hown9;subst hsl;have HOa:=Hd hown9;have HGa:=Hd hg8;have HQa:=Hd hloc;have kga:=(Keep.refl (fun k=>kv.ownBlock=some k) _).grown hg8 (fun q _ e=>e);have kqa:wa8.heap[nb]? =_:=kga.at HBa.out.cells (fun e=>HBa.out.ne.1 e);have cza:wa8.cell? ⟨nb,1,none⟩=some kv:=Qc kqa 1;(have cfa:wa8.frozen? ⟨nb,1,none⟩=false:=by simp only[World.frozen?,kqa];rfl);refine hK _ _ ((HS.out _).2 (((HKa3.out.mono (fun _ _ e=>.inl e)).alloc (.cells #[.string key] 9)).trans kga (fun _ _ e=>.inr e))) ?_;clear hK K hown8 hown9 hg8 hloc kqa kga;refine zl ?_;clear FR;clear S HS;(have hrowa:wa8.ownsRow 0 9 1 (.slice saa (k+1) sca) (x.take (k+1)).keys.length (zW (x.take (k+1)).keys):=by exact zRx);obtain⟨hpa,hkpa⟩:=HBa.out.putKeys ((Keep.refl (fun k=>kv.ownBlock=some k) _).grown HGa.out (fun q _ e=>e)) hrowa (fun q e=>HQa.out.imp (fun e2=>by rw[←e2];exact e) (fun e2=>by exact zOU));(have hlen2:x.kids.length=m:=by have:=HOk.out.kids;rw[HLf.out]at this;rw[←HM.out];simpa using this);have hra:kt (wa8.setCell ⟨nb,1,none⟩ (.slice saa (k+1) sca)) rb _:=hkpa.at ((Keep.still ((Below.refl wa3.heap.size wa3).alloc (Qn _) (.cells #[.string key] 9))).at HRa3.out (fun e=>e)) (fun e=>(HWa.out rb e).2 rfl);have hsza:wr.heap.size≤wa3.heap.size:=HKa3.out.size;(have hown2:∀q,yK nb (.slice saa (k+1) sca) vv cv q→w.heap.size≤q∧q≠rb:=fun q hq=>by exact zRy);(have hbel2:Below w.heap.size w (wa8.setCell ⟨nb,1,none⟩ (.slice saa (k+1) sca)):=by exact zRz);obtain⟨wm,hwm⟩:=qN (wa8.setCell ⟨nb,1,none⟩ (.slice saa (k+1) sca));rw[hwm]at hpa hra hbel2;(have cl:wm.cell? ⟨nb,0,none⟩=some (.bool false):=by exact zR0);have HNb:=Hd hpa;have HRd2:=Hd hra;have HWb:=Hd hown2;have HBl2:=Hd hbel2;have HVb:=Hd hlen2;clear hpa hra hown2 hbel2 hlen2 hsza hrowa hkpa HOa HGa HQa HBa;obtain⟨kid,hval⟩:=qN (x.kids.getD k 0);(have hv56:kid<65536:=by rw[←hval];exact HOk.out.c32 _ (zz (by rw[HVb.out];exact hlt)));have hrd:=HRd2.out;rw[hval,Qa]at hrd;have hdr:Below wm.heap.size wm wm.drew:=⟨rfl,rfl,rfl,Qn _,fun _ _=>rfl⟩;have hrl:=HRl.out;have hszk:=HSk.out;rw[hval]at hrl;have hxb:=zGY (n:=4) ((Keep.still hdr).at hrd (fun e=>e):kt wm.drew rb _) rfl (by decide) (by simp only[Ql];omega);rw[zN4 kid (by omega)]at hxb;have HXb:=Hd hxb;have HKv:=Hd hval;clear hxb;have HLb:=Hd (show(x.take k).kids.length=k by show(x.kids.take k).length=k;rw[List.length_take,HVb.out];omega);clear hval hrd hdr hrl hszk;go_wp2_with(fail);obtain⟨S,HS⟩:=mkS (Keep (fun k=>k=rb∨cv.ownBlock=some k) (wm));have FR:=Hd (fun u(hu:S u)=>have hu:=(HS.out u).1 hu;have hn:=(hu.at HNb.out.cells (fun e=>e.elim HNe.out HNb.out.ne.2.2));have c1:u.cell? ⟨nb,3,none⟩=some cv:=Qc hn 3;And.intro hn c1);refine rgo 9 [tR 0,tR 1,tR 2,tR 3,tR 4,tR 5,tD 6,tD 7,tD 8] HS (Keep.refl _ _).drew ?_;(iterate 6 refine rd1 ?_);refine doH ?_;intro K hK;go_simp;go_at_call 243;refine(HXb.out).mono ?_;rintro e wb3⟨rfl,hr3,hk3⟩;have k3:Keep (fun k=>k=rb) wm wb3:=(Keep.refl (fun k=>k=rb) wm).drew.trans hk3 (fun _ _ e=>e);have HRb3:=Hd hr3;have HKb3:=Hd k3;refine hK _ _ ((HS.out _).2 (k3.mono (fun _ _ e=>.inl e))) ?_;clear hK K hr3 hk3 k3;refine doH ?_;intro K hK;go_simp;refine hK _ _ ((HS.out _).2 ((HKb3.out.mono (fun _ _ e=>.inl e)).alloc _)) ?_;clear hK K;have hnb:=(HNb.out.keep HKb3.out (fun k hk e=>(HWb.out k hk).2 e)).still ((Below.refl _ _).alloc (Qn _) (.cells #[.int .i64 (kid:Int)] 3));have HBb:=Hd hnb;clear hnb;refine doH ?_;intro K hK;refine yF _ _ 68 (by rfl) 0 3 j0 _ 1 8 underlying68 HJ.out Hy0.out Hy1.out Hy2.out (by rfl) (by decide) _ _ _ (by rfl) HBb.out.kids ⟨wb3.heap.size,0,none⟩ 1 1 [.int .i64 (kid:Int)] (by rfl) (by rfl) (World.news_of_block (cs:= #[.int .i64 (kid:Int)]) (t:=3) (fr:=(0,0)) (qH wb3 _)) (by simp[Value.oneCell']) (by show(x.take k).kids.length+1≤_;rw[HLb.out];unfold maxLen;omega) (by show((x.take k).kids.length+1)*_≤_;rw[HLb.out];omega) (Nat.zero_le _) ?_;intro vb wb8 hown8 hg8 hloc;have hown9:wb8.ownsRow 0 3 1 vb ((x.take k).kids.length+1) (yh (x.take k).kids++[.int .i64 (kid:Int)]):=hown8;rw[HLb.out]at hown9;obtain⟨sab,scb,hsl⟩:=zA hown9;subst hsl;have HOb:=Hd hown9;have HGb:=Hd hg8;have HQb:=Hd hloc;have kgb:=(Keep.refl (fun k=>cv.ownBlock=some k) _).grown hg8 (fun q _ e=>e);have kqb:wb8.heap[nb]? =_:=kgb.at HBb.out.cells (fun e=>HBb.out.ne.2.2 e);have czb:wb8.cell? ⟨nb,3,none⟩=some cv:=Qc kqb 3;(have cfb:wb8.frozen? ⟨nb,3,none⟩=false:=by simp only[World.frozen?,kqb];rfl);refine hK _ _ ((HS.out _).2 (((HKb3.out.mono (fun _ _ e=>.inl e)).alloc (.cells #[.int .i64 (kid:Int)] 3)).trans kgb (fun _ _ e=>.inr e))) ?_;clear hK K hown8 hown9 hg8 hloc kqb kgb;refine zl ?_;clear FR;clear S HS;(have hrowb:wb8.ownsRow 0 3 1 (.slice sab (k+1) scb) (x.take (k+1)).kids.length (yh (x.take (k+1)).kids):=by have h1:=HOb.out;rw[←HKv.out]at h1;have e1:(x.take (k+1)).kids=(x.take k).kids++[x.kids.getD k 0]:=zC4 x.kids k 0 (by rw[HVb.out];exact hlt);(have e2:(x.take (k+1)).kids.length=k+1:=by rw[e1,Ql,HLb.out];rfl);rw[e2,e1];unfold yh at h1⊢;rw[List.map_append];exact h1);obtain⟨hpb,hkpb⟩:=HBb.out.putKids ((Keep.refl (fun k=>cv.ownBlock=some k) _).grown HGb.out (fun q _ e=>e)) hrowb (fun q e=>HQb.out.imp (fun e2=>by rw[←e2];exact e) (fun e2=>by exact zOU));(have hxe:({({x.take k with keys:=(x.take (k+1)).keys}:Nd)with kids:=(x.take (k+1)).kids}:Nd)=x.take (k+1):=by have h0:x.vals=[]:=List.length_eq_zero_iff.1 (by have:=HOk.out.vals;rw[HLf.out]at this;simpa using this);unfold Nd.take;rw[h0];simp);(have hfin:PInv w (wb8.setCell ⟨nb,3,none⟩ (.slice sab (k+1) scb)) rb nb (.slice saa (k+1) sca) vv (.slice sab (k+1) scb) x t (k+1):=by rw[hxe]at hpb;refine⟨hpb,hkpb.at ((Keep.still ((Below.refl wb3.heap.size wb3).alloc (Qn _) (.cells #[.int .i64 (kid:Int)] 3))).at HRb3.out (fun e=>e)) (fun e=>(HWb.out rb e).2 rfl),fun q hq=> ?_,?_,HI2.out.rbn⟩;(·(have hrlt:rb<wb3.heap.size:=by have:=(Gl HRb3.out);omega);have hge:w.heap.size≤wm.heap.size:=HBl2.out.size;have hge2:wm.heap.size≤wb3.heap.size:=HKb3.out.size;(have hnew:(Value.slice sab (k+1) scb).ownBlock=some q→w.heap.size≤q∧q≠rb:=fun e=>by rcases HQb.out with e2|e2;(·exact HWb.out q (.inr (.inr (.inr (by rw[←e2];exact e)))));·exact zMZ);rcases hq with e|e|e|e;(·exact HWb.out q (.inl e));(·exact HWb.out q (.inr (.inl e)));(·exact HWb.out q (.inr (.inr (.inl e))));·exact hnew e);·have h1:=HBl2.out.trans (HKb3.out.below HBl2.out.size (fun i hi e=>by have:=HI2.out.rbn;omega));have h2:=h1.alloc h1.size (.cells #[.int .i64 (kid:Int)] 3);exact zR1);exact zRw);·(have g1:decide ((k:Int)<(m:Int))=false:=by simp;omega);(have g1':decide (k<m)=false:=by simpa using hlt);(have hkm:k=m:=by omega);have hnd:=hinv.nd;(have htk:x.take k=x:=by unfold Nd.take;rw[hkm,←HM.out,List.take_length,Qk (by have:=HOk.out.vals;exact zR5),Qk (by have:=HOk.out.kids;exact zR5)]);rw[htk]at hnd;have HNd:=Hd hnd;have HNw:=Hd hinv.new;have HBl:=Hd hinv.below;(obtain⟨ka,kc,hkv⟩:∃a c,kv= .slice a m c:=by exact zR3);subst hkv;(have cl:wr.cell? ⟨nb,0,none⟩=some (.bool false):=by exact zR4);exact zR2
theorem ze(l:List QB):(zW l).length=l.length:=by
 unfold zW
 rw[List.length_map]
theorem xf(l:List Nat):(yh l).length=l.length:=by
 unfold yh
 rw[List.length_map]
theorem yW(l:List QB)(i:Nat)(h:i<l.length):(zW l)[i]? =some (.string (l.getD i ⟨#[]⟩)):=by
 unfold zW
 rw[List.getElem?_map,Qg h,vD l i ⟨#[]⟩ h]
 rfl
theorem zCS(l:List Nat)(i:Nat)(h:i<l.length):(yh l)[i]? =some (.int .i64 ((l.getD i 0:Nat):Int)):=by
 unfold yh
 rw[List.getElem?_map,Qg h,vD l i 0 h]
 rfl
theorem Nd.upto_succ(x:Nd)(i:Nat):x.upto (i+1)=x.upto i+(1+(x.keys.getD i ⟨#[]⟩).size+(if x.leaf then 1+(x.vals.getD i ⟨#[]⟩).size else 4)):=by
 show x.upto i+(x.ent i).length=_
 unfold Nd.ent
 rw[kY]
theorem NdR.rows{w:World}{b:Nat}{x:Nd}(h:NdR w b x):∃kv vv cv,w.cell? ⟨b,0,none⟩=some (.bool x.leaf)∧w.cell? ⟨b,1,none⟩=some kv∧w.cell? ⟨b,2,none⟩=some vv∧w.cell? ⟨b,3,none⟩=some cv∧(∃a b1 o c,kv= .slice a x.keys.length c∧(0<x.keys.length→a=some ⟨b1,o,none⟩∧b1<w.heap.size)∧∀i,i<x.keys.length→w.cell? ⟨b1,o+i,none⟩=some (.string (x.keys.getD i ⟨#[]⟩)))∧(∃a b1 o c,vv= .slice a x.vals.length c∧(0<x.vals.length→a=some ⟨b1,o,none⟩∧b1<w.heap.size)∧∀i,i<x.vals.length→w.cell? ⟨b1,o+i,none⟩=some (.string (x.vals.getD i ⟨#[]⟩)))∧∃a b1 o c,cv= .slice a x.kids.length c∧(0<x.kids.length→a=some ⟨b1,o,none⟩∧b1<w.heap.size)∧∀i,i<x.kids.length→w.cell? ⟨b1,o+i,none⟩=some (.int .i64 ((x.kids.getD i 0:Nat):Int)):=by
 obtain⟨kv,vv,cv,c0,c1,c2,c3,⟨a1,b1,o1,p1,e1,h1,q1⟩,⟨a2,b2,o2,p2,e2,h2,q2⟩,⟨a3,b3,o3,p3,e3,h3,q3⟩⟩:=h.node
 rw[ze]at e1 h1 e2 h2
 rw[xf]at e3 h3
 exact⟨kv,vv,cv,c0,c1,c2,c3,⟨a1,b1,o1,p1,e1,h1,fun i hi=>q1 i _ (yW _ i hi)⟩,⟨a2,b2,o2,p2,e2,h2,fun i hi=>q2 i _ (yW _ i hi)⟩,⟨a3,b3,o3,p3,e3,h3,fun i hi=>q3 i _ (zCS _ i hi)⟩⟩
theorem zR6{p:Prop}(h:p:=by have h4:x.upto 0=3:=rfl;(have h5:x.most≤154:=by unfold Nd.most;split<;>omega);have h6:x.most*(j-0)≤154*65536:=Nat.mul_le_mul h5 (by omega);omega):p:=h
theorem zBC{w:World}{b:Nat}{x:Nd}(h:NdR w b x)(ok:x.okS)(hl:x.keys.length<65536):Calls prog 212 #[.pointer (some ⟨b,0,none⟩)] w fun e w'=>e= .returned (.int .i64 x.size)∧w=w':=by
 obtain⟨kv,vv,cv,c0,c1,c2,c3,⟨a1,b1,o1,p1,rfl,h1,q1⟩,⟨a2,b2,o2,p2,rfl,h2,q2⟩,_⟩:=h.rows
 obtain⟨m,hm⟩:=qN x.keys.length
 have hup:∀j,j≤m→x.upto j≤3+154*65536:=fun j hj=>by have h3:=(Nd.upto_le ok 0 j (Nat.zero_le _) (by omega)).2;exact zR6
 have hsz:=x.size_upto
 rw[hm]at hl h1 q1 hsz c1
 have HU:=Hd hup
 have HS:=Hd (fun j=>x.upto_succ j)
 have H1:=Hd h1
 have H2:=Hd h2
 have Q1:=Hd q1
 have Q2:=Hd q2
 have HSz:=Hd hsz
 have HOk:=Hd ok
 have HM:=Hd hm
 clear h hup h1 h2 q1 q2 hsz ok hm
 go_enter func212,ntmps212
 go_wp2
 go_loop [3,11](fun s i=>∃j:Nat,j≤m∧i= .int .i64 j∧s= .int .i64 (x.upto j))(fun _ i=>m-(intOf i).toNat)
 case atStart=>exact⟨0,by omega,rfl,rfl⟩
 case round=>obtain⟨j,hj,rfl,rfl⟩:=hrel;by_cases hlt:j<m;(·(have g1:decide ((j:Int)<(m:Int))=true:=by simp;omega);(have g1':decide (j<m)=true:=by simpa using hlt);(have j0:(0:Int)≤(j:Int):=by omega);(have j1:(j:Int)<(m:Int):=by omega);obtain⟨rfl,_⟩:=H1.out (by omega);have hq:=Q1.out j hlt;have hs:=HS.out j;have hu:=HU.out j (by omega);have hu2:=HU.out (j+1) (by omega);obtain⟨key,hk⟩:=qN (x.keys.getD j ⟨#[]⟩);(have hk96:key.size≤96:=by rw[←hk];exact HOk.out.k96 _ (zz (by rw[HM.out];exact hlt)));rw[hk]at hs hq;obtain⟨u,hu0⟩:=qN (x.upto j);rw[hu0]at hs hu⊢;obtain⟨ks,hks⟩:=qN key.size;rw[hks]at hs hk96;(have u0:(0:Int)≤(u:Int):=by omega);(have u1:(u:Int)≤20000000:=by omega);(have s0:(0:Int)≤(ks:Int):=by omega);(have s1:(ks:Int)≤96:=by omega);cases hlf:x.leaf with|true=>(have hvl:x.vals.length=m:=by rw[HOk.out.vals hlf,HM.out]);rw[hlf]at hs c0;simp only[if_true]at hs;rw[hvl]at c2;obtain⟨rfl,_⟩:=H2.out (by omega);have hv:=Q2.out j (by omega);obtain⟨v,hv0⟩:=qN (x.vals.getD j ⟨#[]⟩);(have hv56:v.size≤56:=by rw[←hv0];exact HOk.out.v56 _ (zz (by omega)));rw[hv0]at hs hv;obtain⟨vs,hvs⟩:=qN v.size;rw[hvs]at hs hv56;(have v0:(0:Int)≤(vs:Int):=by omega);(have v1:(vs:Int)≤56:=by omega);have HSs:=Hd hs;clear hs hk hv0 hvl hu0 hu2;go_wp2;go_round;(case rel=>exact⟨j+1,by omega,by go_num,by rw[HSs.out];go_num⟩);(case measure=>simp[intOf];omega)|false=>rw[hlf]at hs c0;simp only[Bool.false_eq_true,if_false]at hs;have HSs:=Hd hs;clear hs hk hu0 hu2;go_wp2;go_round;(case rel=>exact⟨j+1,by omega,by go_num,by rw[HSs.out];go_num⟩);case measure=>simp[intOf];omega);·(have g1:decide ((j:Int)<(m:Int))=false:=by simp;omega);(have g1':decide (j<m)=false:=by simpa using hlt);(have hjm:j=m:=by omega);(have hz:x.upto j=x.size:=by rw[hjm];exact HSz.out);rw[hz];go_wp2;go_ret;exact⟨rfl,rfl⟩
end
end Go.Proofs.YtaokjeokpifjgaaGreatDoor
namespace Go.Proofs
open Go.Shelf
def Tryz.bins_ren:Go.Shelf.Ren:=⟨fun|26=>206|33=>245|34=>246|38=>272|n=>n,fun|24=>22|9=>9|3=>3|4=>4|40=>284|0=>0|n=>n,fun|n=>n⟩
theorem Tryz.bins:Go.Proofs.Lays2.n26 prog Tryz.bins_ren:={mixed:=by kernel_rfl,f26:=qC func206,f33:=qC func245,f34:=qC func246,f38:=qC func272,t0:=underlying0,a0:=isAgg0,z0:=sizeOf0,v0:=zeroValue0,t3:=underlying3,a3:=isAgg3,z3:=sizeOf3,v3:=zeroValue3,t4:=underlying4,a4:=isAgg4,z4:=sizeOf4,v4:=zeroValue4,t9:=underlying9,a9:=isAgg9,z9:=sizeOf9,v9:=zeroValue9,t24:=underlying22,a24:=isAgg22,z24:=sizeOf22,v24:=zeroValue22,t40:=underlying284,a40:=isAgg284,z40:=sizeOf284,v40:=zeroValue284}
end Go.Proofs
namespace Go.Proofs.YtaokjeokpifjgaaGreatDoor
section
open Go.RowKit Go.MapKept
attribute [local go_sem] yo yg
theorem xE(s t:QB):Op.bytesLess s.toList t.toList=decide (bLt s t):=by
 rw[bytesLess_eq,Lib.toList_data,Lib.toList_data]
 rfl
theorem zMa{w:World}{a:Option Addr}{b1 o1 p1:Nat}{l:List QB}{key:QB}{l1 l2:List QB}(hr:0<l.length→a=some ⟨b1,o1,none⟩)(q:∀i,i<l.length→w.cell? ⟨b1,o1+i,none⟩=some (.string (l.getD i ⟨#[]⟩)))(he:l=l1++l2)(h1:∀k∈l1,bLt k key)(h2:∀k∈l2,¬bLt k key)(hl:l.length<65536):Calls prog 206 #[.slice a l.length p1,.string key] w fun e w'=>e= .returned (.tuple #[.int .i64 l1.length,.bool (decide (l2.head? =some key))])∧Below w.heap.size w w':=by
 have hlen:l.length=l1.length+l2.length:=by rw[he,Ql]
 obtain⟨n,hn⟩:=qN l.length
 obtain⟨m,hm⟩:=qN l1.length
 rw[hn]at hr q hl hlen⊢
 rw[hm]at hlen⊢
 rcases Nat.eq_zero_or_pos n with e0|e0
 ·have h20:l2=[]:=List.length_eq_zero_iff.1 (by omega);(obtain rfl:m=0:=by omega);rw[h20,e0];exact(Any2.slices_BinarySearch_string_empty Tryz.bins a p1 key w).mono fun e w' hh=>⟨hh.1,by rw[hh.2];exact Below.refl _ _⟩
 ·obtain rfl:=hr e0;(have hg1:∀t,t<m→l.getD t ⟨#[]⟩=l1.getD t ⟨#[]⟩:=fun t ht=>by rw[he,List.getD_eq_getElem?_getD,List.getElem?_append_left (by omega),←List.getD_eq_getElem?_getD]);(have hg2:∀t,m≤t→l.getD t ⟨#[]⟩=l2.getD (t-m) ⟨#[]⟩:=fun t ht=>by rw[he,List.getD_eq_getElem?_getD,List.getElem?_append_right (by omega),←List.getD_eq_getElem?_getD,hm]);obtain⟨S0,hS⟩:∃S0:Nat→QB,∀t,S0 t=if t<n then l.getD t ⟨#[]⟩else key:=⟨fun t=>if t<n then l.getD t ⟨#[]⟩else key,fun _=>rfl⟩;(have hb:Lib.bsGo (fun t=>Op.bytesLess (S0 t).toList key.toList) n 0 n=m:=by refine Lib.bsGo_spec _ m (fun t ht=> ?_) (fun t ht=> ?_) _ _ _ (by omega) (Nat.zero_le _) (by omega);(·rw[xE,hS,if_pos (by omega),hg1 t ht];exact decide_eq_true (h1 _ (zz (by omega))));·rw[xE,hS];by_cases h3:t<n;(·rw[if_pos h3,hg2 t ht];exact decide_eq_false (h2 _ (zz (by omega))));·rw[if_neg h3];exact decide_eq_false (zQ key));have H:=Any2.slices_BinarySearch_string Tryz.bins b1 o1 n p1 S0 key w (by omega) (fun j hj=>by rw[hS,if_pos hj];exact q j hj);rw[hb]at H;refine H.mono fun e w' hh=> ?_;obtain⟨he2,r,hr2⟩:=hh;refine⟨?_,by rw[hr2];exact⟨rfl,rfl,rfl,Qn _,fun _ _=>rfl⟩⟩;(have hd:decide (m<n∧S0 m=key)=decide (l2.head? =some key):=by by_cases h3:m<n;(·rw[hS,if_pos h3,hg2 m (Qn _),Nat.sub_self];(have h4:0<l2.length:=by omega);rw[List.head?_eq_getElem?,List.getD_eq_getElem?_getD,Qg h4];simp[h3]);·have h4:l2=[]:=List.length_eq_zero_iff.1 (by omega);rw[h4];simp[h3]);rw[he2,hd]
theorem zEQ{w:World}{b:Nat}{x:Nd}{key:QB}{l1 l2:List QB}(h:NdR w b x)(he:x.keys=l1++l2)(h1:∀k∈l1,bLt k key)(h2:∀k∈l2,¬bLt k key)(hl:x.keys.length<65536):Calls prog 148 #[.pointer (some ⟨b,0,none⟩),.string key] w fun e w'=>e= .returned (.tuple #[.int .i64 l1.length,.bool (decide (l2.head? =some key))])∧Below w.heap.size w w':=by
 obtain⟨kv,vv,cv,c0,c1,c2,c3,⟨a1,b1,o1,p1,rfl,hr1,q1⟩,_⟩:=h.rows
 have HB:=Hd (zMa (p1:=p1) (fun h=>(hr1 h).1) q1 he h1 h2 hl)
 generalize decide (l2.head? =some key)=fd at*
 obtain⟨n,hn⟩:=qN x.keys.length
 rw[hn]at HB c1
 clear h h1 h2 hr1 q1 hl hn he
 go_enter func148,ntmps148
 go_wp2_with(fail)
 refine(HB.out).mono ?_
 rintro e w1⟨rfl,hb1⟩
 go_wp2
 go_ret2
 exact⟨rfl,hb1⟩
end
section
open Go.RowKit Go.MapKept Go.Sort
attribute [local go_sem] yo yg
theorem zER(w:World)(m:Nat)(os:Array Obj):Below w.heap.size w (grow (w.drewN m) os):=by
 refine⟨rfl,rfl,rfl,?_,fun k hk=> ?_⟩
 ·show w.heap.size≤(w.heap++os).size;rw[Array.size_append];omega
 ·show(w.heap++os)[k]? =w.heap[k]?;rw[Array.getElem?_append_left hk]
theorem zOV(s t:QB):(!(Op.bytesLess s.toList t.toList||s.toList==t.toList))=decide (bLt t s):=by
 rw[xE]
 have e:(s.toList==t.toList)=decide (s=t):=by rw[Lib.toList_data,Lib.toList_data];by_cases h:s=t;(·subst h;simp);·rw[decide_eq_false h];refine beq_false_of_ne (fun e=>h (ByteArray.ext (Array.toList_inj.1 e)))
 rw[e]
 rcases xX s t with h|h|h
 ·rw[decide_eq_true h,decide_eq_false (yB h)];rfl
 ·subst h;rw[decide_eq_false (zQ s)];simp
 ·rw[decide_eq_false (yB h),decide_eq_true h,decide_eq_false (fun e=>by rw[e]at h;exact zQ _ h)];rfl
theorem zMb(m n:Nat)(h:m≤n):(List.range n).countP (fun i=>decide (i<m))=m:=by
 obtain⟨k,rfl⟩:∃k,n=m+k:=⟨n-m,by omega⟩
 rw[List.range_add,List.countP_append,List.countP_eq_length.2 (fun i hi=>decide_eq_true (List.mem_range.1 hi)),List.countP_eq_zero.2 (fun i hi=>by obtain⟨j,_,rfl⟩:=List.mem_map.1 hi;simp),List.length_range]
 omega
theorem zMc{w:World}{b pn pk b1 o1 p1 n i:Nat}{key k:QB}(hn:w.cell? ⟨pn,0,none⟩=some (.pointer (some ⟨b,0,none⟩)))(hk:w.cell? ⟨pk,0,none⟩=some (.string key))(c1:w.cell? ⟨b,1,none⟩=some (.slice (some ⟨b1,o1,none⟩) n p1))(hi:i<n)(q:w.cell? ⟨b1,o1+i,none⟩=some (.string k)):Calls prog 208 #[.int .i64 i,.pointer (some ⟨pn,0,none⟩),.pointer (some ⟨pk,0,none⟩)] w fun e w'=>e= .returned (.bool (decide (bLt key k)))∧∃q,w'=w.drewN q:=by
 have i0:(0:Int)≤(i:Int):=by omega
 have i1:(i:Int)<(n:Int):=by omega
 have hg:=zOV k key
 go_enter func208,ntmps208
 go_wp2
 go_quiet(fail)
 go_wp2
 go_ret
 exact⟨rfl,_,rfl⟩
theorem zGZ{w:World}{b:Nat}{x:Nd}{key:QB}{l1 l2:List QB}(h:NdR w b x)(he:x.keys=l1++l2)(h1:∀k∈l1,¬bLt key k)(h2:∀k∈l2,bLt key k)(hl:x.keys.length<65536):Calls prog 149 #[.pointer (some ⟨b,0,none⟩),.string key] w fun e w'=>e= .returned (.int .i64 ((l1.length-1:Nat):Int))∧Below w.heap.size w w':=by
 obtain⟨kv,vv,cv,c0,c1,c2,c3,⟨a1,b1,o1,p1,rfl,hr1,q1⟩,_⟩:=h.rows
 have hlen:x.keys.length=l1.length+l2.length:=by rw[he,Ql]
 have hp:∀i,i<x.keys.length→decide (bLt key (x.keys.getD i ⟨#[]⟩))=decide (l1.length≤i):=fun i hi=>by by_cases hi2:l1.length≤i;(·rw[decide_eq_true hi2];refine decide_eq_true (h2 _ ?_);rw[he,List.getD_eq_getElem?_getD,List.getElem?_append_right hi2,←List.getD_eq_getElem?_getD];exact zz (by omega));·rw[decide_eq_false hi2];refine decide_eq_false (h1 _ ?_);rw[he,List.getD_eq_getElem?_getD,List.getElem?_append_left (by omega),←List.getD_eq_getElem?_getD];exact zz (by omega)
 obtain⟨n,hn⟩:=qN x.keys.length
 obtain⟨m,hm⟩:=qN l1.length
 rw[hn]at hr1 q1 hl hlen hp c1
 rw[hm]at hlen hp⊢
 have hb1:Below w.heap.size w ((w.alloc (.cells #[.pointer (some ⟨b,0,none⟩)] 244)).alloc (.cells #[.string key] 9)):=(qA).alloc (by simp) _
 have e1:((w.alloc (.cells #[.pointer (some ⟨b,0,none⟩)] 244)).alloc (.cells #[.string key] 9)).cell? ⟨w.heap.size,0,none⟩=some (.pointer (some ⟨b,0,none⟩)):=Qc ((Keep.still ((Below.refl _ _).alloc (Qn _) (.cells #[.string key] 9))).at (qH w (.cells #[.pointer (some ⟨b,0,none⟩)] 244)) (fun e=>e)) 0
 have e2:((w.alloc (.cells #[.pointer (some ⟨b,0,none⟩)] 244)).alloc (.cells #[.string key] 9)).cell? ⟨w.heap.size+1,0,none⟩=some (.string key):=by have:=Qc (qH (w.alloc (.cells #[.pointer (some ⟨b,0,none⟩)] 244)) (.cells #[.string key] 9)) 0;rw[World.size_alloc]at this;exact this
 obtain⟨w1,hw1⟩:=qN ((w.alloc (.cells #[.pointer (some ⟨b,0,none⟩)] 244)).alloc (.cells #[.string key] 9))
 rw[hw1]at hb1 e1 e2
 have hs1:w.heap.size+2≤w1.heap.size:=by rw[←hw1];simp
 have c1':w1.cell? ⟨b,1,none⟩=some (.slice a1 n p1):=by rw[hb1.cell (p:=⟨b,1,none⟩) h.lt];exact c1
 have hcount:(List.range n).countP (fun i=> !decide (bLt key (x.keys.getD i ⟨#[]⟩)))=m:=by(have h3:(List.range n).countP (fun i=> !decide (bLt key (x.keys.getD i ⟨#[]⟩)))=(List.range n).countP (fun i=>decide (i<m)):=by refine List.countP_congr (fun i hi=> ?_);rw[hp i (List.mem_range.1 hi)];by_cases h4:i<m;(·simp[h4]);·simp[h4]);rw[h3];exact zMb m n (by omega)
 have HS:=Any.sort_Search Tryz.search 208 #[.pointer (some ⟨w.heap.size,0,none⟩),.pointer (some ⟨w.heap.size+1,0,none⟩)] n (fun i=>decide (bLt key (x.keys.getD i ⟨#[]⟩))) w1 (enters_of func208 (by kernel_rfl) rfl) (by omega) (fun m' os i hi=>by have hg:=zER w1 m' os;obtain⟨rfl,hlt1⟩:=hr1 (by omega);refine(zMc (b1:=b1) (o1:=o1) (p1:=p1) (n:=n) (key:=key) (k:=x.keys.getD i ⟨#[]⟩) (by rw[hg.cell (p:=⟨w.heap.size,0,none⟩) (by show w.heap.size<_;omega)];exact e1) (by rw[hg.cell (p:=⟨w.heap.size+1,0,none⟩) (by show w.heap.size+1<_;omega)];exact e2) (by rw[hg.cell (p:=⟨b,1,none⟩) (Qt h.lt hb1.size)];exact c1') hi (by rw[hg.cell (p:=⟨b1,o1+i,none⟩) (Qt hlt1 hb1.size),hb1.cell (p:=⟨b1,o1+i,none⟩) hlt1];exact q1 i hi)).mono fun e w'⟨he,q,hq⟩=>⟨he,q,#[],by rw[hq,grow_empty]⟩) (fun i j hij hj hi=>by rw[hp i (by omega)]at hi;rw[hp j hj];simp at hi⊢;omega)
 rw[hcount]at HS
 have HH:=Hd HS
 have HB:=Hd hb1
 have hmf:∀(fn:Fn)(first cap:Array Value)(w:World),(Instr.makeFunc fn first cap).run prog w= .ok (.func fn first cap) w:=fun _ _ _ _=>rfl
 obtain⟨ws,hws⟩:=qN w.heap.size
 rw[hws]at e1 HH
 have hm0:(0:Int)≤(m:Int):=by omega
 have hm1:(m:Int)≤65536:=by omega
 clear HS hb1 hcount hp h1 h2 he hlen e2 q1 hr1 hn hm
 go_enter func149,ntmps149
 go_wp2_with(fail)
 refine(HH.out).mono ?_
 rintro e w2⟨rfl,q,os,rfl⟩
 have HB2:=Hd (HB.out.trans ((zER w1 q os).mono HB.out.size))
 have hmx:max ((m:Int)-1) 0=((m-1:Nat):Int):=by omega
 go_wp2
 go_ret
 exact⟨rfl,HB2.out⟩
end
section
open Go.RowKit Go.MapKept
attribute [local go_sem] yo yg
def u8V(l:List UInt8):List Value:=l.map (fun b=>Value.int .u8 b.toNat)
theorem zHj(s:QB):Lib.strCells s=u8V s.data.toList:=rfl
theorem zJG(a b:List UInt8):u8V (a++b)=u8V a++u8V b:=by
 unfold u8V
 rw[List.map_append]
theorem yJ(g j:Nat):(⟨g,0,none⟩:Addr).add j=⟨g,j,none⟩:=by
 unfold Addr.add
 split<;>simp_all
theorem yr(n:Nat):IntKind.u8.wrap (n:Int)=((UInt8.ofNat n).toNat:Int):=by
 rw[zD7]
 show(n:Int)%256=_
 omega
theorem zMd{w:World}{B:Nat}{v:Value}{n:Nat}{l:List UInt8}(h:w.ownsRow B 5 1 v n (u8V l))(hn:0<n):∃g cap,v= .slice (some ⟨g,0,none⟩) n cap∧Lib.Bytes w g 0 (bs l)∧B≤g:=by
 obtain⟨g,c,e1,_,_,hg⟩:=zH h hn
 refine⟨g,c,e1,fun i hi=> ?_,hg⟩
 have hi2:i<l.length:=by rw[←kX];exact hi
 have h1:=h.cells (by rw[e1];rfl) i (.int .u8 (l[i].toNat:Int)) (by unfold u8V;rw[List.getElem?_map,Qg hi2];rfl)
 rw[yJ]at h1
 rw[Nat.zero_add,h1]
 congr 3
def Nd.head(x:Nd):List UInt8:=[if x.leaf then 76 else 78,UInt8.ofNat (x.keys.length/256),UInt8.ofNat x.keys.length]
def Nd.pre(x:Nd):Nat→List UInt8|0=>x.head|i+1=>x.pre i++x.ent i
theorem Nd.pre_rest(x:Nd)(i:Nat)(hi:i≤x.keys.length):x.pre i++x.rest i=x.bytes:=by
 induction i with|zero=>show x.head++vN x.leaf (x.keys.drop 0) (x.vals.drop 0) (x.kids.drop 0)=x.bytes;rw[List.drop_zero,List.drop_zero,List.drop_zero];rfl|succ i ih=>rw[←ih (by omega),x.rest_one i (by omega)];show x.pre i++x.ent i++x.rest (i+1)=_;unfold Nd.ent zHD;simp only[Qa]
theorem Nd.pre_all(x:Nd):x.pre x.keys.length=x.bytes:=by
 rw[←x.pre_rest _ (Qn _),x.rest_all,List.append_nil]
theorem zQM{p:Prop}(h:p:=by have:=HOk.out.vals;rw[HLf.out,HM.out]at this;exact this):p:=h
theorem zR7{p:Prop}(h:p:=by rw[hu.cell (p:=⟨b,0,none⟩) HR.out.lt (fun e=>e)];exact C0.out):p:=h
theorem zR8{p:Prop}(h:p:=by rw[hu.cell (p:=⟨b,1,none⟩) HR.out.lt (fun e=>e)];exact C1.out):p:=h
theorem zR9{p:Prop}(h:p:=by rw[HH.out];exact⟨rfl,.inr ⟨w.heap.size,3,_,rfl,Qn _,qH w _,Qn _,by unfold maxLen;omega,rfl,rfl⟩⟩):p:=h
theorem zSA{p:Prop}(h:p:=by have HNw:=Hd hnew;clear hnew;go_roundw;(case rel=>exact⟨j+1,by omega,rfl,HNw.out,HBld.out⟩);case measure=>simp[intOf];omega):p:=h
theorem zSB{p:Prop}(h:p:=by rw[HB.out.cell (p:=⟨b1,o1+j,none⟩) hlt1,←hkey];exact Q1.out j hlt):p:=h
theorem zJH{p:Prop}(h:p:=by rw[hb.cell (p:=⟨b,0,none⟩) HR.out.lt];exact C0.out):p:=h
theorem zOW{p:Prop}(h:p:=by rw[hb.cell (p:=⟨b,2,none⟩) HR.out.lt];exact C2.out):p:=h
theorem zOX{p:Prop}(h:p:=by rw[hb.cell (p:=⟨b2,o2+j,none⟩) HB2.out];exact HV.out):p:=h
theorem zSC{p:Prop}(h:p:=by simp only[zJG,zHj,Qa]at h1⊢;exact h1):p:=h
theorem zSD{p:Prop}(h:p:=by show x.pre j++x.ent j=_;unfold Nd.ent zHD;rw[HKey.out,HVal.out,HLf.out];rfl):p:=h
theorem zSE{p:Prop}(h:p:=by (have g1:decide ((j:Int)<(m:Int))=false:=by simp;omega);(have g1':decide (j<m)=false:=by simpa using hlt);(have hjm:j=x.keys.length:=by rw[HM.out];omega);have hrw:=HRow.out;rw[hjm,x.pre_all,x.size_upto]at hrw;obtain⟨g,cap,hv,hby,_⟩:=zMd hrw (by have:=x.ents_split 0 (Nat.zero_le _);have:x.upto 0=3:=rfl;omega);subst hv;have hcv:=Lib.run_convert_whole (P:=prog) wr 121 5 9 underlying121 underlying5 underlying9 g 0 x.text hby cap;have hts:x.text.size=x.size:=kX _;rw[hts]at hcv;clear hrw hby hts;go_wp2;go_ret;exact⟨rfl,HB.out⟩):p:=h
theorem zQN{p:Prop}(h:p:=by have:=HOk.out.kids;rw[HLf.out,HM.out]at this;exact this):p:=h
theorem zQO{p:Prop}(h:p:=by rw[hb.cell (p:=⟨b,3,none⟩) HR.out.lt];exact C2.out):p:=h
theorem zQP{p:Prop}(h:p:=by rw[hb.cell (p:=⟨b3,o3+j,none⟩) HB2.out];exact HV.out):p:=h
theorem zMe{w:World}{b:Nat}{x:Nd}(h:NdR w b x)(ok:x.ok)(hl:x.keys.length<65536):Calls prog 248 #[.pointer (some ⟨b,0,none⟩)] w fun e w'=>e= .returned (.string x.text)∧Below w.heap.size w w':=by
 obtain⟨i0,hi0,hz0,hz1,hz2⟩:=info_parts zEJ
 have HI:=Hd hi0
 have Hz0:=Hd hz0
 have Hz1:=Hd hz1
 have Hz2:=Hd hz2
 clear hi0 hz0 hz1 hz2
 have hR:=h.rows
 obtain⟨kv,vv,cv,c0,c1,c2,c3,⟨a1,b1,o1,p1,rfl,h1,q1⟩,⟨a2,b2,o2,p2,rfl,h2,q2⟩,⟨a3,b3,o3,p3,rfl,h3,q3⟩⟩:=hR
 obtain⟨m,hm⟩:=qN x.keys.length
 have hup:∀j,j≤m→x.upto j≤3+154*65536:=fun j hj=>by have h3:=(Nd.upto_le ok.s 0 j (Nat.zero_le _) (by omega)).2;exact zR6
 rw[hm]at c1 hl h1 q1
 have HR:=Hd h
 have HUp:=Hd hup
 have HOk:=Hd ok
 have HM:=Hd hm
 have m0:(0:Int)≤(m:Int):=by omega
 have m1:(m:Int)≤65535:=by omega
 obtain⟨ba,hba⟩:=qN (UInt8.ofNat (m/256))
 obtain⟨bb,hbb⟩:=qN (UInt8.ofNat m)
 have HHd:=Hd (show x.head=[if x.leaf then 76 else 78,ba,bb]by unfold Nd.head;rw[hm,hba,hbb])
 have wa:IntKind.u8.wrap ((m:Int)/256)=(ba.toNat:Int):=by rw[←hba,←yr];rfl
 have wb:IntKind.u8.wrap (m:Int)=(bb.toNat:Int):=by rw[←hbb,←yr]
 have H1:=Hd h1
 have Q1:=Hd q1
 have C1:=Hd c1
 clear h ok hup h1 q1 hba hbb c1
 obtain⟨lf,hlf⟩:=qN x.leaf
 rw[hlf]at c0
 have C0:=Hd c0
 have HLf:=Hd hlf
 clear hlf c0
 cases lf with|true=>(have hvl:x.vals.length=m:=by exact zQM);rw[hvl]at c2 h2 q2;have C2:=Hd c2;have H2:=Hd h2;have Q2:=Hd q2;clear c2 c3 h2 h3 q2 q3 hvl hm;(have hhd:u8V x.head=[.int .u8 76,.int .u8 (ba.toNat:Int),.int .u8 (bb.toNat:Int)]:=by rw[HHd.out,HLf.out];rfl);have HH:=Hd hhd;have c0:=C0.out;go_enter func248,ntmps248;go_wp2_with(fail);obtain⟨S,HS⟩:=mkS (Keep (fun _=>False) (w));have FR:=Hd (fun u(hu:S u)=>have hu:=(HS.out u).1 hu;have c0:u.cell? ⟨b,0,none⟩=some (.bool true):=(by exact zR7);have c1:u.cell? ⟨b,1,none⟩=some (.slice a1 m p1):=(by exact zR8);And.intro c0 c1);refine rgo 14 [tR 0,tR 1,tR 2,tR 3,tR 4,tR 5,tR 6,tR 7,tR 8,tR 9,tR 10,tR 11,tR 12,tR 13] HS (Keep.refl _ _).drew ?_;(iterate 14 refine rd1 ?_);refine zl ?_;clear FR;clear S HS;have hb0:Below w.heap.size w (w.alloc (.cells #[.int .u8 76,.int .u8 (ba.toNat:Int),.int .u8 (bb.toNat:Int)] 5)):=qA;(have c1:(w.alloc (.cells #[.int .u8 76,.int .u8 (ba.toNat:Int),.int .u8 (bb.toNat:Int)] 5)).cell? ⟨b,1,none⟩=some (.slice a1 m p1):=by rw[hb0.cell (p:=⟨b,1,none⟩) HR.out.lt];exact C1.out);(have hrow0:((w.alloc (.cells #[.int .u8 76,.int .u8 (ba.toNat:Int),.int .u8 (bb.toNat:Int)] 5)).drew).ownsRow w.heap.size 5 1 (.slice (some ⟨w.heap.size,0,none⟩) 3 3) 3 (u8V x.head):=by exact zR9);have HRow0:=Hd hrow0;have HB0:=Hd (show Below w.heap.size w ((w.alloc (.cells #[.int .u8 76,.int .u8 (ba.toNat:Int),.int .u8 (bb.toNat:Int)] 5)).drew)from⟨hb0.os,hb0.tape,hb0.output,hb0.size,hb0.block⟩);clear hb0 hrow0 hhd;go_wp2_with(fail);go_loopw [4,32](fun v i wr=>∃j:Nat,j≤m∧i= .int .i64 j∧wr.ownsRow w.heap.size 5 1 v (x.upto j) (u8V (x.pre j))∧Below w.heap.size w wr)(fun _ i _=>m-(intOf i).toNat);(case atStart=>exact⟨0,by omega,rfl,HRow0.out,HB0.out⟩);(case round=>obtain⟨j,hj,rfl,hrow,hbel⟩:=hrel;have HRow:=Hd hrow;have HB:=Hd hbel;clear hrow hbel;by_cases hlt:j<m;(·(have g1:decide ((j:Int)<(m:Int))=true:=by simp;omega);(have g1':decide (j<m)=true:=by simpa using hlt);(have j0:(0:Int)≤(j:Int):=by omega);(have j1:(j:Int)<(m:Int):=by omega);obtain⟨rfl,hlt1⟩:=H1.out (by omega);obtain⟨key,hkey⟩:=qN (x.keys.getD j ⟨#[]⟩);(have hk96:key.size≤96:=by exact zOT);(have q1:wr.cell? ⟨b1,o1+j,none⟩=some (.string key):=by exact zSB);have hup:=HUp.out j (by omega);obtain⟨n0,hn0⟩:=qN (x.upto j);have hrw:=HRow.out;rw[hn0]at hup hrw;have HRw:=Hd hrw;obtain⟨ks,hks⟩:=qN key.size;rw[hks]at hk96;obtain⟨kb,hkb⟩:=qN (UInt8.ofNat key.size);(have wk:IntKind.u8.wrap (ks:Int)=(kb.toNat:Int):=by rw[←hkb,yr,hks]);(have s0:(0:Int)≤(ks:Int):=by omega);have hsucc:=x.upto_succ j;rw[hn0,hkey,hks,HLf.out]at hsucc;have HNx:=Hd hsucc;have HN0:=Hd hn0;have HKey:=Hd hkey;have HKb:=Hd hkb;have HKs:=Hd hks;clear hrw hkb hsucc hn0 hkey;obtain⟨val,hval⟩:=qN (x.vals.getD j ⟨#[]⟩);(have hvl:x.vals.length=m:=by exact zQM);(have hv56:val.size≤56:=by rw[←hval];exact HOk.out.v56 _ (zz (by omega)));obtain⟨rfl,hlt2⟩:=H2.out (by omega);have HV:=Hd (show w.cell? ⟨b2,o2+j,none⟩=some (.string val)by rw[←hval];exact Q2.out j (by omega));have HB2:=Hd hlt2;obtain⟨vs,hvs⟩:=qN val.size;rw[hvs]at hv56;obtain⟨yv,hvb⟩:=qN (UInt8.ofNat val.size);(have wv:IntKind.u8.wrap (vs:Int)=(yv.toNat:Int):=by rw[←hvb,yr,hvs]);(have v0:(0:Int)≤(vs:Int):=by omega);have HVal:=Hd hval;have HVb:=Hd hvb;have HVs:=Hd hvs;clear hval hvb hvl;go_wp2_with(first|(at_builtin;refine wpList_append_own_at _ (by rfl) _ _ 121 (by rfl) w.heap.size 5 i0 _ 1 1 underlying121 HI.out Hz0.out Hz1.out Hz2.out (by rfl) (by decide) _ _ _ (by rfl) (HRw.out.alloc _) ⟨wr.heap.size,0,none⟩ 1 1 [.int .u8 (kb.toNat:Int)] (by rfl) (by rfl) (World.news_of_block (cs:= #[.int .u8 (kb.toNat:Int)]) (t:=5) (fr:=(0,0)) (qH wr _)) (by simp[Value.oneCell']) (by unfold maxLen;omega) (by omega) (by have:=HB.out.size;simp;omega) ?_;intro va wa hown8 hg8 hnil hloc;have HOa:=Hd hown8;have hb:Below w.heap.size w wa:=(((Keep.ofBelow (S:=fun k=>w.heap.size≤k) HB.out).alloc _).grown hg8 (fun j hj e=>(HRw.out.lt j e).1)).below (Qn _) (fun i hi e=>by omega);have HBla:=Hd hb;clear hown8 hg8 hnil hloc;(have c0:wa.cell? ⟨b,0,none⟩=some (.bool true):=by exact zJH);(have c2:wa.cell? ⟨b,2,none⟩=some (.slice (some ⟨b2,o2,none⟩) m p2):=by exact zOW);(have q2:wa.cell? ⟨b2,o2+j,none⟩=some (.string val):=by exact zOX);clear hb)|(at_builtin;refine Lib.wpList_append_own_string _ (by rfl) _ _ 121 9 (by rfl) w.heap.size 5 i0 underlying121 underlying9 HI.out Hz0.out Hz1.out Hz2.out _ _ _ (by rfl) HOa.out key (by rfl) (by unfold maxLen;omega) (by omega) (by have:=HBla.out.size;omega) ?_;intro vb wb hown8 hg8 hnil;have HOb:=Hd hown8;have hb:Below w.heap.size w wb:=((Keep.ofBelow (S:=fun k=>w.heap.size≤k) HBla.out).grown hg8 (fun j hj e=>(HOa.out.lt j e).1)).below (Qn _) (fun i hi e=>by omega);have HBlb:=Hd hb;clear hown8 hg8 hnil;(have c0:wb.cell? ⟨b,0,none⟩=some (.bool true):=by exact zJH);(have c2:wb.cell? ⟨b,2,none⟩=some (.slice (some ⟨b2,o2,none⟩) m p2):=by exact zOW);(have q2:wb.cell? ⟨b2,o2+j,none⟩=some (.string val):=by exact zOX);clear hb)|(at_builtin;refine wpList_append_own_at _ (by rfl) _ _ 121 (by rfl) w.heap.size 5 i0 _ 1 1 underlying121 HI.out Hz0.out Hz1.out Hz2.out (by rfl) (by decide) _ _ _ (by rfl) (HOb.out.alloc _) ⟨wb.heap.size,0,none⟩ 1 1 [.int .u8 (yv.toNat:Int)] (by rfl) (by rfl) (World.news_of_block (cs:= #[.int .u8 (yv.toNat:Int)]) (t:=5) (fr:=(0,0)) (qH wb _)) (by simp[Value.oneCell']) (by unfold maxLen;omega) (by omega) (by have:=HBlb.out.size;simp;omega) ?_;intro vc wc hown8 hg8 hnil hloc;have HOc:=Hd hown8;have hb:Below w.heap.size w wc:=(((Keep.ofBelow (S:=fun k=>w.heap.size≤k) HBlb.out).alloc _).grown hg8 (fun j hj e=>(HOb.out.lt j e).1)).below (Qn _) (fun i hi e=>by omega);have HBlc:=Hd hb;clear hown8 hg8 hnil hloc;(have c0:wc.cell? ⟨b,0,none⟩=some (.bool true):=by exact zJH);(have c2:wc.cell? ⟨b,2,none⟩=some (.slice (some ⟨b2,o2,none⟩) m p2):=by exact zOW);(have q2:wc.cell? ⟨b2,o2+j,none⟩=some (.string val):=by exact zOX);clear hb)|(at_builtin;refine Lib.wpList_append_own_string _ (by rfl) _ _ 121 9 (by rfl) w.heap.size 5 i0 underlying121 underlying9 HI.out Hz0.out Hz1.out Hz2.out _ _ _ (by rfl) HOc.out val (by rfl) (by unfold maxLen;omega) (by omega) (by have:=HBlc.out.size;omega) ?_;intro vd wd hown8 hg8 hnil;have HOd:=Hd hown8;have hb:Below w.heap.size w wd:=((Keep.ofBelow (S:=fun k=>w.heap.size≤k) HBlc.out).grown hg8 (fun j hj e=>(HOc.out.lt j e).1)).below (Qn _) (fun i hi e=>by omega);have HBld:=Hd hb;clear hown8 hg8 hnil;(have c0:wd.cell? ⟨b,0,none⟩=some (.bool true):=by exact zJH);(have c2:wd.cell? ⟨b,2,none⟩=some (.slice (some ⟨b2,o2,none⟩) m p2):=by exact zOW);(have q2:wd.cell? ⟨b2,o2+j,none⟩=some (.string val):=by exact zOX);clear hb));(have hnew:wd.ownsRow w.heap.size 5 1 vd (x.upto (j+1)) (u8V (x.pre (j+1))):=by(have e1:x.upto (j+1)=n0+1+key.size+1+val.size:=by rw[HNx.out,HVal.out,HVs.out,HKs.out];simp only[if_true];omega);have e2:u8V (x.pre (j+1))=_:=rfl;have h1:=HOd.out;rw[e1];(have e3:x.pre (j+1)=x.pre j++(zAE key++zAE val):=by exact zSD);rw[e3];unfold zAE;rw[HKb.out,HVb.out];exact zSC);exact zSA);·exact zSE)|false=>(have hvl:x.kids.length=m:=by exact zQN);rw[hvl]at c3 h3 q3;have C2:=Hd c3;have H2:=Hd h3;have Q2:=Hd q3;clear c2 c3 h2 h3 q2 q3 hvl hm;(have hhd:u8V x.head=[.int .u8 78,.int .u8 (ba.toNat:Int),.int .u8 (bb.toNat:Int)]:=by rw[HHd.out,HLf.out];rfl);have HH:=Hd hhd;have c0:=C0.out;go_enter func248,ntmps248;go_wp2_with(fail);obtain⟨S,HS⟩:=mkS (Keep (fun _=>False) (w));have FR:=Hd (fun u(hu:S u)=>have hu:=(HS.out u).1 hu;have c0:u.cell? ⟨b,0,none⟩=some (.bool false):=(by exact zR7);have c1:u.cell? ⟨b,1,none⟩=some (.slice a1 m p1):=(by exact zR8);And.intro c0 c1);refine rgo 14 [tR 0,tR 1,tR 2,tR 3,tR 4,tR 5,tR 6,tR 7,tR 8,tR 9,tR 10,tR 11,tR 12,tR 13] HS (Keep.refl _ _).drew ?_;(iterate 14 refine rd1 ?_);refine zl ?_;clear FR;clear S HS;have hb0:Below w.heap.size w (w.alloc (.cells #[.int .u8 78,.int .u8 (ba.toNat:Int),.int .u8 (bb.toNat:Int)] 5)):=qA;(have c1:(w.alloc (.cells #[.int .u8 78,.int .u8 (ba.toNat:Int),.int .u8 (bb.toNat:Int)] 5)).cell? ⟨b,1,none⟩=some (.slice a1 m p1):=by rw[hb0.cell (p:=⟨b,1,none⟩) HR.out.lt];exact C1.out);(have hrow0:((w.alloc (.cells #[.int .u8 78,.int .u8 (ba.toNat:Int),.int .u8 (bb.toNat:Int)] 5)).drew).ownsRow w.heap.size 5 1 (.slice (some ⟨w.heap.size,0,none⟩) 3 3) 3 (u8V x.head):=by exact zR9);have HRow0:=Hd hrow0;have HB0:=Hd (show Below w.heap.size w ((w.alloc (.cells #[.int .u8 78,.int .u8 (ba.toNat:Int),.int .u8 (bb.toNat:Int)] 5)).drew)from⟨hb0.os,hb0.tape,hb0.output,hb0.size,hb0.block⟩);clear hb0 hrow0 hhd;go_wp2_with(fail);go_loopw [4,32](fun v i wr=>∃j:Nat,j≤m∧i= .int .i64 j∧wr.ownsRow w.heap.size 5 1 v (x.upto j) (u8V (x.pre j))∧Below w.heap.size w wr)(fun _ i _=>m-(intOf i).toNat);(case atStart=>exact⟨0,by omega,rfl,HRow0.out,HB0.out⟩);case round=>obtain⟨j,hj,rfl,hrow,hbel⟩:=hrel;have HRow:=Hd hrow;have HB:=Hd hbel;clear hrow hbel;by_cases hlt:j<m;(·(have g1:decide ((j:Int)<(m:Int))=true:=by simp;omega);(have g1':decide (j<m)=true:=by simpa using hlt);(have j0:(0:Int)≤(j:Int):=by omega);(have j1:(j:Int)<(m:Int):=by omega);obtain⟨rfl,hlt1⟩:=H1.out (by omega);obtain⟨key,hkey⟩:=qN (x.keys.getD j ⟨#[]⟩);(have hk96:key.size≤96:=by exact zOT);(have q1:wr.cell? ⟨b1,o1+j,none⟩=some (.string key):=by exact zSB);have hup:=HUp.out j (by omega);obtain⟨n0,hn0⟩:=qN (x.upto j);have hrw:=HRow.out;rw[hn0]at hup hrw;have HRw:=Hd hrw;obtain⟨ks,hks⟩:=qN key.size;rw[hks]at hk96;obtain⟨kb,hkb⟩:=qN (UInt8.ofNat key.size);(have wk:IntKind.u8.wrap (ks:Int)=(kb.toNat:Int):=by rw[←hkb,yr,hks]);(have s0:(0:Int)≤(ks:Int):=by omega);have hsucc:=x.upto_succ j;rw[hn0,hkey,hks,HLf.out]at hsucc;have HNx:=Hd hsucc;have HN0:=Hd hn0;have HKey:=Hd hkey;have HKb:=Hd hkb;have HKs:=Hd hks;clear hrw hkb hsucc hn0 hkey;obtain⟨kid,hkid⟩:=qN (x.kids.getD j 0);(have hvl:x.kids.length=m:=by exact zQN);(have hv56:kid<65536:=by rw[←hkid];exact HOk.out.c32 _ (zz (by omega)));obtain⟨rfl,hlt2⟩:=H2.out (by omega);have HV:=Hd (show w.cell? ⟨b3,o3+j,none⟩=some (.int .i64 (kid:Int))by rw[←hkid];exact Q2.out j (by omega));have HB2:=Hd hlt2;obtain⟨y0,hy0⟩:∃y,UInt8.ofNat (kid/16777216)=y:=⟨_,rfl⟩;obtain⟨y1,hy1⟩:∃y,UInt8.ofNat (kid/65536)=y:=⟨_,rfl⟩;obtain⟨y2,hy2⟩:∃y,UInt8.ofNat (kid/256)=y:=⟨_,rfl⟩;obtain⟨y3,hy3⟩:∃y,UInt8.ofNat kid=y:=⟨_,rfl⟩;(have z0:IntKind.u8.wrap ((kid:Int)/16777216)=(y0.toNat:Int):=by rw[←hy0,←yr];rfl);(have z1:IntKind.u8.wrap ((kid:Int)/65536)=(y1.toNat:Int):=by rw[←hy1,←yr];rfl);(have z2:IntKind.u8.wrap ((kid:Int)/256)=(y2.toNat:Int):=by rw[←hy2,←yr];rfl);(have z3:IntKind.u8.wrap (kid:Int)=(y3.toNat:Int):=by rw[←hy3,←yr]);(have v0:(0:Int)≤(kid:Int):=by omega);(have v1:(kid:Int)≤65535:=by omega);have HBe:=Hd (show be4 kid=[y0,y1,y2,y3]by unfold be4;rw[hy0,hy1,hy2,hy3]);have HVal:=Hd hkid;clear hkid hvl hy0 hy1 hy2 hy3;go_wp2_with(first|(at_builtin;refine wpList_append_own_at _ (by rfl) _ _ 121 (by rfl) w.heap.size 5 i0 _ 1 1 underlying121 HI.out Hz0.out Hz1.out Hz2.out (by rfl) (by decide) _ _ _ (by rfl) (HRw.out.alloc _) ⟨wr.heap.size,0,none⟩ 1 1 [.int .u8 (kb.toNat:Int)] (by rfl) (by rfl) (World.news_of_block (cs:= #[.int .u8 (kb.toNat:Int)]) (t:=5) (fr:=(0,0)) (qH wr _)) (by simp[Value.oneCell']) (by unfold maxLen;omega) (by omega) (by have:=HB.out.size;simp;omega) ?_;intro va wa hown8 hg8 hnil hloc;have HOa:=Hd hown8;have hb:Below w.heap.size w wa:=(((Keep.ofBelow (S:=fun k=>w.heap.size≤k) HB.out).alloc _).grown hg8 (fun j hj e=>(HRw.out.lt j e).1)).below (Qn _) (fun i hi e=>by omega);have HBla:=Hd hb;clear hown8 hg8 hnil hloc;(have c0:wa.cell? ⟨b,0,none⟩=some (.bool false):=by exact zJH);(have c3:wa.cell? ⟨b,3,none⟩=some (.slice (some ⟨b3,o3,none⟩) m p3):=by exact zQO);(have q2:wa.cell? ⟨b3,o3+j,none⟩=some (.int .i64 (kid:Int)):=by exact zQP);clear hb)|(at_builtin;refine Lib.wpList_append_own_string _ (by rfl) _ _ 121 9 (by rfl) w.heap.size 5 i0 underlying121 underlying9 HI.out Hz0.out Hz1.out Hz2.out _ _ _ (by rfl) HOa.out key (by rfl) (by unfold maxLen;omega) (by omega) (by have:=HBla.out.size;omega) ?_;intro vb wb hown8 hg8 hnil;have HOb:=Hd hown8;have hb:Below w.heap.size w wb:=((Keep.ofBelow (S:=fun k=>w.heap.size≤k) HBla.out).grown hg8 (fun j hj e=>(HOa.out.lt j e).1)).below (Qn _) (fun i hi e=>by omega);have HBlb:=Hd hb;clear hown8 hg8 hnil;(have c0:wb.cell? ⟨b,0,none⟩=some (.bool false):=by exact zJH);(have c3:wb.cell? ⟨b,3,none⟩=some (.slice (some ⟨b3,o3,none⟩) m p3):=by exact zQO);(have q2:wb.cell? ⟨b3,o3+j,none⟩=some (.int .i64 (kid:Int)):=by exact zQP);clear hb)|(at_builtin;refine wpList_append_own_at _ (by rfl) _ _ 121 (by rfl) w.heap.size 5 i0 _ 1 1 underlying121 HI.out Hz0.out Hz1.out Hz2.out (by rfl) (by decide) _ _ _ (by rfl) (HOb.out.alloc _) ⟨wb.heap.size,0,none⟩ 4 4 [.int .u8 (y0.toNat:Int),.int .u8 (y1.toNat:Int),.int .u8 (y2.toNat:Int),.int .u8 (y3.toNat:Int)] (by rfl) (by rfl) (World.news_of_block (cs:= #[.int .u8 (y0.toNat:Int),.int .u8 (y1.toNat:Int),.int .u8 (y2.toNat:Int),.int .u8 (y3.toNat:Int)]) (t:=5) (fr:=(0,0)) (qH wb _)) (by simp[Value.oneCell']) (by unfold maxLen;omega) (by omega) (by have:=HBlb.out.size;simp;omega) ?_;intro vd wd hown8 hg8 hnil hloc;have HOd:=Hd hown8;have hb:Below w.heap.size w wd:=(((Keep.ofBelow (S:=fun k=>w.heap.size≤k) HBlb.out).alloc _).grown hg8 (fun j hj e=>(HOb.out.lt j e).1)).below (Qn _) (fun i hi e=>by omega);have HBld:=Hd hb;clear hown8 hg8 hnil hloc;(have c0:wd.cell? ⟨b,0,none⟩=some (.bool false):=by exact zJH);(have c3:wd.cell? ⟨b,3,none⟩=some (.slice (some ⟨b3,o3,none⟩) m p3):=by exact zQO);(have q2:wd.cell? ⟨b3,o3+j,none⟩=some (.int .i64 (kid:Int)):=by exact zQP);clear hb));(have hnew:wd.ownsRow w.heap.size 5 1 vd (x.upto (j+1)) (u8V (x.pre (j+1))):=by(have e1:x.upto (j+1)=n0+1+key.size+4:=by rw[HNx.out,HKs.out];simp only[Bool.false_eq_true,if_false];omega);have e2:u8V (x.pre (j+1))=_:=rfl;have h1:=HOd.out;rw[e1];(have e3:x.pre (j+1)=x.pre j++(zAE key++be4 kid):=by exact zSD);rw[e3];rw[HBe.out];unfold zAE;rw[HKb.out];exact zSC);exact zSA);·exact zSE
theorem zCT(w:World):Calls prog 203 #[.int .i64 0] w fun e w'=>e= .returned (.tuple #[])∧w=w':=by
 go_enter func203,ntmps203
 go_wp2
 go_end0
 exact⟨rfl,rfl⟩
structure TreeAt(w:World)(tb br pl:Nat):Prop where
 cells:w.heap[tb]? =some (.cells #[.pointer (some ⟨br,0,none⟩),.int .i64 pl] 242 (0,0))
def PageIs(R:RoomS)(p:Nat)(x:Nd):Prop:=p<R.pages∧R.has p=true∧R.text p=zS x.text∧x.ok∧x.keys≠[]∧x.size≤512
theorem Nd.keys_lt{x:Nd}(ok:x.ok)(h:x.size≤666):x.keys.length<65536:=by
 have:=(Nd.upto_le ok.s 0 x.keys.length (Nat.zero_le _) (Qn _)).1
 rw[x.size_upto]at this
 omega
theorem vr{w:World}{tb br pl:Nat}{R:RoomS}{p:Nat}{x:Nd}(ht:TreeAt w tb br pl)(hr:RoomAt w br R)(hp:PageIs R p x):Calls prog 147 #[.pointer (some ⟨tb,0,none⟩),.int .i64 p] w fun e w'=>∃nb kv vv cv,e= .returned (.pointer (some ⟨nb,0,none⟩))∧NdAt w' nb kv vv cv x∧(∀k,yK nb kv vv cv k→w.heap.size≤k)∧Below w.heap.size w w':=by
 obtain⟨hp1,hp2,hp3,hp4,hp5,hp6⟩:=hp
 have HR:=Hd (zKD hr p hp1 hp2)
 rw[hp3,zJF]at HR
 have HP:=Hd (fun u=>zKs x hp4 hp5 (x.keys_lt hp4 (by omega)) (List.replicate (512-x.size) 0) (by rw[Ql,List.length_replicate];have:x.bytes.length=x.size:=rfl;omega) u)
 obtain⟨s,hs⟩:=qN (bs (x.bytes++List.replicate (512-x.size) 0))
 rw[hs]at HR HP
 have HM:=Hd (fun u=>zCT u)
 have c0:w.cell? ⟨tb,0,none⟩=some (.pointer (some ⟨br,0,none⟩)):=Qc ht.cells 0
 clear hs hr hp1 hp2 hp3 hp4 hp5 hp6 ht
 go_enter func147,ntmps147
 go_wp2_with(fail)
 refine(HR.out).mono ?_
 rintro e w1⟨rfl,hb1⟩
 have HB1:=Hd hb1
 clear hb1
 go_wp2_with(go_at_call 203;refine(HM.out _).mono ?_;rintro e _⟨rfl,rfl⟩)
 refine(HP.out _).mono ?_
 rintro e w2⟨nb,kv,vv,cv,rfl,hnd,hnw,hb2⟩
 have HN:=Hd hnd
 have HNw:=Hd hnw
 have HB2:=Hd hb2
 clear hnd hnw hb2
 go_wp2
 go_ret
 exact⟨nb,kv,vv,cv,rfl,HN.out,fun k hk=>Nat.le_trans HB1.out.size (HNw.out k hk),qT HB1.out HB2.out⟩
theorem kH{w:World}{tb br pl:Nat}{R:RoomS}{p b:Nat}{x:Nd}(ht:TreeAt w tb br pl)(hr:RoomAt w br R)(hlen:R.T.puts.length<1000000000000)(hp:p<R.pages)(h1:R.has p=true)(hx:NdR w b x)(ok:x.ok)(hsz:x.size≤512):Calls prog 210 #[.pointer (some ⟨tb,0,none⟩),.int .i64 p,.pointer (some ⟨b,0,none⟩)] w fun e w'=>e= .returned (.tuple #[])∧∃R',RoomStep br w R w' R'∧Wrote R R' p (zS x.text):=by
 have hdw:Below w.heap.size w w.drew:=⟨rfl,rfl,rfl,Qn _,fun _ _=>rfl⟩
 have HT:=Hd (zMe (hx.still hdw) ok (x.keys_lt ok (by omega)))
 have hts:x.text.size=x.size:=kX _
 have HW:=Hd (fun u(hu:Below w.heap.size w u)=>zHg (hr.still hu) hlen p hp h1 x.text (by omega))
 have hif:¬512<x.text.size:=by omega
 have HM:=Hd (fun u=>zCT u)
 have c0:w.cell? ⟨tb,0,none⟩=some (.pointer (some ⟨br,0,none⟩)):=Qc ht.cells 0
 have HC:=Hd ht.cells
 have HRm:=Hd hr
 have HIf:=Hd hif
 rw[if_neg hif]at HW
 clear hts hif hx ok hsz h1 hr ht
 go_enter func210,ntmps210
 go_wp2_with(fail)
 obtain⟨S,HS⟩:=mkS (Keep (fun _=>False) (w))
 have FR:=Hd (fun u(hu:S u)=>have hu:=(HS.out u).1 hu;have c0:u.cell? ⟨tb,0,none⟩=some (.pointer (some ⟨br,0,none⟩)):=(Qc (hu.at HC.out (fun e=>e)) 0);c0)
 refine rgo 7 [tR 0,tR 1,tR 2,tR 3,tR 4,tR 5,tD 6] HS (Keep.refl _ _).drew ?_
 iterate 6 refine rd1 ?_
 refine doH ?_
 intro K hK
 go_simp
 go_at_call 248
 refine(HT.out).mono ?_
 rintro e w1⟨rfl,hb1⟩
 have hb1':Below w.heap.size w w1:=⟨hb1.os,hb1.tape,hb1.output,hb1.size,hb1.block⟩
 have HB1:=Hd hb1'
 refine hK _ _ ((HS.out _).2 (Keep.ofBelow hb1')) ?_
 clear hK K hb1 hb1'
 refine zl ?_
 clear FR
 clear S HS
 have HW1:=Hd (HW.out w1 HB1.out)
 go_wp2_with(fail)
 refine(HW1.out).mono ?_
 rintro e w2⟨rfl,R',hs,hw⟩
 have HSt:=Hd ((RoomStep.still HRm.out HB1.out).trans hs)
 have HWr:=Hd (hw.resolve_left (fun e=>HIf.out e.1)).2
 clear hs hw
 go_wp2_with(go_at_call 203;refine(HM.out _).mono ?_;rintro e _⟨rfl,rfl⟩)
 go_end0
 exact⟨rfl,R',HSt.out,HWr.out⟩
structure Freshed(R R':RoomS)(p:Nat)(s:QB):Prop where
 was:p<R.pages∧R.has p=false
 has:∀q,q<R.maps*4096→R'.has q=(decide (q=p)||R.has q)
 text:∀q,q<R.pages→R'.text q=if q=p then s else R.text q
 zero:R'.home 0=R.home 0
 puts:∃a,R'.T.puts=R.T.puts++a∧a.length≤3
theorem zJI{R R1 R2:RoomS}{p:Nat}{s:QB}(hp:p<R.pages)(h0:R.has p=false)(hm:R1.maps=R.maps)(hpg:R1.pages=R.pages)(ha:Alloced R R1 p)(hw:Wrote R1 R2 p s):Freshed R R2 p s:=by
 obtain⟨a,a1,a2⟩:=ha.puts
 obtain⟨b,b1,b2⟩:=hw.puts
 refine⟨⟨hp,h0⟩,fun q hq=> ?_,fun q hq=> ?_,hw.zero.trans ha.zero,a++b,by rw[b1,a1,Qa],by rw[Ql];omega⟩
 ·rw[hw.has q (by rw[hm];exact hq),ha.has q hq]
 ·rw[hw.text q (by rw[hpg];exact hq),ha.text q hq];by_cases e:q=p;(·rw[if_pos e,if_pos e]);·rw[if_neg e,if_neg e,if_neg e]
theorem zHk(R:RoomS)(h:∃q,q<R.pages∧R.has q=false):∃p,p<R.pages∧R.has p=false∧∀i,i<p→R.has i=true:=by
 obtain⟨q,hq,hq0⟩:=h
 induction q using Nat.strongRecOn with|_ q ih=>by_cases hb:∃i,i<q∧R.has i=false;(·obtain⟨i,hi,hi0⟩:=hb;exact ih i hi (by omega) hi0);·refine⟨q,hq,hq0,fun i hi=> ?_⟩;cases hc:R.has i with|true=>rfl|false=>exact absurd ⟨i,hi,hc⟩ hb
theorem zAh{w:World}{tb br pl:Nat}{R:RoomS}{b:Nat}{x:Nd}(ht:TreeAt w tb br pl)(htb:¬R.foot br tb)(hr:RoomAt w br R)(hlen:R.T.puts.length+10<1000000000000)(hfree:∃q,q<R.pages∧R.has q=false)(hxa:∀w',Keep (R.foot br) w w'→NdR w' b x)(ok:x.ok)(hsz:x.size≤512):Calls prog 156 #[.pointer (some ⟨tb,0,none⟩),.pointer (some ⟨b,0,none⟩)] w fun e w'=>∃p R',e= .returned (.int .i64 (p:Nat))∧RoomStep br w R w' R'∧Freshed R R' p (zS x.text):=by
 obtain⟨p,hp,h0,h1⟩:=zHk R hfree
 have HA:=Hd (zHf hr (by omega) p hp h0 h1)
 have HM:=Hd (fun u=>zCT u)
 have c0:w.cell? ⟨tb,0,none⟩=some (.pointer (some ⟨br,0,none⟩)):=Qc ht.cells 0
 have HC:=Hd ht.cells
 have HX:=Hd hxa
 have HTb:=Hd htb
 have HFit:=Hd (show R.pages≤R.maps*4096 by have:=hr.fit.1;omega)
 clear ht htb hr hfree hxa h1
 go_enter func156,ntmps156
 go_wp2_with(fail)
 refine(HA.out).mono ?_
 rintro e w1⟨rfl,R1,hs,ha⟩
 have hk1:Keep (R.foot br) w w1:=hs.tx.keep.mono (fun _ _ e=>.inr (TxS.own_foot e))
 have hpl:=ha.puts
 have HT1:=Hd (show TreeAt w1 tb br pl from⟨hk1.at HC.out HTb.out⟩)
 have hW:=kH HT1.out hs.at_ (by obtain⟨a,a1,a2⟩:=hpl;rw[a1,Ql];omega) (p:=p) (by rw[hs.pages];exact hp) (by rw[ha.has p (by have:=HFit.out;omega)];simp) (HX.out w1 hk1) ok hsz
 have HW:=Hd hW
 have HS1:=Hd hs
 have HAl:=Hd ha
 clear hk1 hW hs ha hpl
 go_wp2_with(first|(go_at_call 203;refine(HM.out _).mono ?_;rintro e _⟨rfl,rfl⟩)|(go_at_call 210;refine(HW.out).mono ?_;rintro e w2⟨rfl,R2,hs2,hw2⟩))
 go_ret
 exact⟨p,R2,rfl,HS1.out.trans hs2,zJI hp h0 HS1.out.maps HS1.out.pages HAl.out hw2⟩
theorem zAN{w:World}{tb br pl:Nat}{R:RoomS}(ht:TreeAt w tb br pl)(hr:RoomAt w br R)(hpl:pl<16)(hk:R.root pl≤65536):Calls prog 146 #[.pointer (some ⟨tb,0,none⟩)] w fun e w'=>e= .returned (.int .i64 ((R.root pl:Int)-1))∧Below w.heap.size w w':=by
 have hdw:Below w.heap.size w w.drew:=⟨rfl,rfl,rfl,Qn _,fun _ _=>rfl⟩
 have HR:=Hd (zEO (hr.still hdw) pl hpl)
 obtain⟨k,hk0⟩:=qN (R.root pl)
 rw[hk0]at HR hk⊢
 have HM:=Hd (fun u=>zCT u)
 have HC:=Hd ht.cells
 have c0:w.cell? ⟨tb,0,none⟩=some (.pointer (some ⟨br,0,none⟩)):=Qc ht.cells 0
 have c1:w.cell? ⟨tb,1,none⟩=some (.int .i64 pl):=Qc ht.cells 1
 have d1:decide ((65536:Int)<(k:Int))=false:=by simp;omega
 have d2:decide (65536<k)=false:=by simp;omega
 have k0:(0:Int)≤(k:Int):=by omega
 have k1:(k:Int)≤65536:=by omega
 clear hk0 hr ht
 go_enter func146,ntmps146
 go_wp2_with(fail)
 obtain⟨S,HS⟩:=mkS (Keep (fun _=>False) (w))
 have FR:=Hd (fun u(hu:S u)=>have hu:=(HS.out u).1 hu;have c0:u.cell? ⟨tb,0,none⟩=some (.pointer (some ⟨br,0,none⟩)):=(Qc (hu.at HC.out (fun e=>e)) 0);have c1:u.cell? ⟨tb,1,none⟩=some (.int .i64 pl):=(Qc (hu.at HC.out (fun e=>e)) 1);And.intro c0 c1)
 refine rgo 13 [tR 0,tR 1,tR 2,tR 3,tR 4,tR 5,tR 6,tR 7,tD 8,tR 9,tR 10,tR 11,tR 12] HS (Keep.refl _ _).drew ?_
 iterate 8 refine rd1 ?_
 refine doH ?_
 intro K hK
 go_simp
 go_at_call 165
 refine(HR.out).mono ?_
 rintro e w1⟨rfl,hb1⟩
 have HB1:=Hd (show Below w.heap.size w w1 from⟨hb1.os,hb1.tape,hb1.output,hb1.size,hb1.block⟩)
 refine hK _ _ ((HS.out _).2 (Keep.ofBelow HB1.out)) ?_
 clear hK K hb1
 iterate 4 refine rd1 ?_
 refine zl ?_
 clear FR
 clear S HS
 go_wp2_with(go_at_call 203;refine(HM.out _).mono ?_;rintro e _⟨rfl,rfl⟩)
 go_ret
 exact⟨rfl,HB1.out⟩
theorem zCU{w:World}{tb br pl:Nat}{R:RoomS}{p:Nat}(ht:TreeAt w tb br pl)(hr:RoomAt w br R)(hlen:R.T.puts.length<1000000000000)(hpl:pl<16)(hp:p<65536):Calls prog 155 #[.pointer (some ⟨tb,0,none⟩),.int .i64 p] w fun e w'=>e= .returned (.tuple #[])∧∃R',RoomStep br w R w' R'∧Rooted R R' pl (p+1):=by
 have hdw:Below w.heap.size w w.drew:=⟨rfl,rfl,rfl,Qn _,fun _ _=>rfl⟩
 have HStl:=Hd (RoomStep.still hr hdw)
 have HR:=Hd (zBB (hr.still hdw) hlen pl hpl (p+1) (by omega))
 have HRt:=Hd (fun(R':RoomS)(w':World)(hs:RoomStep br w R w' R')(hp2:R'.T.puts=R.T.puts++[(((0:Nat):Int),yu (R.home 0) pl (p+1))])=>zC2 hr hpl (by omega) hs.tx.f hs.maps hp2)
 have HM:=Hd (fun u=>zCT u)
 have HC:=Hd ht.cells
 have c0:w.cell? ⟨tb,0,none⟩=some (.pointer (some ⟨br,0,none⟩)):=Qc ht.cells 0
 have c1:w.cell? ⟨tb,1,none⟩=some (.int .i64 pl):=Qc ht.cells 1
 have p0:(0:Int)≤(p:Int):=by omega
 have p1:(p:Int)≤65535:=by omega
 have e1:(((p+1:Nat):Int))=(p:Int)+1:=by omega
 rw[e1]at HR
 clear ht hr e1
 go_enter func155,ntmps155
 go_wp2_with(fail)
 obtain⟨S,HS⟩:=mkS (Keep (fun _=>False) (w))
 have FR:=Hd (fun u(hu:S u)=>have hu:=(HS.out u).1 hu;have c0:u.cell? ⟨tb,0,none⟩=some (.pointer (some ⟨br,0,none⟩)):=(Qc (hu.at HC.out (fun e=>e)) 0);have c1:u.cell? ⟨tb,1,none⟩=some (.int .i64 pl):=(Qc (hu.at HC.out (fun e=>e)) 1);And.intro c0 c1)
 refine rgo 11 [tR 0,tR 1,tR 2,tR 3,tR 4,tR 5,tR 6,tR 7,tR 8,tR 9,tR 10] HS (Keep.refl _ _).drew ?_
 iterate 11 refine rd1 ?_
 refine zl ?_
 clear FR
 clear S HS
 go_wp2_with(first|(go_at_call 166;refine(HR.out).mono ?_;rintro e w1⟨rfl,R',hs,hp2⟩)|(go_at_call 203;refine(HM.out _).mono ?_;rintro e _⟨rfl,rfl⟩))
 go_end0
 exact⟨rfl,R',HStl.out.trans hs,HRt.out R' _ (HStl.out.trans hs) hp2⟩
end
end Go.Proofs.YtaokjeokpifjgaaGreatDoor
