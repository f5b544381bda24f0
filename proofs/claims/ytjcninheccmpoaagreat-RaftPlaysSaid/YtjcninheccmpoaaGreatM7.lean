import Derived.Test.YtjcninheccmpoaaGreatM6
import Derived.Lib.SliceRun
import Derived.Deep.DeepCutAuto
set_option maxRecDepth 100000
set_option maxHeartbeats 8000000
set_option linter.all false
namespace Go.Proofs.YtjcninheccmpoaaGreat
open Go.RowKit Go.Proofs.Tryz
section
open Go.MapKept
theorem Cg:(prog.info? 134).map (fun i=>(i.zero,i.size,i.bytes))=some (some (.agg #[.int .i64 0,.int .i64 0]),2,16):=by kernel_rfl
theorem pQ{w:World}{ops:Array Oper}{rest:List Oper}{o:Oper}{a:Act}{Q:Exit->Act->World->Prop}(kt:o.guard=none)(s x:Operand)
  (ho:o.op=.call {callee:=.builtin .append,args:=#[s,x],argTypes:=#[46,46]})
  (base:Nat) {A:Option Addr} {n c:Nat} {l:List (Int×Int)} (hs:a.eval s=.slice A n c) (aD:w.ownsRow base 134 2 (.slice A n c) n (l.flatMap qW))
  {B:Option Addr} {m d:Nat} {r:List (Int×Int)} (hx:a.eval x=.slice B m d) (hr:cn w 2 B m (r.flatMap qW)) (hb:n+m<=1000000000) (bl:base<=w.heap.size)
  (h:∀A' c' w',w'.ownsRow base 134 2 (.slice A' (n+m) c') (n+m) ((l++r).flatMap qW)->Fr (az A) w w'->(∀j,az A' j->az A j\/w.heap.size<=j)->wpList prog ops Q rest (a.put o.dst (.slice A' (n+m) c')) w'):wpList prog ops Q (o::rest) a w:=by
 obtain⟨i0,iy,jK,iL,gL⟩:=info_parts Cg;refine bb w kt s x 46 ho base 134 i0 _ 2 16 underlying46 iy jK iL gL rfl (by omega) (.slice A n c) n _ hs aD B m d _ hx hr (fun u hu=>?_) (by unfold maxLen;omega) (by omega) bl fun A' c' w' h3 h4 h5=>?_
 ·obtain⟨z,_,hz⟩:=List.mem_flatMap.1 hu;unfold qW at hz;simp only[List.mem_cons,List.not_mem_nil,or_false]at hz;rcases hz with rfl|rfl <;> rfl
 ·rw[<-List.flatMap_append]at h3;exact h A' c' w' h3 (Fr.grown h4) (gE h5)
theorem RdR.one{w:World}{g:Nat}{a c:Int}(hg:ar w g 134 #[.int .i64 a,.int .i64 c]):cn w 2 (some ⟨g,0,none⟩) 1 ([(a,c)].flatMap qW):=
 ⟨rfl,fun _=>⟨_,rfl,fun j y hy=>by
  have e:(⟨g,0,none⟩:Addr).add j=⟨g,j,none⟩:=by unfold Addr.add;split <;> simp[*]
  rw[e,hg.cell j,<-hy];simp[qW,vi]⟩⟩
def Wt.rd(x:Wt):Int×Int:=(x.ctx,x.idx)
def Rf.tellRead(R:Rf)(x:Wt)(k:Int):Rf:=if x.round<=k then {R with out:={R.out with reads:=R.out.reads++[x.rd]}}else R
section
variable {aa:Nat->Nat}{b g:Nat}{w:World}{R:Rf}{v:Rw}
theorem pX(x:Wt)(k:Int)(p1 p2:Nat)(h:ax aa b w g R v)(cl:ar w p1 32 #[.pointer (some ⟨g,0,none⟩)])(eb:ar w p2 3 #[.int .i64 k])(cy:aa p1=b)(dM:aa p2=b)(AJ:R.out.reads.length<=100000) :
  Calls prog 114 #[.agg #[.int .i64 x.ctx,.int .i64 x.idx,.int .i64 x.round],.pointer (some ⟨p2,0,none⟩),.pointer (some ⟨p1,0,none⟩)] w fun e w'=>e=.returned (.bool (decide (x.round<=k)))/\
   ∃(ak:Nat->Nat) (v':Rw),ax ak b w' g (R.tellRead x k) v'/\v'.waits=v.waits/\(∀j,j<w.heap.size->ak j=aa j)/\Fr (fun j=>j=g\/aa j=b+11) w w':=by
 have cQ:=h.s.lt;have aI:Below w.heap.size w (w.alloc (.cells #[.int .i64 x.ctx,.int .i64 x.idx,.int .i64 x.round] 167)):=zb.alloc zl _;have bN:=ar.new w 167 #[.int .i64 x.ctx,.int .i64 x.idx,.int .i64 x.round];obtain⟨w1,bV⟩:=zN (w.alloc (.cells #[.int .i64 x.ctx,.int .i64 x.idx,.int .i64 x.round] 167));rw[bV]at aI bN;have iQ:p1≠g:=fun e=>by have:=h.sl;rw[<-e,cy]at this;omega
 have tX:p2≠g:=fun e=>by have:=h.sl;rw[<-e,dM]at this;omega
 have BV:=cl.kept aI;have su:=eb.kept aI;have h1:=h.fresh aI;have YR:ai aa w.heap.size b p1=b:=(ac cl.lt).trans cy;have W3:ai aa w.heap.size b p2=b:=(ac eb.lt).trans dM;have Jh:ai aa w.heap.size b w.heap.size=b:=ay zl;have PD:=BV.lt;have SI:=su.lt;have JT:=h1.s.lt;obtain⟨y0,y1,y2,-⟩:=bN.cs [0,1,2];simp only[Zx]at y0 y1 y2;have a0:=BV.cell 0;simp only[Zx]at a0;have e0:=su.cell 0;simp only[Zx]at e0;have XS:=cl.lt;have XO:=eb.lt;have ew0:=eb.cell 0;simp only[Zx]at ew0;replace bV:=zH bV;by_cases hc:x.round<=k
 ·have hT:R.tellRead x k={R with out:={R.out with reads:=R.out.reads++[x.rd]}}:=if_pos hc;have hd:decide (x.round<=k)=true:=decide_eq_true hc;obtain⟨A,c,hv,aD,hl⟩:=id h1.r;obtain⟨n,hn⟩:=zN (R.out.reads.length);rw[hn]at hv aD AJ;have d29:w1.cell? ⟨g,29,none⟩=some (.slice A n c):=by
   have:=h1.s.cell 29;simp only[bE,Zx]at this;rw[this,hv]
  obtain⟨q29,qa,q0,q1⟩:=GD [g,p1,w.heap.size] d29 a0 y0 y1;have fi:n+1<=1000000000:=by omega
  have dH:Below w1.heap.size w1 ((w1.alloc (.cells #[.int .i64 x.ctx,.int .i64 x.idx] 134)).drew):=((Below.refl w1.heap.size w1).alloc zl _).drew;have RL:ar ((w1.alloc (.cells #[.int .i64 x.ctx,.int .i64 x.idx] 134)).drew) w1.heap.size 134 #[.int .i64 x.ctx,.int .i64 x.idx]:=ar.new w1 _ _;have BG:=RdR.one RL;have qh:=bf aD dH;have aF:∀(A6:Option Addr) (c6:Nat) (w6:World),w6.ownsRow 0 134 2 (.slice A6 (n+1) c6) (n+1) ((R.out.reads++[(x.ctx,x.idx)]).flatMap qW)->Fr (az A) ((w1.alloc (.cells #[.int .i64 x.ctx,.int .i64 x.idx] 134)).drew) w6->(∀j,az A6 j->az A j\/((w1.alloc (.cells #[.int .i64 x.ctx,.int .i64 x.idx] 134)).drew).heap.size<=j)->
    (∀q∈[g,p1,w.heap.size],w6.heap[q]?=w1.heap[q]?)/\ar w6 w.heap.size 167 #[.int .i64 x.ctx,.int .i64 x.idx,.int .i64 x.round]/\ar w6 p2 3 #[.int .i64 k]/\ar w6 g 107 (bE R v)/\True/\
    ∃(ak:Nat->Nat) (v':Rw),ax ak b (w6.setCell ⟨g,29,none⟩ (.slice A6 (n+1) c6)) g (R.tellRead x k) v'/\v'.waits=v.waits/\(∀j,j<w.heap.size->ak j=aa j)/\Fr (fun j=>j=g\/aa j=b+11) w (w6.setCell ⟨g,29,none⟩ (.slice A6 (n+1) c6)):=fun A6 c6 w6 oP jb nT=>by
   have N4:∀q,q<w1.heap.size->ai aa w.heap.size b q≠b+11->w6.heap[q]?=w1.heap[q]?:=fun q hq fV=>(jb.block q (Nat.lt_of_lt_of_le hq dH.size) fun hh=>fV (hl q hh)).trans (dH.block q hq)
   have Q1:ai aa w.heap.size b g≠b+11:=by have:=h1.sl;omega
   have iS:ar w6 g 107 (bE R v):=(N4 g JT Q1).trans h1.s;have eQ:=Fr.set (w:=w6) g 29 (.slice A6 (n+1) c6);have Dp:=iS.set_ 29 (.slice A6 (n+1) c6);simp only[bE,Zy]at Dp;have Qd:Fr (fun j=>j=g\/ai aa w.heap.size b j=b+11) w1 (w6.setCell ⟨g,29,none⟩ (.slice A6 (n+1) c6)):=(((Fr.of_below (X:=fun j=>j=g\/ai aa w.heap.size b j=b+11) dH).trans (jb.mono (X':=fun j=>j=g\/ai aa w.heap.size b j=b+11) fun j hj=>.inr (hl j hj)) fun j hj=>.inl hj).trans (eQ.mono (X':=fun j=>j=g\/ai aa w.heap.size b j=b+11) fun j e=>.inl e) fun j hj=>.inl hj);refine⟨fun q hq=>?_,(N4 _ bN.lt (by omega)).trans bN,(N4 _ SI (by omega)).trans su,iS,trivial,ai (ai aa w.heap.size b) w1.heap.size (b+11),{v with rds:=.slice A6 (n+1) c6},?_,rfl,fun j hj=>(ac (by have:=aI.size;omega)).trans (ac hj),?_⟩
   ·simp only[List.mem_cons,List.not_mem_nil,or_false]at hq;rcases hq with rfl|rfl|rfl
    ·exact N4 _ JT Q1
    ·exact N4 _ PD (by omega)
    ·exact N4 _ bN.lt (by omega)
   ·rw[hT];refine h1.turn (ak:=ai (ai aa w.heap.size b) w1.heap.size (b+11)) (v':={v with rds:=.slice A6 (n+1) c6}) [11] Dp (fun i j _ _ _ hj e=>(ac hj).trans e) (by simp) (Qd.mono fun j hj=>hj.elim .inl fun e=>.inr ⟨11,by simp,e⟩)
     tI tI tI tI tI tI tI tI tI (.inl ?_) tI
    show bQ _ _ _ _ _ _ (R.out.reads++[x.rd]).length _;rw[List.length_append,hn];have fG:∀j,az A6 j->ai (ai aa w.heap.size b) w1.heap.size (b+11) j=b+11:=fun j hj=>by
     rcases nT j hj with h6|h6
     ·exact(ac (aB aD A c rfl j h6).1).trans (hl j h6)
     ·exact ay (Nat.le_trans dH.size h6)
    refine bQ.keep (w:=w6) ⟨A6,c6,rfl,oP,fG⟩ fun j hj hl=>eQ.block j hl fun e=>?_
    rw[e,ac JT]at hj;omega
   ·refine(Fr.of_below (X:=fun j=>j=g\/aa j=b+11) aI).trans Qd fun j hj=>?_
    rcases Nat.lt_or_ge j w.heap.size with aU|tq
    ·rw[ac aU]at hj;exact .inl hj
    ·exact .inr tq
  clear aD;go_enter func114,ntmps114;go_wp2_with fail;rw[bV.out];try go_wp2_with fail
  refine mI [g,p1,w.heap.size] w1 [([0,1,2,3,4,5,6,7],8),([],9)] ([10,11,12],13) ?_;refine ap fun K1 ct=>?_
  simp only[af,Zx];repeat go_big_quiet_step(fail)
  apply wpQuiet_nil;go_wp2_with fail;have cT:∀q∈[g,p1,w.heap.size],q<w1.heap.size:=by simp;exact⟨JT,PD,bN.lt⟩
  refine⟨aq cT dH,ct _ _ ?_⟩;refine ap fun K2 ge=>?_
  simp only[af,Zx];apply wpQuiet_nil;go_wp2_with (at_builtin;refine pQ rfl (.tmp 14) (.tmp 17) rfl 0 rfl qh rfl BG fi zz ?_;intro A6 c6 w6 oP jb nT;obtain⟨Fg,E8,U3,iS,CY,FG⟩:=aF A6 c6 w6 oP jb nT;clear aF oP jb nT);have e29:=iS.cell 29;have f29:=iS.free 29;simp only[bE,Zx]at e29;have kS:=iS.lt;have Z3:w.heap.size≠g:=by omega
  have z2:=E8.cell 2;simp only[Zx]at z2;have u0:=U3.cell 0;simp only[Zx]at u0;refine⟨dN Fg,ge _ _ ?_⟩;refine aC ?_;simp only[af,Zx];repeat go_big_quiet_step(fail)
  apply wpQuiet_nil;replace FG:=zH FG;go_wp2_with fail;go_ret;exact⟨by rw[hd];rfl,FG.out⟩
 ·have hT:R.tellRead x k=R:=if_neg hc;have hd:decide (x.round<=k)=false:=decide_eq_false hc;replace hc:=Int.not_le.1 hc;go_enter func114,ntmps114;go_wp2_with fail;rw[bV.out];try go_wp2_with fail
  go_ret;exact⟨by rw[hd];rfl,_,v,by rw[hT];exact h1,rfl,fun j hj=>ac hj,Fr.of_below aI⟩
end
end
section
open Go.MapKept
def iO(k:Int):List Wt->Int->Int
 | [],_=>-1
 | x::l,i=>if x.round<=k then i else iO k l (i+1)
def eu(R:Rf)(k:Int):List Wt->Rf
 | []=>R
 | x::l=>if x.round<=k then R.tellRead x k else eu R k l
def hU(aa:Nat->Nat)(b:Nat)(w:World)(g:Nat)(R':Rf)(v:Rw)(w':World):Prop:=
 ∃(ak:Nat->Nat) (v':Rw),ax ak b w' g R' v'/\v'.waits=v.waits/\(∀j,j<w.heap.size->ak j=aa j)/\Fr (fun j=>j=g\/aa j=b+11) w w'
section
variable {aa:Nat->Nat}{b g:Nat}{w w1 w2:World}{R R1 R2:Rf}{v:Rw}
theorem hU.refl(h:ax aa b w g R v):hU aa b w g R v w:=⟨aa,v,h,rfl,fun _ _=>rfl,Fr.refl _ _⟩
theorem hU.next{ag:Nat->Nat}{v1:Rw}(h:hU ag b w1 g R2 v1 w2)(hv:v1.waits=v.waits)(hl:∀j,j<w.heap.size->ag j=aa j)(hF:Fr (fun j=>j=g\/aa j=b+11) w w1):hU aa b w g R2 v w2:=by
 obtain⟨bu,v2,q1,q2,q3,q4⟩:=h;have hs:=hF.size;refine⟨bu,v2,q1,q2.trans hv,fun j hj=>(q3 j (by omega)).trans (hl j hj),hF.trans q4 fun j hj=>?_⟩;rcases Nat.lt_or_ge j w.heap.size with h|h
 ·rw[hl j h]at hj;exact .inl hj
 ·exact .inr h
theorem hU.blk{T:TypeId}{cs:Array Value}{p:Nat}(h:hU aa b w g R2 v w1)(hg:p≠g)(hl:aa p≠b+11)(hk:ar w p T cs):ar w1 p T cs:=by
 obtain⟨bu,v2,q1,q2,q3,q4⟩:=h;exact(q4.block p hk.lt fun hh=>hh.elim hg hl).trans hk
theorem Am(k:Int)(p1 p2 n c:Nat)(A:Option Addr)(h:ax aa b w g R v)(cl:ar w p1 32 #[.pointer (some ⟨g,0,none⟩)])(eb:ar w p2 3 #[.int .i64 k])(cy:aa p1=b)(dM:aa p2=b)(AJ:R.out.reads.length<=90000)
  (hv:v.waits=.slice A n c) (hn:n=R.waits.length) (DY:n<=1000) :
  Calls prog 141 #[.slice A n c,.func (.func 114) #[] #[.pointer (some ⟨p2,0,none⟩),.pointer (some ⟨p1,0,none⟩)]] w fun e w'=>e=.returned (.int .i64 (iO k R.waits 0))/\hU aa b w g (eu R k R.waits) v w':=by
 have cQ:=h.s.lt;have Ms:p1≠g:=fun e=>by have:=h.sl;rw[<-e,cy]at this;omega
 have Mv:p2≠g:=fun e=>by have:=h.sl;rw[<-e,dM]at this;omega
 have h0:=hU.refl h;replace hn:=zH hn;go_enter func141,ntmps141;go_wp2_with fail
 go_loopw [8] (fun i wr=>∃j:Nat,j<=n/\i=.int .i64 j/\hU aa b w g R v wr/\iO k R.waits 0=iO k (R.waits.drop j) j/\eu R k R.waits=eu R k (R.waits.drop j)) (fun i _=>n-(intOf i).toNat)
 case atStart=>exact⟨0,Nat.zero_le _,rfl,h0,rfl,rfl⟩
 case round=>
  obtain⟨j,hj,rfl,hQ,hf,ht⟩:=hrel;by_cases aU:j<n
  ·have RG:R.waits[j]?=some (R.waits[j]'(by rw[<-hn.out];exact aU)):=List.getElem?_eq_getElem _;obtain⟨x,hx⟩:=zN (R.waits[j]'(by rw[<-hn.out];exact aU));rw[hx]at RG;have vh:R.waits.drop j=x::R.waits.drop (j+1):=gF RG;rw[vh]at hf ht;have Iu:iO k (x::R.waits.drop (j+1)) j=if x.round<=k then(j:Int)else iO k (R.waits.drop (j+1)) (j+1):=rfl
   have Wd:eu R k (x::R.waits.drop (j+1))=if x.round<=k then R.tellRead x k else eu R k (R.waits.drop (j+1)):=rfl
   rw[Iu]at hf;rw[Wd]at ht;obtain⟨ag,v1,q1,q2,q3,q4⟩:=id hQ;obtain⟨q,c',xz,NU,nC,AP,ee,_⟩:=q1.q.at_ (by rw[<-hn.out];omega);rw[q2,hv,<-hn.out]at xz;injection xz with a1 a2 a3;subst a1;subst a3;have key:∀s u,s<3->(mT x)[s]?=some u->wr.cell? ⟨q,j*3+s,none⟩=some u:=fun s u hs hu=>ee _ _ ((eo (f:=mT) (k:=3) (fun _=>rfl) hs RG).trans hu)
   have m0:=key 0 _ (by omega) rfl;have m1:=key 1 _ (by omega) rfl;have m2:=key 2 _ (by omega) rfl;simp only[vi,Nat.add_zero]at m0 m1 m2;have hc:=pX x k p1 p2 q1 (hQ.blk Ms (by omega) cl) (hQ.blk Mv (by omega) eb) ((q3 p1 cl.lt).trans cy) ((q3 p2 eb.lt).trans dM) (by omega);have aP:=zH (show n-(j+1)<n-j by omega);clear key ee Iu Wd vh hx RG q1;go_wp2_with fail;refine hc.mono ?_;rintro e w5 ⟨rfl,hT⟩;have tC:hU aa b w g (R.tellRead x k) v w5:=hU.next hT q2 q3 q4;clear hc hT q4;by_cases fo:x.round<=k
   ·rw[if_pos fo]at hf ht;have hd:decide (x.round<=k)=true:=decide_eq_true fo;replace hf:=zH hf;replace ht:=zH ht;replace tC:=zH tC;clear hQ;go_wp2_with fail;go_ret;exact⟨by rw[hf.out];rfl,by rw[ht.out];exact tC.out⟩
   ·rw[if_neg fo]at hf ht;have hd:decide (x.round<=k)=false:=decide_eq_false fo;have Pj:R.tellRead x k=R:=if_neg fo;rw[Pj]at tC;replace fo:=Int.not_le.1 fo;replace hf:=zH hf;replace ht:=zH ht;clear hQ Pj;go_wp2_with fail;exact⟨⟨j+1,aU,by go_num,tC,hf.out,ht.out⟩,by simp[intOf];exact aP.out⟩
  ·obtain rfl:n=j:=by omega
   rw[List.drop_eq_nil_of_le (by rw[<-hn.out];exact Nat.le_refl _)]at hf ht;have Kc:iO k R.waits 0=-1:=hf;have ME:eu R k R.waits=R:=ht;replace Kc:=zH Kc;replace ME:=zH ME;replace hQ:=zH hQ;clear hf ht;go_wp2_with fail;go_ret;exact⟨by rw[Kc.out];rfl,by rw[ME.out];exact hQ.out⟩
end
end
section
open Go.MapKept
theorem mY(w:World)(t e ty:TypeId)(z:Value)(ht:prog.underlying t=some (.slice e))(hv:∀w,(zeroValue e).run prog w=.ok z w)(h1:∀u∈z.cells.toList,u.oneCell'=true)(b o n c:Nat)(hn:0<n)
  (hc:∀j,j<(Builtin.zeroCells z.cells n).toList.length->(w.cell? ⟨b,o+j,none⟩).isSome=true) (hf:∀j,j<(Builtin.zeroCells z.cells n).toList.length->w.frozen? ⟨b,o+j,none⟩=false) (hz:∀u∈(Builtin.zeroCells z.cells n).toList,u.oneCell'=true) :
  (Builtin.clear_ #[t] ty #[.slice (some ⟨b,o,none⟩) n c]).run prog w=.ok (.tuple #[]) (w.setCells b o (Builtin.zeroCells z.cells n).toList):=by
 have aE:=run_storeCells_cells (P:=prog) b o (Builtin.zeroCells z.cells n).toList 0 w (by simpa using hc) (by simpa using hf) hz;simp only[Nat.add_zero]at aE;obtain⟨m,rfl⟩:∃m,n=m+1:=⟨n-1,by omega⟩;simp[Builtin.clear_,run_underlying ht,hv,aE]
theorem qf(b:Nat):∀(vs:List Value) (o:Nat) (w:World),Fr (fun j=>j=b) w (w.setCells b o vs)
 | [],_,w=>Fr.refl _ w
 | v::r,o,w=>(Fr.set b o v).trans (qf b r (o+1) _) fun _ h=>.inl h
theorem gW{base n c size q:Nat}{T:TypeId}{xs:List Value}:∀(vs:List Value) (o:Nat) (w:World),n*size<=o->w.ownsRow base T size (.slice (some ⟨q,0,none⟩) n c) n xs->(w.setCells q o vs).ownsRow base T size (.slice (some ⟨q,0,none⟩) n c) n xs
 | [],_,_,_,h=>h
 | v::r,o,w,ho,h=>by
  have h1:=(h.stored o v).1;rw[List.set_eq_of_length_le (by rw[h.1];exact ho)]at h1;exact gW r (o+1) _ (by omega) h1
theorem uE{w:World}{base:Nat}{e:TypeId}{size n c k q:Nat}{xs:List Value}(h:w.ownsRow base e size (.slice (some ⟨q,0,none⟩) n c) n xs)(hk:k<=n):w.ownsRow base e size (.slice (some ⟨q,0,none⟩) k c) k (xs.take (k*size)):=by
 have hl:(xs.take (k*size)).length=k*size:=by rw[List.length_take,h.1];exact Nat.min_eq_left (Nat.mul_le_mul_right _ hk)
 refine⟨hl,?_⟩;rcases h.2 with⟨h1,h2⟩|⟨g,cap,cur,h1,h2,h3,h4,h5,h6,h7⟩
 ·cases h1
 ·injection h1 with h1 _ hc;injection h1 with h1;injection h1 with h1;subst h1;subst hc;refine .inr ⟨q,c,cur,rfl,h2,h3,by omega,h5,h6,?_⟩;rw[<-h7,List.take_take,Nat.min_eq_left (Nat.mul_le_mul_right _ hk)]
def yF(w:World)(q i:Nat)(x:Wt):World:=((w.setCell ⟨q,i*3,none⟩ (.int .i64 x.ctx)).setCell ⟨q,i*3+1,none⟩ (.int .i64 x.idx)).setCell ⟨q,i*3+2,none⟩ (.int .i64 x.round)
section
variable {aa:Nat->Nat}{b g:Nat}{w:World}{R:Rf}{v:Rw}
theorem ax.setWait{i q n c:Nat}(x:Wt)(h:ax aa b w g R v)(hi:i<R.waits.length)(hq:v.waits=.slice (some ⟨q,0,none⟩) n c)(hn:n=R.waits.length) :
  ax aa b (yF w q i x) g {R with waits:=R.waits.set i x} v/\Fr (fun k=>k=q) w (yF w q i x)/\aa q=b+4:=by
 obtain⟨A,c',e,aD,hl⟩:=id h.q;rw[hq,hn]at e;injection e with e1 e2 e3;subst e1;subst e3;have nC:=hl q ⟨_,rfl,rfl⟩;have hF:Fr (fun k=>k=q) w (yF w q i x):=((Fr.set q _ _).trans (Fr.set q _ _) fun _ h=>.inl h).trans (Fr.set q _ _) fun _ h=>.inl h
 have JB:g≠q:=fun e=>by have:=h.sl;rw[e,nC]at this;omega
 have O3:ar (yF w q i x) g 107 (bE {R with waits:=R.waits.set i x} v):=(hF.block g h.s.lt JB).trans h.s;obtain⟨y,hy⟩:∃y,R.waits[i]?=some y:=⟨_,List.getElem?_eq_getElem hi⟩;have aE:=((((aD.stored (i*3+0) (.int .i64 x.ctx)).1.stored (i*3+1) (.int .i64 x.idx)).1).stored (i*3+2) (.int .i64 x.round)).1;rw[jl (f:=mT) (k:=3) (fun _=>rfl) (z:=y) (z':=⟨x.ctx,y.idx,y.round⟩) (by omega) rfl hy,
  jl (f:=mT) (k:=3) (fun _=>rfl) (z:=⟨x.ctx,y.idx,y.round⟩) (z':=⟨x.ctx,x.idx,y.round⟩) (by omega) rfl (by rw[List.getElem?_set_self hi]),
  jl (f:=mT) (k:=3) (fun _=>rfl) (z:=⟨x.ctx,x.idx,y.round⟩) (z':=x) (by omega) rfl (by rw[List.getElem?_set_self (by rw[List.length_set];exact hi)]),List.set_set,List.set_set]at aE
 refine⟨h.turn [4] O3 (fun _ _ _ _ _ _ e=>e) (by simp) (hF.mono fun k e=>.inr ⟨4,by simp,by rw[e];exact nC⟩) tI tI (.inl ?_) tI tI tI tI tI tI tI tI,hF,nC⟩;rw[hq,hn];show bQ _ _ _ _ _ _ (R.waits.set i x).length _;rw[List.length_set];exact⟨_,_,rfl,aE,hl⟩
end
end
def ig(k:Int):List (Value×En)->Int->Int
 | [],_=>-1
 | z::l,i=>if z.2.idx<=k then i else ig k l (i+1)
def bU(k:Int)(l:List (Value×En)):List (Value×En):=l.filter fun z=>decide (k<z.2.idx)
theorem yc(k:Int):∀(l:List (Value×En)) (s:Nat),(ig k l s=-1/\bU k l=l)\/
  ∃i z,ig k l s=((s+i:Nat):Int)/\l[i]?=some z/\z.2.idx<=k/\bU k (l.take (i+1))=l.take i:=by
 intro l;induction l with
 | nil=>intro s;exact .inl ⟨rfl,rfl⟩
 | cons y l ih=>
  intro s;by_cases hy:y.2.idx<=k
  ·refine .inr ⟨0,y,?_,rfl,hy,?_⟩
   ·show(if y.2.idx<=k then(s:Int)else _)=_;rw[if_pos hy];simp
   ·show bU k [y]=[];unfold bU;rw[List.filter_cons,if_neg (by simp;omega)];rfl
  ·have e1:ig k (y::l) s=ig k l ((s+1:Nat):Int):=by
    show(if y.2.idx<=k then(s:Int)else ig k l ((s:Int)+1))=_;rw[if_neg hy];simp
   have hr:∀m:List (Value×En),bU k (y::m)=y::bU k m:=fun m=>by
    unfold bU;rw[List.filter_cons,if_pos (by simp;omega)]
   rw[e1];rcases ih (s+1)with⟨h1,h2⟩|⟨i,x,h1,h2,h3,h4⟩
   ·exact .inl ⟨h1,by rw[hr,h2]⟩
   ·refine .inr ⟨i+1,x,by rw[h1];congr 1;omega,h2,h3,?_⟩;rw[List.take_succ_cons,hr,h4,List.take_succ_cons]
theorem so{k:Int}{l:List (Value×En)}{j:Nat}{x:Value×En}(h:l[j]?=some x):bU k (l.take (j+1))=bU k (l.take j)++if k<x.2.idx then[x]else[]:=by
 unfold bU;rw[List.take_add_one,h,List.filter_append];congr 1;by_cases hx:k<x.2.idx
 ·simp[hx]
 ·simp[hx]
theorem DE(k:Int)(l:List (Value×En)):(bU k l).length<=l.length:=List.length_filter_le _ _
structure An(zs:List (Value×En))(k:Int)(n j i:Nat)(W:List (Value×En)):Prop where
 len:W.length=n
 jn:j<=n
 ij:i<j
 il:i=(bU k (zs.take j)).length
 tk:W.take i=bU k (zs.take j)
 dr:W.drop j=zs.drop j
theorem An.skip{zs:List (Value×En)}{k:Int}{n j i:Nat}{W:List (Value×En)}{x:Value×En}(h:An zs k n j i W)(hj:j<n)(hx:zs[j]?=some x)(hr:x.2.idx<=k):An zs k n (j+1) i W:=by
 have e:=so (k:=k) hx;rw[if_neg (by omega),List.append_nil]at e;refine⟨h.len,hj,by have:=h.ij;omega,by rw[e];exact h.il,by rw[e];exact h.tk,?_⟩;have:=congrArg (List.drop 1) h.dr;rw[List.drop_drop,List.drop_drop]at this;exact this
theorem An.put{zs:List (Value×En)}{k:Int}{n j i:Nat}{W:List (Value×En)}{x:Value×En}(h:An zs k n j i W)(hj:j<n)(hx:zs[j]?=some x)(hr:k<x.2.idx):An zs k n (j+1) (i+1) (W.set i x):=by
 have e:=so (k:=k) hx;rw[if_pos hr]at e;have Ju:=h.ij;have hl:=h.len;refine⟨by rw[List.length_set];exact hl,hj,by omega,by rw[e,List.length_append,<-h.il];rfl,?_,?_⟩
 ·rw[e,<-h.tk,List.take_set,List.take_add_one,List.getElem?_eq_getElem (by omega)];have ah:(W.take i).length=i:=by rw[List.length_take];omega
  rw[List.set_append_right _ _ (by omega),ah,Nat.sub_self];rfl
 ·rw[List.drop_set_of_lt (by omega)];have:=congrArg (List.drop 1) h.dr;rw[List.drop_drop,List.drop_drop]at this;exact this
section
variable {w:World}{S:Nat->Prop}
theorem us(x:En)(k:Int)(p n c:Nat)(A:Option Addr)(hk:w.cell? ⟨p,2,none⟩=some (.int .i64 k)) :
  Calls prog 42 #[.agg #[.int .i64 x.idx,.int .i64 x.term,.int .i64 x.op,.int .i64 x.sess,.int .i64 x.seq,.slice A n c],.pointer (some ⟨p,0,none⟩)] w fun e w'=>e=.returned (.bool (decide (x.idx<=k)))/\Below w.heap.size w w':=by
 have aI:Below w.heap.size w (w.alloc (.cells #[.int .i64 x.idx,.int .i64 x.term,.int .i64 x.op,.int .i64 x.sess,.int .i64 x.seq,.slice A n c] 59)):=zb.alloc zl _;have mx:=aw hk;go_enter func42,ntmps42;go_wp2_with fail;go_ret;exact⟨rfl,aI⟩
theorem Bw(k:Int)(p n c:Nat)(A:Option Addr)(zs:List (Value×En))(hr:fu w A n zs)(hd:bq S w zs)(hk:w.cell? ⟨p,2,none⟩=some (.int .i64 k))(hn:n<=1000000) :
  Calls prog 88 #[.slice A n c,.func (.func 42) #[] #[.pointer (some ⟨p,0,none⟩)]] w fun e w'=>e=.returned (.int .i64 (ig k zs 0))/\Below w.heap.size w w':=by
 have jA:=Below.refl w.heap.size w;have rB:=zH hr.len;go_enter func88,ntmps88;go_wp2_with fail
 go_loopw [8] (fun i wr=>∃j:Nat,j<=n/\i=.int .i64 j/\Below w.heap.size w wr/\ig k zs 0=ig k (zs.drop j) j) (fun i _=>n-(intOf i).toNat)
 case atStart=>exact⟨0,Nat.zero_le _,rfl,jA,rfl⟩
 case round=>
  obtain⟨j,hj,rfl,hb,hf⟩:=hrel;by_cases aU:j<n
  ·obtain⟨ad,vf,x,hA,hz,m0,m1,m2,m3,m4,m5⟩:=(hr.below hb).at_ aU;obtain⟨B,m,d,hv,_⟩:=(hd _ (List.mem_of_getElem? hz)).form;obtain rfl:vf=_:=hv;have Iu:ig k (zs.drop j) j=if x.idx<=k then(j:Int)else ig k (zs.drop (j+1)) ((j+1:Nat):Int):=by
    rw[List.drop_eq_getElem_cons (by rw[rB.out];exact aU)];have e:zs[j]'(by rw[rB.out];exact aU)=(.slice B m d,x):=by
     have:=List.getElem?_eq_getElem (l:=zs) (i:=j) (by rw[rB.out];exact aU);rw[this]at hz;exact Option.some.inj hz
    rw[e];show(if x.idx<=k then(j:Int)else ig k _ ((j:Int)+1))=_;simp
   rw[Iu]at hf;have OI:wr.cell? ⟨p,2,none⟩=some (.int .i64 k):=(hb.cell (p:=⟨p,2,none⟩) (aw hk)).trans hk;have hc:=us x k p m d B OI;have aP:=zH (show n-(j+1)<n-j by omega);subst hA;clear Iu hz OI;go_wp2_with fail;refine hc.mono ?_;rintro e w5 ⟨rfl,cD⟩;have jH:Below w.heap.size w w5:=hb.trans (cD.mono hb.size);clear hc cD;by_cases fo:x.idx<=k
   ·rw[if_pos fo]at hf;have hd:decide (x.idx<=k)=true:=decide_eq_true fo;replace hf:=zH hf;go_wp2_with fail;go_ret;exact⟨by rw[hf.out];rfl,jH⟩
   ·rw[if_neg fo]at hf;have hd:decide (x.idx<=k)=false:=decide_eq_false fo;replace fo:=Int.not_le.1 fo;replace hf:=zH hf;go_wp2_with fail;exact⟨⟨j+1,aU,by go_num,jH,hf.out⟩,by simp[intOf];exact aP.out⟩
  ·obtain rfl:n=j:=by omega
   rw[List.drop_eq_nil_of_le (by rw[rB.out];exact Nat.le_refl _)]at hf;have Kc:ig k zs 0=-1:=hf;replace Kc:=zH Kc;clear hf;go_wp2_with fail;go_ret;exact⟨by rw[Kc.out];rfl,hb⟩
theorem Bl(A:Option Addr)(n c:Nat)(zs:List (Value×En))(hr:fu w A n zs)(hd:bq S w zs)(hn:n<=1000000) :
  Calls prog 41 #[.slice A n c] w fun e w'=>∃A' c',e=.returned (.slice A' n c')/\
   w'.ownsRow w.heap.size 59 6 (.slice A' n c') n (zs.flatMap bY)/\Below w.heap.size w w':=by
 have q30:∀(w:World) (a:Option Addr) (n c n' c':Nat),(binOp .eql 27 (.slice a n c) (.slice none n' c')).run prog w=.ok (.bool a.isNone) w:=fun w a n c n' c'=>Lib.run_eql_slice_nil w _ _ a n c n' c' underlying27
 have gq:=hd.one;rcases A with _|ad
 ·have h0:n=0:=by
   rcases Nat.eq_zero_or_pos n with h|h
   ·exact h
   ·obtain⟨ad,_,_,e,_⟩:=hr.at_ h;cases e
  subst h0;have hl:zs=[]:=List.eq_nil_of_length_eq_zero hr.len;subst hl;go_enter func41,ntmps41
  go_wp2
  go_ret;exact⟨none,0,rfl,b9 _ _,Below.refl _ _⟩
 ·have bs:Below w.heap.size w (w.alloc (.cells #[] 59)):=zb.alloc zl _;have aD:(w.alloc (.cells #[] 59)).ownsRow w.heap.size 59 6 (.slice (some ⟨w.heap.size,0,none⟩) 0 0) 0 (([]:List (Value×En)).flatMap bY):=qZ _ [] 0 rfl zz;have E5:=hr.below bs;go_enter func41,ntmps41;go_wp2_with (first
    | (at_builtin;refine aW rfl (.tmp 5) (.tmp 6) rfl w.heap.size rfl aD rfl E5 gq (by omega) bs.size ?_;intro A3 c3 w3 bF gK bS EX;clear gK EX)
    | fail)
  go_ret;simp only[Nat.zero_add,List.nil_append]at bF;exact⟨A3,c3,rfl,bF,bs.trans bS⟩
end
theorem Bq:∀w,(zeroValue 59).run prog w=.ok (.agg #[.int .i64 0,.int .i64 0,.int .i64 0,.int .i64 0,.int .i64 0,.slice none 0 0]) w:=fun _=>rfl
theorem Ez(m:Nat):(Builtin.zeroCells (Value.agg #[.int .i64 0,.int .i64 0,.int .i64 0,.int .i64 0,.int .i64 0,.slice none 0 0]).cells m).toList.length=m*6:=by
 simp[Builtin.zeroCells,Value.cells]
theorem EI(m:Nat):∀u∈(Builtin.zeroCells (Value.agg #[.int .i64 0,.int .i64 0,.int .i64 0,.int .i64 0,.int .i64 0,.slice none 0 0]).cells m).toList,u.oneCell'=true:=fun u hu=>by
 obtain⟨i,hi,e⟩:=List.getElem_of_mem hu;rw[<-e];have h3:i%6=0\/i%6=1\/i%6=2\/i%6=3\/i%6=4\/i%6=5:=by omega
 rcases h3 with h3|h3|h3|h3|h3|h3 <;> simp[Builtin.zeroCells,Value.cells,h3] <;> rfl
def Kh(w:World)(q i:Nat)(z:Value×En):World:=(((((w.setCell ⟨q,i*6,none⟩ (.int .i64 z.2.idx)).setCell ⟨q,i*6+1,none⟩ (.int .i64 z.2.term)).setCell ⟨q,i*6+2,none⟩ (.int .i64 z.2.op)).setCell ⟨q,i*6+3,none⟩ (.int .i64 z.2.sess)).setCell ⟨q,i*6+4,none⟩ (.int .i64 z.2.seq)).setCell ⟨q,i*6+5,none⟩ z.1
theorem ut{z:Value×En}:∀{l:List (Value×En)} {i:Nat},i<l.length->
  ((((((l.flatMap bY).set (i*6) (.int .i64 z.2.idx)).set (i*6+1) (.int .i64 z.2.term)).set (i*6+2) (.int .i64 z.2.op)).set (i*6+3) (.int .i64 z.2.sess)).set (i*6+4) (.int .i64 z.2.seq)).set (i*6+5) z.1=(l.set i z).flatMap bY
 | [],_,h=>by cases h
 | y::l,0,_=>by simp[List.flatMap_cons,bY,vi]
 | y::l,i+1,h=>by
  have ih:=ut (z:=z) (l:=l) (i:=i) (by simpa using h);rw[List.flatMap_cons,List.set_cons_succ,List.flatMap_cons,<-ih];have e:∀(u:Value) (m:List Value) (j:Nat),(bY y++m).set ((i+1)*6+j) u=bY y++m.set (i*6+j) u:=fun u m j=>by
   rw[List.set_append_right _ _ (by rw[fj];omega),fj];congr 2;omega
  have e0:∀(u:Value) (m:List Value),(bY y++m).set ((i+1)*6) u=bY y++m.set (i*6) u:=fun u m=>e u m 0
  rw[e0,e,e,e,e,e]
theorem Du{w:World}{B n c q i:Nat}{W:List (Value×En)}(z:Value×En)(h:w.ownsRow B 59 6 (.slice (some ⟨q,0,none⟩) n c) n (W.flatMap bY))(hi:i<W.length) :
  (Kh w q i z).ownsRow B 59 6 (.slice (some ⟨q,0,none⟩) n c) n ((W.set i z).flatMap bY):=by
 have s:=(((((h.stored (i*6) (.int .i64 z.2.idx)).1.stored (i*6+1) (.int .i64 z.2.term)).1.stored (i*6+2) (.int .i64 z.2.op)).1.stored (i*6+3) (.int .i64 z.2.sess)).1.stored (i*6+4) (.int .i64 z.2.seq)).1.stored (i*6+5) z.1;have s:=s.1;rw[ut hi]at s;exact s
theorem zc{w w0:World}{B q i:Nat}(z:Value×En)(h:Below B w0 w)(hq:B<=q):Below B w0 (Kh w q i z):=
 (((((h.setCell hq _).setCell hq _).setCell hq _).setCell hq _).setCell hq _).setCell hq _
theorem lG{w0:World}{B q:Nat}(hq:B<=q):∀(vs:List Value) (o:Nat) (w:World),Below B w0 w->Below B w0 (w.setCells q o vs)
 | [],_,_,h=>h
 | v::r,o,w,h=>lG hq r (o+1) _ (h.setCell hq _)
section
variable {w:World}{S:Nat->Prop}
theorem ya(k:Int)(B p n c:Nat)(A:Option Addr)(zs:List (Value×En))(aD:w.ownsRow B 59 6 (.slice A n c) n (zs.flatMap bY))(hB:B<=w.heap.size)(hd:bq S w zs)(hS:∀j,S j->j<B)(hp:p<B)(hk:w.cell? ⟨p,2,none⟩=some (.int .i64 k))(hn:n<=1000000) :
  Calls prog 40 #[.slice A n c,.func (.func 42) #[] #[.pointer (some ⟨p,0,none⟩)]] w fun e w'=>∃A' c',e=.returned (.slice A' (bU k zs).length c')/\fu w' A' (bU k zs).length (bU k zs)/\(bU k zs).length<=c'/\c'<=maxLen/\(∀j,az A' j->B<=j)/\Below B w w':=by
 have tG:=Bw k p n c A zs (cn.of_own aD) hd hk hn;have rB:zs.length=n:=fu.len (cn.of_own aD);have QM:=yc k zs 0;have fA:=bA aD;have Kv:∀j,az A j->B<=j:=fun j hj=>(aB aD A c rfl j hj).2.1
 rcases QM with⟨s1,s2⟩|⟨i,x,s1,s2,s3,s4⟩
 ·rw[show((0:Nat):Int)=0 from rfl]at s1;rw[s1]at tG;rw[s2,rB];go_enter func40,ntmps40;go_wp2_with fail;refine tG.mono ?_;rintro e w5 ⟨rfl,cD⟩;have tD:fu w5 A n zs:=fu.below (cn.of_own aD) cD;have M6:=cD.mono hB;clear tG;go_wp2_with fail;go_ret;exact⟨A,c,rfl,tD,fA.1,fA.2,Kv,M6⟩
 ·have xl:=(List.getElem?_eq_some_iff.1 s2).1;rw[rB]at xl;obtain⟨q,c0,hv,N5,_⟩:=aD.form (by omega);injection hv with a1 a2 a3;subst a1;subst a3;rw[show((0:Nat):Int)=0 from rfl,Nat.zero_add]at s1;rw[s1]at tG;go_enter func40,ntmps40;go_wp2_with fail;refine tG.mono ?_;rintro e w5 ⟨rfl,cD⟩;clear tG;have ri:An zs k n (i+1) i zs:=⟨rB,xl,Nat.lt_succ_self _,by rw[s4,List.length_take];omega,s4.symm,rfl⟩;have dm:=bf aD cD;have OU:=cD.mono hB;clear aD;go_wp2_with fail
  go_loopw [5,6] (fun si sj wr=>∃(j i:Nat) (W:List (Value×En)),si=.int .i64 i/\sj=.int .i64 j/\An zs k n j i W/\wr.ownsRow B 59 6 (.slice (some ⟨q,0,none⟩) n c) n (W.flatMap bY)/\Below B w wr) (fun _ sj _=>n-(intOf sj).toNat)
  case atStart=>exact⟨i+1,i,zs,rfl,by go_num,ri,dm,OU⟩
  case round=>
   clear ri dm OU cD s1 s2 s3 s4 xl;obtain⟨j,i',W,rfl,rfl,ri,mf,Fe⟩:=hrel;have xp:=ri.jn;have Ju:=ri.ij;have Mw:=ri.len;by_cases aU:j<n
   ·obtain⟨z,hz⟩:∃z,zs[j]?=some z:=⟨_,List.getElem?_eq_getElem (by omega)⟩;have KV:W[j]?=some z:=by
     have e:=congrArg (fun l=>l[0]?) ri.dr;simp only[List.getElem?_drop,Nat.add_zero]at e;rw[e,hz]
    obtain⟨vf,x⟩:=z;obtain⟨D,m,d,hv,_⟩:=(hd _ (List.mem_of_getElem? hz)).form;obtain rfl:vf=_:=hv;have UC:(W.flatMap bY).length=n*6:=mf.1;have key:∀s u,s<6->(bY (.slice D m d,x))[s]?=some u->wr.cell? ⟨q,j*6+s,none⟩=some u:=fun s u hs hu=>(mf.cellAt _ (by omega)).trans ((eo (f:=bY) (k:=6) (fun _=>rfl) hs KV).trans hu)
    have m0:=key 0 _ (by omega) rfl;have m1:=key 1 _ (by omega) rfl;have m2:=key 2 _ (by omega) rfl;have m3:=key 3 _ (by omega) rfl;have m4:=key 4 _ (by omega) rfl;have m5:=key 5 _ (by omega) rfl;simp only[vi,Nat.add_zero]at m0 m1 m2 m3 m4 m5;have aI:Below wr.heap.size wr (wr.alloc (.cells #[.int .i64 x.idx,.int .i64 x.term,.int .i64 x.op,.int .i64 x.sess,.int .i64 x.seq,.slice D m d] 59)):=zb.alloc zl _;have gN:=ar.new wr 59 #[.int .i64 x.idx,.int .i64 x.term,.int .i64 x.op,.int .i64 x.sess,.int .i64 x.seq,.slice D m d];obtain⟨wA,Bo⟩:=zN (wr.alloc (.cells #[.int .i64 x.idx,.int .i64 x.term,.int .i64 x.op,.int .i64 x.sess,.int .i64 x.seq,.slice D m d] 59));rw[Bo]at aI gN;have NP:p<w.heap.size:=by omega
    have OI:wr.cell? ⟨p,2,none⟩=some (.int .i64 k):=(Fe.cell (p:=⟨p,2,none⟩) hp).trans hk;have Iq:wA.cell? ⟨p,2,none⟩=some (.int .i64 k):=(aI.cell (p:=⟨p,2,none⟩) (by have:=Fe.size;show p<_;omega)).trans OI;have hc:=us x k p m d D Iq;obtain⟨y0,y1,y2,y3,y4,y5,-⟩:=gN.cs [0,1,2,3,4,5];simp only[Zx]at y0 y1 y2 y3 y4 y5;have YT:wr.heap.size<wA.heap.size:=gN.lt;have hqr:q<wr.heap.size:=(aB mf _ _ rfl q ⟨_,rfl,rfl⟩).1;have aP:=zH (show n-(j+1)<n-j by omega);replace Bo:=zH Bo;clear key OI Iq;go_wp2_with fail;rw[Bo.out];try go_wp2_with fail
    refine hc.mono ?_;rintro e w5 ⟨rfl,cD⟩;clear hc;have JH:=Fe.size;have Mt:=ab aI cD zl;have dm:=bf mf Mt;have kw:Below B w w5:=Fe.trans (Mt.mono (by omega));have Lg:=gN.kept cD;clear aI cD Mt;by_cases fo:x.idx<=k
    ·have pV:=ri.skip aU hz fo;have Qf:decide (x.idx<=k)=true:=decide_eq_true fo;replace dm:=zH dm;go_wp2_with fail;refine⟨?_,by simp[intOf];exact aP.out⟩;repeat apply Exists.intro
     repeat apply Exists.intro
     repeat apply Exists.intro
     repeat apply Exists.intro
     refine⟨?_,rfl⟩;exact⟨j+1,i',W,rfl,by go_num,pV,dm.out,kw⟩
    ·replace fo:=Int.not_le.1 fo;have pV:=ri.put aU hz fo;have Qf:decide (x.idx<=k)=false:=decide_eq_false (by omega);have aE:=Du (i:=i') (.slice D m d,x) dm (by omega);have RH:=zc (i:=i') (.slice D m d,x) kw N5;have old:∀s,s<6->∃u,w5.cell? ⟨q,i' * 6+s,none⟩=some u:=fun s hs=>by
      refine⟨(W.flatMap bY)[i' * 6+s]'(by rw[UC];omega),?_⟩;rw[dm.cellAt _ (by omega),List.getElem?_eq_getElem]
     obtain⟨o0,n0⟩:=old 0 (by omega);obtain⟨o1,n1⟩:=old 1 (by omega);obtain⟨o2,n2⟩:=old 2 (by omega);obtain⟨o3,n3⟩:=old 3 (by omega);obtain⟨o4,n4⟩:=old 4 (by omega);obtain⟨o5,n5⟩:=old 5 (by omega);have f0:=dm.frozenAt (i' * 6);have f1:=dm.frozenAt (i' * 6+1);have f2:=dm.frozenAt (i' * 6+2);have f3:=dm.frozenAt (i' * 6+3);have f4:=dm.frozenAt (i' * 6+4);have f5:=dm.frozenAt (i' * 6+5);rw[Nat.add_zero]at n0;obtain⟨z0,z1,z2,z3,z4,z5,-⟩:=Lg.cs [0,1,2,3,4,5];simp only[Zx]at z0 z1 z2 z3 z4 z5;replace aE:=zH aE;replace RH:=zH RH;clear old dm mf;go_wp2_with fail;refine⟨?_,by simp[intOf];exact aP.out⟩;repeat apply Exists.intro
     repeat apply Exists.intro
     repeat apply Exists.intro
     repeat apply Exists.intro
     refine⟨?_,rfl⟩;exact⟨j+1,i'+1,W.set i' (.slice D m d,x),by go_num,by go_num,pV,aE.out,RH.out⟩
   ·obtain rfl:n=j:=by omega
    have cf:zs.take n=zs:=by rw[<-rB];exact List.take_length
    have xl:=ri.il;have Pt:=ri.tk;rw[cf]at xl Pt;have S4:=fA.1;have ee:∀s,s<n*6->(wr.cell? ⟨q,s,none⟩).isSome=true:=fun s hs=>by
     rw[mf.cellAt s hs,List.getElem?_eq_getElem (by rw[mf.1];exact hs)];rfl
    have MB:=mf.frozenAt;replace xl:=zH xl;replace cf:=zH cf;replace mf:=zH mf;go_wp2_with fail;have Pc:c≠i':=by omega
    rw[mY wr 27 59 0 _ underlying27 Bq (fun u hu=>by simp[Value.cells]at hu;rcases hu with rfl|rfl|rfl|rfl|rfl|rfl <;> rfl) q (i' * 6) (n-i') (c-i') (by omega) (fun s hs=>by
      rw[Ez]at hs;exact ee _ (by omega)) (fun s _=>MB _) (EI _)]
    have aF:fu (wr.setCells q (i' * 6) (Builtin.zeroCells (Value.agg #[.int .i64 0,.int .i64 0,.int .i64 0,.int .i64 0,.int .i64 0,.slice none 0 0]).cells (n-i')).toList) (some ⟨q,0,none⟩) i' (bU k zs):=by
     have h1:=uE mf.out (k:=i') (by omega);have h2:=gW (Builtin.zeroCells (Value.agg #[.int .i64 0,.int .i64 0,.int .i64 0,.int .i64 0,.int .i64 0,.slice none 0 0]).cells (n-i')).toList (i' * 6) wr zl h1;have e:(W.flatMap bY).take (i' * 6)=(bU k zs).flatMap bY:=by rw[<-Pt];exact(ph (f:=bY) (k:=6) (fun _=>rfl) W i').symm
     rw[e]at h2;exact cn.of_own h2
    have Ey:=lG (w0:=w) N5 (Builtin.zeroCells (Value.agg #[.int .i64 0,.int .i64 0,.int .i64 0,.int .i64 0,.int .i64 0,.slice none 0 0]).cells (n-i')).toList (i' * 6) wr Fe;replace aF:=zH aF;replace Ey:=zH Ey;clear ee MB Fe hd;go_wp2_with fail;go_ret;rw[<-xl.out];exact⟨some ⟨q,0,none⟩,c,rfl,aF.out,by omega,fA.2,Kv,Ey.out⟩
end
theorem ro{lo hi x:Int}(w:World):Calls prog 36 #[.int .i64 x,.int .i64 lo,.int .i64 hi] w fun e w'=>e=.returned (.bool (decide (lo<=x/\x<=hi)))/\w'=w:=mP (by simp) w
theorem uK(i t:Int)(A:Option Addr)(n c:Nat)(l:List UInt8)(w:World)(hl:l.length=n):Calls prog 37 #[.agg #[.int .i64 i,.int .i64 t,.slice A n c]] w fun e w'=>e=.returned (.bool (fe ⟨i,t,l⟩))/\Below w.heap.size w w':=by
 have aI:Below w.heap.size w (w.alloc (.cells #[.int .i64 i,.int .i64 t,.slice A n c] 26)):=zb.alloc zl _;have bN:=ar.new w 26 #[.int .i64 i,.int .i64 t,.slice A n c];obtain⟨w1,bV⟩:=zN (w.alloc (.cells #[.int .i64 i,.int .i64 t,.slice A n c] 26));rw[bV]at aI bN;obtain⟨y0,y1,y2,-⟩:=bN.cs [0,1,2];simp only[Zx]at y0 y1 y2;have Cv:fe ⟨i,t,l⟩=if i=0/\t=0 then decide ((n:Int)=0)else decide ((1<=i/\i<=1099511627776)/\(1<=t/\t<=1099511627776)/\(1<=(n:Int)/\(n:Int)<=65536)):=by
  unfold fe i9;simp only[hl];by_cases h:i=0/\t=0
  ·rw[if_pos h,if_pos h];simp
  ·rw[if_neg h,if_neg h];congr 1;apply propext;constructor <;> intro h <;> omega
 have lC:∀(x lo hi:Int),Calls prog 36 #[.int .i64 x,.int .i64 lo,.int .i64 hi] w1 fun e w'=>e=.returned (.bool (decide (lo<=x/\x<=hi)))/\w'=w1:=fun x lo hi=>ro w1
 have h1:=lC i 1 1099511627776;have h2:=lC t 1 1099511627776;have h3:=lC (n:Int) 1 65536;replace bV:=zH bV;replace hl:=zH hl;clear lC;by_cases h0:i=0/\t=0
 ·rw[if_pos h0]at Cv;obtain⟨rfl,rfl⟩:=h0;replace Cv:=zH Cv;go_enter func37,ntmps37;go_wp2_with fail;rw[bV.out];try go_wp2_with fail
  go_ret;refine⟨?_,aI⟩;rw[Cv.out];congr 2;try simp
 ·rw[if_neg h0]at Cv;have cu:(i==0)=false\/((i==0)=true/\(t==0)=false):=by
   by_cases a:i=0
   ·exact .inr ⟨by simp[a],by simp;exact fun e=>h0 ⟨a,e⟩⟩
   ·exact .inl (by simp[a])
  replace Cv:=zH Cv;by_cases b1:1<=i/\i<=1099511627776
  ·rw[decide_eq_true b1]at h1;by_cases b2:1<=t/\t<=1099511627776
   ·rw[decide_eq_true b2]at h2;by_cases b3:1<=(n:Int)/\(n:Int)<=65536
    ·rw[decide_eq_true b3]at h3;have aF:=zH (show fe ⟨i,t,l⟩=true by rw[Cv.out];simp only[b1,b2,b3,and_self,decide_true]);replace b1:=zH b1;replace b2:=zH b2;replace b3:=zH b3;rcases cu with a|⟨a,a'⟩
     all_goals
      go_enter func37,ntmps37;go_wp2_with fail;rw[bV.out];try go_wp2_with fail
      refine h1.mono ?_;rintro e wA ⟨rfl,rfl⟩;go_wp2_with fail;refine h2.mono ?_;rintro e wB ⟨rfl,rfl⟩;go_wp2_with fail;refine h3.mono ?_;rintro e wC ⟨rfl,rfl⟩;go_wp2_with fail;go_ret;exact⟨by rw[aF.out];rfl,aI⟩
    ·rw[decide_eq_false b3]at h3;have aF:=zH (show fe ⟨i,t,l⟩=false by rw[Cv.out];simp only[b3,and_false,decide_false]);replace b1:=zH b1;replace b2:=zH b2;replace b3:=zH b3;rcases cu with a|⟨a,a'⟩
     all_goals
      go_enter func37,ntmps37;go_wp2_with fail;rw[bV.out];try go_wp2_with fail
      refine h1.mono ?_;rintro e wA ⟨rfl,rfl⟩;go_wp2_with fail;refine h2.mono ?_;rintro e wB ⟨rfl,rfl⟩;go_wp2_with fail;refine h3.mono ?_;rintro e wC ⟨rfl,rfl⟩;go_wp2_with fail;go_ret;exact⟨by rw[aF.out];rfl,aI⟩
   ·rw[decide_eq_false b2]at h2;have aF:=zH (show fe ⟨i,t,l⟩=false by rw[Cv.out];simp only[b2,false_and,and_false,decide_false]);replace b1:=zH b1;replace b2:=zH b2;rcases cu with a|⟨a,a'⟩
    all_goals
     go_enter func37,ntmps37;go_wp2_with fail;rw[bV.out];try go_wp2_with fail
     refine h1.mono ?_;rintro e wA ⟨rfl,rfl⟩;go_wp2_with fail;refine h2.mono ?_;rintro e wB ⟨rfl,rfl⟩;go_wp2_with fail;go_ret;exact⟨by rw[aF.out];rfl,aI⟩
  ·rw[decide_eq_false b1]at h1;have aF:=zH (show fe ⟨i,t,l⟩=false by rw[Cv.out];simp only[b1,false_and,decide_false]);replace b1:=zH b1;rcases cu with a|⟨a,a'⟩
   all_goals
    go_enter func37,ntmps37;go_wp2_with fail;rw[bV.out];try go_wp2_with fail
    refine h1.mono ?_;rintro e wA ⟨rfl,rfl⟩;go_wp2_with fail;go_ret;exact⟨by rw[aF.out];rfl,aI⟩
section
open Go.MapKept
def dD(k:Int)(l:List Wt):List Wt:=l.filter fun x=>decide (k<x.round)
def fh(k:Int)(l:List Wt):List (Int×Int):=(l.filter fun x=>decide (x.round<=k)).map Wt.rd
def Rf.tellAll(R:Rf)(k:Int)(l:List Wt):Rf:={R with out:={R.out with reads:=R.out.reads++fh k l}}
theorem xL(k:Int)(R:Rf):∀(l:List Wt) (s:Nat),(iO k l s=-1/\dD k l=l/\fh k l=[]/\eu R k l=R)\/
  ∃i x,iO k l s=((s+i:Nat):Int)/\l[i]?=some x/\x.round<=k/\dD k (l.take (i+1))=l.take i/\fh k (l.take (i+1))=[x.rd]/\eu R k l=R.tellRead x k:=by
 intro l;induction l with
 | nil=>intro s;exact .inl ⟨rfl,rfl,rfl,rfl⟩
 | cons y l ih=>
  intro s;by_cases hy:y.round<=k
  ·refine .inr ⟨0,y,?_,rfl,hy,?_,?_,?_⟩
   ·show(if y.round<=k then(s:Int)else _)=_;rw[if_pos hy];simp
   ·show dD k [y]=[];unfold dD;rw[List.filter_cons,if_neg (by simp;omega)];rfl
   ·show fh k [y]=[y.rd];unfold fh;rw[List.filter_cons,if_pos (by simp;exact hy)];rfl
   ·show(if y.round<=k then _ else _)=_;rw[if_pos hy]
  ·have e1:iO k (y::l) s=iO k l ((s+1:Nat):Int):=by
    show(if y.round<=k then(s:Int)else iO k l ((s:Int)+1))=_;rw[if_neg hy];simp
   have e2:eu R k (y::l)=eu R k l:=by
    show(if y.round<=k then _ else _)=_;rw[if_neg hy]
   have hr:∀m:List Wt,dD k (y::m)=y::dD k m:=fun m=>by
    unfold dD;rw[List.filter_cons,if_pos (by simp;omega)]
   have ht:∀m:List Wt,fh k (y::m)=fh k m:=fun m=>by
    unfold fh;rw[List.filter_cons,if_neg (by simp;omega)]
   rw[e1,e2];rcases ih (s+1)with⟨h1,h2,h3,h4⟩|⟨i,x,h1,h2,h3,h4,h5,h6⟩
   ·exact .inl ⟨h1,by rw[hr,h2],by rw[ht,h3],h4⟩
   ·refine .inr ⟨i+1,x,by rw[h1];congr 1;omega,h2,h3,?_,?_,h6⟩
    ·rw[List.take_succ_cons,hr,h4,List.take_succ_cons]
    ·rw[List.take_succ_cons,ht,h5]
theorem nM{k:Int}{l:List Wt}{j:Nat}{x:Wt}(h:l[j]?=some x):dD k (l.take (j+1))=dD k (l.take j)++if k<x.round then[x]else[]:=by
 unfold dD;rw[List.take_add_one,h,List.filter_append];congr 1;by_cases hx:k<x.round
 ·simp[hx]
 ·simp[hx]
theorem nl{k:Int}{l:List Wt}{j:Nat}{x:Wt}(h:l[j]?=some x):fh k (l.take (j+1))=fh k (l.take j)++if x.round<=k then[x.rd]else[]:=by
 unfold fh;rw[List.take_add_one,h,List.filter_append,List.map_append];congr 1;by_cases hx:x.round<=k
 ·simp[hx]
 ·simp[hx]
theorem uu(k:Int)(l:List Wt):(dD k l).length<=l.length:=List.length_filter_le _ _
def kN(aa:Nat->Nat)(b:Nat)(w:World)(g:Nat)(R':Rf)(v:Rw)(w':World):Prop:=
 ∃(ak:Nat->Nat) (v':Rw),ax ak b w' g R' v'/\v'.waits=v.waits/\(∀j,j<w.heap.size->ak j=aa j)/\Fr (fun j=>j=g\/aa j=b+11\/aa j=b+4) w w'
structure qq(R:Rf)(k:Int)(n j i:Nat)(W:List Wt):Prop where
 len:W.length=n
 jn:j<=n
 ij:i<j
 il:i=(dD k (R.waits.take j)).length
 tk:W.take i=dD k (R.waits.take j)
 dr:W.drop j=R.waits.drop j
def lI(R:Rf)(k:Int)(j:Nat)(W:List Wt):Rf:={R with waits:=W,out:={R.out with reads:=R.out.reads++fh k (R.waits.take j)}}
section
variable {aa:Nat->Nat}{b g:Nat}{w w1 w2:World}{R R1 R2:Rf}{v:Rw}
theorem kN.blk{T:TypeId}{cs:Array Value}{p:Nat}(h:kN aa b w g R2 v w1)(hg:p≠g)(hl:aa p≠b+11)(nG:aa p≠b+4)(hk:ar w p T cs):ar w1 p T cs:=by
 obtain⟨bu,v2,q1,q2,q3,q4⟩:=h;exact(q4.block p hk.lt fun hh=>by rcases hh with hh|hh|hh;exact hg hh;exact hl hh;exact nG hh).trans hk
theorem qq.skip{k:Int}{n j i:Nat}{W:List Wt}{x:Wt}(h:qq R k n j i W)(hj:j<n)(hx:R.waits[j]?=some x)(hr:x.round<=k):qq R k n (j+1) i W:=by
 have e:=nM (k:=k) hx;rw[if_neg (by omega),List.append_nil]at e;refine⟨h.len,hj,by have:=h.ij;omega,by rw[e];exact h.il,by rw[e];exact h.tk,?_⟩;have:=congrArg (List.drop 1) h.dr;rw[List.drop_drop,List.drop_drop]at this;exact this
theorem qq.put{k:Int}{n j i:Nat}{W:List Wt}{x:Wt}(h:qq R k n j i W)(hj:j<n)(hx:R.waits[j]?=some x)(hr:k<x.round):qq R k n (j+1) (i+1) (W.set i x):=by
 have e:=nM (k:=k) hx;rw[if_pos hr]at e;have Ju:=h.ij;have hl:=h.len;refine⟨by rw[List.length_set];exact hl,hj,by omega,by rw[e,List.length_append,<-h.il];rfl,?_,?_⟩
 ·rw[e,<-h.tk,List.take_set,List.take_add_one,List.getElem?_eq_getElem (by omega)];have ah:(W.take i).length=i:=by rw[List.length_take];omega
  rw[List.set_append_right _ _ (by omega),ah,Nat.sub_self];rfl
 ·rw[List.drop_set_of_lt (by omega)];have:=congrArg (List.drop 1) h.dr;rw[List.drop_drop,List.drop_drop]at this;exact this
end
end
section
open Go.MapKept
theorem Et:∀w,(zeroValue 167).run prog w=.ok (.agg #[.int .i64 0,.int .i64 0,.int .i64 0]) w:=fun _=>rfl
theorem DL(m:Nat):(Builtin.zeroCells (Value.agg #[.int .i64 0,.int .i64 0,.int .i64 0]).cells m).toList.length=m*3:=by
 simp[Builtin.zeroCells,Value.cells]
theorem D2(m:Nat):∀u∈(Builtin.zeroCells (Value.agg #[.int .i64 0,.int .i64 0,.int .i64 0]).cells m).toList,u.oneCell'=true:=fun u hu=>by
 obtain⟨i,hi,e⟩:=List.getElem_of_mem hu;rw[<-e];have h3:i%3=0\/i%3=1\/i%3=2:=by omega
 rcases h3 with h3|h3|h3 <;> simp[Builtin.zeroCells,Value.cells,h3] <;> rfl
def wS(aa:Nat->Nat)(b:Nat)(w:World)(g:Nat)(R:Rf)(k:Int)(v:Rw)(A:Option Addr)(c:Nat)(e:Ending)(w':World):Prop:=
 ∃(W:List Wt) (w'':World) (c':Nat),e=.returned (.slice A (dD k R.waits).length c')/\kN aa b w g {R with waits:=W,out:={R.out with reads:=R.out.reads++fh k R.waits}} v w''/\W.length=R.waits.length/\W.take (dD k R.waits).length=dD k R.waits/\c'=c/\
  (w'=w''\/∃q zs o,A=some ⟨q,0,none⟩/\(dD k R.waits).length*3<=o/\w'=w''.setCells q o zs)
section
variable {aa:Nat->Nat}{b g:Nat}{w:World}{R:Rf}{v:Rw}
theorem wl(k:Int)(p1 p2 n c:Nat)(A:Option Addr)(h:ax aa b w g R v)(cl:ar w p1 32 #[.pointer (some ⟨g,0,none⟩)])(eb:ar w p2 3 #[.int .i64 k])(cy:aa p1=b)(dM:aa p2=b)(AJ:R.out.reads.length<=80000)
  (hv:v.waits=.slice A n c) (hn:n=R.waits.length) (DY:n<=1000) :
  Calls prog 113 #[.slice A n c,.func (.func 114) #[] #[.pointer (some ⟨p2,0,none⟩),.pointer (some ⟨p1,0,none⟩)]] w fun e w'=>wS aa b w g R k v A c e w':=by
 have cQ:=h.s.lt;have Ms:p1≠g:=fun e=>by have:=h.sl;rw[<-e,cy]at this;omega
 have Mv:p2≠g:=fun e=>by have:=h.sl;rw[<-e,dM]at this;omega
 have tG:=Am k p1 p2 n c A h cl eb cy dM (by omega) hv hn DY;have QM:=xL k R R.waits 0;have CK:=h.q;rw[hv,<-hn]at CK;replace hn:=zH hn;rcases QM with⟨s1,s2,s3,s4⟩|⟨i,x,s1,s2,s3,s4,s5,s6⟩
 ·rw[show((0:Nat):Int)=0 from rfl]at s1;rw[s1,s4]at tG;clear h CK;go_enter func113,ntmps113;go_wp2_with fail;refine tG.mono ?_;rintro e w5 ⟨rfl,ag,v1,q1,q2,q3,q4⟩;have hD:wS aa b w g R k v A c (.returned (.slice A n c)) w5:=by
   refine⟨R.waits,w5,c,by rw[s2,<-hn.out],⟨ag,v1,?_,q2,q3,q4.mono fun j hj=>hj.elim .inl fun e=>.inr (.inl e)⟩,rfl,by rw[s2,List.take_length],rfl,.inl rfl⟩;rw[s3,List.append_nil];exact q1
  replace hD:=zH hD;clear tG q1 q4;go_wp2_with fail;go_ret;exact hD.out
 ·have xl:=(List.getElem?_eq_some_iff.1 s2).1;rw[<-hn.out]at xl;obtain⟨q,cq,Xz,nC,aD,CC⟩:∃q cq,Value.slice A n c=.slice (some ⟨q,0,none⟩) n cq/\aa q=b+4/\q<w.heap.size/\True:=by
   obtain⟨q,cq,e,_,h2,h3,_⟩:=CK.at_ (by omega);exact⟨q,cq,e,h2,h3,trivial⟩
  injection Xz with a1 a2 a3;subst a1;subst a3;rw[show((0:Nat):Int)=0 from rfl,Nat.zero_add]at s1;rw[s1,s6]at tG;clear h CK;go_enter func113,ntmps113;go_wp2_with fail;refine tG.mono ?_;rintro e w5 ⟨rfl,VJ⟩;clear tG;have Pj:R.tellRead x k=lI R k (i+1) R.waits:=by
   unfold Rf.tellRead lI;rw[if_pos s3,s5]
  have ri:qq R k n (i+1) i R.waits:=⟨hn.out.symm,xl,Nat.lt_succ_self _,by rw[s4,List.length_take];have:=hn.out;omega,s4.symm,rfl⟩;have VW:kN aa b w g (lI R k (i+1) R.waits) v w5:=by
   obtain⟨ag,v1,q1,q2,q3,q4⟩:=VJ;rw[Pj]at q1;exact⟨ag,v1,q1,q2,q3,q4.mono fun j hj=>hj.elim .inl fun e=>.inr (.inl e)⟩
  clear VJ Pj;go_wp2_with fail
  go_loopw [5,6] (fun si sj wr=>∃(j i:Nat) (W:List Wt),si=.int .i64 i/\sj=.int .i64 j/\qq R k n j i W/\kN aa b w g (lI R k j W) v wr) (fun _ sj _=>n-(intOf sj).toNat)
  case atStart=>exact⟨i+1,i,R.waits,rfl,by go_num,ri,VW⟩
  case round=>
   clear ri VW s1 s2 s3 s4 s5 s6 xl;obtain⟨j,i',W,rfl,rfl,ri,hQ⟩:=hrel;have xp:=ri.jn;have Ju:=ri.ij;by_cases aU:j<n
   ·obtain⟨x,hx⟩:∃x,R.waits[j]?=some x:=⟨_,List.getElem?_eq_getElem (by rw[<-hn.out];exact aU)⟩;have KV:W[j]?=some x:=by
     have e:=congrArg (fun l=>l[0]?) ri.dr;simp only[List.getElem?_drop,Nat.add_zero]at e;rw[e,hx]
    obtain⟨ag,v1,q1,q2,q3,q4⟩:=id hQ;have Mw:=ri.len;obtain⟨q',c',xz,NU,SC,AP,ee,MB⟩:=q1.q.at_ (by show 0<W.length;omega);rw[q2,hv]at xz;injection xz with a1 a2 a3;injection a1 with a1;injection a1 with a1;subst a1;subst a3;clear a2;have key:∀s u,s<3->(mT x)[s]?=some u->wr.cell? ⟨q,j*3+s,none⟩=some u:=fun s u hs hu=>ee _ _ ((eo (f:=mT) (k:=3) (fun _=>rfl) hs KV).trans hu)
    have m0:=key 0 _ (by omega) rfl;have m1:=key 1 _ (by omega) rfl;have m2:=key 2 _ (by omega) rfl;simp only[vi,Nat.add_zero]at m0 m1 m2;have aI:Below wr.heap.size wr (wr.alloc (.cells #[.int .i64 x.ctx,.int .i64 x.idx,.int .i64 x.round] 167)):=zb.alloc zl _;have gN:=ar.new wr 167 #[.int .i64 x.ctx,.int .i64 x.idx,.int .i64 x.round];obtain⟨wA,Bo⟩:=zN (wr.alloc (.cells #[.int .i64 x.ctx,.int .i64 x.idx,.int .i64 x.round] 167));rw[Bo]at aI gN;have LM:=hQ.blk Ms (by omega) (by omega) cl;have L8:=hQ.blk Mv (by omega) (by omega) eb;have hc:=pX x k p1 p2 (q1.fresh aI) (LM.kept aI) (L8.kept aI) ((ac LM.lt).trans ((q3 p1 cl.lt).trans cy)) ((ac L8.lt).trans ((q3 p2 eb.lt).trans dM)) (by show(R.out.reads++fh k (R.waits.take j)).length<=_;have e:(fh k (R.waits.take j)).length<=(R.waits.take j).length:=by {unfold fh;rw[List.length_map];exact List.length_filter_le _ _};rw[List.length_append];rw[List.length_take]at e;omega);obtain⟨y0,y1,y2,-⟩:=gN.cs [0,1,2];simp only[Zx]at y0 y1 y2;have YT:wr.heap.size<wA.heap.size:=gN.lt;have ZW:g<wr.heap.size:=q1.s.lt;have aP:=zH (show n-(j+1)<n-j by omega);have Uo:(lI R k j W).tellRead x k=if x.round<=k then lI R k (j+1) W else lI R k j W:=by
     unfold Rf.tellRead;by_cases hh:x.round<=k
     ·rw[if_pos hh,if_pos hh];unfold lI;rw[nl hx,if_pos hh,List.append_assoc]
     ·rw[if_neg hh,if_neg hh]
    have dh:∀w5 R5,hU (ai ag wr.heap.size b) b wA g R5 v1 w5->∃cV v5,ax cV b w5 g R5 v5/\v5.waits=v.waits/\(∀j,j<w.heap.size->cV j=aa j)/\Fr (fun j=>j=g\/aa j=b+11\/aa j=b+4) w w5/\ar w5 wr.heap.size 167 #[.int .i64 x.ctx,.int .i64 x.idx,.int .i64 x.round]:=fun w5 R5 hP=>by
     have Lg:=hP.blk (by omega) (by rw[ay zl];omega) gN;obtain⟨cV,v5,t1,t2,t3,t4⟩:=hP;have hsA:=aI.size;have Og:=q4.size;refine⟨cV,v5,t1,t2.trans q2,fun j hj=>(t3 j (by omega)).trans ((ac (by omega)).trans (q3 j hj)),(q4.trans (Fr.of_below (X:=fun j=>j=g\/ag j=b+11\/ag j=b+4) aI) fun j hj=>?_).trans t4 fun j hj=>?_,Lg⟩
     ·rcases Nat.lt_or_ge j w.heap.size with hl|hl
      ·rw[q3 j hl]at hj;exact .inl hj
      ·exact .inr hl
     ·rcases Nat.lt_or_ge j w.heap.size with hl|hl
      ·rw[ac (by omega),q3 j hl]at hj;exact .inl (hj.elim .inl fun e=>.inr (.inl e))
      ·exact .inr hl
    replace Bo:=zH Bo;replace dh:=zH dh;clear key ee LM L8 MB q1 hQ;go_wp2_with fail;rw[Bo.out];try go_wp2_with fail
    refine hc.mono ?_;rintro e w5 ⟨rfl,nu⟩;rw[Uo]at nu;clear hc;by_cases fo:x.round<=k
    ·rw[if_pos fo]at nu;obtain⟨cV,v5,t1,t2,t3,t4,t5⟩:=dh.out _ _ nu;have pV:=ri.skip aU hx fo;have hd:decide (x.round<=k)=true:=decide_eq_true fo;have Oe:kN aa b w g (lI R k (j+1) W) v w5:=⟨cV,v5,t1,t2,t3,t4⟩;clear t1 t4 t5 nu Uo;go_wp2_with fail;refine⟨?_,by simp[intOf];exact aP.out⟩;repeat apply Exists.intro
     repeat apply Exists.intro
     repeat apply Exists.intro
     repeat apply Exists.intro
     refine⟨?_,rfl⟩;exact⟨j+1,i',W,rfl,by go_num,pV,Oe⟩
    ·rw[if_neg fo]at nu;obtain⟨cV,v5,t1,t2,t3,t4,t5⟩:=dh.out _ _ nu;replace fo:=Int.not_le.1 fo;have pV:=ri.put aU hx fo;have hd:decide (x.round<=k)=false:=decide_eq_false (by omega);have ZJ:i'<(lI R k j W).waits.length:=by show i'<W.length;omega
     obtain⟨u1,u2,u3⟩:=t1.setWait x ZJ (t2.trans hv) (by show n=W.length;omega);have Oe:kN aa b w g (lI R k j (W.set i' x)) v (yF w5 q i' x):=by
      refine⟨cV,v5,u1,t2,t3,t4.trans u2 fun j hj=>?_⟩;rcases Nat.lt_or_ge j w.heap.size with hl|hl
      ·rw[hj]at hl ⊢;rw[t3 q hl]at u3;exact .inl (.inr (.inr u3))
      ·exact .inr hl
     have Zh:lI R k j (W.set i' x)=lI R k (j+1) (W.set i' x):=by
      unfold lI;rw[nl hx,if_neg (by omega),List.append_nil]
     rw[Zh]at Oe;obtain⟨q5,c5,cA,_,_,Y6,HW,Jb⟩:=t1.q.at_ (by omega);rw[t2,hv]at cA;injection cA with b1 b2 b3;injection b1 with b1;injection b1 with b1;subst b1;clear b2 b3;obtain⟨y',Ya⟩:∃y',W[i']?=some y':=⟨_,List.getElem?_eq_getElem (by omega)⟩;have key5:∀s u,s<3->(mT y')[s]?=some u->w5.cell? ⟨q,i' * 3+s,none⟩=some u:=fun s u hs hu=>HW _ _ ((eo (f:=mT) (k:=3) (fun _=>rfl) hs Ya).trans hu)
     have n0:=key5 0 _ (by omega) rfl;have n1:=key5 1 _ (by omega) rfl;have n2:=key5 2 _ (by omega) rfl;simp only[vi,Nat.add_zero]at n0 n1 n2;have f0:=Jb (i' * 3);have f1:=Jb (i' * 3+1);have f2:=Jb (i' * 3+2);obtain⟨z0,z1,z2,-⟩:=t5.cs [0,1,2];simp only[Zx]at z0 z1 z2;replace Oe:=zH Oe;clear t1 t4 t5 nu Uo u1 u2 key5 HW Jb;go_wp2_with fail;refine⟨?_,by simp[intOf];exact aP.out⟩;repeat apply Exists.intro
     repeat apply Exists.intro
     repeat apply Exists.intro
     repeat apply Exists.intro
     refine⟨?_,rfl⟩;exact⟨j+1,i'+1,W.set i' x,by go_num,by go_num,pV,Oe.out⟩
   ·obtain rfl:n=j:=by omega
    have cf:R.waits.take n=R.waits:=by rw[hn.out];exact List.take_length
    have xl:=ri.il;have Pt:=ri.tk;have Mw:=ri.len;rw[cf]at xl Pt;obtain⟨ag,v1,q1,q2,q3,q4⟩:=id hQ;obtain⟨q',c',xz,NU,SC,AP,ee,MB⟩:=q1.q.at_ (by show 0<W.length;omega);rw[q2,hv]at xz;injection xz with a1 a2 a3;injection a1 with a1;injection a1 with a1;subst a1;subst a3;clear a2;have S4:n<=c:=by have e:(lI R k n W).waits.length=n:=Mw;rw[e]at NU;exact NU
    replace xl:=zH xl;replace cf:=zH cf;clear q1;go_wp2_with fail;have Pc:c≠i':=by omega
    have UC:(W.flatMap mT).length=W.length*3:=fv (f:=mT) (k:=3) (fun _=>rfl) W;rw[mY wr 98 167 0 _ underlying98 Et (fun u hu=>by simp[Value.cells]at hu;rcases hu with rfl|rfl|rfl <;> rfl) q (i' * 3) (n-i') (c-i') (by omega) (fun s hs=>by
      rw[DL]at hs;have aU:i' * 3+s<(W.flatMap mT).length:=by rw[UC,Mw];omega
      rw[ee (i' * 3+s) _ (List.getElem?_eq_getElem aU)];rfl) (fun s _=>MB _) (D2 _)]
    have hD:wS aa b w g R k v (some ⟨q,0,none⟩) c (.returned (.slice (some ⟨q,0,none⟩) i' c)) (wr.setCells q (i' * 3) (Builtin.zeroCells (Value.agg #[.int .i64 0,.int .i64 0,.int .i64 0]).cells (n-i')).toList):=by
     refine⟨W,wr,c,by rw[<-xl.out],?_,by rw[Mw,hn.out],by rw[<-xl.out];exact Pt,rfl,.inr ⟨q,_,_,rfl,by rw[<-xl.out];exact Nat.le_refl _,rfl⟩⟩;have e:lI R k n W={R with waits:=W,out:={R.out with reads:=R.out.reads++fh k R.waits}}:=by unfold lI;rw[cf.out]
     rw[e]at hQ;exact hQ
    replace hD:=zH hD;clear hQ ee;go_wp2_with fail;go_ret;exact hD.out
end
end
section
open Go.MapKept
theorem sU:∀(W:List Wt) (m:Nat),(W.flatMap mT).take (m*3)=(W.take m).flatMap mT
 | _,0=>by simp
 | [],m+1=>by simp
 | x::W,m+1=>by
  rw[List.flatMap_cons,List.take_succ_cons,List.flatMap_cons,<-sU W m,show(m+1)*3=3+m*3 by omega,List.take_append];rw[List.take_of_length_le (show(mT x).length<=3+m*3 by show 3<=_;omega)];congr 2;show 3+m*3-3=m*3;omega
def Dc(p1 p2:Addr)(u1 u2:Value):Type:={W:World // W.cell? p1=some u1/\W.cell? p2=some u2}
def FB(p1 p2:Addr)(u1 u2:Value):World->Prop:=fun W=>∃x:Dc p1 p2 u1 u2,W=x.1
attribute [go_sem] FB
theorem tc{p1 p2:Addr}{u1 u2:Value}{W:World}(h1:W.cell? p1=some u1)(h2:W.cell? p2=some u2):FB p1 p2 u1 u2 W:=⟨⟨W,h1,h2⟩,rfl⟩
section
variable {aa:Nat->Nat}{b g:Nat}{w:World}{R:Rf}{v:Rw}
theorem GO(R:Rf):R.reads={R with waits:=dD R.readsTo R.waits,out:={R.out with reads:=R.out.reads++fh R.readsTo R.waits}}:=rfl
theorem un{K M:Nat}(h:ax aa b w g R v)(hk:Ok K M R)(hr:R.role=3)(hM:M<=80000) :
  Calls prog 61 #[.pointer (some ⟨g,0,none⟩)] w fun e w'=>e=.returned (.tuple #[])/\ao aa b w g R.reads w':=by
 have cQ:=h.s.lt;have mx:=(hk.ld hr).1;have qk:=hk.id.2.2;have aI:Below w.heap.size w (w.alloc (.cells #[.pointer (some ⟨g,0,none⟩)] 32)):=zb.alloc zl _;have bN:=ar.new w 32 #[.pointer (some ⟨g,0,none⟩)];obtain⟨w1,bV⟩:=zN (w.alloc (.cells #[.pointer (some ⟨g,0,none⟩)] 32));rw[bV]at aI bN;have h1:=h.below aI;have y0:=bN.cell 0;simp only[Zx]at y0;obtain⟨c1,c5,-⟩:=h1.s.cs [1,5];simp only[bE,vi,Zx]at c1 c5;have iQ:g<w1.heap.size:=h1.s.lt;obtain⟨k0,k1,k5⟩:=sD [g,w.heap.size] y0 c1 c5;have cT:∀q∈[g,w.heap.size],q<w1.heap.size:=by simp;exact⟨iQ,bN.lt⟩
 obtain⟨kk,CW⟩:=zN (R.readsTo);have Dw:=zH (show ∀W,Below w1.heap.size w1 W->_ from fun W hb=>rA R.round (h1.below hb) mx qk);replace bV:=zH bV;have hH:=zH h;clear h;go_enter func61,ntmps61;go_wp2_with fail;rw[bV.out]
 go_cut [2] (fun s2 wr=>∃p2:Nat,s2=.pointer (some ⟨p2,0,none⟩)/\Below w.heap.size w wr/\ar wr w.heap.size 32 #[.pointer (some ⟨g,0,none⟩)]/\ar wr p2 3 #[.int .i64 kk]/\w.heap.size<p2)
 case first=>
  refine Q6 [g,w.heap.size] w1 (.two [0,1,2,3,4,5,6,7,8,9] 10 12 (.two [] 11 12 (.one [] 12 (.one [] 13 (.last []))) (.one [] 11 (.one [] 13 (.last [])))) (.one [] 10 (.one [] 11 (.one [] 13 (.last []))))) ?_;have rl:w.heap.size<w1.heap.size:=bN.lt;refine ir fun K1 K2 ct ge=>?_
  simp only[af,Zx];repeat go_big_quiet_step(fail)
  apply wpQuiet_nil;constructor
  ·go_wp2_with fail;refine(Dw.out _ (zb.drew)).mono ?_;rintro e w2 ⟨A2,c2,rfl,cv,bJ⟩;go_wp2_with fail;have bR:Below w1.heap.size w1 w2:=(zb.drew).trans bJ;refine⟨aq cT bR,ct _ _ ?_⟩;have gJ:=ky (R.n:Int) A2 R.n c2 _ w2 (fB.of_own cv);rw[show eO R.n (R.matchL R.round Pr.round)=kk from CW]at gJ;refine ir fun K3 K4 jx tj=>?_
   simp only[af,Zx];repeat go_big_quiet_step(fail)
   apply wpQuiet_nil;constructor
   ·go_wp2_with fail;refine gJ.mono ?_;rintro e w3 ⟨rfl,bS⟩;clear gJ;go_wp2_with fail;have gr:=ab bR bS zl;refine⟨aq cT gr,jx _ _ ?_⟩;refine bD fun K5 wR=>?_
    simp only[af,Zx];apply wpQuiet_nil;go_wp2_with fail;have kh:Below w3.heap.size w3 (w3.alloc (.cells #[.int .i64 0] 3)):=zb.alloc zl _;have gV:=ab gr kh zl;have P8:=ar.new w3 3 #[.int .i64 0];have mJ:=gr.size;refine⟨aq cT gV,wR _ _ ?_⟩;generalize eL:w3.alloc (.cells #[.int .i64 0] 3)=w4 at *;have ja:ar w4 (w3.heap.size) 3 #[.int .i64 0]:=P8;have eE:Below w.heap.size w w4:=ab aI gV zl;have jr:=bN.kept gV;have z0:=ja.cell 0;simp only[Zx]at z0;have f0:=ja.free 0;have J4:=ja.lt;refine bD fun K6 rS=>?_
    simp only[af,Zx];apply wpQuiet_nil;go_wp2_with fail;refine⟨ic (aq cT gV) (fun q hq=>by have:=cT q hq;omega) (fun q hq=>Nat.lt_of_lt_of_le (cT q hq) gV.size),rS _ _ ?_⟩;refine dz ?_;simp only[af];apply wpQuiet_nil;go_wp2_with fail
    go_meet
    exact⟨_,rfl,eE.setCell (by dsimp only;omega) _,((Fr.set (w3.heap.size) 0 _).block w.heap.size jr.lt (by omega)).trans jr,by simpa using ja.set_ 0 (.int .i64 kk),by omega⟩
   ·go_wp2_with fail;have kh:Below w2.heap.size w2 (w2.alloc (.cells #[.int .i64 0] 3)):=zb.alloc zl _;have gr:=ab bR kh zl;have P8:=ar.new w2 3 #[.int .i64 0];have mJ:=bR.size;refine⟨aq cT gr,tj _ _ ?_⟩;have gJ:=ky (R.n:Int) A2 R.n c2 _ (w2.alloc (.cells #[.int .i64 0] 3)) (fB.of_own (bf cv kh));rw[show eO R.n (R.matchL R.round Pr.round)=kk from CW]at gJ;generalize iU:w2.alloc (.cells #[.int .i64 0] 3)=w3 at *;refine bD fun K5 wR=>?_
    simp only[af,Zx];apply wpQuiet_nil;go_wp2_with fail;refine gJ.mono ?_;rintro e w4 ⟨rfl,cz⟩;clear gJ;go_wp2_with fail;have gV:=ab gr cz zl;have No:=P8.kept cz;refine⟨aq cT gV,wR _ _ ?_⟩;have ja:ar w4 (w2.heap.size) 3 #[.int .i64 0]:=No;have eE:Below w.heap.size w w4:=ab aI gV zl;have jr:=bN.kept gV;have z0:=ja.cell 0;simp only[Zx]at z0;have f0:=ja.free 0;have J4:=ja.lt;refine bD fun K6 rS=>?_
    simp only[af,Zx];apply wpQuiet_nil;go_wp2_with fail;refine⟨ic (aq cT gV) (fun q hq=>by have:=cT q hq;omega) (fun q hq=>Nat.lt_of_lt_of_le (cT q hq) gV.size),rS _ _ ?_⟩;refine dz ?_;simp only[af];apply wpQuiet_nil;go_wp2_with fail
    go_meet
    exact⟨_,rfl,eE.setCell (by dsimp only;omega) _,((Fr.set (w2.heap.size) 0 _).block w.heap.size jr.lt (by omega)).trans jr,by simpa using ja.set_ 0 (.int .i64 kk),by omega⟩
  ·go_wp2_with fail;have kh:Below w1.heap.size w1 ((w1.alloc (.cells #[.int .i64 0] 3)).drew):=((Below.refl w1.heap.size w1).alloc zl _).drew;have P8:ar ((w1.alloc (.cells #[.int .i64 0] 3)).drew) w1.heap.size 3 #[.int .i64 0]:=ar.new w1 3 #[.int .i64 0];refine⟨aq cT kh,ge _ _ ?_⟩;have ui:=Dw.out _ kh;generalize cw:(w1.alloc (.cells #[.int .i64 0] 3)).drew=w2 at *;refine bD fun K3 jx=>?_
   simp only[af,Zx];apply wpQuiet_nil;go_wp2_with fail;refine ui.mono ?_;rintro e w3 ⟨A2,c2,rfl,cv,bS⟩;clear ui;go_wp2_with fail;have gr:=ab kh bS zl;refine⟨aq cT gr,jx _ _ ?_⟩;have gJ:=ky (R.n:Int) A2 R.n c2 _ w3 (fB.of_own cv);rw[show eO R.n (R.matchL R.round Pr.round)=kk from CW]at gJ;refine bD fun K5 wR=>?_
   simp only[af,Zx];apply wpQuiet_nil;go_wp2_with fail;refine gJ.mono ?_;rintro e w4 ⟨rfl,cz⟩;clear gJ;go_wp2_with fail;have gV:=ab gr cz zl;have No:=(P8.kept bS).kept cz;have mJ:w1.heap.size<=w1.heap.size:=Nat.le_refl _;refine⟨aq cT gV,wR _ _ ?_⟩;have ja:ar w4 (w1.heap.size) 3 #[.int .i64 0]:=No;have eE:Below w.heap.size w w4:=ab aI gV zl;have jr:=bN.kept gV;have z0:=ja.cell 0;simp only[Zx]at z0;have f0:=ja.free 0;have J4:=ja.lt;refine bD fun K6 rS=>?_
   simp only[af,Zx];apply wpQuiet_nil;go_wp2_with fail;refine⟨ic (aq cT gV) (fun q hq=>by have:=cT q hq;omega) (fun q hq=>Nat.lt_of_lt_of_le (cT q hq) gV.size),rS _ _ ?_⟩;refine dz ?_;simp only[af];apply wpQuiet_nil;go_wp2_with fail
   go_meet
   exact⟨_,rfl,eE.setCell (by dsimp only;omega) _,((Fr.set (w1.heap.size) 0 _).block w.heap.size jr.lt (by omega)).trans jr,by simpa using ja.set_ 0 (.int .i64 kk),by omega⟩
 case rest=>
  obtain⟨p2,rfl,oo,rH,nr,ZR⟩:=hcut
  rename World=>wc
  clear y0 c1 c5 k0 k1 k5 cT Dw iQ bN aI h1;have hc:=hH.out.fresh oo;obtain⟨A,c,hv,_⟩:=id hc.q;obtain⟨n,hn⟩:=zN (R.waits.length);rw[hn]at hv;have fO:=hk.ws;rw[hn]at fO;have d2:wc.cell? ⟨g,2,none⟩=some (.slice A n c):=by
   have:=hc.s.cell 2;simp only[bE,Zx]at this;rw[this,hv]
  have jA:wc.cell? ⟨w.heap.size,0,none⟩=some (.pointer (some ⟨g,0,none⟩)):=by
   have:=rH.cell 0;simp only[List.getElem?_toArray,List.getElem?_cons_zero]at this;exact this
  have Wm:g<wc.heap.size:=hc.s.lt;have GF:=wl kk w.heap.size p2 n c A (hc.below (w':=wc.drew) (zb.drew)) rH nr (ay zl) (ay (Nat.le_of_lt ZR)) (by have:=hk.rs;omega) hv hn.symm (by omega);have fV:Nonempty (Dc ⟨g,2,none⟩ ⟨w.heap.size,0,none⟩ (.slice A n c) (.pointer (some ⟨g,0,none⟩))):=⟨⟨wc,d2,jA⟩⟩;have q1:∀x:Dc ⟨g,2,none⟩ ⟨w.heap.size,0,none⟩ (.slice A n c) (.pointer (some ⟨g,0,none⟩)),x.1.cell? ⟨g,2,none⟩=some (.slice A n c):=fun x=>x.2.1
  have q2:∀x:Dc ⟨g,2,none⟩ ⟨w.heap.size,0,none⟩ (.slice A n c) (.pointer (some ⟨g,0,none⟩)),x.1.cell? ⟨w.heap.size,0,none⟩=some (.pointer (some ⟨g,0,none⟩)):=fun x=>x.2.2
  replace hn:=zH hn;go_wp2_with fail;refine bT (C:=FB ⟨g,2,none⟩ ⟨w.heap.size,0,none⟩ (.slice A n c) (.pointer (some ⟨g,0,none⟩))) [([0,1,2,3,4,5],6),([],7)] ([8,9,10],11) (by kernel_rfl) (by kernel_rfl) (fun _ _ _ _ e h=>⟨e.symm.trans h.1,h.2⟩) (tc d2 jA) ?_;refine ap fun K7 Xs=>?_
  simp only[af,Zx];repeat go_big_quiet_step(fail)
  apply wpQuiet_nil;go_wp2_with fail;refine⟨tc (W:=wc.drew) d2 jA,Xs _ _ ?_⟩;refine ap fun K8 zA=>?_
  simp only[af,Zx];apply wpQuiet_nil;go_wp2_with fail;refine GF.mono ?_;rintro e w6 ⟨W,w5,c',rfl,⟨cV,v5,h5,e5,l5,F5⟩,Mw,UH,rfl,hw⟩;obtain⟨m,hm⟩:=zN ((dD kk R.waits).length);rw[hm]at UH hw;obtain⟨A0,c0,e0,dm,oA⟩:=id h5.q;have jp:g<w5.heap.size:=h5.s.lt;have Mn:ar w5 w.heap.size 32 #[.pointer (some ⟨g,0,none⟩)]:=(F5.block w.heap.size rH.lt fun hh=>by
   rw[ay zl]at hh;omega).trans rH
  have cA:v5.waits=.slice A n c':=e5.trans hv;have Z6:W.length=n:=Mw.trans hn.out;have Oo:m<=n:=by rw[<-hm,<-hn.out];exact uu _ _
  rw[cA]at e0;injection e0 with a1 a2 a3;subst a1;subst a3;have Jx:Fr (fun j=>cV j=b+4) w5 w6:=by
   rcases hw with rfl|⟨q,zs,o,hA,_,rfl⟩
   ·exact Fr.refl _ _
   ·exact(qf q zs o w5).mono fun j e=>by rw[e];exact oA q ⟨_,hA,rfl⟩
  have Qx:cV g≠b+4:=by have:=h5.sl;omega
  have SL:cV w.heap.size≠b+4:=by rw[l5 w.heap.size rH.lt,ay zl];omega
  have iS:ar w6 g 107 (bE {R with waits:=W,out:={R.out with reads:=R.out.reads++fh kk R.waits}} v5):=(Jx.block g jp Qx).trans h5.s;have E8:ar w6 w.heap.size 32 #[.pointer (some ⟨g,0,none⟩)]:=(Jx.block w.heap.size Mn.lt SL).trans Mn;have d6:w6.cell? ⟨g,2,none⟩=some (.slice A n c'):=by
   have:=iS.cell 2;simp only[bE,Zx]at this;rw[this,cA]
  have b6:w6.cell? ⟨w.heap.size,0,none⟩=some (.pointer (some ⟨g,0,none⟩)):=by
   have:=E8.cell 0;simp only[List.getElem?_toArray,List.getElem?_cons_zero]at this;exact this
  have f6:=iS.free 2;have kS:=iS.lt;have aF:ao aa b w g R.reads (w6.setCell ⟨g,2,none⟩ (.slice A m c')):=by
   have eQ:=Fr.set (w:=w6) g 2 (.slice A m c');have Dp:=iS.set_ 2 (.slice A m c');simp only[bE,Zy]at Dp;have Q9:Fr (fun j=>j=g\/∃i,i∈[4]/\cV j=b+i) w5 (w6.setCell ⟨g,2,none⟩ (.slice A m c')):=(Jx.mono (X':=fun j=>j=g\/∃i,i∈[4]/\cV j=b+i) fun j e=>.inr ⟨4,by simp,e⟩).trans eQ fun j e=>.inl (.inl e)
   have h7:ax cV b (w6.setCell ⟨g,2,none⟩ (.slice A m c')) g R.reads {v5 with waits:=.slice A m c'}:=by
    rw[GO,CW];refine h5.turn [4] Dp (fun _ _ _ _ _ _ e=>e) (by simp) Q9 tI tI (.inl ?_) tI tI tI tI tI tI tI tI;show bQ cV (b+4) _ _ 3 (.slice A m c') (dD kk R.waits).length ((dD kk R.waits).flatMap mT);rw[hm];rcases dm.2 with⟨e1,e2⟩|⟨q,cap,cur,e1,_⟩
    ·injection e1 with b1 _ b3;subst b1;subst b3;have MX:m=0:=by have e2:W.length=0:=e2;omega
     have Zo:dD kk R.waits=[]:=List.eq_nil_of_length_eq_zero (by rw[hm,MX]);rw[Zo,MX];exact bQ.nil _ _ _ _ _
    ·injection e1 with b1 _ _;subst b1;have ht:=uE dm (k:=m) (show m<=W.length by omega);have XU:(W.flatMap mT).take (m*3)=(dD kk R.waits).flatMap mT:=by
      rw[<-UH];exact sU W m
     change w5.ownsRow 0 _ 3 (.slice (some ⟨q,0,none⟩) m c') m ((W.flatMap mT).take (m*3))at ht;rw[XU]at ht;have h6:w6.ownsRow 0 167 3 (.slice (some ⟨q,0,none⟩) m c') m ((dD kk R.waits).flatMap mT):=by
      rcases hw with rfl|⟨q',zs,o,hA,ho,rfl⟩
      ·exact ht
      ·injection hA with hA;injection hA with hA;subst hA;exact gW zs o w5 ho ht
     refine⟨some ⟨q,0,none⟩,c',rfl,cH h6 fun j hj hl=>eQ.block j hl fun e=>?_,oA⟩;have:=oA j hj;rw[e]at this;exact Qx this
   have nu:ao cV b w5 g R.reads (w6.setCell ⟨g,2,none⟩ (.slice A m c')):=⟨cV,_,h7,fun _ _ _=>rfl,fun _ _ h=>h,Q9.mono fun j hj=>by
    rcases hj with rfl|⟨i,hi,e⟩
    ·have:=h5.sl;exact⟨by omega,by omega⟩
    ·have:i=4:=by simpa using hi
     exact⟨by omega,by omega⟩⟩
   have Kf:ao (ai aa w.heap.size b) b wc.drew g R.reads (w6.setCell ⟨g,2,none⟩ (.slice A m c')):=nu.next (fun j hj _=>l5 j hj) (fun j hj hx=>by unfold aN at hx ⊢;rw[l5 j hj];exact hx) (F5.mono fun j hj=>by
    have:=hc.sl;rcases hj with rfl|hj|hj
    ·exact⟨by omega,by omega⟩
    ·exact⟨by omega,by omega⟩
    ·exact⟨by omega,by omega⟩)
   exact(Kf.behind (w:=wc) (zb.drew)).fresh oo
  replace aF:=zH aF;clear GF h5 e5 l5 F5 UH hw dm oA Jx iS E8 Mn a2;go_wp2_with fail;refine⟨tc d6 b6,zA _ _ ?_⟩;refine aC ?_;simp only[af,Zx];repeat go_big_quiet_step(fail)
  apply wpQuiet_nil;go_wp2_with fail;exact al rfl rfl ⟨rfl,aF.out⟩
end
end
section
variable {K M:Nat}{R:Rf}
theorem Ok.turn_out(h:Ok K M R){R':Rf}(e1:R'.id=R.id)(e2:R'.n=R.n)(e3:R'.hard.term=R.hard.term)(e4:R'.track=R.track)(e5:R'.commit=R.commit)(e6:R'.snap=R.snap)(e7:R'.gath=R.gath)(e8:R'.waits=R.waits)(e9:R'.yes=R.yes)(e10:R'.role=R.role)(e11:R'.peers=R.peers)
  (hc:0<=R'.clock/\R'.clock<=K/\0<=R'.round/\R'.round<=K) (h1:R'.out.msgs=R.out.msgs) (h2:R'.out.entries=R.out.entries) (h3:R'.out.commits=R.out.commits) (h4:R'.out.reads=R.out.reads):Ok K M R' where
 id:=by rw[e1,e2];exact h.id
 tm:=by rw[e3];exact h.tm
 tr:=by rw[e4];exact h.tr
 cm:=by rw[e5];exact h.cm
 dat:=by rw[e6];exact h.dat
 dat0:=by rw[e4,e6];exact h.dat0
 gat:=by rw[e7];exact h.gat
 trk:=by rw[e4];exact h.trk
 ws:=by rw[e8];exact h.ws
 yl:=by rw[e9];exact h.yl
 ck:=hc
 ms:=by rw[h1];exact h.ms
 es:=by rw[h2];exact h.es
 cs:=by rw[h3];exact h.cs
 rs:=by rw[h4];exact h.rs
 ys:=by rw[e10,e9];exact h.ys
 ld:=by rw[e10,e11,e2,e6];exact h.ld
theorem Ok.asked(h:Ok K M R)(m:Mg):Ok K (M+1) (R.asked m):=by
 unfold Rf.asked;split
 ·exact h.send _
 ·exact h.send _
theorem Ok.votes(h:Ok K M R)(m:Mg):Ok K (M+1) (R.votes m):=by
 unfold Rf.votes;split
 ·refine Ok.send ?_ _;exact h.turn_out rfl rfl rfl rfl rfl rfl rfl rfl rfl rfl rfl ⟨Int.le_refl 0,Int.natCast_nonneg _,h.ck.2.2.1,h.ck.2.2.2⟩ rfl rfl rfl rfl
 ·exact h.send _
theorem Ok.follows(h:Ok K M R){t:Int}(h0:0<=t)(h1:t<=1099511627776):Ok K M (R.follows t):=
 {h with
  tm:=⟨h0,h1⟩
  ws:=Nat.zero_le _
  ys:=fun e=>by rcases e with e|e <;> cases e
  ld:=fun e=>by cases e}
theorem Ok.trackTo(h:Ok K M R){t:bB}{K':Nat}(hK:K<=K')(hi:t.Inv)(hx:t.index=R.track.index)(hl:t.L.length<=K'):Ok K' M {R with track:=t}:=
 {h.mono hK (Nat.le_refl M)with
  tr:=hi
  dat0:=fun e=>h.dat0 (by have e:0<t.index:=e;rw[hx]at e;exact e)
  trk:=hl}
theorem Ok.appends(h:Ok K M R){m:Mg}(he:m.entries.length<=6)(hc:m.commit<=1099511627776):Ok (K+6) (M+K+20) (R.appends m):=by
 unfold Rf.appends;split
 ·exact(h.send _).mono (by omega) (by omega)
 ·simp only;split
  ·exact(h.send _).mono (by omega) (by omega)
  ·have hf:=eJ R.track m.idx m.logTerm m.entries;have h1:Ok (K+6) M {R with track:=(R.track.takeF m.idx m.logTerm m.entries).2}:=h.trackTo (by omega) (h.tr.takeF _ _ _) hf.1 (by have:=hf.2.1;have:=h.trk;omega);have h2:Ok (K+6) (M+6) (if 0<(R.track.takeF m.idx m.logTerm m.entries).1.1 then({R with track:=(R.track.takeF m.idx m.logTerm m.entries).2}:Rf).save ((R.track.takeF m.idx m.logTerm m.entries).2.sliceF (R.track.takeF m.idx m.logTerm m.entries).1.1 m.entries.length)else {R with track:=(R.track.takeF m.idx m.logTerm m.entries).2}):=by
    split
    ·refine(h1.save _).mono zl ?_;have:((R.track.takeF m.idx m.logTerm m.entries).2.sliceF (R.track.takeF m.idx m.logTerm m.entries).1.1 m.entries.length).length<=m.entries.length:=by
      unfold bB.sliceF;split
      ·exact Nat.zero_le _
      ·rw[List.length_take];omega
     omega
    ·exact h1.mono zl (by omega)
   exact((h2.commits (k:=min m.commit (m.idx+m.entries.length)) (by omega)).send _).mono zl (by omega)
theorem Ok.install(h:Ok K M R)(hr:R.role≠3){x:uw}(hi:1<=x.idx/\x.idx<=1099511627776)(ht:1<=x.term/\x.term<=1099511627776)(hd:0<x.data.length/\x.data.length<=65536):Ok K M (R.install x):=by
 have key:∀(t:bB) (rs:Bool),t.Inv->t.L.length<=K->Ok K M (ts {R with track:=t,out:={R.out with reset:=rs}} x):=fun t rs h1 h2=>
  {h with
   tr:=h1
   cm:=⟨by show 0<=x.idx;omega,hi.2⟩
   dat:=hd.2
   dat0:=fun _=>hd.1
   gat:=Nat.zero_le _
   trk:=h2
   ld:=fun e=>absurd e hr}
 rw[ny];split
 ·exact key (R.track.dropF x.idx).2 R.out.reset (h.tr.dropF _) (by
   have:=h.trk;unfold bB.dropF;split
   ·exact this
   ·split
    ·exact this
    ·show(R.track.L.drop _).length<=K;rw[List.length_drop];omega)
 ·exact key ⟨x.idx,x.term,[]⟩ true ⟨.inr ⟨hi.1,hi.2,ht.1,ht.2⟩,fun i y hy=>by(simp at hy),fun y hy=>by(simp at hy),fun i y hy=>by(simp at hy)⟩ zz
theorem Ok.piece(h:Ok K M R)(hr:R.role≠3){m:Mg}(hi:0<=m.idx/\m.idx<=1099511627776)(ht:0<=m.logTerm/\m.logTerm<=1099511627776):Ok K (M+1) (R.piece m):=by
 unfold Rf.piece;by_cases hc:m.idx=0\/m.logTerm=0\/¬(1<=m.total/\m.total<=65536)
 ·rw[if_pos hc];exact h.mono zl (Nat.le_succ M)
 ·rw[if_neg hc];split
  ·exact h.send _
  ·have hT:1<=m.total/\m.total<=65536:=by
    by_cases hh:1<=m.total/\m.total<=65536
    ·exact hh
    ·exact absurd (.inr (.inr hh)) hc
   have hg:Ok K M ({R with gath:=R.gath1 m}:Rf):={h with gat:=pB h.gat hT.2};simp only;split
   ·exact hg.send _
   ·rename_i hl;refine Ok.send ?_ _;have h1:m.idx≠0:=fun e=>hc (.inl e)
    have h2:m.logTerm≠0:=fun e=>hc (.inr (.inl e))
    exact hg.install hr ⟨by show 1<=m.idx;omega,hi.2⟩ ⟨by show 1<=m.logTerm;omega,ht.2⟩ ⟨by show 0<(R.gath1 m).data.length;omega,pB h.gat hT.2⟩
theorem Ok.answered(h:Ok K M R)(hr:R.role=3){m:Mg}{s:Nat}(hf:m.frm=(s:Int))(hs:s<=R.n)(hi:0<=m.idx/\m.idx<=1099511627776)(ho:0<=m.offset):Ok K (M+K+1) (R.answered m):=by
 obtain⟨h1,h2,h3,h4⟩:=h.peer hr hs;rw[lE h1 hf];have hP:xG R (pc R s m):=⟨h2,h3,h4⟩;split
 ·split
  ·exact((h.setPeer s (p:={pc R s m with offset:=min m.offset R.snap.data.length}) ⟨h2,h3,by show 0<=min _ _;omega,by show min _ _<=_;omega⟩).lacks s).mono zl (by omega)
  ·exact(h.setPeer s hP).mono zl (by omega)
 ·split
  ·exact((h.setPeer s (p:={pc R s m with next:=max ((R.peer s).mat+1) (min ((R.peer s).next-1) (m.idx+1))}) ⟨h2,by show 1<=max _ _/\max _ _<=_;omega,h4⟩).lacks s).mono zl (by omega)
  ·exact(h.setPeer s hP).has hr hs m.idx
theorem Ok.does(h:Ok K M R)(hK:1<=K){m:Mg}(hm:xP R m):Ok (K+10) (M+K+60) (R.does m):=by
 unfold Rf.does;split
 ·exact(h.asked m).mono (by omega) (by omega)
 split
 ·split
  ·rename_i hc;split
   ·exact((h.says m.frm).stands (by show R.hard.term<_;have:=hc.2.1;have:=hm.term;omega)).mono (by omega) (by omega)
   ·exact(h.says m.frm).mono (by omega) (by omega)
  ·exact h.mono (by omega) (by omega)
 split
 ·exact(h.votes m).mono (by omega) (by omega)
 split
 ·split
  ·split
   ·exact((h.says m.frm).leads (by omega)).mono (by omega) (by omega)
   ·exact(h.says m.frm).mono (by omega) (by omega)
  ·exact h.mono (by omega) (by omega)
 split
 ·split
  ·exact((h.hears m).appends hm.el hm.cmt.2).mono (by omega) (by omega)
  ·exact h.mono (by omega) (by omega)
 split
 ·split
  ·exact((h.hears m).piece (show(0:Int)≠3 by omega) hm.idx hm.lgt).mono (by omega) (by omega)
  ·exact h.mono (by omega) (by omega)
 split
 ·exact h.mono (by omega) (by omega)
 split
 ·rename_i hr;exact(h.answered hr (s:=m.frm.toNat) (by have:=hm.frm;omega) (by have:=hm.frm;omega) hm.idx hm.off.1).mono (by omega) (by omega)
 ·exact h.mono (by omega) (by omega)
end
section
open Go.MapKept
theorem Eo:(prog.info? 167).map (fun i=>(i.zero,i.size,i.bytes))=some (some (.agg #[.int .i64 0,.int .i64 0,.int .i64 0]),3,24):=by kernel_rfl
theorem pR{w:World}{ops:Array Oper}{rest:List Oper}{o:Oper}{a:Act}{Q:Exit->Act->World->Prop}(kt:o.guard=none)(s x:Operand)
  (ho:o.op=.call {callee:=.builtin .append,args:=#[s,x],argTypes:=#[98,98]})
  (base:Nat) {A:Option Addr} {n c:Nat} {l:List Wt} (hs:a.eval s=.slice A n c) (aD:w.ownsRow base 167 3 (.slice A n c) n (l.flatMap mT))
  {B:Option Addr} {m d:Nat} {r:List Wt} (hx:a.eval x=.slice B m d) (hr:cn w 3 B m (r.flatMap mT)) (hb:n+m<=1000000000) (bl:base<=w.heap.size)
  (h:∀A' c' w',w'.ownsRow base 167 3 (.slice A' (n+m) c') (n+m) ((l++r).flatMap mT)->Fr (az A) w w'->(∀j,az A' j->az A j\/w.heap.size<=j)->wpList prog ops Q rest (a.put o.dst (.slice A' (n+m) c')) w'):wpList prog ops Q (o::rest) a w:=by
 obtain⟨i0,iy,jK,iL,gL⟩:=info_parts Eo;refine bb w kt s x 98 ho base 167 i0 _ 3 24 underlying98 iy jK iL gL rfl (by omega) (.slice A n c) n _ hs aD B m d _ hx hr (fun u hu=>?_) (by unfold maxLen;omega) (by omega) bl fun A' c' w' h3 h4 h5=>?_
 ·obtain⟨z,_,hz⟩:=List.mem_flatMap.1 hu;unfold mT at hz;simp only[List.mem_cons,List.not_mem_nil,or_false]at hz;rcases hz with rfl|rfl|rfl <;> rfl
 ·rw[<-List.flatMap_append]at h3;exact h A' c' w' h3 (Fr.grown h4) (gE h5)
theorem RdW.one{w:World}{g:Nat}{x:Wt}(hg:ar w g 167 #[.int .i64 x.ctx,.int .i64 x.idx,.int .i64 x.round]):cn w 3 (some ⟨g,0,none⟩) 1 ([x].flatMap mT):=
 ⟨rfl,fun _=>⟨_,rfl,fun j y hy=>by
  have e:(⟨g,0,none⟩:Addr).add j=⟨g,j,none⟩:=by unfold Addr.add;split <;> simp[*]
  rw[e,hg.cell j,<-hy];simp[mT,vi]⟩⟩
section
variable {aa:Nat->Nat}{b g n c c':Nat}{w w5:World}{R:Rf}{v:Rw}{A A':Option Addr}
theorem EC(x:Wt)(h:ax aa b w g R v)(hv:v.waits=.slice A n c)(ho:w5.ownsRow 0 167 3 (.slice A' (n+1) c') (n+1) ((R.waits++[x]).flatMap mT))(hF:Fr (az A) w w5)(hr:∀j,az A' j->az A j\/w.heap.size<=j) :
  ao aa b w g {R with waits:=R.waits++[x]} (w5.setCell ⟨g,2,none⟩ (.slice A' (n+1) c'))/\ar w5 g 107 (bE R v)/\Fr (fun j=>aa j=b+4) w w5:=by
 obtain⟨A0,c0,e0,aD,jq⟩:=id h.q;rw[hv]at e0;injection e0 with e1 e2 e3;subst e1;subst e2;subst e3;have KG:¬az A g:=fun hh=>by have:=jq g hh;have:=h.sl;omega
 have xo:ar w5 g 107 (bE R v):=(hF.block g h.s.lt KG).trans h.s;have eQ:=Fr.set (w:=w5) g 2 (.slice A' (R.waits.length+1) c');have iS:=xo.set_ 2 (.slice A' (R.waits.length+1) c');simp only[bE,Zy]at iS;refine⟨?_,xo,hF.mono fun j hj=>jq j hj⟩;refine ao.turn (v':={v with waits:=.slice A' (R.waits.length+1) c'}) (ak:=ai aa w.heap.size (b+4)) [4] h iS (fun j hj=>ac hj) (by simp) ((hF.mono (X':=fun j=>j=g\/∃i,i∈[4]/\aa j=b+i) fun j e=>.inr ⟨4,by simp,jq j e⟩).trans eQ fun j e=>.inl (.inl e))
  tI tI (.inl ?_) tI tI tI tI tI tI tI tI
 show bQ _ _ _ _ _ _ (R.waits++[x]).length _;rw[List.length_append];have fG:∀j,az A' j->ai aa w.heap.size (b+4) j=b+4:=fun j hj=>by
  rcases hr j hj with h6|h6
  ·exact(ac (aB aD A c rfl j h6).1).trans (jq j h6)
  ·exact ay h6
 refine bQ.keep (w:=w5) ⟨A',c',rfl,ho,fG⟩ fun j hj hl=>eQ.block j hl fun e=>?_
 rw[e,ac h.s.lt]at hj;have:=h.sl;omega
theorem ao.facts{R':Rf}{w':World}{vy:Value}{fs:List Fa}(h:ao aa b w g R' w')(hf:aG (aQ aa (b+13)) w vy fs):∃(ak:Nat->Nat) (v':Rw),ax ak b w' g R' v'/\(∀j,j<w.heap.size->¬aN aa b j->ak j=aa j)/\(∀j,j<w.heap.size->aN aa b j->aN ak b j)/\Fr (aN aa b) w w'/\aG (aQ ak (b+13)) w' vy fs:=by
 obtain⟨ak,v',h1,h2,h3,h4⟩:=h;have hn:∀j,aQ aa (b+13) j->¬aN aa b j:=fun j e hm=>by
  have e:aa j=b+13:=e;unfold aN at hm;omega
 refine⟨ak,v',h1,h2,h3,h4,(hf.mono (S':=aQ ak (b+13)) fun j hj e=>(h2 j hj (hn j e)).trans e).keep fun j hj hl=>h4.block j hl fun hm=>?_⟩;have e:ak j=b+13:=hj;have:=(h3 j hl hm).2;omega
end
end
section
open Go.MapKept
section
variable {aa:Nat->Nat}{b g i j N mi:Nat}{w w' wX w2:World}{R R1:Rf}{v:Rw}{O:Ot}{X:Ox}
theorem uV{ag:Nat->Nat}(h:eA ag b i wX g O R1 X w')(hj:j<wX.heap.size)(hl:ag j=b)(hk:ar wX j 49 bZ)(kp:i≠b)(h2:∀j,j<w.heap.size->¬aN aa b j->ag j=aa j)(h3:∀j,j<w.heap.size->aN aa b j->aN ag b j)(h4:Fr (aN aa b) w wX)(hw:w.heap.size<=j) :
  ar w' j 49 bZ/\ar (dA w' j O X) j 49 (bg O X)/\eA aa b i w g O R1 X (dA w' j O X):=by
 obtain⟨ak,v',q1,q2,q3,q4,q5⟩:=h;have hn:¬bv ag b j:=fun hm=>by unfold bv at hm;omega
 have R8:¬aN ag b j:=fun hm=>by unfold aN at hm;omega
 have SN:ak j=b:=(q3 j hj hn).trans hl;have eb:ar w' j 49 bZ:=(q5.block j hj R8).trans hk;have hF:=oh w' j O X;obtain⟨bu,v2,r1,r2,r3,r4,r5⟩:eA aa b i w g O R1 X w':=eA.next (ag:=ag) (w1:=wX) ⟨ak,v',q1,q2,q3,q4,q5⟩ h2 h3 h4;refine⟨eb,rV O X eb,?_⟩;have Og:=h4.size;refine⟨ak,v',q1.keep fun k hk hl=>hF.block k hl fun e=>?_,q2.keep fun k hk hl=>hF.block k hl fun e=>kp ?_,fun k hk hm=>?_,fun k hk hm=>q4 k (by omega) ?_,r5.trans hF fun k e=>.inr (by omega)⟩
 ·unfold bv at hk;rw[e,SN]at hk;omega
 ·rw[<-hk,e];exact SN
 ·have e:=h2 k hk fun h=>hm ⟨h.1,by have:=h.2;omega⟩
  rw[q3 k (by omega) fun h=>hm (by unfold bv at h ⊢;rw[e]at h;exact h)];exact e
 ·rcases Classical.em (aN aa b k)with h|h
  ·have:=h3 k hk h;exact⟨this.1,by have:=this.2;omega⟩
  ·unfold bv at hm ⊢;rw[h2 k hk h];exact hm
theorem cJ.take(i:Nat)(h:cJ aa b w g R1 N wX)(KJ:w.heap.size<=j)(KA:j<w.heap.size+N)(hk:ar wX j 49 bZ)(kp:i≠b) :
  Calls prog 52 #[.pointer (some ⟨g,0,none⟩)] wX fun e w'=>∃X,e=.returned (.agg (bg R1.tell.1 X))/\ar w' j 49 bZ/\ar (dA w' j R1.tell.1 X) j 49 (bg R1.tell.1 X)/\eA aa b i w g R1.tell.1 R1.tell.2 X (dA w' j R1.tell.1 X):=by
 obtain⟨ag,v1,h1,h2,h3,h4,h5⟩:=h;refine(HV i h1).mono ?_;rintro e w' ⟨X,rfl,hT⟩;exact⟨X,rfl,uV hT (h5 j KJ KA).1 (h5 j KJ KA).2 hk kp h2 h3 h4 KJ⟩
theorem cJ.zero(h:cJ aa b w g R1 N wX)(KJ:w.heap.size<=j)(KA:j<w.heap.size+N)(hk:ar wX j 49 bZ)(kp:i≠b):ar (dA wX j dZ lw) j 49 (bg dZ lw)/\eA aa b i w g dZ R1 lw (dA wX j dZ lw):=by
 obtain⟨ag,v1,h1,h2,h3,h4,h5⟩:=h;have hT:eA ag b i wX g dZ R1 lw wX:=⟨ag,v1,h1,jw.zero _ _ _,fun _ _ _=>rfl,fun _ _ h=>.inl h,Fr.refl _ _⟩;exact(uV hT (h5 j KJ KA).1 (h5 j KJ KA).2 hk kp h2 h3 h4 KJ).2
theorem cJ.msg2{x y:Value}{L:List En}{l:List UInt8}(h:cJ aa b w g R1 N wX)(hm:mi<=b\/b+13<mi)(he:cN aa mi w x L)(hd:bM aa mi w y l) :
  ∃ag v1,ax ag b wX g R1 v1/\cN ag mi wX x L/\bM ag mi wX y l/\∀w' R2,ao ag b wX g R2 w'->cJ aa b w g R2 N w'/\boxes w.heap.size N wX w':=by
 obtain⟨ag,v1,h1,h2,h3,h4,h5⟩:=h;have hn:∀j,aa j=mi->¬aN aa b j:=fun j e hx=>by unfold aN at hx;omega
 have hx:∀j,ag j=mi->j<w.heap.size->wX.heap[j]?=w.heap[j]?:=fun j hj nj=>h4.block j nj fun hx=>by
  have h6:=h3 j nj hx;unfold aN at h6;omega
 exact⟨ag,v1,h1,(he.relabel (ak:=ag) (k:=mi) fun j hl e=>(h2 j hl (hn j e)).trans e).keep hx,(hd.relabel (ak:=ag) (k:=mi) fun j hl e=>(h2 j hl (hn j e)).trans e).keep hx,fun w' R2 hP=>ip h2 h3 h4 h5 hP⟩
def jQ(R:Rf)(m:Mg):Bool:=decide (R.hard.term<m.term/\m.kind≠1/\(m.kind≠2\/m.reject=true))
theorem wW{R:Rf}{m:Mg}{x:Bool}(h:jQ R m=x) :
  (decide (R.hard.term<m.term)=false/\x=false)\/(R.hard.term<m.term/\(m.kind !=1)=false/\x=false)\/(R.hard.term<m.term/\(m.kind !=1)=true/\(m.kind !=2)=true/\x=true)\/(R.hard.term<m.term/\(m.kind !=1)=true/\(m.kind !=2)=false/\m.reject=x):=by
 subst h;unfold jQ;by_cases a:R.hard.term<m.term
 ·by_cases c:m.kind=1
  ·exact .inr (.inl ⟨a,by simp[c],by simp[c]⟩)
  ·by_cases d:m.kind=2
   ·refine .inr (.inr (.inr ⟨a,by simp[c],by simp[d],?_⟩));cases hr:m.reject <;> simp[a,c,d]
   ·exact .inr (.inr (.inl ⟨a,by simp[c],by simp[d],by simp[a,c,d]⟩))
 ·exact .inl ⟨decide_eq_false a,by simp[a]⟩
theorem oB{K M:Nat}(i:Nat)(m:Mg)(A1 A2:Option Addr)(n1 c1 n2 c2 mi:Nat)(h:ax aa b w g R v)(hk:Ok K M R)(ct:1<=K)(hK:K<=8000)(hM:M<=10000)(kp:i≠b)(uM:mi<=b\/b+13<mi)(he:cN aa mi w (.slice A1 n1 c1) m.entries)(hd:bM aa mi w (.slice A2 n2 c2) m.data)
  (iI:n1=m.entries.length) (lB:n2=m.data.length) :
  Calls prog 19 #[.pointer (some ⟨g,0,none⟩),eH m (.slice A1 n1 c1) (.slice A2 n2 c2)] w fun e w'=>∃X,e=.returned (.agg (bg (R.step m).1 X))/\eA aa b i w g (R.step m).1 (R.step m).2 X w':=by
 have cQ:=h.s.lt;obtain⟨aI,bN,fA⟩:=fC w 39 49 #[.int .i64 m.kind,.int .i64 m.frm,.int .i64 m.tgt,.int .i64 m.term,.int .i64 m.idx,.int .i64 m.logTerm,.int .i64 m.commit,.int .i64 m.round,.bool m.reject,.int .i64 m.offset,.int .i64 m.total,.slice A1 n1 c1,.slice A2 n2 c2] bZ;obtain⟨w2,cw⟩:=zN ((w.alloc (.cells #[.int .i64 m.kind,.int .i64 m.frm,.int .i64 m.tgt,.int .i64 m.term,.int .i64 m.idx,.int .i64 m.logTerm,.int .i64 m.commit,.int .i64 m.round,.bool m.reject,.int .i64 m.offset,.int .i64 m.total,.slice A1 n1 c1,.slice A2 n2 c2] 39)).alloc (.cells #[.bool false,.bool false,.int .i64 0,.int .i64 0,.slice none 0 0,.slice none 0 0,.pointer none,.slice none 0 0,.slice none 0 0] 49));rw[show(w.alloc (.cells #[.int .i64 m.kind,.int .i64 m.frm,.int .i64 m.tgt,.int .i64 m.term,.int .i64 m.idx,.int .i64 m.logTerm,.int .i64 m.commit,.int .i64 m.round,.bool m.reject,.int .i64 m.offset,.int .i64 m.total,.slice A1 n1 c1,.slice A2 n2 c2] 39)).alloc (.cells bZ 49)=w2 from cw]at aI bN fA;have hX:=cJ.start (N:=2) h aI (by have:=fA.lt;omega);obtain⟨y0,y1,y2,y3,y4,y5,y6,y7,y8,y9,y10,y11,y12,-⟩:=bN.cs [0,1,2,3,4,5,6,7,8,9,10,11,12];simp only[Zx]at y0 y1 y2 y3 y4 y5 y6 y7 y8 y9 y10 y11 y12;obtain⟨bu,v2,h2,MS⟩:=hX.raft;have xw:=Eb m A1 A2 n1 n2 c1 c2 iI lB h2;unfold eH at xw ⊢;simp only[vi]at xw ⊢;have tX:g<w2.heap.size:=h2.s.lt;have kE:w.heap.size+1<w2.heap.size:=fA.lt;have lp:R.step m=if R.right m=false then(dZ,R)else if m.term<(if jQ R m=true then R.follows m.term else R).hard.term/\m.kind≠1 then((if jQ R m=true then R.follows m.term else R).late m).tell else(if((if jQ R m=true then R.follows m.term else R).does m).role=3 then((if jQ R m=true then R.follows m.term else R).does m).reads else((if jQ R m=true then R.follows m.term else R).does m)).tell:=by
  have e:(if R.hard.term<m.term/\m.kind≠1/\(m.kind≠2\/m.reject=true)then R.follows m.term else R)=if jQ R m=true then R.follows m.term else R:=by
   unfold jQ;by_cases hc:R.hard.term<m.term/\m.kind≠1/\(m.kind≠2\/m.reject=true)
   ·rw[if_pos hc,if_pos (by simpa using hc)]
   ·rw[if_neg hc,if_neg (by simpa using hc)]
  unfold Rf.step;simp only;rw[e]
 replace cw:=zH cw;replace iI:=zH iI;replace lB:=zH lB;cases Oc:R.right m
 ·rw[Oc]at xw;have hS:R.step m=(dZ,R):=by rw[lp,if_pos Oc]
  replace hS:=zH hS;replace hk:=zH hk;clear lp h h2 he hd;go_enter func19,ntmps19;go_wp2_with fail;rw[cw.out];try go_wp2_with fail
  refine xw.mono ?_;rintro e w3 ⟨rfl,bS⟩;obtain⟨pS,jr⟩:=hX.below bS;have I8:=fA.kept bS;obtain⟨jY,eI⟩:=pS.zero (i:=i) (j:=w.heap.size+1) (by omega) (by omega) I8 kp;obtain⟨z0,z1,z2,z3,z4,z5,z6,z7,z8,-⟩:=I8.cs [0,1,2,3,4,5,6,7,8];simp only[bZ,vi,Zx]at z0 z1 z2 z3 z4 z5 z6 z7 z8;obtain⟨u0,u1,u2,u3,u4,u5,u6,u7,u8,-⟩:=I8.fs [0,1,2,3,4,5,6,7,8];replace eI:=zH eI;clear xw hX pS I8;go_wp2_with fail;show bodyPost _ _ _ _ _ (dA w3 (w.heap.size+1) dZ lw);generalize dA w3 (w.heap.size+1) dZ lw=w9 at *;obtain⟨r0,r1,r2,r3,r4,r5,r6,r7,r8,-⟩:=jY.cs [0,1,2,3,4,5,6,7,8];simp only[bg,vi,Zx]at r0 r1 r2 r3 r4 r5 r6 r7 r8;exact bodyPost_ret (v:=.agg (bg dZ lw)) (by simp[results,results19,go_sem,bg,r0,r1,r2,r3,r4,r5,r6,r7,r8]) rfl ⟨lw,by rw[hS.out],by rw[hS.out];exact eI.out⟩
 ·rw[Oc]at xw;have js:=tp Oc;rw[if_neg (by rw[Oc];simp)]at lp;obtain⟨x,hx⟩:=zN (jQ R m);rw[hx]at lp;have qX:=hk.tm;replace hk:=zH hk;replace lp:=zH lp;clear h h2 Oc;go_enter func19,ntmps19;go_wp2_with fail;rw[cw.out];try go_wp2_with fail
  refine xw.mono ?_;rintro e w3 ⟨rfl,bS⟩;obtain⟨pS,jr⟩:=hX.below bS;have pJ:ar w3 w.heap.size 39 #[.int .i64 m.kind,.int .i64 m.frm,.int .i64 m.tgt,.int .i64 m.term,.int .i64 m.idx,.int .i64 m.logTerm,.int .i64 m.commit,.int .i64 m.round,.bool m.reject,.int .i64 m.offset,.int .i64 m.total,.slice A1 n1 c1,.slice A2 n2 c2]:=bN.kept bS;obtain⟨cM,v3,h3,_⟩:=pS.raft;clear xw hX y0 y1 y2 y3 y4 y5 y6 y7 y8 y9 y10 y11 y12 MS;obtain⟨y0,y3,y8,-⟩:=pJ.cs [0,3,8];simp only[Zx]at y0 y3 y8;have c6:=h3.s.cell 6;simp only[bE,vi,Zx]at c6;have gK:g<w3.heap.size:=h3.s.lt;obtain⟨k0,k3,k8,k6⟩:=GD [g,w.heap.size] y0 y3 y8 c6;have tR:=zH (pS.below (w':=w3.drew) (zb.drew)).1;clear h3 pS;go_wp2_with fail
  go_cut [31] (fun s31 wr=>s31=.bool x/\cJ aa b w g R 2 wr/\boxes w.heap.size 2 w2 wr)
  case first=>
   have cu:=wW hx;clear hx;rcases cu with⟨e1,rfl⟩|⟨e1,e2,rfl⟩|⟨e1,e2,e3,rfl⟩|⟨e1,e2,e3,rfl⟩
   ·skip
    refine dV [g,w.heap.size] w3 [] [0,1,2,3,4,5,6,7,8,9,10,11,12,13,14,15,16,17,18,19,20,21] ?_;refine aj ?_;simp only[af,Zx];repeat go_big_quiet_step(fail)
    apply wpQuiet_nil;go_wp2_with fail
    go_meet
    exact⟨rfl,tR.out,jr⟩
   ·skip
    refine dV [g,w.heap.size] w3 [] [0,1,2,3,4,5,6,7,8,9,10,11,12,13,14,15,16,17,18,19,20,21] ?_;refine aj ?_;simp only[af,Zx];repeat go_big_quiet_step(fail)
    apply wpQuiet_nil;go_wp2_with fail
    go_meet
    exact⟨rfl,tR.out,jr⟩
   ·skip
    refine dV [g,w.heap.size] w3 [] [0,1,2,3,4,5,6,7,8,9,10,11,12,13,14,15,16,17,18,19,20,21] ?_;refine aj ?_;simp only[af,Zx];repeat go_big_quiet_step(fail)
    apply wpQuiet_nil;go_wp2_with fail
    go_meet
    exact⟨rfl,tR.out,jr⟩
   ·skip
    refine dV [g,w.heap.size] w3 [] [0,1,2,3,4,5,6,7,8,9,10,11,12,13,14,15,16,17,18,19,20,21] ?_;refine aj ?_;simp only[af,Zx];repeat go_big_quiet_step(fail)
    apply wpQuiet_nil;go_wp2_with fail
    go_meet
    exact⟨rfl,tR.out,jr⟩
  case rest=>
   obtain⟨UX,vJ,oo⟩:=hcut;subst UX
   rename World=>wc
   clear y0 y3 y8 c6 k0 k3 k8 k6 tR pJ jr;have Ao:ar wc w.heap.size 39 #[.int .i64 m.kind,.int .i64 m.frm,.int .i64 m.tgt,.int .i64 m.term,.int .i64 m.idx,.int .i64 m.logTerm,.int .i64 m.commit,.int .i64 m.round,.bool m.reject,.int .i64 m.offset,.int .i64 m.total,.slice A1 n1 c1,.slice A2 n2 c2]:=oo.blk zl (by omega) bN;have y3:=Ao.cell 3;simp only[Zx]at y3;go_upto_if 31 with fail
   obtain⟨R1,gZ⟩:=zN ((if x=true then R.follows m.term else R));have aE:=lp.out;rw[gZ]at aE;have rI:Ok K M R1:=by
    rw[<-gZ];split
    ·exact hk.out.follows (by have:=js.term;omega) (by have:=js.term;omega)
    ·exact hk.out
   have Mb:R1.n=R.n:=by rw[<-gZ];split <;> rfl
   have BS:xP R1 m:=⟨js.kind,by rw[Mb];exact js.frm,js.term,js.idx,js.lgt,js.cmt,js.rnd,js.off,js.tot,js.el,js.dl⟩;replace rI:=zH rI;replace aE:=zH aE
   go_cut [] (fun wr=>cJ aa b w g R1 2 wr/\boxes w.heap.size 2 w2 wr)
   case first=>
    cases x
    ·have Nh:=zH (show R=R1 from gZ);replace vJ:=zH vJ;clear gZ;go_wp2_with fail
     go_meet
     exact⟨by rw[<-Nh.out];exact vJ.out,oo⟩
    ·have Nh:=zH (show R.follows m.term=R1 from gZ);have hf:=vJ.act (fun ag v1 h=>xJ m.term h);clear gZ vJ;go_wp2_with fail;refine hf.mono ?_;rintro e w5 ⟨rfl,nP,cD⟩;clear hf;replace nP:=zH nP;go_wp2_with fail
     go_meet
     exact⟨by rw[<-Nh.out];exact nP.out,oo.trans cD⟩
   case rest=>
    rename World=>wd
    obtain⟨tR,tH⟩:=hcut;clear y3 Ao oo vJ gZ hx qX;have vw:ar wd w.heap.size 39 #[.int .i64 m.kind,.int .i64 m.frm,.int .i64 m.tgt,.int .i64 m.term,.int .i64 m.idx,.int .i64 m.logTerm,.int .i64 m.commit,.int .i64 m.round,.bool m.reject,.int .i64 m.offset,.int .i64 m.total,.slice A1 n1 c1,.slice A2 n2 c2]:=tH.blk zl (by omega) bN;have V1:ar wd (w.heap.size+1) 49 bZ:=tH.blk (by omega) (by omega) fA;obtain⟨Ra,v4,h4,_⟩:=tR.raft;obtain⟨y0,y3,-⟩:=vw.cs [0,3];simp only[Zx]at y0 y3;have c6:=h4.s.cell 6;simp only[bE,vi,Zx]at c6;have kt:g<wd.heap.size:=h4.s.lt;obtain⟨k0,k3,k6⟩:=sD [g,w.heap.size] y0 y3 c6;have tQ:=(tR.below (w':=wd.drew) (zb.drew)).1;clear h4;by_cases hL:m.term<R1.hard.term/\m.kind≠1
    ·have cy:=hL.1;have dM:(m.kind !=1)=true:=by simp[hL.2]
     have AZ:=zH (aE.out.trans (if_pos hL));have aU:=tQ.act (fun ag v1 h=>GU m (.slice A1 n1 c1) (.slice A2 n2 c2) h (by have:=rI.out.ms;omega));unfold eH at aU;simp only[vi]at aU;obtain⟨a0,a1,a2,a3,a4,a5,a6,a7,a8,a9,a10,a11,a12,-⟩:=vw.cs [0,1,2,3,4,5,6,7,8,9,10,11,12];simp only[Zx]at a0 a1 a2 a3 a4 a5 a6 a7 a8 a9 a10 a11 a12;replace hL:=zH hL;clear tR tQ;go_wp2_with fail;refine dV [g,w.heap.size] wd [] [0,1,2,3,4,5,6,7,8,9,10,11,12] ?_;refine aj ?_;simp only[af,Zx];repeat go_big_quiet_step(fail)
     apply wpQuiet_nil;go_wp2_with fail;refine aU.mono ?_;rintro e w5 ⟨rfl,nP,cD⟩;clear aU;have RU:ar w5 (w.heap.size+1) 49 bZ:=cD.blk (by omega) (by omega) V1;have cf:=nP.take (j:=w.heap.size+1) i (by omega) (by omega) RU kp;obtain⟨OR,wZ⟩:=zN (Rf.tell (R1.late m));rw[wZ]at cf;have nQ:=zH (show R.step m=OR from(AZ.out).trans wZ);clear wZ;unfold bg at cf;go_wp2_with fail;refine cf.mono ?_;rintro e w8 ⟨X,rfl,eK,jY,eI⟩;have Jv:=eK.lt;obtain⟨z0,z1,z2,z3,z4,z5,z6,z7,z8,-⟩:=eK.cs [0,1,2,3,4,5,6,7,8];simp only[bZ,vi,Zx]at z0 z1 z2 z3 z4 z5 z6 z7 z8;obtain⟨u0,u1,u2,u3,u4,u5,u6,u7,u8,-⟩:=eK.fs [0,1,2,3,4,5,6,7,8];replace eI:=zH eI;clear cf eK;go_wp2_with fail;show bodyPost _ _ _ _ _ (dA w8 (w.heap.size+1) OR.1 X);generalize dA w8 (w.heap.size+1) OR.1 X=w9 at *;obtain⟨r0,r1,r2,r3,r4,r5,r6,r7,r8,-⟩:=jY.cs [0,1,2,3,4,5,6,7,8];simp only[bg,vi,Zx]at r0 r1 r2 r3 r4 r5 r6 r7 r8;exact bodyPost_ret (v:=.agg (bg OR.1 X)) (by simp[results,results19,go_sem,bg,r0,r1,r2,r3,r4,r5,r6,r7,r8]) rfl ⟨X,by rw[nQ.out],by rw[nQ.out];exact eI.out⟩
    ·have AZ:=zH (aE.out.trans (if_neg hL));have cu:decide (m.term<R1.hard.term)=false\/(m.term<R1.hard.term/\(m.kind !=1)=false):=by
      by_cases a:m.term<R1.hard.term
      ·refine .inr ⟨a,?_⟩;by_cases c:m.kind=1
       ·simp[c]
       ·exact absurd ⟨a,c⟩ hL
      ·exact .inl (decide_eq_false a)
     obtain⟨cV,v5,h5,Vu,NY,Gy⟩:=tQ.msg2 uM he hd;have KN:=Fk m A1 A2 n1 c1 n2 c2 mi h5 rI.out (by omega) (by omega) uM Vu NY iI.out lB.out BS;unfold eH at KN;simp only[vi]at KN;have nB:=rI.out.does ct BS;obtain⟨R2,jR⟩:=zN (R1.does m);rw[jR]at KN nB;have vK:=AZ.out;rw[jR]at vK;replace vK:=zH vK;replace nB:=zH nB;obtain⟨a0,a1,a2,a3,a4,a5,a6,a7,a8,a9,a10,a11,a12,-⟩:=vw.cs [0,1,2,3,4,5,6,7,8,9,10,11,12];simp only[Zx]at a0 a1 a2 a3 a4 a5 a6 a7 a8 a9 a10 a11 a12;replace hL:=zH hL;clear tR tQ h5 Vu NY jR;go_wp2_with fail
     go_cut [48] (fun s48 wr=>s48=.bool false/\wr=wd.drew)
     case first=>
      rcases cu with e1|⟨e1,e2⟩
      ·skip
       refine dV [g,w.heap.size] wd [] [0,1,2,3,4,5,6,7,8,9,10,11,12] ?_;refine aj ?_;simp only[af,Zx];repeat go_big_quiet_step(fail)
       apply wpQuiet_nil;go_wp2_with fail
       go_meet
       exact⟨rfl,rfl⟩
      ·skip
       refine dV [g,w.heap.size] wd [] [0,1,2,3,4,5,6,7,8,9,10,11,12] ?_;refine aj ?_;simp only[af,Zx];repeat go_big_quiet_step(fail)
       apply wpQuiet_nil;go_wp2_with fail
       go_meet
       exact⟨rfl,rfl⟩
     case rest=>
      obtain⟨TY,Xj⟩:=hcut;subst TY;subst Xj;go_wp2_with fail;refine KN.mono ?_;rintro e w5 ⟨rfl,nu⟩;obtain⟨nP,cD⟩:=Gy _ _ nu;clear KN nu Gy;have RU:ar w5 (w.heap.size+1) 49 bZ:=cD.blk (by omega) (by omega) V1;obtain⟨Ei,v6,h6,_⟩:=nP.raft;have d13:=h6.s.cell 13;simp only[bE,vi,Zx]at d13;clear h6;by_cases hr:R2.role=3
      ·have N9:(R2.role==3)=true:=by simp[hr]
       have kT:=vK.out;rw[if_pos hr]at kT;have dx:=nP.act (fun ag v1 h=>un h nB.out hr (by omega));replace kT:=zH kT;replace hr:=zH hr;clear nP;go_wp2_with fail;refine dx.mono ?_;rintro e w6 ⟨rfl,tY,gz⟩;clear dx;have oP:ar w6 (w.heap.size+1) 49 bZ:=gz.blk (by omega) (by omega) RU;have cf:=tY.take (j:=w.heap.size+1) i (by omega) (by omega) oP kp;obtain⟨OR,wZ⟩:=zN (Rf.tell R2.reads);rw[wZ]at cf;have nQ:=zH (show R.step m=OR from(kT.out).trans wZ);clear wZ;unfold bg at cf;go_wp2_with fail;refine cf.mono ?_;rintro e w8 ⟨X,rfl,eK,jY,eI⟩;have Jv:=eK.lt;obtain⟨z0,z1,z2,z3,z4,z5,z6,z7,z8,-⟩:=eK.cs [0,1,2,3,4,5,6,7,8];simp only[bZ,vi,Zx]at z0 z1 z2 z3 z4 z5 z6 z7 z8;obtain⟨u0,u1,u2,u3,u4,u5,u6,u7,u8,-⟩:=eK.fs [0,1,2,3,4,5,6,7,8];replace eI:=zH eI;clear cf eK;go_wp2_with fail;show bodyPost _ _ _ _ _ (dA w8 (w.heap.size+1) OR.1 X);generalize dA w8 (w.heap.size+1) OR.1 X=w9 at *;obtain⟨r0,r1,r2,r3,r4,r5,r6,r7,r8,-⟩:=jY.cs [0,1,2,3,4,5,6,7,8];simp only[bg,vi,Zx]at r0 r1 r2 r3 r4 r5 r6 r7 r8;exact bodyPost_ret (v:=.agg (bg OR.1 X)) (by simp[results,results19,go_sem,bg,r0,r1,r2,r3,r4,r5,r6,r7,r8]) rfl ⟨X,by rw[nQ.out],by rw[nQ.out];exact eI.out⟩
      ·have N9:(R2.role==3)=false:=by simp[hr]
       have kT:=vK.out;rw[if_neg hr]at kT;replace kT:=zH kT;replace hr:=zH hr;go_wp2_with fail;have cf:=nP.take (j:=w.heap.size+1) i (by omega) (by omega) RU kp;obtain⟨OR,wZ⟩:=zN (Rf.tell R2);rw[wZ]at cf;have nQ:=zH (show R.step m=OR from(kT.out).trans wZ);clear wZ;unfold bg at cf;go_wp2_with fail;refine cf.mono ?_;rintro e w8 ⟨X,rfl,eK,jY,eI⟩;have Jv:=eK.lt;obtain⟨z0,z1,z2,z3,z4,z5,z6,z7,z8,-⟩:=eK.cs [0,1,2,3,4,5,6,7,8];simp only[bZ,vi,Zx]at z0 z1 z2 z3 z4 z5 z6 z7 z8;obtain⟨u0,u1,u2,u3,u4,u5,u6,u7,u8,-⟩:=eK.fs [0,1,2,3,4,5,6,7,8];replace eI:=zH eI;clear cf eK;go_wp2_with fail;show bodyPost _ _ _ _ _ (dA w8 (w.heap.size+1) OR.1 X);generalize dA w8 (w.heap.size+1) OR.1 X=w9 at *;obtain⟨r0,r1,r2,r3,r4,r5,r6,r7,r8,-⟩:=jY.cs [0,1,2,3,4,5,6,7,8];simp only[bg,vi,Zx]at r0 r1 r2 r3 r4 r5 r6 r7 r8;exact bodyPost_ret (v:=.agg (bg OR.1 X)) (by simp[results,results19,go_sem,bg,r0,r1,r2,r3,r4,r5,r6,r7,r8]) rfl ⟨X,by rw[nQ.out],by rw[nQ.out];exact eI.out⟩
end
end
section
open Go.MapKept
def tb(aa:Nat->Nat)(b i:Nat)(w:World)(g:Nat)(O:Ot)(R':Rf)(X:Ox)(vy:Value)(fs:List Fa)(w':World):Prop:=
 ∃(ak:Nat->Nat) (v':Rw),ax ak b w' g R' v'/\jw ak i w' O X/\aG (aQ ak i) w' vy fs/\(∀j,j<w.heap.size->¬bv aa b j->ak j=aa j)/\(∀j,j<w.heap.size->bv aa b j->bv ak b j\/ak j=i)/\Fr (aN aa b) w w'
def kP(aa:Nat->Nat)(b:Nat)(w:World)(g:Nat)(R1:Rf)(N:Nat)(wX:World)(p:Nat)(vy:Value)(x:En):Prop:=
 ∃(ak:Nat->Nat) (v':Rw),ax ak b wX g R1 v'/\(∀j,j<w.heap.size->¬aN aa b j->ak j=aa j)/\(∀j,j<w.heap.size->aN aa b j->aN ak b j)/\Fr (aN aa b) w wX/\
  (∀j,w.heap.size<=j->j<w.heap.size+N->j<wX.heap.size/\ak j=b)/\aG (aQ ak (b+13)) wX vy x.facts/\ar wX p 59 (bY (vy,x)).toArray/\¬bv ak b p/\w.heap.size+N<=p
section
variable {aa ag:Nat->Nat}{b g i p q N:Nat}{w w' w1 w2 wX wr:World}{R R' R1 R2:Rf}{v v1:Rw}{O:Ot}{X:Ox}{vy:Value}{x:En}{fs:List Fa}
theorem eA.nofacts(h:eA aa b i w g O R' X w'):tb aa b i w g O R' X (.slice none 0 0) [] w':=by
 obtain⟨ak,v',h1,h2,h3,h4,h5⟩:=h;exact⟨ak,v',h1,h2,aG.nil _ _,h3,h4,h5⟩
theorem Fw(h2:∀j,j<w.heap.size->¬aN aa b j->ag j=aa j)(h3:∀j,j<w.heap.size->aN aa b j->aN ag b j)(h4:Fr (aN aa b) w wX)(h5:∀j,w.heap.size<=j->j<w.heap.size+N->j<wX.heap.size/\ag j=b)
  (hN:w.heap.size+N<=wX.heap.size) (hM:iq ag b wX g R' v1 wr p vy x.facts (bY (vy,x)).toArray):kP aa b w g R' N wr p vy x/\boxes w.heap.size N wX wr:=by
 obtain⟨bu,q1,q2,q3,q4,q5,q6,q7⟩:=hM;have gu:=h4.size;have mJ:=q3.size;refine⟨⟨bu,v1,q1,fun j hj hm=>(q2 j (by omega)).trans (h2 j hj hm),fun j hj hm=>?_,h4.trans q3 fun j hj=>?_,fun j ha hb=>?_,q4,q5,q6,by omega⟩,fun j ha hb=>q3.block j (h5 j ha hb).1 fun hm=>?_⟩
 ·have:=h3 j hj hm;unfold aN at this ⊢;rw[q2 j (by omega)];exact this
 ·rcases Nat.lt_or_ge j w.heap.size with hl|hl
  ·exact .inl (gX h2 hl hj)
  ·exact .inr hl
 ·have:=h5 j ha hb;exact⟨by omega,(q2 j this.1).trans this.2⟩
 ·unfold aN at hm;rw[(h5 j ha hb).2]at hm;omega
theorem kP.rbox(h:kP aa b w g R1 N wX p vy x):cJ aa b w g R1 N wX:=by
 obtain⟨ag,v1,h1,h2,h3,h4,h5,_⟩:=h;exact⟨ag,v1,h1,h2,h3,h4,h5⟩
theorem kP.blk(h:kP aa b w g R1 N wX p vy x):ar wX p 59 (bY (vy,x)).toArray:=by
 obtain⟨ag,v1,h1,h2,h3,h4,h5,h6,h7,_⟩:=h;exact h7
theorem vp(h2:∀j,j<w.heap.size->¬aN aa b j->ag j=aa j)(h3:∀j,j<w.heap.size->aN aa b j->aN ag b j)(h4:Fr (aN aa b) w wX)(h5:∀j,w.heap.size<=j->j<w.heap.size+N->j<wX.heap.size/\ag j=b)
  (h6:aG (aQ ag (b+13)) wX vy x.facts) (h7:ar wX p 59 (bY (vy,x)).toArray) (h8:¬bv ag b p) (h9:w.heap.size+N<=p) (hP:ao ag b wX g R2 w'):kP aa b w g R2 N w' p vy x/\boxes w.heap.size N wX w':=by
 obtain⟨bu,v2,q1,q2,q3,q4,q5⟩:=hP.facts h6;have gu:=h4.size;have tL:∀j,w.heap.size<=j->j<w.heap.size+N->¬aN ag b j:=fun j ha hb hm=>by
  unfold aN at hm;rw[(h5 j ha hb).2]at hm;omega
 have Rq:¬aN ag b p:=fun hm=>h8 ⟨hm.1,by have:=hm.2;omega⟩
 refine⟨⟨bu,v2,q1,fun j hj hm=>?_,fun j hj hm=>q3 j (by omega) (h3 j hj hm),h4.trans q4 fun j hj=>?_,fun j ha hb=>?_,q5,(q4.block p h7.lt Rq).trans h7,fun hm=>h8 ?_,h9⟩,fun j ha hb=>q4.block j (h5 j ha hb).1 (tL j ha hb)⟩
 ·rw[q2 j (by omega) fun h=>hm (gX h2 hj h)];exact h2 j hj hm
 ·rcases Nat.lt_or_ge j w.heap.size with hl|hl
  ·exact .inl (gX h2 hl hj)
  ·exact .inr hl
 ·have:=h5 j ha hb;have hq:=q4.size;exact⟨by omega,(q2 j this.1 (tL j ha hb)).trans this.2⟩
 ·unfold bv at hm ⊢;rw[q2 p h7.lt Rq]at hm;exact hm
theorem kP.act{f:Nat}{args:Array Value}{E:Ending}(h:kP aa b w g R1 N wX p vy x)(hs:∀ag v1,ax ag b wX g R1 v1->aG (aQ ag (b+13)) wX vy x.facts->Calls prog f args wX fun e w'=>e=E/\ao ag b wX g R2 w') :
  Calls prog f args wX fun e w'=>e=E/\kP aa b w g R2 N w' p vy x/\boxes w.heap.size N wX w':=by
 obtain⟨ag,v1,h1,h2,h3,h4,h5,h6,h7,h8,h9⟩:=h;refine(hs ag v1 h1 h6).mono ?_;rintro e w' ⟨rfl,hP⟩;exact⟨rfl,vp h2 h3 h4 h5 h6 h7 h8 h9 hP⟩
theorem kP.below(h:kP aa b w g R1 N wX p vy x)(hb:Below wX.heap.size wX w'):kP aa b w g R1 N w' p vy x/\boxes w.heap.size N wX w':=by
 obtain⟨ag,v1,h1,h2,h3,h4,h5,h6,h7,h8,h9⟩:=h;exact vp h2 h3 h4 h5 h6 h7 h8 h9 (ao.below (w1:=wX) ⟨ag,v1,h1,fun _ _ _=>rfl,fun _ _ h=>h,Fr.refl _ _⟩ hb)
theorem kP.saves(h:kP aa b w g R1 N wX p vy x)(hN:R1.out.entries.length<=100000) :
  Calls prog 67 #[.pointer (some ⟨g,0,none⟩),.slice (some ⟨wX.heap.size,0,none⟩) 1 1] (wX.alloc (.cells (bY (vy,x)).toArray 59)) fun e w2=>e=.returned (.tuple #[])/\kP aa b w g (R1.save [x]) N w2 p vy x/\boxes w.heap.size N wX w2:=by
 have hb:Below wX.heap.size wX (wX.alloc (.cells (bY (vy,x)).toArray 59)):=(Below.refl wX.heap.size wX).alloc zl _;obtain⟨h',eK⟩:=h.below hb;obtain⟨cx,v0,RW,_⟩:=id h;have cQ:=RW.s.lt;refine(h'.act (R2:=R1.save [x]) (E:=.returned (.tuple #[])) fun ag v1 h1 h4=>?_).mono ?_
 ·refine(pd (some ⟨wX.heap.size,0,none⟩) 1 1 [(vy,x)] h1 (fu.one (ar.new _ _ _)) (fun z hz=>?_) (fun _ j hj e=>?_) (by omega) hN).mono ?_
  ·rw[List.mem_singleton.1 hz];exact h4
  ·obtain⟨ad,e1,e2⟩:=hj;cases e1;have e2:wX.heap.size=j:=e2;omega
  ·rintro e w2 ⟨rfl,hP⟩;exact⟨rfl,hP⟩
 ·rintro e w2 ⟨rfl,hP,bJ⟩;exact⟨rfl,hP,eK.trans bJ⟩
theorem JR(i:Nat)(h:ax aa b w g R v) :
  Calls prog 52 #[.pointer (some ⟨g,0,none⟩)] w fun e w'=>∃X v',e=.returned (.agg (bg R.tell.1 X))/\ax (cY aa b i) b w' g R.tell.2 v'/\jw (cY aa b i) i w' R.tell.1 X/\Fr (aN aa b) w w':=by
 refine(Al i h).mono ?_;rintro e w' ⟨rfl,h1,h2,h3⟩;obtain⟨_,⟨A1,d1,E7,_⟩,_⟩:=id h2.e;obtain⟨_,⟨A2,d2,E0,_⟩,_⟩:=id h2.c;obtain⟨A3,IT⟩:∃p,v.snp=.pointer p:=by
  have hn:=h2.s;cases hx:R.tell.1.snap with
  | none=>rw[hx]at hn;exact⟨_,hn⟩
  | some s=>rw[hx]at hn;obtain⟨q,vd,e,_⟩:=hn;exact⟨_,e⟩
 obtain⟨A4,d4,JC,_⟩:=id h2.r;obtain⟨_,⟨A5,d5,Jy,_⟩,_⟩:=id h2.m;rw[E7,E0,IT,JC,Jy]at h2;refine⟨⟨A1,d1,A2,d2,A3,A4,d4,A5,d5⟩,_,?_,h1,h2,h3⟩;rw[E7,E0,IT,JC,Jy];rfl
theorem kP.take(i:Nat)(h:kP aa b w g R1 N wX p vy x)(kp:i≠b) :
  Calls prog 52 #[.pointer (some ⟨g,0,none⟩)] wX fun e w'=>∃X,e=.returned (.agg (bg R1.tell.1 X))/\boxes w.heap.size N wX w'/\w'.heap[p]?=wX.heap[p]?/\
   ∀w'',Fr (fun k=>w.heap.size<=k/\k<w.heap.size+N) w' w''->tb aa b i w g R1.tell.1 R1.tell.2 X vy x.facts w'':=by
 obtain⟨ag,v1,h1,h2,h3,h4,h5,h6,h7,h8,h9⟩:=h;refine(JR i h1).mono ?_;rintro e w' ⟨X,v',rfl,q1,q2,q3⟩;have gu:=h4.size;have mJ:=q3.size;have tL:∀j,w.heap.size<=j->j<w.heap.size+N->¬aN ag b j:=fun j ha hb hm=>by
  unfold aN at hm;rw[(h5 j ha hb).2]at hm;omega
 have Rq:¬aN ag b p:=fun hm=>h8 ⟨hm.1,by have:=hm.2;omega⟩
 have iw:∀k,w.heap.size<=k->k<w.heap.size+N->cY ag b i k=b:=fun k ha hb=>by
  have e:=(h5 k ha hb).2;unfold cY;rw[if_neg (by omega)];exact e
 refine⟨X,rfl,fun j ha hb=>q3.block j (h5 j ha hb).1 (tL j ha hb),q3.block p h7.lt Rq,fun w'' hF=>?_⟩;have hk:∀j,¬cY ag b i j=b->j<w'.heap.size->w''.heap[j]?=w'.heap[j]?:=fun j hj hl=>hF.block j hl fun e=>hj (iw j e.1 e.2)
 refine⟨cY ag b i,v',q1.keep fun j hj hl=>hk j (fun e=>by unfold bv at hj;omega) hl,q2.keep fun j hj hl=>hk j (fun e=>kp (hj.symm.trans e)) hl,?_,fun j hj hm=>?_,fun j hj hm=>?_,(h4.trans q3 fun j hj=>?_).trans hF fun j hj=>.inr hj.1⟩
 ·have nc:aG (aQ (cY ag b i) i) wX vy x.facts:=h6.mono fun j hj e=>lO (q:=13) e (by omega)
  have qV:aG (aQ ag (b+13)) w' vy x.facts:=h6.keep fun j hj hl=>q3.block j hl fun hm=>by
   have hj:ag j=b+13:=hj;unfold aN at hm;omega
  exact(qV.mono (S':=aQ (cY ag b i) i) fun j hj e=>lO (q:=13) e (by omega)).keep fun j hj hl=>hk j (fun e=>kp (hj.symm.trans e)) hl
 ·have e:=h2 j hj fun h=>hm ⟨h.1,by have:=h.2;omega⟩
  rw[<-e];unfold cY;rw[if_neg];unfold bv at hm;rw[<-e]at hm;omega
 ·have qy:bv ag b j:=by
   rcases Classical.em (aN aa b j)with h|h
   ·have:=h3 j hj h;exact⟨this.1,by have:=this.2;omega⟩
   ·unfold bv at hm ⊢;rw[h2 j hj h];exact hm
  by_cases hc:ag j=b+8\/ag j=b+9\/ag j=b+11\/ag j=b+12\/ag j=b+13
  ·exact .inr (if_pos hc)
  ·refine .inl ?_;have e:cY ag b i j=ag j:=if_neg hc;unfold bv at qy ⊢;rw[e];exact qy
 ·rcases Nat.lt_or_ge j w.heap.size with hl|hl
  ·exact .inl (gX h2 hl hj)
  ·exact .inr hl
theorem vG(w:World)(T1 T2 T3:TypeId)(c1 c2 c3:Array Value):Below w.heap.size w (((w.alloc (.cells c1 T1)).alloc (.cells c2 T2)).alloc (.cells c3 T3))/\ar (((w.alloc (.cells c1 T1)).alloc (.cells c2 T2)).alloc (.cells c3 T3)) w.heap.size T1 c1/\
  ar (((w.alloc (.cells c1 T1)).alloc (.cells c2 T2)).alloc (.cells c3 T3)) (w.heap.size+1) T2 c2/\ar (((w.alloc (.cells c1 T1)).alloc (.cells c2 T2)).alloc (.cells c3 T3)) (w.heap.size+1+1) T3 c3:=by
 obtain⟨h1,h2,h3⟩:=fC w T1 T2 c1 c2;have hs:((w.alloc (.cells c1 T1)).alloc (.cells c2 T2)).heap.size=w.heap.size+1+1:=by simp
 have h4:=ar.new ((w.alloc (.cells c1 T1)).alloc (.cells c2 T2)) T3 c3;rw[hs]at h4;exact⟨h1.alloc (by omega) _,h2.alloc _,h3.alloc _,h4⟩
end
end
section
open Go.MapKept
def iH:Array Value:=#[.int .i64 0,.int .i64 0,.int .i64 0,.int .i64 0,.int .i64 0,.slice none 0 0]
theorem sE{R:Rf}(x:En)(h:R.role≠3):R.propose x=((gk,40,dZ),R):=if_pos h
theorem qs{R:Rf}{x:En}{pf:(En×Int)×bB}(h:R.role=3)(hp:R.track.putF R.hard.term x=pf)(h2:pf.1.2≠0):R.propose x=((gk,pf.1.2,dZ),{R with track:=pf.2}):=by
 unfold Rf.propose;rw[if_neg (fun e=>e h)];simp only[hp];rw[if_pos h2]
theorem sJ{R:Rf}{x:En}{pf:(En×Int)×bB}{O:Ot×Rf}(h:R.role=3)(hp:R.track.putF R.hard.term x=pf)(h2:pf.1.2=0)(hO:Rf.tell (({R with track:=pf.2}:Rf).save [pf.1.1]).all.agrees=O):R.propose x=((pf.1.1,0,O.1),O.2):=by
 unfold Rf.propose;rw[if_neg (fun e=>e h)];simp only[hp];rw[if_neg (fun e=>e h2),<-hO]
section
variable {aa ag:Nat->Nat}{b g i p q N:Nat}{w w' wX:World}{R R1:Rf}{v:Rw}{O:Ot}{X:Ox}{vy:Value}{x:En}
theorem cJ.nought(h:cJ aa b w g R1 3 wX)(QZ:ar wX (w.heap.size+1) 59 iH)(Ko:ar wX (w.heap.size+1+1) 49 bZ)(kp:i≠b) :
  ar (dA (set6 wX (w.heap.size+1) (.slice none 0 0,gk)) (w.heap.size+1+1) dZ lw) (w.heap.size+1) 59 (bY (.slice none 0 0,gk)).toArray/\ar (dA (set6 wX (w.heap.size+1) (.slice none 0 0,gk)) (w.heap.size+1+1) dZ lw) (w.heap.size+1+1) 49 (bg dZ lw)/\
   tb aa b i w g dZ R1 lw (.slice none 0 0) gk.facts (dA (set6 wX (w.heap.size+1) (.slice none 0 0,gk)) (w.heap.size+1+1) dZ lw)/\ar (set6 wX (w.heap.size+1) (.slice none 0 0,gk)) (w.heap.size+1+1) 49 bZ:=by
 have jb:=Fr.set6 wX (w.heap.size+1) (.slice none 0 0,gk);have fS:=(eW (.slice none 0 0,gk) QZ rfl).1;have BU:ar (set6 wX (w.heap.size+1) (.slice none 0 0,gk)) (w.heap.size+1+1) 49 bZ:=(jb.block _ Ko.lt (by omega)).trans Ko;have tY:=h.set (j:=w.heap.size+1) (by omega) (by omega) jb;obtain⟨hB,hT⟩:=tY.zero (i:=i) (j:=w.heap.size+1+1) (by omega) (by omega) BU kp;have Ir:=oh (set6 wX (w.heap.size+1) (.slice none 0 0,gk)) (w.heap.size+1+1) dZ lw;exact⟨(Ir.block _ fS.lt (by omega)).trans fS,hB,hT.nofacts,BU⟩
theorem cJ.same(h:cJ aa b w g R1 N wX):tb aa b i w g dZ R1 lw (.slice none 0 0) gk.facts wX:=by
 obtain⟨ag,v1,h1,h2,h3,h4,h5⟩:=h;refine⟨ag,v1,h1,jw.zero _ _ _,aG.nil _ _,fun j hj hm=>h2 j hj fun h=>hm ⟨h.1,by have:=h.2;omega⟩,fun j hj hm=>.inl ?_,h4⟩;rcases Classical.em (aN aa b j)with h|h
 ·have:=h3 j hj h;exact⟨this.1,by have:=this.2;omega⟩
 ·unfold bv at hm ⊢;rw[h2 j hj h];exact hm
theorem Co{w9:World}{q:Nat}(QZ:ar w9 (q+1) 59 iH)(Ko:ar w9 (q+1+1) 49 bZ)(vy:Value)(x:En)(O:Ot)(X:Ox) :
  ar (dA (set6 w9 (q+1) (vy,x)) (q+1+1) O X) (q+1) 59 (bY (vy,x)).toArray/\ar (dA (set6 w9 (q+1) (vy,x)) (q+1+1) O X) (q+1+1) 49 (bg O X)/\ar (set6 w9 (q+1) (vy,x)) (q+1+1) 49 bZ/\
   Fr (fun k=>q<=k/\k<q+3) w9 (dA (set6 w9 (q+1) (vy,x)) (q+1+1) O X):=by
 have jb:=Fr.set6 w9 (q+1) (vy,x);have fS:=(eW (vy,x) QZ rfl).1;have BU:ar (set6 w9 (q+1) (vy,x)) (q+1+1) 49 bZ:=(jb.block _ Ko.lt (by omega)).trans Ko;have Ir:=oh (set6 w9 (q+1) (vy,x)) (q+1+1) O X;refine⟨(Ir.block _ fS.lt (by omega)).trans fS,rV O X BU,BU,(jb.mono fun j e=>by omega).trans (Ir.mono (X':=fun k=>q<=k/\k<q+3) fun j e=>by omega) fun j e=>.inl e⟩
theorem Aq{K M:Nat}(i:Nat)(x:En)(V:Option Addr)(m d mi:Nat)(h:ax aa b w g R v)(hk:Ok K M R)(hK:K<=8000)(hM:M<=10000)(kp:i≠b)(uM:mi<=b\/b+13<mi)(hf:aG (aQ aa mi) w (.slice V m d) x.facts)(hm:m<=maxLen) :
  Calls prog 21 #[.pointer (some ⟨g,0,none⟩),.agg #[.int .i64 x.op,.int .i64 x.sess,.int .i64 x.seq,.slice V m d]] w fun e w'=>∃X A1 n1 c1,e=.returned (.tuple #[ni (R.propose x).1.1 (.slice A1 n1 c1),.int .i64 (R.propose x).1.2.1,.agg (bg (R.propose x).1.2.2 X)])/\
   tb aa b i w g (R.propose x).1.2.2 (R.propose x).2 X (.slice A1 n1 c1) (R.propose x).1.1.facts w':=by
 have cQ:=h.s.lt;have cw13:=h.s.cell 13;simp only[bE,vi,Zx]at cw13;obtain⟨aI,oo,CU,fA⟩:=vG w 42 59 49 #[.int .i64 x.op,.int .i64 x.sess,.int .i64 x.seq,.slice V m d] iH bZ;obtain⟨w3,iU⟩:=zN (((w.alloc (.cells #[.int .i64 x.op,.int .i64 x.sess,.int .i64 x.seq,.slice V m d] 42)).alloc (.cells #[.int .i64 0,.int .i64 0,.int .i64 0,.int .i64 0,.int .i64 0,.slice none 0 0] 59)).alloc (.cells #[.bool false,.bool false,.int .i64 0,.int .i64 0,.slice none 0 0,.slice none 0 0,.pointer none,.slice none 0 0,.slice none 0 0] 49));rw[show((w.alloc (.cells #[.int .i64 x.op,.int .i64 x.sess,.int .i64 x.seq,.slice V m d] 42)).alloc (.cells iH 59)).alloc (.cells bZ 49)=w3 from iU]at aI oo CU fA;have hX:=cJ.start (N:=3) h aI (by have:=fA.lt;omega);have kE:w.heap.size+1+1<w3.heap.size:=fA.lt;obtain⟨ag,v1,h1,h2,h3,h4,h5⟩:=(hX.below (w':=w3.drew) (zb.drew)).1;have Of:ax ag b w3 g R v1:=h1.keep fun _ _ _=>rfl
 obtain⟨c13,c8,c6,-⟩:=Of.s.cs [13,8,6];simp only[bE,vi,Zx]at c13 c8 c6;have gK:g<w3.heap.size:=Of.s.lt;replace iU:=zH iU;by_cases hr:R.role=3
 ·obtain⟨pf,jv⟩:=zN (R.track.putF R.hard.term x);have hn:∀j,aa j=mi->¬aN aa b j:=fun j e hx=>by unfold aN at hx;omega
  have nc:aG (aQ ag mi) w3.drew (.slice V m d) x.facts:=(hf.mono (S':=aQ ag mi) fun j hj e=>(h2 j hj (hn j e)).trans e).keep fun j hj hl=>h4.block j hl fun hx=>by
   have h6:=h3 j hl hx;have hj:ag j=mi:=hj;unfold aN at h6;omega
  have cf:=hk.trk;have eD:=ot (aQ ag mi) R.hard.term x V m d h1 (by omega) nc hm (fun j (hj:ag j=mi)=>by omega);have kh:Below w3.drew.heap.size w3.drew (w3.drew.alloc (.cells #[.int .i64 0,.int .i64 0,.int .i64 0,.int .i64 0,.int .i64 0,.slice none 0 0] 59)):=zb.alloc zl _;have ey:=ot (aQ (ai ag w3.drew.heap.size b) mi) R.hard.term x V m d (h1.fresh kh) (by omega) ((nc.mono (S':=aQ (ai ag w3.drew.heap.size b) mi) fun j hj e=>(ac hj).trans e).keep (bz.below kh)) hm (fun j (hj:ai ag w3.drew.heap.size b j=mi)=>by omega);rw[jv]at eD ey;have GH:∀wr p A1 n1 c1,iq ag b w3.drew g {R with track:=pf.2} v1 wr p (.slice A1 n1 c1) pf.1.1.facts (bY (.slice A1 n1 c1,pf.1.1)).toArray->kP aa b w g {R with track:=pf.2} 3 wr p (.slice A1 n1 c1) pf.1.1/\boxes w.heap.size 3 w3 wr:=fun wr p A1 n1 c1 hM=>by
   have hp:=Fw (N:=3) (wX:=w3.drew) h2 h3 h4 h5 (by show _<=w3.heap.size;omega) hM;exact⟨hp.1,hp.2⟩
  have Ij:ag w.heap.size=b:=(h5 w.heap.size zl (by omega)).2;have E9:w.heap.size<w3.heap.size:=by omega
  have oN:∀w5 vy fs,lS ag b w3.drew g {R with track:=pf.2} v1 w5 vy fs->w5.heap[g]?=w3.heap[g]?/\w5.heap[w.heap.size]?=w3.heap[w.heap.size]?:=fun w5 vy fs hT=>by
   obtain⟨cV,a1,a2,a3,a4⟩:=hT;exact⟨a1.s.trans Of.s.symm,a3.block w.heap.size E9 fun hm=>by unfold aN at hm;omega⟩
  have kQ:∀w5 vy fs,lS (ai ag w3.drew.heap.size b) b (w3.drew.alloc (.cells #[.int .i64 0,.int .i64 0,.int .i64 0,.int .i64 0,.int .i64 0,.slice none 0 0] 59)) g {R with track:=pf.2} v1 w5 vy fs->w5.heap[g]?=w3.heap[g]?/\w5.heap[w.heap.size]?=w3.heap[w.heap.size]?:=fun w5 vy fs hT=>by
   obtain⟨cV,a1,a2,a3,a4⟩:=hT;refine⟨a1.s.trans Of.s.symm,(a3.block w.heap.size (Nat.lt_of_lt_of_le E9 kh.size) fun hm=>?_).trans (kh.block _ E9)⟩;unfold aN at hm;rw[ac (show w.heap.size<w3.drew.heap.size from E9),Ij]at hm;omega
  obtain⟨y0,y1,y2,y3,-⟩:=oo.cs [0,1,2,3];simp only[Zx]at y0 y1 y2 y3;obtain⟨k8,k6,u0,u1,u2,u3⟩:=NO [g,w.heap.size] c8 c6 y0 y1 y2 y3;have e1:(R.role !=3)=false:=by simp[hr]
  have JB:g≠w.heap.size:=by omega
  have Qz:g≠w.heap.size+1:=by omega
  have OA:g≠w.heap.size+1+1:=by omega
  have Qb:g<w.heap.size+1:=by omega
  have Qw:g<w.heap.size+1+1:=by omega
  replace hk:=zH hk;replace jv:=zH jv;replace hr:=zH hr;clear h h1 h2 h3 h4 h5 hf nc cf hX;go_enter func21,ntmps21;go_wp2_with fail;rw[iU.out]
  go_cut [7,8] (fun s7 s8 wr=>∃p A1 n1 c1,s7=.pointer (some ⟨p,0,none⟩)/\s8=.int .i64 pf.1.2/\kP aa b w g {R with track:=pf.2} 3 wr p (.slice A1 n1 c1) pf.1.1/\boxes w.heap.size 3 w3 wr)
  case first=>
   refine Q6 [g,w.heap.size] w3 (.two [0,1,2,3,4,5,6,7,8,9] 10 14 (.one [11,12,13] 14 (.one [] 15 (.last [16]))) (.one [] 10 (.one [11,12,13] 15 (.last [16])))) ?_;refine ir fun K1 K2 ct ge=>?_
   simp only[af,Zx];repeat go_big_quiet_step(fail)
   apply wpQuiet_nil;constructor
   ·go_wp2_with fail;refine eD.mono ?_;rintro e w5 ⟨A1,n1,c1,rfl,hT⟩;go_wp2_with fail;have jp:=oN _ _ _ hT;refine⟨bO jp.1 jp.2,ct _ _ ?_⟩;clear eD ey;refine bD fun K3 jx=>?_
    simp only[af,Zx];repeat go_big_quiet_step(fail)
    apply wpQuiet_nil;go_wp2_with fail;have hM:=hT.boxed #[.int .i64 0,.int .i64 0,.int .i64 0,.int .i64 0,.int .i64 0,.slice none 0 0];have LE:Below w5.heap.size w5 (w5.alloc (.cells #[.int .i64 0,.int .i64 0,.int .i64 0,.int .i64 0,.int .i64 0,.slice none 0 0] 59)):=zb.alloc zl _;have kS:∀j,j=g\/j=w.heap.size->(w5.alloc (.cells #[.int .i64 0,.int .i64 0,.int .i64 0,.int .i64 0,.int .i64 0,.slice none 0 0] 59)).heap[j]?=w3.heap[j]?:=fun j hj=>by
     rcases hj with rfl|rfl
     ·exact(LE.block _ (by rw[Array.getElem?_eq_getElem gK]at jp;exact aV jp.1)).trans jp.1
     ·exact(LE.block _ (by rw[Array.getElem?_eq_getElem E9]at jp;exact aV jp.2)).trans jp.2
    generalize E6:w5.alloc (.cells #[.int .i64 0,.int .i64 0,.int .i64 0,.int .i64 0,.int .i64 0,.slice none 0 0] 59)=w6 at *;generalize yb:w5.heap.size=p at *;refine⟨bO (kS g (.inl rfl)) (kS _ (.inr rfl)),jx _ _ ?_⟩;refine bD fun K4 tj=>?_
    simp only[af,Zx];apply wpQuiet_nil;obtain⟨fS,rU,mX⟩:=hM.blk;obtain⟨z0,z1,z2,z3,z4,z5,-⟩:=fS.cs [0,1,2,3,4,5];simp only[Zx]at z0 z1 z2 z3 z4 z5;obtain⟨f0,f1,f2,f3,f4,f5,-⟩:=fS.fs [0,1,2,3,4,5];have KE:p≠w.heap.size:=by
     obtain⟨_,_,_,_,_,_,_,e⟩:=id hM;have e:w3.heap.size<=p:=e;omega
    have eQ:=Fr.set6 w6 p (.slice A1 n1 c1,pf.1.1);have uL:(set6 w6 p (.slice A1 n1 c1,pf.1.1)).heap[g]?=w3.heap[g]?:=(eQ.block g mX.lt fun e=>rU e.symm).trans (kS g (.inl rfl));have Sc:(set6 w6 p (.slice A1 n1 c1,pf.1.1)).heap[w.heap.size]?=w3.heap[w.heap.size]?:=(eQ.block _ (aV ((kS w.heap.size (.inr rfl)).trans oo)) fun e=>KE e.symm).trans (kS _ (.inr rfl));have oD:=hM.set pf.1.1 rfl;go_wp2_with fail;refine⟨bO uL Sc,tj _ _ ?_⟩;show eG _ _ _ _ _ _ (set6 w6 p (.slice A1 n1 c1,pf.1.1));have aF:=zH (GH _ _ _ _ _ oD);generalize set6 w6 p (.slice A1 n1 c1,pf.1.1)=w7 at *;clear hM oD fS z0 z1 z2 z3 z4 z5 f0 f1 f2 f3 f4 f5 eQ mX hT oN kQ GH;refine dz ?_;simp only[af,Zx];repeat go_big_quiet_step(fail)
    apply wpQuiet_nil;go_wp2_with fail
    go_meet
    exact⟨p,A1,n1,c1,rfl,rfl,aF.out.1,aF.out.2⟩
   ·go_wp2_with fail;refine⟨bO (kh.block g gK) (kh.block _ E9),ge _ _ ?_⟩;refine bD fun K3 jx=>?_
    simp only[af,Zx];apply wpQuiet_nil;go_wp2_with fail;refine ey.mono ?_;rintro e w6 ⟨A1,n1,c1,rfl,hT⟩;go_wp2_with fail;have jp:=kQ _ _ _ hT;have hM:=hT.box;have Bh:w3.drew.heap.size=w3.heap.size:=rfl;rw[Bh]at hM;refine⟨bO jp.1 jp.2,jx _ _ ?_⟩;clear eD ey;refine bD fun K4x Bg=>?_
    simp only[af,Zx];repeat go_big_quiet_step(fail)
    apply wpQuiet_nil;obtain⟨fS,rU,mX⟩:=hM.blk;have KE:w3.heap.size≠w.heap.size:=by omega
    generalize w3.heap.size=p at *;obtain⟨z0,z1,z2,z3,z4,z5,-⟩:=fS.cs [0,1,2,3,4,5];simp only[Zx]at z0 z1 z2 z3 z4 z5;obtain⟨f0,f1,f2,f3,f4,f5,-⟩:=fS.fs [0,1,2,3,4,5];have eQ:=Fr.set6 w6 p (.slice A1 n1 c1,pf.1.1);have uL:(set6 w6 p (.slice A1 n1 c1,pf.1.1)).heap[g]?=w3.heap[g]?:=(eQ.block g mX.lt fun e=>rU e.symm).trans jp.1;have Sc:(set6 w6 p (.slice A1 n1 c1,pf.1.1)).heap[w.heap.size]?=w3.heap[w.heap.size]?:=(eQ.block _ (aV (jp.2.trans oo)) fun e=>KE e.symm).trans jp.2;have oD:=hM.set pf.1.1 rfl;go_wp2_with fail;refine⟨bO uL Sc,Bg _ _ ?_⟩;show eG _ _ _ _ _ _ (set6 w6 p (.slice A1 n1 c1,pf.1.1));have aF:=zH (GH _ _ _ _ _ oD);generalize set6 w6 p (.slice A1 n1 c1,pf.1.1)=w7 at *;clear hM oD fS z0 z1 z2 z3 z4 z5 f0 f1 f2 f3 f4 f5 eQ mX hT oN kQ GH;refine dz ?_;simp only[af,Zx];repeat go_big_quiet_step(fail)
    apply wpQuiet_nil;go_wp2_with fail
    go_meet
    exact⟨p,A1,n1,c1,rfl,rfl,aF.out.1,aF.out.2⟩
  case rest=>
   obtain⟨p,A1,n1,c1,RY,Tx,QA,eK⟩:=hcut;subst RY;subst Tx
   rename World=>wc
   clear eD ey kh GH oN kQ c13 c8 c6 cw13 k8 k6 u0 u1 u2 u3 y0 y1 y2 y3 Of oo;have Eu:ar wc (w.heap.size+1) 59 iH:=eK.blk (by omega) (by omega) CU;have Ej:ar wc (w.heap.size+1+1) 49 bZ:=eK.blk (by omega) (by omega) fA;have Ob:=Eu.lt;have vF:=Ej.lt;by_cases hz:pf.1.2=0
   ·have xn:(pf.1.2 !=0)=false:=by simp[hz]
    have nr:=QA.blk;have pN:=QA.saves (by have:=hk.out.es;show R.out.entries.length<=_;omega);obtain⟨R5,oZ⟩:=zN ((({R with track:=pf.2}:Rf).save [pf.1.1]));rw[oZ]at pN;have iY:Ok (K+1) (M+1) R5:=by
     rw[<-oZ];have:=hk.out.put R.hard.term x;rw[jv.out]at this;exact this.save [pf.1.1]
    have tD:R5.role=3:=by rw[<-oZ];exact hr.out
    obtain⟨O,hO⟩:=zN (Rf.tell R5.all.agrees);have fW:=sJ hr.out jv.out hz (by rw[oZ,hO]);have Rt:R5.all.role=3/\R5.all.peers=R5.peers/\R5.all.n=R5.n:=by
     obtain⟨ms,e,_⟩:=ev R5.others R5;have e':R5.all=_:=e;rw[e'];exact⟨tD,rfl,rfl⟩
    have jS:=iY.all;have jz:=iY.peers tD (by omega);have Fl:R5.all.peers.length=R5.all.n+1:=by rw[Rt.2.1,Rt.2.2];exact jz.len
    replace fW:=zH fW;replace hO:=zH hO;replace iY:=zH iY;replace jS:=zH jS;replace jz:=zH jz;replace Rt:=zH Rt;replace Fl:=zH Fl;obtain⟨z0,z1,z2,z3,z4,z5,-⟩:=nr.cs [0,1,2,3,4,5];simp only[bY,vi,Zx]at z0 z1 z2 z3 z4 z5;simp only[bY,vi]at pN;clear QA nr Eu Ej oZ hz tD;go_wp2_with fail;refine pN.mono ?_;rintro e w7 ⟨rfl,AU,io⟩;have eq:=AU.act (R2:=R5.all) (E:=.returned (.tuple #[])) fun bu v2 h2 _=>kI h2 jz.out (by have:=iY.out.ms;omega)
    clear pN AU z0 z1 z2 z3 z4 z5;go_wp2_with fail;refine eq.mono ?_;rintro e w8 ⟨rfl,QP,ug⟩;have gJ:=QP.act (R2:=R5.all.agrees) (E:=.returned (.tuple #[])) fun bu v2 h2 _=>(kL h2 Fl.out (by have:=jS.out.id;omega) jS.out.cm.1 (by have:=jS.out.cm;omega) (by have:=jS.out.trk;omega) (by have:=jS.out.cs;omega)).mono fun e w' h=>⟨h.1,h.2.1⟩
    clear eq QP;go_wp2_with fail;refine gJ.mono ?_;rintro e w9 ⟨rfl,mE,my⟩;clear gJ;have UU:=((eK.trans io).trans ug).trans my;have cf:=(mE.below (w':=w9.drew) (zb.drew)).1.take i kp;have yy:=mE.blk;have KE:w.heap.size+3<=p:=by obtain⟨_,_,_,_,_,_,_,_,_,_,e⟩:=mE;exact e
    have mx:=yy.lt;rw[hO.out]at cf;unfold bg at cf;obtain⟨z0,z1,z2,z3,z4,z5,-⟩:=yy.cs [0,1,2,3,4,5];simp only[bY,vi,Zx]at z0 z1 z2 z3 z4 z5;obtain⟨k0,k1,k2,k3,k4,k5⟩:=NO [p] z0 z1 z2 z3 z4 z5;clear mE yy;go_wp2_with fail;refine mI [p] w9 [([0,1],2),([],3)] ([4],5) ?_;refine ap fun K1 ct=>?_
    simp only[af,Zx];repeat go_big_quiet_step(fail)
    apply wpQuiet_nil;go_wp2_with fail;refine cf.mono ?_;rintro e wT ⟨X,rfl,NT,Ib,yv⟩;have NT:boxes w.heap.size 3 w9 wT:=NT;have Ib:wT.heap[p]?=w9.heap[p]?:=Ib;have Pv:=UU.trans NT;have Ff:ar wT (w.heap.size+1) 59 iH:=Pv.blk (by omega) (by omega) CU;have GX:ar wT (w.heap.size+1+1) 49 bZ:=Pv.blk (by omega) (by omega) fA;obtain⟨Hy,H7,oP,Au⟩:=Co Ff GX (.slice A1 n1 c1) pf.1.1 O.1 X;have zv:=yv _ Au;obtain⟨wE,dk⟩:=zN (dA (set6 wT (w.heap.size+1) (.slice A1 n1 c1,pf.1.1)) (w.heap.size+1+1) O.1 X);rw[dk]at Hy H7 zv;replace dk:=zH dk;replace zv:=zH zv;have Ob:=Ff.lt;have vF:=GX.lt;obtain⟨q0,q1,q2,q3,q4,q5,-⟩:=Ff.cs [0,1,2,3,4,5];simp only[iH,vi,Zx]at q0 q1 q2 q3 q4 q5;obtain⟨f0,f1,f2,f3,f4,f5,-⟩:=Ff.fs [0,1,2,3,4,5];obtain⟨y0,y1,y2,y3,y4,y5,y6,y7,y8,-⟩:=GX.cs [0,1,2,3,4,5,6,7,8];simp only[bZ,vi,Zx]at y0 y1 y2 y3 y4 y5 y6 y7 y8;obtain⟨u0,u1,u2,u3,u4,u5,u6,u7,u8,-⟩:=GX.fs [0,1,2,3,4,5,6,7,8];have jb:=Fr.set6 wT (w.heap.size+1) (.slice A1 n1 c1,pf.1.1);have vq:(set6 wT (w.heap.size+1) (.slice A1 n1 c1,pf.1.1)).heap[p]?=w9.heap[p]?:=(jb.block p (by rw[Array.getElem?_eq_getElem mx]at Ib;exact aV Ib) (by omega)).trans Ib;clear cf yv Au Ff GX;go_wp2_with fail;refine⟨br Ib,ct _ _ ?_⟩;refine ap fun K2 ge=>?_
    simp only[af,Zx];apply wpQuiet_nil;go_wp2_with fail;refine⟨br vq,ge _ _ ?_⟩;refine aC ?_;simp only[af,Zx];repeat go_big_quiet_step(fail)
    apply wpQuiet_nil;go_wp2_with fail;show bodyPost _ _ _ _ _ (dA (set6 wT (w.heap.size+1) (.slice A1 n1 c1,pf.1.1)) (w.heap.size+1+1) O.1 X);rw[dk.out];obtain⟨r0,r1,r2,r3,r4,r5,-⟩:=Hy.cs [0,1,2,3,4,5];simp only[bY,vi,Zx]at r0 r1 r2 r3 r4 r5;obtain⟨t0,t1,t2,t3,t4,t5,t6,t7,t8,-⟩:=H7.cs [0,1,2,3,4,5,6,7,8];simp only[bg,vi,Zx]at t0 t1 t2 t3 t4 t5 t6 t7 t8;exact bodyPost_ret (v:=.tuple #[.agg #[.int .i64 pf.1.1.idx,.int .i64 pf.1.1.term,.int .i64 pf.1.1.op,.int .i64 pf.1.1.sess,.int .i64 pf.1.1.seq,.slice A1 n1 c1],.int .i64 0,.agg (bg O.1 X)]) (by simp[results,results21,go_sem,bg,r0,r1,r2,r3,r4,r5,t0,t1,t2,t3,t4,t5,t6,t7,t8]) rfl ⟨X,A1,n1,c1,by rw[fW.out];rfl,by rw[fW.out];exact zv.out⟩
   ·have xn:(pf.1.2 !=0)=true:=by simp[hz]
    have fW:=zH (qs hr.out jv.out hz);obtain⟨Hy,H7,yv,oP⟩:=QA.rbox.nought (i:=i) Eu Ej kp;obtain⟨wE,dk⟩:=zN (dA (set6 wc (w.heap.size+1) (.slice none 0 0,gk)) (w.heap.size+1+1) dZ lw);rw[dk]at Hy H7 yv;replace dk:=zH dk;obtain⟨z0,z1,z2,z3,z4,z5,-⟩:=Eu.cs [0,1,2,3,4,5];simp only[iH,vi,Zx]at z0 z1 z2 z3 z4 z5;obtain⟨f0,f1,f2,f3,f4,f5,-⟩:=Eu.fs [0,1,2,3,4,5];obtain⟨y0,y1,y2,y3,y4,y5,y6,y7,y8,-⟩:=Ej.cs [0,1,2,3,4,5,6,7,8];simp only[bZ,vi,Zx]at y0 y1 y2 y3 y4 y5 y6 y7 y8;obtain⟨u0,u1,u2,u3,u4,u5,u6,u7,u8,-⟩:=Ej.fs [0,1,2,3,4,5,6,7,8];replace yv:=zH yv;clear QA Eu Ej oP hz;go_wp2_with fail;show bodyPost _ _ _ _ _ (dA (set6 wc (w.heap.size+1) (.slice none 0 0,gk)) (w.heap.size+1+1) dZ lw);rw[dk.out];obtain⟨r0,r1,r2,r3,r4,r5,-⟩:=Hy.cs [0,1,2,3,4,5];simp only[bY,gk,vi,Zx]at r0 r1 r2 r3 r4 r5;obtain⟨t0,t1,t2,t3,t4,t5,t6,t7,t8,-⟩:=H7.cs [0,1,2,3,4,5,6,7,8];simp only[bg,vi,Zx]at t0 t1 t2 t3 t4 t5 t6 t7 t8;exact bodyPost_ret (v:=.tuple #[.agg #[.int .i64 0,.int .i64 0,.int .i64 0,.int .i64 0,.int .i64 0,.slice none 0 0],.int .i64 pf.1.2,.agg (bg dZ lw)]) (by simp[results,results21,go_sem,bg,r0,r1,r2,r3,r4,r5,t0,t1,t2,t3,t4,t5,t6,t7,t8]) rfl ⟨lw,none,0,0,by rw[fW.out];rfl,by rw[fW.out];exact yv.out⟩
 ·have e1:(R.role !=3)=true:=by simp[hr]
  have fW:=zH (sE x hr);have yv:=zH (hX.same (i:=i));have JB:g≠w.heap.size:=by omega
  have Qz:g≠w.heap.size+1:=by omega
  have OA:g≠w.heap.size+1+1:=by omega
  have Qb:g<w.heap.size+1:=by omega
  have Qw:g<w.heap.size+1+1:=by omega
  replace hr:=zH hr;replace hk:=zH hk;clear h h1 h2 h3 h4 h5 hf hX Of aI oo;go_enter func21,ntmps21;go_wp2_with fail;rw[iU.out];obtain⟨r0,r1,r2,r3,r4,r5,-⟩:=CU.cs [0,1,2,3,4,5];simp only[iH,vi,Zx]at r0 r1 r2 r3 r4 r5;obtain⟨t0,t1,t2,t3,t4,t5,t6,t7,t8,-⟩:=fA.cs [0,1,2,3,4,5,6,7,8];simp only[bZ,vi,Zx]at t0 t1 t2 t3 t4 t5 t6 t7 t8;exact bodyPost_ret (v:=.tuple #[.agg #[.int .i64 0,.int .i64 0,.int .i64 0,.int .i64 0,.int .i64 0,.slice none 0 0],.int .i64 40,.agg (bg dZ lw)]) (by simp[results,results21,go_sem,bg,dZ,lw,r0,r1,r2,r3,r4,r5,t0,t1,t2,t3,t4,t5,t6,t7,t8]) rfl ⟨lw,none,0,0,by rw[fW.out];rfl,by rw[fW.out];exact yv.out⟩
end
end
end Go.Proofs.YtjcninheccmpoaaGreat
