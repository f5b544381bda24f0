import Derived.Test.YtjcninheccmpoaaGreatU7
import Derived.Deep.DeepCutAuto
set_option maxRecDepth 100000
set_option maxHeartbeats 8000000
set_option linter.all false
namespace Go.Proofs.YtjcninheccmpoaaGreat
open Go.RowKit Go.Proofs.Tryz
section
open Go.MapKept
theorem CX:(prog.info? 167).map (fun i=>(i.zero,i.size,i.bytes))=some (some (.agg #[.int .i64 0,.int .i64 0,.int .i64 0]),3,24):=by kernel_rfl
theorem oL{w:World}{ops:Array Oper}{rest:List Oper}{o:Oper}{a:Act}{Q:Exit->Act->World->Prop}(iJ:o.guard=none)(s x:Operand)
  (ho:o.op=.call {callee:=.builtin .append,args:=#[s,x],argTypes:=#[98,98]})
  (base:Nat) {A:Option Addr} {n c:Nat} {l:List Wt} (hs:a.eval s=.slice A n c) (aJ:w.ownsRow base 167 3 (.slice A n c) n (l.flatMap mA))
  {B:Option Addr} {m d:Nat} {r:List Wt} (hx:a.eval x=.slice B m d) (hr:cj w 3 B m (r.flatMap mA)) (hb:n+m<=1000000000000) (bD:base<=w.heap.size)
  (h:∀A' c' w',w'.ownsRow base 167 3 (.slice A' (n+m) c') (n+m) ((l++r).flatMap mA)->Fr (aR A) w w'->(∀j,aR A' j->aR A j\/w.heap.size<=j)->wpList prog ops Q rest (a.put o.dst (.slice A' (n+m) c')) w'):wpList prog ops Q (o::rest) a w:=by
 obtain⟨i0,fT,gv,fC,fK⟩:=info_parts CX;refine bj w iJ s x 98 ho base 167 i0 _ 3 24 underlying98 fT gv fC fK rfl (by omega) (.slice A n c) n _ hs aJ B m d _ hx hr (fun u hu=>?_) (by unfold maxLen;omega) (by omega) bD fun A' c' w' h3 h4 h5=>?_
 ·obtain⟨z,_,hz⟩:=List.mem_flatMap.1 hu;unfold mA at hz;simp only[List.mem_cons,List.not_mem_nil,or_false]at hz;rcases hz with rfl|rfl|rfl <;> rfl
 ·rw[<-List.flatMap_append]at h3;exact h A' c' w' h3 (Fr.grown h4) (iP h5)
theorem RdW.one{w:World}{g:Nat}{x:Wt}(hg:ay w g 167 #[.int .i64 x.ctx,.int .i64 x.idx,.int .i64 x.round]):cj w 3 (some ⟨g,0,none⟩) 1 ([x].flatMap mA):=
 ⟨rfl,fun _=>⟨_,rfl,fun j y hy=>by
  have e:(⟨g,0,none⟩:Addr).add j=⟨g,j,none⟩:=by unfold Addr.add;split <;> simp[*]
  rw[e,hg.cell j,<-hy];simp[mA,vi]⟩⟩
section
variable {aa:Nat->Nat}{b g n c c':Nat}{w w5:World}{R:Rf}{v:Rw}{A A':Option Addr}
theorem CW(x:Wt)(h:av aa b w g R v)(hv:v.waits=.slice A n c)(ho:w5.ownsRow 0 167 3 (.slice A' (n+1) c') (n+1) ((R.waits++[x]).flatMap mA))(hF:Fr (aR A) w w5)(hr:∀j,aR A' j->aR A j\/w.heap.size<=j) :
  aq aa b w g {R with waits:=R.waits++[x]} (w5.setCell ⟨g,2,none⟩ (.slice A' (n+1) c'))/\ay w5 g 107 (bt R v)/\Fr (fun j=>aa j=b+4) w w5:=by
 obtain⟨A0,c0,e0,aJ,ir⟩:=id h.q;rw[hv]at e0;injection e0 with e1 e2 e3;subst e1;subst e2;subst e3;have MK:¬aR A g:=fun hh=>by have:=ir g hh;have:=h.sl;omega
 have uU:ay w5 g 107 (bt R v):=(hF.block g h.s.lt MK).trans h.s;have du:=Fr.set (w:=w5) g 2 (.slice A' (R.waits.length+1) c');have jm:=uU.set_ 2 (.slice A' (R.waits.length+1) c');simp only[bt,Zy]at jm;refine⟨?_,uU,hF.mono fun j hj=>ir j hj⟩;refine aq.turn (v':={v with waits:=.slice A' (R.waits.length+1) c'}) (ac:=relab aa w.heap.size (b+4)) [4] h jm (fun j hj=>ae hj) (by simp) ((hF.mono (X':=fun j=>j=g\/∃i,i∈[4]/\aa j=b+i) fun j e=>.inr ⟨4,by simp,ir j e⟩).trans du fun j e=>.inl (.inl e))
  tI tI (.inl ?_) tI tI tI tI tI tI tI tI
 show aX _ _ _ _ _ _ (R.waits++[x]).length _;rw[List.length_append];have g9:∀j,aR A' j->relab aa w.heap.size (b+4) j=b+4:=fun j hj=>by
  rcases hr j hj with h6|h6
  ·exact(ae (aI aJ A c rfl j h6).1).trans (ir j h6)
  ·exact aA h6
 refine aX.keep (w:=w5) ⟨A',c',rfl,ho,g9⟩ fun j hj hl=>du.block j hl fun e=>?_
 rw[e,ae h.s.lt]at hj;have:=h.sl;omega
theorem aq.facts{R':Rf}{w':World}{vy:Value}{fs:List Fa}(h:aq aa b w g R' w')(hf:aN (aL aa (b+13)) w vy fs):∃(ac:Nat->Nat) (v':Rw),av ac b w' g R' v'/\(∀j,j<w.heap.size->¬aH aa b j->ac j=aa j)/\(∀j,j<w.heap.size->aH aa b j->aH ac b j)/\Fr (aH aa b) w w'/\aN (aL ac (b+13)) w' vy fs:=by
 obtain⟨ac,v',h1,h2,h3,h4⟩:=h;have hn:∀j,aL aa (b+13) j->¬aH aa b j:=fun j e hm=>by
  have e:aa j=b+13:=e;unfold aH at hm;omega
 refine⟨ac,v',h1,h2,h3,h4,(hf.mono (S':=aL ac (b+13)) fun j hj e=>(h2 j hj (hn j e)).trans e).keep fun j hj hl=>h4.block j hl fun hm=>?_⟩;have e:ac j=b+13:=hj;have:=(h3 j hl hm).2;omega
end
end
section
open Go.MapKept
section
variable {aa:Nat->Nat}{b g i j N mi:Nat}{w w' wX w2:World}{R R1:Rf}{v:Rw}{O:Ot}{X:Ox}
theorem tE{ar:Nat->Nat}(h:cV ar b i wX g O R1 X w')(hj:j<wX.heap.size)(hl:ar j=b)(hk:ay wX j 49 aV)(kF:i≠b)(h2:∀j,j<w.heap.size->¬aH aa b j->ar j=aa j)(h3:∀j,j<w.heap.size->aH aa b j->aH ar b j)(h4:Fr (aH aa b) w wX)(hw:w.heap.size<=j) :
  ay w' j 49 aV/\ay (bQ w' j O X) j 49 (aK O X)/\cV aa b i w g O R1 X (bQ w' j O X):=by
 obtain⟨ac,v',q1,q2,q3,q4,q5⟩:=h;have hn:¬ba ar b j:=fun hm=>by unfold ba at hm;omega
 have T7:¬aH ar b j:=fun hm=>by unfold aH at hm;omega
 have TZ:ac j=b:=(q3 j hj hn).trans hl;have iq:ay w' j 49 aV:=(q5.block j hj T7).trans hk;have hF:=fD w' j O X;obtain⟨bK,v2,r1,r2,r3,r4,r5⟩:cV aa b i w g O R1 X w':=cV.next (ar:=ar) (w1:=wX) ⟨ac,v',q1,q2,q3,q4,q5⟩ h2 h3 h4;refine⟨iq,nJ O X iq,?_⟩;have J6:=h4.size;refine⟨ac,v',q1.keep fun k hk hl=>hF.block k hl fun e=>?_,q2.keep fun k hk hl=>hF.block k hl fun e=>kF ?_,fun k hk hm=>?_,fun k hk hm=>q4 k (by omega) ?_,r5.trans hF fun k e=>.inr (by omega)⟩
 ·unfold ba at hk;rw[e,TZ]at hk;omega
 ·rw[<-hk,e];exact TZ
 ·have e:=h2 k hk fun h=>hm ⟨h.1,by have:=h.2;omega⟩
  rw[q3 k (by omega) fun h=>hm (by unfold ba at h ⊢;rw[e]at h;exact h)];exact e
 ·rcases Classical.em (aH aa b k)with h|h
  ·have:=h3 k hk h;exact⟨this.1,by have:=this.2;omega⟩
  ·unfold ba at hm ⊢;rw[h2 k hk h];exact hm
theorem bX.take(i:Nat)(h:bX aa b w g R1 N wX)(EA:w.heap.size<=j)(Ar:j<w.heap.size+N)(hk:ay wX j 49 aV)(kF:i≠b) :
  Calls prog 52 #[.pointer (some ⟨g,0,none⟩)] wX fun e w'=>∃X,e=.returned (.agg (aK R1.tell.1 X))/\ay w' j 49 aV/\ay (bQ w' j R1.tell.1 X) j 49 (aK R1.tell.1 X)/\cV aa b i w g R1.tell.1 R1.tell.2 X (bQ w' j R1.tell.1 X):=by
 obtain⟨ar,v1,h1,h2,h3,h4,h5⟩:=h;refine(FU i h1).mono ?_;rintro e w' ⟨X,rfl,hT⟩;exact⟨X,rfl,tE hT (h5 j EA Ar).1 (h5 j EA Ar).2 hk kF h2 h3 h4 EA⟩
theorem bX.zero(h:bX aa b w g R1 N wX)(EA:w.heap.size<=j)(Ar:j<w.heap.size+N)(hk:ay wX j 49 aV)(kF:i≠b):ay (bQ wX j eO kv) j 49 (aK eO kv)/\cV aa b i w g eO R1 kv (bQ wX j eO kv):=by
 obtain⟨ar,v1,h1,h2,h3,h4,h5⟩:=h;have hT:cV ar b i wX g eO R1 kv wX:=⟨ar,v1,h1,fd.zero _ _ _,fun _ _ _=>rfl,fun _ _ h=>.inl h,Fr.refl _ _⟩;exact(tE hT (h5 j EA Ar).1 (h5 j EA Ar).2 hk kF h2 h3 h4 EA).2
theorem bX.msg2{x y:Value}{L:List En}{l:List UInt8}(h:bX aa b w g R1 N wX)(hm:mi<=b\/b+13<mi)(he:da aa mi w x L)(hd:cT aa mi w y l) :
  ∃ar v1,av ar b wX g R1 v1/\da ar mi wX x L/\cT ar mi wX y l/\∀w' R2,aq ar b wX g R2 w'->bX aa b w g R2 N w'/\cD w.heap.size N wX w':=by
 obtain⟨ar,v1,h1,h2,h3,h4,h5⟩:=h;have hn:∀j,aa j=mi->¬aH aa b j:=fun j e hx=>by unfold aH at hx;omega
 have hx:∀j,ar j=mi->j<w.heap.size->wX.heap[j]?=w.heap[j]?:=fun j hj uf=>h4.block j uf fun hx=>by
  have h6:=h3 j uf hx;unfold aH at h6;omega
 exact⟨ar,v1,h1,(he.relabel (ac:=ar) (k:=mi) fun j hl e=>(h2 j hl (hn j e)).trans e).keep hx,(hd.relabel (ac:=ar) (k:=mi) fun j hl e=>(h2 j hl (hn j e)).trans e).keep hx,fun w' R2 hP=>gO h2 h3 h4 h5 hP⟩
def jt(R:Rf)(m:Mg):Bool:=decide (R.hard.term<m.term/\m.kind≠1/\(m.kind≠2\/m.reject=true))
theorem uI{R:Rf}{m:Mg}{x:Bool}(h:jt R m=x) :
  (decide (R.hard.term<m.term)=false/\x=false)\/(R.hard.term<m.term/\(m.kind !=1)=false/\x=false)\/(R.hard.term<m.term/\(m.kind !=1)=true/\(m.kind !=2)=true/\x=true)\/(R.hard.term<m.term/\(m.kind !=1)=true/\(m.kind !=2)=false/\m.reject=x):=by
 subst h;unfold jt;by_cases a:R.hard.term<m.term
 ·by_cases c:m.kind=1
  ·exact .inr (.inl ⟨a,by simp[c],by simp[c]⟩)
  ·by_cases d:m.kind=2
   ·refine .inr (.inr (.inr ⟨a,by simp[c],by simp[d],?_⟩));cases hr:m.reject <;> simp[a,c,d]
   ·exact .inr (.inr (.inl ⟨a,by simp[c],by simp[d],by simp[a,c,d]⟩))
 ·exact .inl ⟨decide_eq_false a,by simp[a]⟩
theorem nL{K M:Nat}(i:Nat)(m:Mg)(A1 A2:Option Addr)(n1 c1 n2 c2 mi:Nat)(h:av aa b w g R v)(hk:Ok K M R)(cF:1<=K)(hK:K<=800000000)(hM:M<=1000000000)(kF:i≠b)(pK:mi<=b\/b+13<mi)(he:da aa mi w (.slice A1 n1 c1) m.entries)(hd:cT aa mi w (.slice A2 n2 c2) m.data)
  (oh:n1=m.entries.length) (uZ:n2=m.data.length) :
  Calls prog 19 #[.pointer (some ⟨g,0,none⟩),iw m (.slice A1 n1 c1) (.slice A2 n2 c2)] w fun e w'=>∃X,e=.returned (.agg (aK (R.step m).1 X))/\cV aa b i w g (R.step m).1 (R.step m).2 X w':=by
 have bV:=h.s.lt;obtain⟨aU,cA,pI⟩:=iz w 39 49 #[.int .i64 m.kind,.int .i64 m.frm,.int .i64 m.tgt,.int .i64 m.term,.int .i64 m.idx,.int .i64 m.logTerm,.int .i64 m.commit,.int .i64 m.round,.bool m.reject,.int .i64 m.offset,.int .i64 m.total,.slice A1 n1 c1,.slice A2 n2 c2] aV;obtain⟨w2,eh⟩:=zN ((w.alloc (.cells #[.int .i64 m.kind,.int .i64 m.frm,.int .i64 m.tgt,.int .i64 m.term,.int .i64 m.idx,.int .i64 m.logTerm,.int .i64 m.commit,.int .i64 m.round,.bool m.reject,.int .i64 m.offset,.int .i64 m.total,.slice A1 n1 c1,.slice A2 n2 c2] 39)).alloc (.cells #[.bool false,.bool false,.int .i64 0,.int .i64 0,.slice none 0 0,.slice none 0 0,.pointer none,.slice none 0 0,.slice none 0 0] 49));rw[show(w.alloc (.cells #[.int .i64 m.kind,.int .i64 m.frm,.int .i64 m.tgt,.int .i64 m.term,.int .i64 m.idx,.int .i64 m.logTerm,.int .i64 m.commit,.int .i64 m.round,.bool m.reject,.int .i64 m.offset,.int .i64 m.total,.slice A1 n1 c1,.slice A2 n2 c2] 39)).alloc (.cells aV 49)=w2 from eh]at aU cA pI;have hX:=bX.start (N:=2) h aU (by have:=pI.lt;omega);obtain⟨y0,y1,y2,y3,y4,y5,y6,y7,y8,y9,y10,y11,y12,-⟩:=cA.cs [0,1,2,3,4,5,6,7,8,9,10,11,12];simp only[Zx]at y0 y1 y2 y3 y4 y5 y6 y7 y8 y9 y10 y11 y12;obtain⟨bK,v2,h2,JR⟩:=hX.raft;have IK:=Cw m A1 A2 n1 n2 c1 c2 oh uZ h2;unfold iw at IK ⊢;simp only[vi]at IK ⊢;have jo:g<w2.heap.size:=h2.s.lt;have BS:w.heap.size+1<w2.heap.size:=pI.lt;have fJ:R.step m=if R.right m=false then(eO,R)else if m.term<(if jt R m=true then R.follows m.term else R).hard.term/\m.kind≠1 then((if jt R m=true then R.follows m.term else R).late m).tell else(if((if jt R m=true then R.follows m.term else R).does m).role=3 then((if jt R m=true then R.follows m.term else R).does m).reads else((if jt R m=true then R.follows m.term else R).does m)).tell:=by
  have e:(if R.hard.term<m.term/\m.kind≠1/\(m.kind≠2\/m.reject=true)then R.follows m.term else R)=if jt R m=true then R.follows m.term else R:=by
   unfold jt;by_cases hc:R.hard.term<m.term/\m.kind≠1/\(m.kind≠2\/m.reject=true)
   ·rw[if_pos hc,if_pos (by simpa using hc)]
   ·rw[if_neg hc,if_neg (by simpa using hc)]
  unfold Rf.step;simp only;rw[e]
 replace eh:=zH eh;replace oh:=zH oh;replace uZ:=zH uZ;cases Ln:R.right m
 ·rw[Ln]at IK;have hS:R.step m=(eO,R):=by rw[fJ,if_pos Ln]
  replace hS:=zH hS;replace hk:=zH hk;clear fJ h h2 he hd;go_enter func19,ntmps19;go_wp2_with fail;rw[eh.out];try go_wp2_with fail
  refine IK.mono ?_;rintro e w3 ⟨rfl,cv⟩;obtain⟨se,ky⟩:=hX.below cv;have OL:=pI.kept cv;obtain⟨nZ,fN⟩:=se.zero (i:=i) (j:=w.heap.size+1) (by omega) (by omega) OL kF;obtain⟨z0,z1,z2,z3,z4,z5,z6,z7,z8,-⟩:=OL.cs [0,1,2,3,4,5,6,7,8];simp only[aV,vi,Zx]at z0 z1 z2 z3 z4 z5 z6 z7 z8;obtain⟨u0,u1,u2,u3,u4,u5,u6,u7,u8,-⟩:=OL.fs [0,1,2,3,4,5,6,7,8];replace fN:=zH fN;clear IK hX se OL;go_wp2_with fail;show bodyPost _ _ _ _ _ (bQ w3 (w.heap.size+1) eO kv);generalize bQ w3 (w.heap.size+1) eO kv=w9 at *;obtain⟨r0,r1,r2,r3,r4,r5,r6,r7,r8,-⟩:=nZ.cs [0,1,2,3,4,5,6,7,8];simp only[aK,vi,Zx]at r0 r1 r2 r3 r4 r5 r6 r7 r8;exact bodyPost_ret (v:=.agg (aK eO kv)) (by simp[results,results19,go_sem,aK,r0,r1,r2,r3,r4,r5,r6,r7,r8]) rfl ⟨kv,by rw[hS.out],by rw[hS.out];exact fN.out⟩
 ·rw[Ln]at IK;have iL:=qZ Ln;rw[if_neg (by rw[Ln];simp)]at fJ;obtain⟨x,hx⟩:=zN (jt R m);rw[hx]at fJ;have IN:=hk.tm;replace hk:=zH hk;replace fJ:=zH fJ;clear h h2 Ln;go_enter func19,ntmps19;go_wp2_with fail;rw[eh.out];try go_wp2_with fail
  refine IK.mono ?_;rintro e w3 ⟨rfl,cv⟩;obtain⟨se,ky⟩:=hX.below cv;have As:ay w3 w.heap.size 39 #[.int .i64 m.kind,.int .i64 m.frm,.int .i64 m.tgt,.int .i64 m.term,.int .i64 m.idx,.int .i64 m.logTerm,.int .i64 m.commit,.int .i64 m.round,.bool m.reject,.int .i64 m.offset,.int .i64 m.total,.slice A1 n1 c1,.slice A2 n2 c2]:=cA.kept cv;obtain⟨dX,v3,h3,_⟩:=se.raft;clear IK hX y0 y1 y2 y3 y4 y5 y6 y7 y8 y9 y10 y11 y12 JR;obtain⟨y0,y3,y8,-⟩:=As.cs [0,3,8];simp only[Zx]at y0 y3 y8;have c6:=h3.s.cell 6;simp only[bt,vi,Zx]at c6;have ip:g<w3.heap.size:=h3.s.lt;obtain⟨k0,k3,k8,k6⟩:=IY [g,w.heap.size] y0 y3 y8 c6;have sf:=zH (se.below (w':=w3.drew) (zb.drew)).1;clear h3 se;go_wp2_with fail
  go_cut [31] (fun s31 wr=>s31=.bool x/\bX aa b w g R 2 wr/\cD w.heap.size 2 w2 wr)
  case first=>
   have fA:=uI hx;clear hx;rcases fA with⟨e1,rfl⟩|⟨e1,e2,rfl⟩|⟨e1,e2,e3,rfl⟩|⟨e1,e2,e3,rfl⟩
   ·skip
    refine gj [g,w.heap.size] w3 [] [0,1,2,3,4,5,6,7,8,9,10,11,12,13,14,15,16,17,18,19,20,21] ?_;refine an ?_;simp only[af,Zx];repeat go_big_quiet_step(fail)
    apply wpQuiet_nil;go_wp2_with fail
    go_meet
    exact⟨rfl,sf.out,ky⟩
   ·skip
    refine gj [g,w.heap.size] w3 [] [0,1,2,3,4,5,6,7,8,9,10,11,12,13,14,15,16,17,18,19,20,21] ?_;refine an ?_;simp only[af,Zx];repeat go_big_quiet_step(fail)
    apply wpQuiet_nil;go_wp2_with fail
    go_meet
    exact⟨rfl,sf.out,ky⟩
   ·skip
    refine gj [g,w.heap.size] w3 [] [0,1,2,3,4,5,6,7,8,9,10,11,12,13,14,15,16,17,18,19,20,21] ?_;refine an ?_;simp only[af,Zx];repeat go_big_quiet_step(fail)
    apply wpQuiet_nil;go_wp2_with fail
    go_meet
    exact⟨rfl,sf.out,ky⟩
   ·skip
    refine gj [g,w.heap.size] w3 [] [0,1,2,3,4,5,6,7,8,9,10,11,12,13,14,15,16,17,18,19,20,21] ?_;refine an ?_;simp only[af,Zx];repeat go_big_quiet_step(fail)
    apply wpQuiet_nil;go_wp2_with fail
    go_meet
    exact⟨rfl,sf.out,ky⟩
  case rest=>
   obtain⟨RT,tY,qh⟩:=hcut;subst RT
   rename World=>wc
   clear y0 y3 y8 c6 k0 k3 k8 k6 sf As ky;have uY:ay wc w.heap.size 39 #[.int .i64 m.kind,.int .i64 m.frm,.int .i64 m.tgt,.int .i64 m.term,.int .i64 m.idx,.int .i64 m.logTerm,.int .i64 m.commit,.int .i64 m.round,.bool m.reject,.int .i64 m.offset,.int .i64 m.total,.slice A1 n1 c1,.slice A2 n2 c2]:=qh.blk zl (by omega) cA;have y3:=uY.cell 3;simp only[Zx]at y3;go_upto_if 31 with fail
   obtain⟨R1,gE⟩:=zN ((if x=true then R.follows m.term else R));have bP:=fJ.out;rw[gE]at bP;have mb:Ok K M R1:=by
    rw[<-gE];split
    ·exact hk.out.follows (by have:=iL.term;omega) (by have:=iL.term;omega)
    ·exact hk.out
   have EL:R1.n=R.n:=by rw[<-gE];split <;> rfl
   have BN:vC R1 m:=⟨iL.kind,by rw[EL];exact iL.frm,iL.term,iL.idx,iL.lgt,iL.cmt,iL.rnd,iL.off,iL.tot,iL.el,iL.dl⟩;replace mb:=zH mb;replace bP:=zH bP
   go_cut [] (fun wr=>bX aa b w g R1 2 wr/\cD w.heap.size 2 w2 wr)
   case first=>
    cases x
    ·have I8:=zH (show R=R1 from gE);replace tY:=zH tY;clear gE;go_wp2_with fail
     go_meet
     exact⟨by rw[<-I8.out];exact tY.out,qh⟩
    ·have I8:=zH (show R.follows m.term=R1 from gE);have hf:=tY.act (fun ar v1 h=>vU m.term h);clear gE tY;go_wp2_with fail;refine hf.mono ?_;rintro e w5 ⟨rfl,mW,dp⟩;clear hf;replace mW:=zH mW;go_wp2_with fail
     go_meet
     exact⟨by rw[<-I8.out];exact mW.out,qh.trans dp⟩
   case rest=>
    rename World=>wd
    obtain⟨sf,pv⟩:=hcut;clear y3 uY qh tY gE hx IN;have Dk:ay wd w.heap.size 39 #[.int .i64 m.kind,.int .i64 m.frm,.int .i64 m.tgt,.int .i64 m.term,.int .i64 m.idx,.int .i64 m.logTerm,.int .i64 m.commit,.int .i64 m.round,.bool m.reject,.int .i64 m.offset,.int .i64 m.total,.slice A1 n1 c1,.slice A2 n2 c2]:=pv.blk zl (by omega) cA;have IH:ay wd (w.heap.size+1) 49 aV:=pv.blk (by omega) (by omega) pI;obtain⟨su,v4,h4,_⟩:=sf.raft;obtain⟨y0,y3,-⟩:=Dk.cs [0,3];simp only[Zx]at y0 y3;have c6:=h4.s.cell 6;simp only[bt,vi,Zx]at c6;have iJ:g<wd.heap.size:=h4.s.lt;obtain⟨k0,k3,k6⟩:=C3 [g,w.heap.size] y0 y3 c6;have sg:=(sf.below (w':=wd.drew) (zb.drew)).1;clear h4;by_cases hL:m.term<R1.hard.term/\m.kind≠1
    ·have dm:=hL.1;have fB:(m.kind !=1)=true:=by simp[hL.2]
     have Kb:=zH (bP.out.trans (if_pos hL));have bh:=sg.act (fun ar v1 h=>E9 m (.slice A1 n1 c1) (.slice A2 n2 c2) h (by have:=mb.out.ms;omega));unfold iw at bh;simp only[vi]at bh;obtain⟨a0,a1,a2,a3,a4,a5,a6,a7,a8,a9,a10,a11,a12,-⟩:=Dk.cs [0,1,2,3,4,5,6,7,8,9,10,11,12];simp only[Zx]at a0 a1 a2 a3 a4 a5 a6 a7 a8 a9 a10 a11 a12;replace hL:=zH hL;clear sf sg;go_wp2_with fail;refine gj [g,w.heap.size] wd [] [0,1,2,3,4,5,6,7,8,9,10,11,12] ?_;refine an ?_;simp only[af,Zx];repeat go_big_quiet_step(fail)
     apply wpQuiet_nil;go_wp2_with fail;refine bh.mono ?_;rintro e w5 ⟨rfl,mW,dp⟩;clear bh;have OM:ay w5 (w.heap.size+1) 49 aV:=dp.blk (by omega) (by omega) IH;have dw:=mW.take (j:=w.heap.size+1) i (by omega) (by omega) OM kF;obtain⟨OR,yw⟩:=zN (Rf.tell (R1.late m));rw[yw]at dw;have DW:=zH (show R.step m=OR from(Kb.out).trans yw);clear yw;unfold aK at dw;go_wp2_with fail;refine dw.mono ?_;rintro e w8 ⟨X,rfl,dZ,nZ,fN⟩;have Jq:=dZ.lt;obtain⟨z0,z1,z2,z3,z4,z5,z6,z7,z8,-⟩:=dZ.cs [0,1,2,3,4,5,6,7,8];simp only[aV,vi,Zx]at z0 z1 z2 z3 z4 z5 z6 z7 z8;obtain⟨u0,u1,u2,u3,u4,u5,u6,u7,u8,-⟩:=dZ.fs [0,1,2,3,4,5,6,7,8];replace fN:=zH fN;clear dw dZ;go_wp2_with fail;show bodyPost _ _ _ _ _ (bQ w8 (w.heap.size+1) OR.1 X);generalize bQ w8 (w.heap.size+1) OR.1 X=w9 at *;obtain⟨r0,r1,r2,r3,r4,r5,r6,r7,r8,-⟩:=nZ.cs [0,1,2,3,4,5,6,7,8];simp only[aK,vi,Zx]at r0 r1 r2 r3 r4 r5 r6 r7 r8;exact bodyPost_ret (v:=.agg (aK OR.1 X)) (by simp[results,results19,go_sem,aK,r0,r1,r2,r3,r4,r5,r6,r7,r8]) rfl ⟨X,by rw[DW.out],by rw[DW.out];exact fN.out⟩
    ·have Kb:=zH (bP.out.trans (if_neg hL));have fA:decide (m.term<R1.hard.term)=false\/(m.term<R1.hard.term/\(m.kind !=1)=false):=by
      by_cases a:m.term<R1.hard.term
      ·refine .inr ⟨a,?_⟩;by_cases c:m.kind=1
       ·simp[c]
       ·exact absurd ⟨a,c⟩ hL
      ·exact .inl (decide_eq_false a)
     obtain⟨dz,v5,h5,TI,Ge,vg⟩:=sg.msg2 pK he hd;have Mx:=DR m A1 A2 n1 c1 n2 c2 mi h5 mb.out (by omega) (by omega) pK TI Ge oh.out uZ.out BN;unfold iw at Mx;simp only[vi]at Mx;have BP:=mb.out.does cF BN;obtain⟨R2,wb⟩:=zN (R1.does m);rw[wb]at Mx BP;have EW:=Kb.out;rw[wb]at EW;replace EW:=zH EW;replace BP:=zH BP;obtain⟨a0,a1,a2,a3,a4,a5,a6,a7,a8,a9,a10,a11,a12,-⟩:=Dk.cs [0,1,2,3,4,5,6,7,8,9,10,11,12];simp only[Zx]at a0 a1 a2 a3 a4 a5 a6 a7 a8 a9 a10 a11 a12;replace hL:=zH hL;clear sf sg h5 TI Ge wb;go_wp2_with fail
     go_cut [48] (fun s48 wr=>s48=.bool false/\wr=wd.drew)
     case first=>
      rcases fA with e1|⟨e1,e2⟩
      ·skip
       refine gj [g,w.heap.size] wd [] [0,1,2,3,4,5,6,7,8,9,10,11,12] ?_;refine an ?_;simp only[af,Zx];repeat go_big_quiet_step(fail)
       apply wpQuiet_nil;go_wp2_with fail
       go_meet
       exact⟨rfl,rfl⟩
      ·skip
       refine gj [g,w.heap.size] wd [] [0,1,2,3,4,5,6,7,8,9,10,11,12] ?_;refine an ?_;simp only[af,Zx];repeat go_big_quiet_step(fail)
       apply wpQuiet_nil;go_wp2_with fail
       go_meet
       exact⟨rfl,rfl⟩
     case rest=>
      obtain⟨RU,X8⟩:=hcut;subst RU;subst X8;go_wp2_with fail;refine Mx.mono ?_;rintro e w5 ⟨rfl,pq⟩;obtain⟨mW,dp⟩:=vg _ _ pq;clear Mx pq vg;have OM:ay w5 (w.heap.size+1) 49 aV:=dp.blk (by omega) (by omega) IH;obtain⟨ut,v6,h6,_⟩:=mW.raft;have d13:=h6.s.cell 13;simp only[bt,vi,Zx]at d13;clear h6;by_cases hr:R2.role=3
      ·have OS:(R2.role==3)=true:=by simp[hr]
       have qv:=EW.out;rw[if_pos hr]at qv;have eb:=mW.act (fun ar v1 h=>tw h BP.out hr (by omega));replace qv:=zH qv;replace hr:=zH hr;clear mW;go_wp2_with fail;refine eb.mono ?_;rintro e w6 ⟨rfl,xO,lY⟩;clear eb;have uh:ay w6 (w.heap.size+1) 49 aV:=lY.blk (by omega) (by omega) OM;have dw:=xO.take (j:=w.heap.size+1) i (by omega) (by omega) uh kF;obtain⟨OR,yw⟩:=zN (Rf.tell R2.reads);rw[yw]at dw;have DW:=zH (show R.step m=OR from(qv.out).trans yw);clear yw;unfold aK at dw;go_wp2_with fail;refine dw.mono ?_;rintro e w8 ⟨X,rfl,dZ,nZ,fN⟩;have Jq:=dZ.lt;obtain⟨z0,z1,z2,z3,z4,z5,z6,z7,z8,-⟩:=dZ.cs [0,1,2,3,4,5,6,7,8];simp only[aV,vi,Zx]at z0 z1 z2 z3 z4 z5 z6 z7 z8;obtain⟨u0,u1,u2,u3,u4,u5,u6,u7,u8,-⟩:=dZ.fs [0,1,2,3,4,5,6,7,8];replace fN:=zH fN;clear dw dZ;go_wp2_with fail;show bodyPost _ _ _ _ _ (bQ w8 (w.heap.size+1) OR.1 X);generalize bQ w8 (w.heap.size+1) OR.1 X=w9 at *;obtain⟨r0,r1,r2,r3,r4,r5,r6,r7,r8,-⟩:=nZ.cs [0,1,2,3,4,5,6,7,8];simp only[aK,vi,Zx]at r0 r1 r2 r3 r4 r5 r6 r7 r8;exact bodyPost_ret (v:=.agg (aK OR.1 X)) (by simp[results,results19,go_sem,aK,r0,r1,r2,r3,r4,r5,r6,r7,r8]) rfl ⟨X,by rw[DW.out],by rw[DW.out];exact fN.out⟩
      ·have OS:(R2.role==3)=false:=by simp[hr]
       have qv:=EW.out;rw[if_neg hr]at qv;replace qv:=zH qv;replace hr:=zH hr;go_wp2_with fail;have dw:=mW.take (j:=w.heap.size+1) i (by omega) (by omega) OM kF;obtain⟨OR,yw⟩:=zN (Rf.tell R2);rw[yw]at dw;have DW:=zH (show R.step m=OR from(qv.out).trans yw);clear yw;unfold aK at dw;go_wp2_with fail;refine dw.mono ?_;rintro e w8 ⟨X,rfl,dZ,nZ,fN⟩;have Jq:=dZ.lt;obtain⟨z0,z1,z2,z3,z4,z5,z6,z7,z8,-⟩:=dZ.cs [0,1,2,3,4,5,6,7,8];simp only[aV,vi,Zx]at z0 z1 z2 z3 z4 z5 z6 z7 z8;obtain⟨u0,u1,u2,u3,u4,u5,u6,u7,u8,-⟩:=dZ.fs [0,1,2,3,4,5,6,7,8];replace fN:=zH fN;clear dw dZ;go_wp2_with fail;show bodyPost _ _ _ _ _ (bQ w8 (w.heap.size+1) OR.1 X);generalize bQ w8 (w.heap.size+1) OR.1 X=w9 at *;obtain⟨r0,r1,r2,r3,r4,r5,r6,r7,r8,-⟩:=nZ.cs [0,1,2,3,4,5,6,7,8];simp only[aK,vi,Zx]at r0 r1 r2 r3 r4 r5 r6 r7 r8;exact bodyPost_ret (v:=.agg (aK OR.1 X)) (by simp[results,results19,go_sem,aK,r0,r1,r2,r3,r4,r5,r6,r7,r8]) rfl ⟨X,by rw[DW.out],by rw[DW.out];exact fN.out⟩
end
end
section
open Go.MapKept
def pU(aa:Nat->Nat)(b i:Nat)(w:World)(g:Nat)(O:Ot)(R':Rf)(X:Ox)(vy:Value)(fs:List Fa)(w':World):Prop:=
 ∃(ac:Nat->Nat) (v':Rw),av ac b w' g R' v'/\fd ac i w' O X/\aN (aL ac i) w' vy fs/\(∀j,j<w.heap.size->¬ba aa b j->ac j=aa j)/\(∀j,j<w.heap.size->ba aa b j->ba ac b j\/ac j=i)/\Fr (aH aa b) w w'
def jL(aa:Nat->Nat)(b:Nat)(w:World)(g:Nat)(R1:Rf)(N:Nat)(wX:World)(p:Nat)(vy:Value)(x:En):Prop:=
 ∃(ac:Nat->Nat) (v':Rw),av ac b wX g R1 v'/\(∀j,j<w.heap.size->¬aH aa b j->ac j=aa j)/\(∀j,j<w.heap.size->aH aa b j->aH ac b j)/\Fr (aH aa b) w wX/\
  (∀j,w.heap.size<=j->j<w.heap.size+N->j<wX.heap.size/\ac j=b)/\aN (aL ac (b+13)) wX vy x.facts/\ay wX p 59 (dE (vy,x)).toArray/\¬ba ac b p/\w.heap.size+N<=p
section
variable {aa ar:Nat->Nat}{b g i p q N:Nat}{w w' w1 w2 wX wr:World}{R R' R1 R2:Rf}{v v1:Rw}{O:Ot}{X:Ox}{vy:Value}{x:En}{fs:List Fa}
theorem pU.tpost(h:pU aa b i w g O R' X vy fs w'):cV aa b i w g O R' X w':=by
 obtain⟨ac,v',h1,h2,_,h3,h4,h5⟩:=h;exact⟨ac,v',h1,h2,h3,h4,h5⟩
theorem cV.nofacts(h:cV aa b i w g O R' X w'):pU aa b i w g O R' X (.slice none 0 0) [] w':=by
 obtain⟨ac,v',h1,h2,h3,h4,h5⟩:=h;exact⟨ac,v',h1,h2,aN.nil _ _,h3,h4,h5⟩
theorem Fw(h2:∀j,j<w.heap.size->¬aH aa b j->ar j=aa j)(h3:∀j,j<w.heap.size->aH aa b j->aH ar b j)(h4:Fr (aH aa b) w wX)(h5:∀j,w.heap.size<=j->j<w.heap.size+N->j<wX.heap.size/\ar j=b)
  (hN:w.heap.size+N<=wX.heap.size) (hM:gB ar b wX g R' v1 wr p vy x.facts (dE (vy,x)).toArray):jL aa b w g R' N wr p vy x/\cD w.heap.size N wX wr:=by
 obtain⟨bK,q1,q2,q3,q4,q5,q6,q7⟩:=hM;have gn:=h4.size;have iY:=q3.size;refine⟨⟨bK,v1,q1,fun j hj hm=>(q2 j (by omega)).trans (h2 j hj hm),fun j hj hm=>?_,h4.trans q3 fun j hj=>?_,fun j ha hb=>?_,q4,q5,q6,by omega⟩,fun j ha hb=>q3.block j (h5 j ha hb).1 fun hm=>?_⟩
 ·have:=h3 j hj hm;unfold aH at this ⊢;rw[q2 j (by omega)];exact this
 ·rcases Nat.lt_or_ge j w.heap.size with hl|hl
  ·exact .inl (gJ h2 hl hj)
  ·exact .inr hl
 ·have:=h5 j ha hb;exact⟨by omega,(q2 j this.1).trans this.2⟩
 ·unfold aH at hm;rw[(h5 j ha hb).2]at hm;omega
theorem jL.rbox(h:jL aa b w g R1 N wX p vy x):bX aa b w g R1 N wX:=by
 obtain⟨ar,v1,h1,h2,h3,h4,h5,_⟩:=h;exact⟨ar,v1,h1,h2,h3,h4,h5⟩
theorem jL.blk(h:jL aa b w g R1 N wX p vy x):ay wX p 59 (dE (vy,x)).toArray:=by
 obtain⟨ar,v1,h1,h2,h3,h4,h5,h6,h7,_⟩:=h;exact h7
theorem ts(h2:∀j,j<w.heap.size->¬aH aa b j->ar j=aa j)(h3:∀j,j<w.heap.size->aH aa b j->aH ar b j)(h4:Fr (aH aa b) w wX)(h5:∀j,w.heap.size<=j->j<w.heap.size+N->j<wX.heap.size/\ar j=b)
  (h6:aN (aL ar (b+13)) wX vy x.facts) (h7:ay wX p 59 (dE (vy,x)).toArray) (h8:¬ba ar b p) (h9:w.heap.size+N<=p) (hP:aq ar b wX g R2 w'):jL aa b w g R2 N w' p vy x/\cD w.heap.size N wX w':=by
 obtain⟨bK,v2,q1,q2,q3,q4,q5⟩:=hP.facts h6;have gn:=h4.size;have Av:∀j,w.heap.size<=j->j<w.heap.size+N->¬aH ar b j:=fun j ha hb hm=>by
  unfold aH at hm;rw[(h5 j ha hb).2]at hm;omega
 have Om:¬aH ar b p:=fun hm=>h8 ⟨hm.1,by have:=hm.2;omega⟩
 refine⟨⟨bK,v2,q1,fun j hj hm=>?_,fun j hj hm=>q3 j (by omega) (h3 j hj hm),h4.trans q4 fun j hj=>?_,fun j ha hb=>?_,q5,(q4.block p h7.lt Om).trans h7,fun hm=>h8 ?_,h9⟩,fun j ha hb=>q4.block j (h5 j ha hb).1 (Av j ha hb)⟩
 ·rw[q2 j (by omega) fun h=>hm (gJ h2 hj h)];exact h2 j hj hm
 ·rcases Nat.lt_or_ge j w.heap.size with hl|hl
  ·exact .inl (gJ h2 hl hj)
  ·exact .inr hl
 ·have:=h5 j ha hb;have hq:=q4.size;exact⟨by omega,(q2 j this.1 (Av j ha hb)).trans this.2⟩
 ·unfold ba at hm ⊢;rw[q2 p h7.lt Om]at hm;exact hm
theorem jL.act{f:Nat}{args:Array Value}{E:Ending}(h:jL aa b w g R1 N wX p vy x)(hs:∀ar v1,av ar b wX g R1 v1->aN (aL ar (b+13)) wX vy x.facts->Calls prog f args wX fun e w'=>e=E/\aq ar b wX g R2 w') :
  Calls prog f args wX fun e w'=>e=E/\jL aa b w g R2 N w' p vy x/\cD w.heap.size N wX w':=by
 obtain⟨ar,v1,h1,h2,h3,h4,h5,h6,h7,h8,h9⟩:=h;refine(hs ar v1 h1 h6).mono ?_;rintro e w' ⟨rfl,hP⟩;exact⟨rfl,ts h2 h3 h4 h5 h6 h7 h8 h9 hP⟩
theorem jL.below(h:jL aa b w g R1 N wX p vy x)(hb:Below wX.heap.size wX w'):jL aa b w g R1 N w' p vy x/\cD w.heap.size N wX w':=by
 obtain⟨ar,v1,h1,h2,h3,h4,h5,h6,h7,h8,h9⟩:=h;exact ts h2 h3 h4 h5 h6 h7 h8 h9 (aq.below (w1:=wX) ⟨ar,v1,h1,fun _ _ _=>rfl,fun _ _ h=>h,Fr.refl _ _⟩ hb)
theorem jL.saves(h:jL aa b w g R1 N wX p vy x)(hN:R1.out.entries.length<=10000000000) :
  Calls prog 67 #[.pointer (some ⟨g,0,none⟩),.slice (some ⟨wX.heap.size,0,none⟩) 1 1] (wX.alloc (.cells (dE (vy,x)).toArray 59)) fun e w2=>e=.returned (.tuple #[])/\jL aa b w g (R1.save [x]) N w2 p vy x/\cD w.heap.size N wX w2:=by
 have hb:Below wX.heap.size wX (wX.alloc (.cells (dE (vy,x)).toArray 59)):=(Below.refl wX.heap.size wX).alloc zl _;obtain⟨h',dZ⟩:=h.below hb;obtain⟨ao,v0,Ov,_⟩:=id h;have bV:=Ov.s.lt;refine(h'.act (R2:=R1.save [x]) (E:=.returned (.tuple #[])) fun ar v1 h1 h4=>?_).mono ?_
 ·refine(oz (some ⟨wX.heap.size,0,none⟩) 1 1 [(vy,x)] h1 (im.one (ay.new _ _ _)) (fun z hz=>?_) (fun _ j hj e=>?_) (by omega) hN).mono ?_
  ·rw[List.mem_singleton.1 hz];exact h4
  ·obtain⟨ad,e1,e2⟩:=hj;cases e1;have e2:wX.heap.size=j:=e2;omega
  ·rintro e w2 ⟨rfl,hP⟩;exact⟨rfl,hP⟩
 ·rintro e w2 ⟨rfl,hP,bU⟩;exact⟨rfl,hP,dZ.trans bU⟩
theorem HT(i:Nat)(h:av aa b w g R v) :
  Calls prog 52 #[.pointer (some ⟨g,0,none⟩)] w fun e w'=>∃X v',e=.returned (.agg (aK R.tell.1 X))/\av (cC aa b i) b w' g R.tell.2 v'/\fd (cC aa b i) i w' R.tell.1 X/\Fr (aH aa b) w w':=by
 refine(xv i h).mono ?_;rintro e w' ⟨rfl,h1,h2,h3⟩;obtain⟨_,⟨A1,d1,GG,_⟩,_⟩:=id h2.e;obtain⟨_,⟨A2,d2,GH,_⟩,_⟩:=id h2.c;obtain⟨A3,GI⟩:∃p,v.snp=.pointer p:=by
  have hn:=h2.s;cases hx:R.tell.1.snap with
  | none=>rw[hx]at hn;exact⟨_,hn⟩
  | some s=>rw[hx]at hn;obtain⟨q,vd,e,_⟩:=hn;exact⟨_,e⟩
 obtain⟨A4,d4,GJ,_⟩:=id h2.r;obtain⟨_,⟨A5,d5,GK,_⟩,_⟩:=id h2.m;rw[GG,GH,GI,GJ,GK]at h2;refine⟨⟨A1,d1,A2,d2,A3,A4,d4,A5,d5⟩,_,?_,h1,h2,h3⟩;rw[GG,GH,GI,GJ,GK];rfl
theorem jL.take(i:Nat)(h:jL aa b w g R1 N wX p vy x)(kF:i≠b) :
  Calls prog 52 #[.pointer (some ⟨g,0,none⟩)] wX fun e w'=>∃X,e=.returned (.agg (aK R1.tell.1 X))/\cD w.heap.size N wX w'/\w'.heap[p]?=wX.heap[p]?/\
   ∀w'',Fr (fun k=>w.heap.size<=k/\k<w.heap.size+N) w' w''->pU aa b i w g R1.tell.1 R1.tell.2 X vy x.facts w'':=by
 obtain⟨ar,v1,h1,h2,h3,h4,h5,h6,h7,h8,h9⟩:=h;refine(HT i h1).mono ?_;rintro e w' ⟨X,v',rfl,q1,q2,q3⟩;have gn:=h4.size;have iY:=q3.size;have Av:∀j,w.heap.size<=j->j<w.heap.size+N->¬aH ar b j:=fun j ha hb hm=>by
  unfold aH at hm;rw[(h5 j ha hb).2]at hm;omega
 have Om:¬aH ar b p:=fun hm=>h8 ⟨hm.1,by have:=hm.2;omega⟩
 have Dj:∀k,w.heap.size<=k->k<w.heap.size+N->cC ar b i k=b:=fun k ha hb=>by
  have e:=(h5 k ha hb).2;unfold cC;rw[if_neg (by omega)];exact e
 refine⟨X,rfl,fun j ha hb=>q3.block j (h5 j ha hb).1 (Av j ha hb),q3.block p h7.lt Om,fun w'' hF=>?_⟩;have hk:∀j,¬cC ar b i j=b->j<w'.heap.size->w''.heap[j]?=w'.heap[j]?:=fun j hj hl=>hF.block j hl fun e=>hj (Dj j e.1 e.2)
 refine⟨cC ar b i,v',q1.keep fun j hj hl=>hk j (fun e=>by unfold ba at hj;omega) hl,q2.keep fun j hj hl=>hk j (fun e=>kF (hj.symm.trans e)) hl,?_,fun j hj hm=>?_,fun j hj hm=>?_,(h4.trans q3 fun j hj=>?_).trans hF fun j hj=>.inr hj.1⟩
 ·have Es:aN (aL (cC ar b i) i) wX vy x.facts:=h6.mono fun j hj e=>lF (q:=13) e (by omega)
  have BG:aN (aL ar (b+13)) w' vy x.facts:=h6.keep fun j hj hl=>q3.block j hl fun hm=>by
   have hj:ar j=b+13:=hj;unfold aH at hm;omega
  exact(BG.mono (S':=aL (cC ar b i) i) fun j hj e=>lF (q:=13) e (by omega)).keep fun j hj hl=>hk j (fun e=>kF (hj.symm.trans e)) hl
 ·have e:=h2 j hj fun h=>hm ⟨h.1,by have:=h.2;omega⟩
  rw[<-e];unfold cC;rw[if_neg];unfold ba at hm;rw[<-e]at hm;omega
 ·have uX:ba ar b j:=by
   rcases Classical.em (aH aa b j)with h|h
   ·have:=h3 j hj h;exact⟨this.1,by have:=this.2;omega⟩
   ·unfold ba at hm ⊢;rw[h2 j hj h];exact hm
  by_cases hc:ar j=b+8\/ar j=b+9\/ar j=b+11\/ar j=b+12\/ar j=b+13
  ·exact .inr (if_pos hc)
  ·refine .inl ?_;have e:cC ar b i j=ar j:=if_neg hc;unfold ba at uX ⊢;rw[e];exact uX
 ·rcases Nat.lt_or_ge j w.heap.size with hl|hl
  ·exact .inl (gJ h2 hl hj)
  ·exact .inr hl
theorem CP(w:World)(T1 T2 T3:TypeId)(c1 c2 c3:Array Value):Below w.heap.size w (((w.alloc (.cells c1 T1)).alloc (.cells c2 T2)).alloc (.cells c3 T3))/\ay (((w.alloc (.cells c1 T1)).alloc (.cells c2 T2)).alloc (.cells c3 T3)) w.heap.size T1 c1/\
  ay (((w.alloc (.cells c1 T1)).alloc (.cells c2 T2)).alloc (.cells c3 T3)) (w.heap.size+1) T2 c2/\ay (((w.alloc (.cells c1 T1)).alloc (.cells c2 T2)).alloc (.cells c3 T3)) (w.heap.size+1+1) T3 c3:=by
 obtain⟨h1,h2,h3⟩:=iz w T1 T2 c1 c2;have hs:((w.alloc (.cells c1 T1)).alloc (.cells c2 T2)).heap.size=w.heap.size+1+1:=by simp
 have h4:=ay.new ((w.alloc (.cells c1 T1)).alloc (.cells c2 T2)) T3 c3;rw[hs]at h4;exact⟨h1.alloc (by omega) _,h2.alloc _,h3.alloc _,h4⟩
end
end
section
open Go.MapKept
def cE:Array Value:=#[.int .i64 0,.int .i64 0,.int .i64 0,.int .i64 0,.int .i64 0,.slice none 0 0]
theorem zv{R:Rf}(x:En)(h:R.role≠3):R.propose x=((jx,40,eO),R):=if_pos h
theorem xk{R:Rf}{x:En}{pf:(En×Int)×bv}(h:R.role=3)(hp:R.track.putF R.hard.term x=pf)(h2:pf.1.2≠0):R.propose x=((jx,pf.1.2,eO),{R with track:=pf.2}):=by
 unfold Rf.propose;rw[if_neg (fun e=>e h)];simp only[hp];rw[if_pos h2]
theorem zw{R:Rf}{x:En}{pf:(En×Int)×bv}{O:Ot×Rf}(h:R.role=3)(hp:R.track.putF R.hard.term x=pf)(h2:pf.1.2=0)(hO:Rf.tell (({R with track:=pf.2}:Rf).save [pf.1.1]).all.agrees=O):R.propose x=((pf.1.1,0,O.1),O.2):=by
 unfold Rf.propose;rw[if_neg (fun e=>e h)];simp only[hp];rw[if_neg (fun e=>e h2),<-hO]
section
variable {aa ar:Nat->Nat}{b g i p q N:Nat}{w w' wX:World}{R R1:Rf}{v:Rw}{O:Ot}{X:Ox}{vy:Value}{x:En}
theorem bX.nought(h:bX aa b w g R1 3 wX)(Ra:ay wX (w.heap.size+1) 59 cE)(M5:ay wX (w.heap.size+1+1) 49 aV)(kF:i≠b) :
  ay (bQ (set6 wX (w.heap.size+1) (.slice none 0 0,jx)) (w.heap.size+1+1) eO kv) (w.heap.size+1) 59 (dE (.slice none 0 0,jx)).toArray/\ay (bQ (set6 wX (w.heap.size+1) (.slice none 0 0,jx)) (w.heap.size+1+1) eO kv) (w.heap.size+1+1) 49 (aK eO kv)/\
   pU aa b i w g eO R1 kv (.slice none 0 0) jx.facts (bQ (set6 wX (w.heap.size+1) (.slice none 0 0,jx)) (w.heap.size+1+1) eO kv)/\ay (set6 wX (w.heap.size+1) (.slice none 0 0,jx)) (w.heap.size+1+1) 49 aV:=by
 have mq:=Fr.set6 wX (w.heap.size+1) (.slice none 0 0,jx);have jv:=(iD (.slice none 0 0,jx) Ra rfl).1;have EB:ay (set6 wX (w.heap.size+1) (.slice none 0 0,jx)) (w.heap.size+1+1) 49 aV:=(mq.block _ M5.lt (by omega)).trans M5;have xO:=h.set (j:=w.heap.size+1) (by omega) (by omega) mq;obtain⟨hB,hT⟩:=xO.zero (i:=i) (j:=w.heap.size+1+1) (by omega) (by omega) EB kF;have GO:=fD (set6 wX (w.heap.size+1) (.slice none 0 0,jx)) (w.heap.size+1+1) eO kv;exact⟨(GO.block _ jv.lt (by omega)).trans jv,hB,hT.nofacts,EB⟩
theorem bX.same(h:bX aa b w g R1 N wX):pU aa b i w g eO R1 kv (.slice none 0 0) jx.facts wX:=by
 obtain⟨ar,v1,h1,h2,h3,h4,h5⟩:=h;refine⟨ar,v1,h1,fd.zero _ _ _,aN.nil _ _,fun j hj hm=>h2 j hj fun h=>hm ⟨h.1,by have:=h.2;omega⟩,fun j hj hm=>.inl ?_,h4⟩;rcases Classical.em (aH aa b j)with h|h
 ·have:=h3 j hj h;exact⟨this.1,by have:=this.2;omega⟩
 ·unfold ba at hm ⊢;rw[h2 j hj h];exact hm
theorem yc{w9:World}{q:Nat}(Ra:ay w9 (q+1) 59 cE)(M5:ay w9 (q+1+1) 49 aV)(vy:Value)(x:En)(O:Ot)(X:Ox) :
  ay (bQ (set6 w9 (q+1) (vy,x)) (q+1+1) O X) (q+1) 59 (dE (vy,x)).toArray/\ay (bQ (set6 w9 (q+1) (vy,x)) (q+1+1) O X) (q+1+1) 49 (aK O X)/\ay (set6 w9 (q+1) (vy,x)) (q+1+1) 49 aV/\
   Fr (fun k=>q<=k/\k<q+3) w9 (bQ (set6 w9 (q+1) (vy,x)) (q+1+1) O X):=by
 have mq:=Fr.set6 w9 (q+1) (vy,x);have jv:=(iD (vy,x) Ra rfl).1;have EB:ay (set6 w9 (q+1) (vy,x)) (q+1+1) 49 aV:=(mq.block _ M5.lt (by omega)).trans M5;have GO:=fD (set6 w9 (q+1) (vy,x)) (q+1+1) O X;refine⟨(GO.block _ jv.lt (by omega)).trans jv,nJ O X EB,EB,(mq.mono fun j e=>by omega).trans (GO.mono (X':=fun k=>q<=k/\k<q+3) fun j e=>by omega) fun j e=>.inl e⟩
theorem xj{K M:Nat}(i:Nat)(x:En)(V:Option Addr)(m d mi:Nat)(h:av aa b w g R v)(hk:Ok K M R)(hK:K<=800000000)(hM:M<=1000000000)(kF:i≠b)(pK:mi<=b\/b+13<mi)(hf:aN (aL aa mi) w (.slice V m d) x.facts)(hm:m<=maxLen) :
  Calls prog 21 #[.pointer (some ⟨g,0,none⟩),.agg #[.int .i64 x.op,.int .i64 x.sess,.int .i64 x.seq,.slice V m d]] w fun e w'=>∃X A1 n1 c1,e=.returned (.tuple #[rN (R.propose x).1.1 (.slice A1 n1 c1),.int .i64 (R.propose x).1.2.1,.agg (aK (R.propose x).1.2.2 X)])/\
   pU aa b i w g (R.propose x).1.2.2 (R.propose x).2 X (.slice A1 n1 c1) (R.propose x).1.1.facts w':=by
 have bV:=h.s.lt;have cw13:=h.s.cell 13;simp only[bt,vi,Zx]at cw13;obtain⟨aU,qh,G0,pI⟩:=CP w 42 59 49 #[.int .i64 x.op,.int .i64 x.sess,.int .i64 x.seq,.slice V m d] cE aV;obtain⟨w3,fX⟩:=zN (((w.alloc (.cells #[.int .i64 x.op,.int .i64 x.sess,.int .i64 x.seq,.slice V m d] 42)).alloc (.cells #[.int .i64 0,.int .i64 0,.int .i64 0,.int .i64 0,.int .i64 0,.slice none 0 0] 59)).alloc (.cells #[.bool false,.bool false,.int .i64 0,.int .i64 0,.slice none 0 0,.slice none 0 0,.pointer none,.slice none 0 0,.slice none 0 0] 49));rw[show((w.alloc (.cells #[.int .i64 x.op,.int .i64 x.sess,.int .i64 x.seq,.slice V m d] 42)).alloc (.cells cE 59)).alloc (.cells aV 49)=w3 from fX]at aU qh G0 pI;have hX:=bX.start (N:=3) h aU (by have:=pI.lt;omega);have BS:w.heap.size+1+1<w3.heap.size:=pI.lt;obtain⟨ar,v1,h1,h2,h3,h4,h5⟩:=(hX.below (w':=w3.drew) (zb.drew)).1;have KL:av ar b w3 g R v1:=h1.keep fun _ _ _=>rfl
 obtain⟨c13,c8,c6,-⟩:=KL.s.cs [13,8,6];simp only[bt,vi,Zx]at c13 c8 c6;have ip:g<w3.heap.size:=KL.s.lt;replace fX:=zH fX;by_cases hr:R.role=3
 ·obtain⟨pf,oT⟩:=zN (R.track.putF R.hard.term x);have hn:∀j,aa j=mi->¬aH aa b j:=fun j e hx=>by unfold aH at hx;omega
  have Es:aN (aL ar mi) w3.drew (.slice V m d) x.facts:=(hf.mono (S':=aL ar mi) fun j hj e=>(h2 j hj (hn j e)).trans e).keep fun j hj hl=>h4.block j hl fun hx=>by
   have h6:=h3 j hl hx;have hj:ar j=mi:=hj;unfold aH at h6;omega
  have dw:=hk.trk;have lj:=nO (aL ar mi) R.hard.term x V m d h1 (by omega) Es hm (fun j (hj:ar j=mi)=>by omega);have np:Below w3.drew.heap.size w3.drew (w3.drew.alloc (.cells #[.int .i64 0,.int .i64 0,.int .i64 0,.int .i64 0,.int .i64 0,.slice none 0 0] 59)):=zb.alloc zl _;have lm:=nO (aL (relab ar w3.drew.heap.size b) mi) R.hard.term x V m d (h1.fresh np) (by omega) ((Es.mono (S':=aL (relab ar w3.drew.heap.size b) mi) fun j hj e=>(ae hj).trans e).keep (b5.below np)) hm (fun j (hj:relab ar w3.drew.heap.size b j=mi)=>by omega);rw[oT]at lj lm;have EI:∀wr p A1 n1 c1,gB ar b w3.drew g {R with track:=pf.2} v1 wr p (.slice A1 n1 c1) pf.1.1.facts (dE (.slice A1 n1 c1,pf.1.1)).toArray->jL aa b w g {R with track:=pf.2} 3 wr p (.slice A1 n1 c1) pf.1.1/\cD w.heap.size 3 w3 wr:=fun wr p A1 n1 c1 hM=>by
   have hp:=Fw (N:=3) (wX:=w3.drew) h2 h3 h4 h5 (by show _<=w3.heap.size;omega) hM;exact⟨hp.1,hp.2⟩
  have XJ:ar w.heap.size=b:=(h5 w.heap.size zl (by omega)).2;have Lj:w.heap.size<w3.heap.size:=by omega
  have AD:∀w5 vy fs,kN ar b w3.drew g {R with track:=pf.2} v1 w5 vy fs->w5.heap[g]?=w3.heap[g]?/\w5.heap[w.heap.size]?=w3.heap[w.heap.size]?:=fun w5 vy fs hT=>by
   obtain⟨dz,a1,a2,a3,a4⟩:=hT;exact⟨a1.s.trans KL.s.symm,a3.block w.heap.size Lj fun hm=>by unfold aH at hm;omega⟩
  have un:∀w5 vy fs,kN (relab ar w3.drew.heap.size b) b (w3.drew.alloc (.cells #[.int .i64 0,.int .i64 0,.int .i64 0,.int .i64 0,.int .i64 0,.slice none 0 0] 59)) g {R with track:=pf.2} v1 w5 vy fs->w5.heap[g]?=w3.heap[g]?/\w5.heap[w.heap.size]?=w3.heap[w.heap.size]?:=fun w5 vy fs hT=>by
   obtain⟨dz,a1,a2,a3,a4⟩:=hT;refine⟨a1.s.trans KL.s.symm,(a3.block w.heap.size (Nat.lt_of_lt_of_le Lj np.size) fun hm=>?_).trans (np.block _ Lj)⟩;unfold aH at hm;rw[ae (show w.heap.size<w3.drew.heap.size from Lj),XJ]at hm;omega
  obtain⟨y0,y1,y2,y3,-⟩:=qh.cs [0,1,2,3];simp only[Zx]at y0 y1 y2 y3;obtain⟨k8,k6,u0,u1,u2,u3⟩:=O7 [g,w.heap.size] c8 c6 y0 y1 y2 y3;have e1:(R.role !=3)=false:=by simp[hr]
  have K0:g≠w.heap.size:=by omega
  have Q1:g≠w.heap.size+1:=by omega
  have Q2:g≠w.heap.size+1+1:=by omega
  have Q3:g<w.heap.size+1:=by omega
  have Q4:g<w.heap.size+1+1:=by omega
  replace hk:=zH hk;replace oT:=zH oT;replace hr:=zH hr;clear h h1 h2 h3 h4 h5 hf Es dw hX;go_enter func21,ntmps21;go_wp2_with fail;rw[fX.out]
  go_cut [7,8] (fun s7 s8 wr=>∃p A1 n1 c1,s7=.pointer (some ⟨p,0,none⟩)/\s8=.int .i64 pf.1.2/\jL aa b w g {R with track:=pf.2} 3 wr p (.slice A1 n1 c1) pf.1.1/\cD w.heap.size 3 w3 wr)
  case first=>
   refine SP [g,w.heap.size] w3 (.two [0,1,2,3,4,5,6,7,8,9] 10 14 (.one [11,12,13] 14 (.one [] 15 (.last [16]))) (.one [] 10 (.one [11,12,13] 15 (.last [16])))) ?_;refine ke fun K1 K2 cF jl=>?_
   simp only[af,Zx];repeat go_big_quiet_step(fail)
   apply wpQuiet_nil;constructor
   ·go_wp2_with fail;refine lj.mono ?_;rintro e w5 ⟨A1,n1,c1,rfl,hT⟩;go_wp2_with fail;have lN:=AD _ _ _ hT;refine⟨dc lN.1 lN.2,cF _ _ ?_⟩;clear lj lm;refine bZ fun K3 jS=>?_
    simp only[af,Zx];repeat go_big_quiet_step(fail)
    apply wpQuiet_nil;go_wp2_with fail;have hM:=hT.boxed #[.int .i64 0,.int .i64 0,.int .i64 0,.int .i64 0,.int .i64 0,.slice none 0 0];have Tz:Below w5.heap.size w5 (w5.alloc (.cells #[.int .i64 0,.int .i64 0,.int .i64 0,.int .i64 0,.int .i64 0,.slice none 0 0] 59)):=zb.alloc zl _;have xQ:∀j,j=g\/j=w.heap.size->(w5.alloc (.cells #[.int .i64 0,.int .i64 0,.int .i64 0,.int .i64 0,.int .i64 0,.slice none 0 0] 59)).heap[j]?=w3.heap[j]?:=fun j hj=>by
     rcases hj with rfl|rfl
     ·exact(Tz.block _ (by rw[Array.getElem?_eq_getElem ip]at lN;exact aS lN.1)).trans lN.1
     ·exact(Tz.block _ (by rw[Array.getElem?_eq_getElem Lj]at lN;exact aS lN.2)).trans lN.2
    generalize mJ:w5.alloc (.cells #[.int .i64 0,.int .i64 0,.int .i64 0,.int .i64 0,.int .i64 0,.slice none 0 0] 59)=w6 at *;generalize Xz:w5.heap.size=p at *;refine⟨dc (xQ g (.inl rfl)) (xQ _ (.inr rfl)),jS _ _ ?_⟩;refine bZ fun K4 tW=>?_
    simp only[af,Zx];apply wpQuiet_nil;obtain⟨jv,ER,yT⟩:=hM.blk;obtain⟨z0,z1,z2,z3,z4,z5,-⟩:=jv.cs [0,1,2,3,4,5];simp only[Zx]at z0 z1 z2 z3 z4 z5;obtain⟨f0,f1,f2,f3,f4,f5,-⟩:=jv.fs [0,1,2,3,4,5];have OP:p≠w.heap.size:=by
     obtain⟨_,_,_,_,_,_,_,e⟩:=id hM;have e:w3.heap.size<=p:=e;omega
    have du:=Fr.set6 w6 p (.slice A1 n1 c1,pf.1.1);have Ha:(set6 w6 p (.slice A1 n1 c1,pf.1.1)).heap[g]?=w3.heap[g]?:=(du.block g yT.lt fun e=>ER e.symm).trans (xQ g (.inl rfl));have RK:(set6 w6 p (.slice A1 n1 c1,pf.1.1)).heap[w.heap.size]?=w3.heap[w.heap.size]?:=(du.block _ (aS ((xQ w.heap.size (.inr rfl)).trans qh)) fun e=>OP e.symm).trans (xQ _ (.inr rfl));have vZ:=hM.set pf.1.1 rfl;go_wp2_with fail;refine⟨dc Ha RK,tW _ _ ?_⟩;show fj _ _ _ _ _ _ (set6 w6 p (.slice A1 n1 c1,pf.1.1));have aO:=zH (EI _ _ _ _ _ vZ);generalize set6 w6 p (.slice A1 n1 c1,pf.1.1)=w7 at *;clear hM vZ jv z0 z1 z2 z3 z4 z5 f0 f1 f2 f3 f4 f5 du yT hT AD un EI;refine eN ?_;simp only[af,Zx];repeat go_big_quiet_step(fail)
    apply wpQuiet_nil;go_wp2_with fail
    go_meet
    exact⟨p,A1,n1,c1,rfl,rfl,aO.out.1,aO.out.2⟩
   ·go_wp2_with fail;refine⟨dc (np.block g ip) (np.block _ Lj),jl _ _ ?_⟩;refine bZ fun K3 jS=>?_
    simp only[af,Zx];apply wpQuiet_nil;go_wp2_with fail;refine lm.mono ?_;rintro e w6 ⟨A1,n1,c1,rfl,hT⟩;go_wp2_with fail;have lN:=un _ _ _ hT;have hM:=hT.box;have sY:w3.drew.heap.size=w3.heap.size:=rfl;rw[sY]at hM;refine⟨dc lN.1 lN.2,jS _ _ ?_⟩;clear lj lm;refine bZ fun K4x I5=>?_
    simp only[af,Zx];repeat go_big_quiet_step(fail)
    apply wpQuiet_nil;obtain⟨jv,ER,yT⟩:=hM.blk;have OP:w3.heap.size≠w.heap.size:=by omega
    generalize w3.heap.size=p at *;obtain⟨z0,z1,z2,z3,z4,z5,-⟩:=jv.cs [0,1,2,3,4,5];simp only[Zx]at z0 z1 z2 z3 z4 z5;obtain⟨f0,f1,f2,f3,f4,f5,-⟩:=jv.fs [0,1,2,3,4,5];have du:=Fr.set6 w6 p (.slice A1 n1 c1,pf.1.1);have Ha:(set6 w6 p (.slice A1 n1 c1,pf.1.1)).heap[g]?=w3.heap[g]?:=(du.block g yT.lt fun e=>ER e.symm).trans lN.1;have RK:(set6 w6 p (.slice A1 n1 c1,pf.1.1)).heap[w.heap.size]?=w3.heap[w.heap.size]?:=(du.block _ (aS (lN.2.trans qh)) fun e=>OP e.symm).trans lN.2;have vZ:=hM.set pf.1.1 rfl;go_wp2_with fail;refine⟨dc Ha RK,I5 _ _ ?_⟩;show fj _ _ _ _ _ _ (set6 w6 p (.slice A1 n1 c1,pf.1.1));have aO:=zH (EI _ _ _ _ _ vZ);generalize set6 w6 p (.slice A1 n1 c1,pf.1.1)=w7 at *;clear hM vZ jv z0 z1 z2 z3 z4 z5 f0 f1 f2 f3 f4 f5 du yT hT AD un EI;refine eN ?_;simp only[af,Zx];repeat go_big_quiet_step(fail)
    apply wpQuiet_nil;go_wp2_with fail
    go_meet
    exact⟨p,A1,n1,c1,rfl,rfl,aO.out.1,aO.out.2⟩
  case rest=>
   obtain⟨p,A1,n1,c1,ou,XX,LQ,dZ⟩:=hcut;subst ou;subst XX
   rename World=>wc
   clear lj lm np EI AD un c13 c8 c6 cw13 k8 k6 u0 u1 u2 u3 y0 y1 y2 y3 KL qh;have KY:ay wc (w.heap.size+1) 59 cE:=dZ.blk (by omega) (by omega) G0;have Lh:ay wc (w.heap.size+1+1) 49 aV:=dZ.blk (by omega) (by omega) pI;have QK:=KY.lt;have EP:=Lh.lt;by_cases hz:pf.1.2=0
   ·have NY:(pf.1.2 !=0)=false:=by simp[hz]
    have sm:=LQ.blk;have iS:=LQ.saves (by have:=hk.out.es;show R.out.entries.length<=_;omega);obtain⟨R5,uS⟩:=zN ((({R with track:=pf.2}:Rf).save [pf.1.1]));rw[uS]at iS;have pz:Ok (K+1) (M+1) R5:=by
     rw[<-uS];have:=hk.out.put R.hard.term x;rw[oT.out]at this;exact this.save [pf.1.1]
    have ES:R5.role=3:=by rw[<-uS];exact hr.out
    obtain⟨O,hO⟩:=zN (Rf.tell R5.all.agrees);have mw:=zw hr.out oT.out hz (by rw[uS,hO]);have Ow:R5.all.role=3/\R5.all.peers=R5.peers/\R5.all.n=R5.n:=by
     obtain⟨ms,e,_⟩:=iB R5.others R5;have e':R5.all=_:=e;rw[e'];exact⟨ES,rfl,rfl⟩
    have qp:=pz.all;have iX:=pz.peers ES (by omega);have ED:R5.all.peers.length=R5.all.n+1:=by rw[Ow.2.1,Ow.2.2];exact iX.len
    replace mw:=zH mw;replace hO:=zH hO;replace pz:=zH pz;replace qp:=zH qp;replace iX:=zH iX;replace Ow:=zH Ow;replace ED:=zH ED;obtain⟨z0,z1,z2,z3,z4,z5,-⟩:=sm.cs [0,1,2,3,4,5];simp only[dE,vi,Zx]at z0 z1 z2 z3 z4 z5;simp only[dE,vi]at iS;clear LQ sm KY Lh uS hz ES;go_wp2_with fail;refine iS.mono ?_;rintro e w7 ⟨rfl,DZ,mX⟩;have eS:=DZ.act (R2:=R5.all) (E:=.returned (.tuple #[])) fun bK v2 h2 _=>jR h2 iX.out (by have:=pz.out.ms;omega)
    clear iS DZ z0 z1 z2 z3 z4 z5;go_wp2_with fail;refine eS.mono ?_;rintro e w8 ⟨rfl,Tm,Jk⟩;have ki:=Tm.act (R2:=R5.all.agrees) (E:=.returned (.tuple #[])) fun bK v2 h2 _=>(jQ h2 ED.out (by have:=qp.out.id;omega) qp.out.cm.1 (by have:=qp.out.cm;omega) (by have:=qp.out.trk;omega) (by have:=qp.out.cs;omega)).mono fun e w' h=>⟨h.1,h.2.1⟩
    clear eS Tm;go_wp2_with fail;refine ki.mono ?_;rintro e w9 ⟨rfl,mV,mY⟩;clear ki;have Qx:=((dZ.trans mX).trans Jk).trans mY;have dw:=(mV.below (w':=w9.drew) (zb.drew)).1.take i kF;have JM:=mV.blk;have OP:w.heap.size+3<=p:=by obtain⟨_,_,_,_,_,_,_,_,_,_,e⟩:=mV;exact e
    have jw:=JM.lt;rw[hO.out]at dw;unfold aK at dw;obtain⟨z0,z1,z2,z3,z4,z5,-⟩:=JM.cs [0,1,2,3,4,5];simp only[dE,vi,Zx]at z0 z1 z2 z3 z4 z5;obtain⟨k0,k1,k2,k3,k4,k5⟩:=O7 [p] z0 z1 z2 z3 z4 z5;clear mV JM;go_wp2_with fail;refine qY [p] w9 [([0,1],2),([],3)] ([4],5) ?_;refine au fun K1 cF=>?_
    simp only[af,Zx];repeat go_big_quiet_step(fail)
    apply wpQuiet_nil;go_wp2_with fail;refine dw.mono ?_;rintro e wT ⟨X,rfl,Qr,Li,GP⟩;have Qr:cD w.heap.size 3 w9 wT:=Qr;have Li:wT.heap[p]?=w9.heap[p]?:=Li;have Mj:=Qx.trans Qr;have MA:ay wT (w.heap.size+1) 59 cE:=Mj.blk (by omega) (by omega) G0;have Nn:ay wT (w.heap.size+1+1) 49 aV:=Mj.blk (by omega) (by omega) pI;obtain⟨LB,LD,uh,Gc⟩:=yc MA Nn (.slice A1 n1 c1) pf.1.1 O.1 X;have Os:=GP _ Gc;obtain⟨wE,HA⟩:=zN (bQ (set6 wT (w.heap.size+1) (.slice A1 n1 c1,pf.1.1)) (w.heap.size+1+1) O.1 X);rw[HA]at LB LD Os;replace HA:=zH HA;replace Os:=zH Os;have QK:=MA.lt;have EP:=Nn.lt;obtain⟨q0,q1,q2,q3,q4,q5,-⟩:=MA.cs [0,1,2,3,4,5];simp only[cE,vi,Zx]at q0 q1 q2 q3 q4 q5;obtain⟨f0,f1,f2,f3,f4,f5,-⟩:=MA.fs [0,1,2,3,4,5];obtain⟨y0,y1,y2,y3,y4,y5,y6,y7,y8,-⟩:=Nn.cs [0,1,2,3,4,5,6,7,8];simp only[aV,vi,Zx]at y0 y1 y2 y3 y4 y5 y6 y7 y8;obtain⟨u0,u1,u2,u3,u4,u5,u6,u7,u8,-⟩:=Nn.fs [0,1,2,3,4,5,6,7,8];have mq:=Fr.set6 wT (w.heap.size+1) (.slice A1 n1 c1,pf.1.1);have XA:(set6 wT (w.heap.size+1) (.slice A1 n1 c1,pf.1.1)).heap[p]?=w9.heap[p]?:=(mq.block p (by rw[Array.getElem?_eq_getElem jw]at Li;exact aS Li) (by omega)).trans Li;clear dw GP Gc MA Nn;go_wp2_with fail;refine⟨db Li,cF _ _ ?_⟩;refine au fun K2 jl=>?_
    simp only[af,Zx];apply wpQuiet_nil;go_wp2_with fail;refine⟨db XA,jl _ _ ?_⟩;refine aE ?_;simp only[af,Zx];repeat go_big_quiet_step(fail)
    apply wpQuiet_nil;go_wp2_with fail;show bodyPost _ _ _ _ _ (bQ (set6 wT (w.heap.size+1) (.slice A1 n1 c1,pf.1.1)) (w.heap.size+1+1) O.1 X);rw[HA.out];obtain⟨r0,r1,r2,r3,r4,r5,-⟩:=LB.cs [0,1,2,3,4,5];simp only[dE,vi,Zx]at r0 r1 r2 r3 r4 r5;obtain⟨t0,t1,t2,t3,t4,t5,t6,t7,t8,-⟩:=LD.cs [0,1,2,3,4,5,6,7,8];simp only[aK,vi,Zx]at t0 t1 t2 t3 t4 t5 t6 t7 t8;exact bodyPost_ret (v:=.tuple #[.agg #[.int .i64 pf.1.1.idx,.int .i64 pf.1.1.term,.int .i64 pf.1.1.op,.int .i64 pf.1.1.sess,.int .i64 pf.1.1.seq,.slice A1 n1 c1],.int .i64 0,.agg (aK O.1 X)]) (by simp[results,results21,go_sem,aK,r0,r1,r2,r3,r4,r5,t0,t1,t2,t3,t4,t5,t6,t7,t8]) rfl ⟨X,A1,n1,c1,by rw[mw.out];rfl,by rw[mw.out];exact Os.out⟩
   ·have NY:(pf.1.2 !=0)=true:=by simp[hz]
    have mw:=zH (xk hr.out oT.out hz);obtain⟨LB,LD,GP,uh⟩:=LQ.rbox.nought (i:=i) KY Lh kF;obtain⟨wE,HA⟩:=zN (bQ (set6 wc (w.heap.size+1) (.slice none 0 0,jx)) (w.heap.size+1+1) eO kv);rw[HA]at LB LD GP;replace HA:=zH HA;obtain⟨z0,z1,z2,z3,z4,z5,-⟩:=KY.cs [0,1,2,3,4,5];simp only[cE,vi,Zx]at z0 z1 z2 z3 z4 z5;obtain⟨f0,f1,f2,f3,f4,f5,-⟩:=KY.fs [0,1,2,3,4,5];obtain⟨y0,y1,y2,y3,y4,y5,y6,y7,y8,-⟩:=Lh.cs [0,1,2,3,4,5,6,7,8];simp only[aV,vi,Zx]at y0 y1 y2 y3 y4 y5 y6 y7 y8;obtain⟨u0,u1,u2,u3,u4,u5,u6,u7,u8,-⟩:=Lh.fs [0,1,2,3,4,5,6,7,8];replace GP:=zH GP;clear LQ KY Lh uh hz;go_wp2_with fail;show bodyPost _ _ _ _ _ (bQ (set6 wc (w.heap.size+1) (.slice none 0 0,jx)) (w.heap.size+1+1) eO kv);rw[HA.out];obtain⟨r0,r1,r2,r3,r4,r5,-⟩:=LB.cs [0,1,2,3,4,5];simp only[dE,jx,vi,Zx]at r0 r1 r2 r3 r4 r5;obtain⟨t0,t1,t2,t3,t4,t5,t6,t7,t8,-⟩:=LD.cs [0,1,2,3,4,5,6,7,8];simp only[aK,vi,Zx]at t0 t1 t2 t3 t4 t5 t6 t7 t8;exact bodyPost_ret (v:=.tuple #[.agg #[.int .i64 0,.int .i64 0,.int .i64 0,.int .i64 0,.int .i64 0,.slice none 0 0],.int .i64 pf.1.2,.agg (aK eO kv)]) (by simp[results,results21,go_sem,aK,r0,r1,r2,r3,r4,r5,t0,t1,t2,t3,t4,t5,t6,t7,t8]) rfl ⟨kv,none,0,0,by rw[mw.out];rfl,by rw[mw.out];exact GP.out⟩
 ·have e1:(R.role !=3)=true:=by simp[hr]
  have mw:=zH (zv x hr);have GP:=zH (hX.same (i:=i));have K0:g≠w.heap.size:=by omega
  have Q1:g≠w.heap.size+1:=by omega
  have Q2:g≠w.heap.size+1+1:=by omega
  have Q3:g<w.heap.size+1:=by omega
  have Q4:g<w.heap.size+1+1:=by omega
  replace hr:=zH hr;replace hk:=zH hk;clear h h1 h2 h3 h4 h5 hf hX KL aU qh;go_enter func21,ntmps21;go_wp2_with fail;rw[fX.out];obtain⟨r0,r1,r2,r3,r4,r5,-⟩:=G0.cs [0,1,2,3,4,5];simp only[cE,vi,Zx]at r0 r1 r2 r3 r4 r5;obtain⟨t0,t1,t2,t3,t4,t5,t6,t7,t8,-⟩:=pI.cs [0,1,2,3,4,5,6,7,8];simp only[aV,vi,Zx]at t0 t1 t2 t3 t4 t5 t6 t7 t8;exact bodyPost_ret (v:=.tuple #[.agg #[.int .i64 0,.int .i64 0,.int .i64 0,.int .i64 0,.int .i64 0,.slice none 0 0],.int .i64 40,.agg (aK eO kv)]) (by simp[results,results21,go_sem,aK,eO,kv,r0,r1,r2,r3,r4,r5,t0,t1,t2,t3,t4,t5,t6,t7,t8]) rfl ⟨kv,none,0,0,by rw[mw.out];rfl,by rw[mw.out];exact GP.out⟩
end
end
def ia(id n:Int)(s:gk):Prop:=(1<=n/\n<=7)/\(1<=id/\id<=n)/\(0<=s.hard.term/\s.hard.term<=1099511627776)/\(0<=s.hard.vote/\s.hard.vote<=n)/\fe s.snap=true
def ko(id n:Nat)(s:gk)(t:bv):Rf:=Rf.mk id n s.hard t s.snap s.snap.idx 0 0 0 0 [] [] 0 [] HZ eO
theorem Ku{id n:Int}{s:gk}(h:¬ia id n s):Rf.new id n s=none:=if_pos h
theorem uz{id n:Nat}{s:gk}(h:ia id n s){p:(Int×Bool)×bv}(hp:bv.takeF (bv.mk s.snap.idx s.snap.term []) s.snap.idx s.snap.term (s.entries.filter fun x=>decide (s.snap.idx<x.idx))=p) :
  Rf.new id n s=if p.1.2=false\/s.hard.term<p.2.lastF.2 then none else some (ko id n s p.2):=by
 unfold Rf.new;rw[if_neg (fun hn=>hn h)];simp only[hp];rfl
theorem xm(k:Int):∀zs:List (Value×En),(ey k zs).map (·.2)=(zs.map (·.2)).filter fun x=>decide (k<x.idx)
 | []=>rfl
 | z::l=>by
  have ih:=xm k l;unfold ey at ih ⊢;by_cases h:k<z.2.idx
  ·rw[List.filter_cons,if_pos (by simp[h]),List.map_cons,ih,List.map_cons,List.filter_cons,if_pos (by simp[h])]
  ·rw[List.filter_cons,if_neg (by simp[h]),ih,List.map_cons,List.filter_cons,if_neg (by simp[h])]
theorem qF{i t:Int}{l:List UInt8}(h:fe ⟨i,t,l⟩=true):kQ i t=true/\l.length<=65536/\(0<i->0<l.length):=by
 unfold fe gU at h;unfold kQ fF;by_cases h0:i=0/\t=0
 ·rw[if_pos h0]at h;have h:=of_decide_eq_true h;simp only at h;obtain⟨rfl,rfl⟩:=h0;exact⟨by simp,by omega,by omega⟩
 ·rw[if_neg h0]at h;have h:=of_decide_eq_true h;simp only at h;refine⟨?_,by omega,by omega⟩;simp only[Bool.or_eq_true,Bool.and_eq_true,decide_eq_true_eq];exact .inr ⟨⟨by omega,by omega⟩,by omega,by omega⟩
def lJ(aa:Nat->Nat)(b:Nat)(w:World)(o:Option Rf)(e:Ending)(w':World):Prop:=
 Below w.heap.size w w'/\((o=none/\e=.returned (.pointer none))\/∃(R:Rf) (g:Nat) (ac:Nat->Nat) (v':Rw),o=some R/\e=.returned (.pointer (some ⟨g,0,none⟩))/\av ac b w' g R v'/\(∀j,j<w.heap.size->ac j=aa j)/\w.heap.size<=g)
section
variable {aa:Nat->Nat}{w:World}
theorem HO(b:Nat)(id n:Int)(s:gk)(Ad A1:Option Addr)(md cd m1 c1:Nat)(sW:s.snap.data.length=md)(dn:¬ia id n s) :
  Calls prog 13 #[.int .i64 id,.int .i64 n,.agg #[.int .i64 s.hard.term,.int .i64 s.hard.vote,.int .i64 s.snap.idx,.int .i64 s.snap.term,.slice Ad md cd,.slice A1 m1 c1]] w fun e w'=>lJ aa b w (Rf.new id n s) e w':=by
 have Dl:=zH (Ku dn);have aU:Below w.heap.size w (w.alloc (.cells #[.int .i64 s.hard.term,.int .i64 s.hard.vote,.int .i64 s.snap.idx,.int .i64 s.snap.term,.slice Ad md cd,.slice A1 m1 c1] 29)):=zb.alloc zl _;have eu:=ay.new w 29 #[.int .i64 s.hard.term,.int .i64 s.hard.vote,.int .i64 s.snap.idx,.int .i64 s.snap.term,.slice Ad md cd,.slice A1 m1 c1];obtain⟨w1,bM⟩:=zN (w.alloc (.cells #[.int .i64 s.hard.term,.int .i64 s.hard.vote,.int .i64 s.snap.idx,.int .i64 s.snap.term,.slice Ad md cd,.slice A1 m1 c1] 29));rw[bM]at aU eu;obtain⟨y0,y1,y2,y3,y4,y5,-⟩:=eu.cs [0,1,2,3,4,5];simp only[Zx]at y0 y1 y2 y3 y4 y5;have h1:=qy (lo:=1) (hi:=7) (x:=n) w1;have h2:=qy (lo:=1) (hi:=n) (x:=id) w1;have h3:=qy (lo:=0) (hi:=1099511627776) (x:=s.hard.term) w1;have h4:=qy (lo:=0) (hi:=n) (x:=s.hard.vote) w1;have h5:=td s.snap.idx s.snap.term Ad md cd s.snap.data w1 sW;obtain⟨x1,yW⟩:∃x,decide (1<=n/\n<=7)=x:=⟨_,rfl⟩;obtain⟨x2,BX⟩:∃x,decide (1<=id/\id<=n)=x:=⟨_,rfl⟩;obtain⟨x3,Dn⟩:∃x,decide (0<=s.hard.term/\s.hard.term<=1099511627776)=x:=⟨_,rfl⟩;obtain⟨x4,O2⟩:∃x,decide (0<=s.hard.vote/\s.hard.vote<=n)=x:=⟨_,rfl⟩;obtain⟨x5,Si⟩:∃x,fe s.snap=x:=⟨_,rfl⟩;rw[yW]at h1;rw[BX]at h2;rw[Dn]at h3;rw[O2]at h4;rw[show fe ⟨s.snap.idx,s.snap.term,s.snap.data⟩=x5 from Si]at h5;have eS:¬(x1=true/\x2=true/\x3=true/\x4=true/\x5=true):=by
  rintro⟨rfl,rfl,rfl,rfl,rfl⟩;exact dn ⟨of_decide_eq_true yW,of_decide_eq_true BX,of_decide_eq_true Dn,of_decide_eq_true O2,Si⟩
 replace bM:=zH bM;replace sW:=zH sW;clear yW BX Dn O2 Si dn;cases x1
 ·clear eS;go_enter func13,ntmps13;go_wp2_with fail;rw[bM.out];try go_wp2_with fail
  refine h1.mono ?_;rintro e wA ⟨rfl,rfl⟩;go_wp2_with fail;go_ret;exact⟨aU,.inl ⟨Dl.out,rfl⟩⟩
 ·skip
  cases x2
  ·clear eS;go_enter func13,ntmps13;go_wp2_with fail;rw[bM.out];try go_wp2_with fail
   refine h1.mono ?_;rintro e wA ⟨rfl,rfl⟩;go_wp2_with fail;refine h2.mono ?_;rintro e wA ⟨rfl,rfl⟩;go_wp2_with fail;go_ret;exact⟨aU,.inl ⟨Dl.out,rfl⟩⟩
  ·skip
   cases x3
   ·clear eS;go_enter func13,ntmps13;go_wp2_with fail;rw[bM.out];try go_wp2_with fail
    refine h1.mono ?_;rintro e wA ⟨rfl,rfl⟩;go_wp2_with fail;refine h2.mono ?_;rintro e wA ⟨rfl,rfl⟩;go_wp2_with fail;refine h3.mono ?_;rintro e wA ⟨rfl,rfl⟩;go_wp2_with fail;go_ret;exact⟨aU,.inl ⟨Dl.out,rfl⟩⟩
   ·skip
    cases x4
    ·clear eS;go_enter func13,ntmps13;go_wp2_with fail;rw[bM.out];try go_wp2_with fail
     refine h1.mono ?_;rintro e wA ⟨rfl,rfl⟩;go_wp2_with fail;refine h2.mono ?_;rintro e wA ⟨rfl,rfl⟩;go_wp2_with fail;refine h3.mono ?_;rintro e wA ⟨rfl,rfl⟩;go_wp2_with fail;refine h4.mono ?_;rintro e wA ⟨rfl,rfl⟩;go_wp2_with fail;go_ret;exact⟨aU,.inl ⟨Dl.out,rfl⟩⟩
    ·skip
     cases x5
     ·clear eS;go_enter func13,ntmps13;go_wp2_with fail;rw[bM.out];try go_wp2_with fail
      refine h1.mono ?_;rintro e wA ⟨rfl,rfl⟩;go_wp2_with fail;refine h2.mono ?_;rintro e wA ⟨rfl,rfl⟩;go_wp2_with fail;refine h3.mono ?_;rintro e wA ⟨rfl,rfl⟩;go_wp2_with fail;refine h4.mono ?_;rintro e wA ⟨rfl,rfl⟩;go_wp2_with fail;refine h5.mono ?_;rintro e w5 ⟨rfl,dp⟩;go_wp2_with fail;go_ret;exact⟨aj aU dp zl,.inl ⟨Dl.out,rfl⟩⟩
     ·skip
      exact absurd ⟨rfl,rfl,rfl,rfl,rfl⟩ eS
end
section
variable {aa:Nat->Nat}{w:World}
theorem Fm(b mi:Nat)(id n:Nat)(s:gk)(Ad A1:Option Addr)(md cd m1 c1:Nat)(hE:da aa mi w (.slice A1 m1 c1) s.entries)(hD:cT aa mi w (.slice Ad md cd) s.snap.data)(pK:mi<=b\/b+13<mi)(uX:m1<=1200000000000)(Gj:(s.entries.filter fun x=>decide (s.snap.idx<x.idx)).length<=10000000000)(sW:s.snap.data.length=md)(mr:∀j,j<w.heap.size->¬ba aa b j)(py:ia id n s) :
  Calls prog 13 #[.int .i64 id,.int .i64 n,.agg #[.int .i64 s.hard.term,.int .i64 s.hard.vote,.int .i64 s.snap.idx,.int .i64 s.snap.term,.slice Ad md cd,.slice A1 m1 c1]] w fun e w'=>lJ aa b w (Rf.new id n s) e w':=by
 replace Gj:=zH Gj;obtain⟨p,hp⟩:=zN (bv.takeF (bv.mk s.snap.idx s.snap.term []) s.snap.idx s.snap.term (s.entries.filter fun x=>decide (s.snap.idx<x.idx)));have dR:=uz py hp;have aU:Below w.heap.size w (w.alloc (.cells #[.int .i64 s.hard.term,.int .i64 s.hard.vote,.int .i64 s.snap.idx,.int .i64 s.snap.term,.slice Ad md cd,.slice A1 m1 c1] 29)):=zb.alloc zl _;have eu:=ay.new w 29 #[.int .i64 s.hard.term,.int .i64 s.hard.vote,.int .i64 s.snap.idx,.int .i64 s.snap.term,.slice Ad md cd,.slice A1 m1 c1];obtain⟨w1,bM⟩:=zN (w.alloc (.cells #[.int .i64 s.hard.term,.int .i64 s.hard.vote,.int .i64 s.snap.idx,.int .i64 s.snap.term,.slice Ad md cd,.slice A1 m1 c1] 29));rw[bM]at aU eu;obtain⟨y0,y1,y2,y3,y4,y5,-⟩:=eu.cs [0,1,2,3,4,5];simp only[Zx]at y0 y1 y2 y3 y4 y5;have h1:=mg (show decide (1<=(n:Int)/\(n:Int)<=7)=true from decide_eq_true py.1) w1;have h2:=mg (show decide (1<=(id:Int)/\(id:Int)<=n)=true from decide_eq_true py.2.1) w1;have h3:=mg (show decide (0<=s.hard.term/\s.hard.term<=1099511627776)=true from decide_eq_true py.2.2.1) w1;have h4:=mg (show decide (0<=s.hard.vote/\s.hard.vote<=n)=true from decide_eq_true py.2.2.2.1) w1;have h5:=td s.snap.idx s.snap.term Ad md cd s.snap.data w1 sW;have iK:fe ⟨s.snap.idx,s.snap.term,s.snap.data⟩=true:=py.2.2.2.2;rw[iK]at h5;obtain⟨bD,od,BF⟩:=qF iK;have nS:=py.2.1;have gg:=py.1;obtain⟨Ae,ne,ce,zs,Kj,XO,ua,BY,lO,eW,aD⟩:=hE;injection Kj with e1 e2 e3;subst e1;subst e2;subst e3;obtain⟨Ab,cb,X5,yS,qh,cA,TB⟩:=hD;injection X5 with e1 e2 e3;subst e1;subst e3;rw[sW]at yS;replace bM:=zH bM;replace hp:=zH hp;replace dR:=zH dR;replace py:=zH py;replace nS:=zH nS;replace gg:=zH gg;replace od:=zH od;replace sW:=zH sW;clear iK e2;go_enter func13,ntmps13;go_wp2_with fail;rw[bM.out];try go_wp2_with fail
 refine h1.mono ?_;rintro e wA ⟨rfl,rfl⟩;go_wp2_with fail;refine h2.mono ?_;rintro e wA ⟨rfl,rfl⟩;go_wp2_with fail;refine h3.mono ?_;rintro e wA ⟨rfl,rfl⟩;go_wp2_with fail;refine h4.mono ?_;rintro e wA ⟨rfl,rfl⟩;go_wp2_with fail;refine h5.mono ?_;rintro e w5 ⟨rfl,dp⟩;clear h1 h2 h3 h4 h5 y0 y1 y2 y3 y4 y5;have sh:=aj aU dp zl;have Gg:=eu.kept dp;go_wp2_with fail;obtain⟨y0,y1,y2,y3,y4,y5,-⟩:=Gg.cs [0,1,2,3,4,5];simp only[Zx]at y0 y1 y2 y3 y4 y5;obtain⟨k0,k1,k2,k3,k4⟩:=O6 [w.heap.size] y0 y1 y2 y3 y4;have Dg:=Gg.lt;have Ul:=AT bD (relab aa w.heap.size b) (b+2) w5.drew;refine gj [w.heap.size] w5 [([0,1,2,3,4,5,6,7,8,9,11,12,14,15,16],10),([],13),([17],18)] [19] ?_;refine aC fun K1 cF=>?_
 simp only[af,Zx];repeat go_big_quiet_step(fail)
 apply wpQuiet_nil;go_wp2_with fail;refine Ul.mono ?_;rintro e w6 ⟨rfl,LV,lY⟩;have bY:∀q∈[w.heap.size],q<w5.heap.size:=by simp;exact Dg
 have GW:Below w5.heap.size w5 w6:=(zb.drew).trans lY;clear Ul;go_wp2_with fail;refine⟨aw bY GW,cF _ _ ?_⟩;refine aC fun K2 jl=>?_
 simp only[af,Zx];apply wpQuiet_nil;have Ek:=mE s.snap.idx s.snap.term Ad md cd s.snap.data w6 (cj.below (cj.below yS sh) GW) (by have:=od.out;have:=sW.out;omega);go_wp2_with fail;refine Ek.mono ?_;rintro e w7 ⟨A7,c7,rfl,jD,mX⟩;have Md:Below w5.heap.size w5 w7:=aj GW mX zl;clear Ek;go_wp2_with fail;refine⟨aw bY Md,jl _ _ ?_⟩;refine aC fun K3 jS=>?_
 simp only[af,Zx];repeat go_big_quiet_step(fail)
 apply wpQuiet_nil;go_wp2_with fail;have GY:Below w7.heap.size w7 (w7.alloc (.cells #[.slice none 0 0,.int .i64 0,.slice none 0 0,.map none,.int .i64 id,.int .i64 n,.int .i64 s.hard.term,.int .i64 s.hard.vote,.pointer (some ⟨w5.heap.size,0,none⟩),.int .i64 s.snap.idx,.int .i64 s.snap.term,.slice A7 md c7,.int .i64 s.snap.idx,.int .i64 0,.int .i64 0,.int .i64 0,.int .i64 0,.int .i64 0,.int .i64 0,.int .i64 0,.int .i64 0,.slice none 0 0,.bool false,.bool false,.int .i64 0,.int .i64 0,.slice none 0 0,.slice none 0 0,.pointer none,.slice none 0 0,.slice none 0 0] 107)):=zb.alloc zl _;have MX:=ay.new w7 107 #[.slice none 0 0,.int .i64 0,.slice none 0 0,.map none,.int .i64 id,.int .i64 n,.int .i64 s.hard.term,.int .i64 s.hard.vote,.pointer (some ⟨w5.heap.size,0,none⟩),.int .i64 s.snap.idx,.int .i64 s.snap.term,.slice A7 md c7,.int .i64 s.snap.idx,.int .i64 0,.int .i64 0,.int .i64 0,.int .i64 0,.int .i64 0,.int .i64 0,.int .i64 0,.int .i64 0,.slice none 0 0,.bool false,.bool false,.int .i64 0,.int .i64 0,.slice none 0 0,.slice none 0 0,.pointer none,.slice none 0 0,.slice none 0 0];have GX:=aj Md GY zl;refine⟨aw bY GX,jS _ _ ?_⟩;obtain⟨w8,O1⟩:=zN (w7.alloc (.cells #[.slice none 0 0,.int .i64 0,.slice none 0 0,.map none,.int .i64 id,.int .i64 n,.int .i64 s.hard.term,.int .i64 s.hard.vote,.pointer (some ⟨w5.heap.size,0,none⟩),.int .i64 s.snap.idx,.int .i64 s.snap.term,.slice A7 md c7,.int .i64 s.snap.idx,.int .i64 0,.int .i64 0,.int .i64 0,.int .i64 0,.int .i64 0,.int .i64 0,.int .i64 0,.int .i64 0,.slice none 0 0,.bool false,.bool false,.int .i64 0,.int .i64 0,.slice none 0 0,.slice none 0 0,.pointer none,.slice none 0 0,.slice none 0 0] 107));rw[O1]at GY MX GX;replace O1:=zH O1;obtain⟨g,hg⟩:=zN (w7.heap.size);have XU:=GW.size;have XV:=mX.size;have XR:=sh.size;have XW:w7.heap.size<w8.heap.size:=MX.lt;have Jc:rL (relab (relab aa w.heap.size b) w5.heap.size (b+2)) (b+2) w6 (.pointer (some ⟨w5.heap.size,0,none⟩)) ⟨s.snap.idx,s.snap.term,[]⟩:=LV;have h8:av (relab (relab (relab (relab aa w.heap.size b) w5.heap.size (b+2)) w6.heap.size (b+6)) w7.heap.size (b+1)) b w8 g (ko id n s ⟨s.snap.idx,s.snap.term,[]⟩)
   ⟨.slice none 0 0,.slice none 0 0,.map none,.pointer (some ⟨w5.heap.size,0,none⟩),.slice A7 md c7,.slice none 0 0,.slice none 0 0,.slice none 0 0,.pointer none,.slice none 0 0,.slice none 0 0⟩:=by
  refine⟨by rw[<-hg];exact MX,by rw[<-hg];exact aA zl,?_,aX.nil _ _ _ _ _,aX.nil _ _ _ _ _,.inl ⟨rfl,rfl⟩,?_,aX.nil _ _ _ _ _,ee.nil _ _ _ _,ee.nil _ _ _ _,rfl,aX.nil _ _ _ _ _,gW.nil _ _ _ _⟩
  ·refine rL.keep (Jc.relabel fun j hj e=>?_) fun j _ hl=>(aj mX GY zl).block j hl
   rw[ae (by omega),ae hj];exact e
  ·have sX:=aZ jD;have h9:cT (relab (relab (relab (relab aa w.heap.size b) w5.heap.size (b+2)) w6.heap.size (b+6)) w7.heap.size (b+1)) (b+6) w7 (.slice A7 md c7) s.snap.data:=by
    refine⟨A7,c7,by rw[sW.out],by rw[sW.out];exact cj.of_own jD,by rw[sW.out];exact sX.1,sX.2,fun _ ad e=>?_⟩;have:=aI jD A7 c7 rfl ad.block ⟨ad,e,rfl⟩;show relab _ _ _ _=_;rw[ae this.1];exact aA this.2.1
   exact h9.keep fun j _ hl=>GY.block j hl
 rw[O1.out];refine an ?_;simp only[af,Zx];repeat go_big_quiet_step(fail)
 apply wpQuiet_nil;have BC:=aj sh GX zl;have cw:ay w8 w.heap.size 29 #[.int .i64 s.hard.term,.int .i64 s.hard.vote,.int .i64 s.snap.idx,.int .i64 s.snap.term,.slice Ad md cd,.slice A1 m1 c1]:=Gg.kept GX;obtain⟨z2,z5,-⟩:=cw.cs [2,5];simp only[Zx]at z2 z5;have Nd:=cw.lt;have gf:=yf (S:=aL aa mi) A1 m1 c1 zs (im.below XO BC) (ua.keep (b5.below BC)) (by omega);replace Jc:=zH Jc;replace h8:=zH h8;clear LV jD k0 k1 k2 k3 k4 y0 y1 y2 y3 y4 y5;try rw[hg]
 go_wp2_with fail;refine gf.mono ?_;rintro e w9 ⟨A9,c9,rfl,ns,mY⟩;clear gf;have fK:=(mY.cell (p:=⟨w.heap.size,2,none⟩) Nd).trans z2;have Em:=vP (S:=fun j=>aa j=mi/\j<w.heap.size) s.snap.idx w8.heap.size w.heap.size m1 c9 A9 zs ns mY.size ((ua.mono (S':=fun j=>aa j=mi/\j<w.heap.size) fun j hj e=>⟨e,hj⟩).keep fun j hj hl=>(aj BC mY zl).block j hj.2) (fun j hj=>by have:=hj.2;omega) Nd fK (by omega);go_wp2_with fail;refine Em.mono ?_;rintro e w10 ⟨A10,c10,rfl,NF,wn,Mn,EU,Qk⟩;clear Em ns;have Ec:Below w8.heap.size w8 w10:=mY.trans Qk;have pE:=h8.out.fresh Ec;obtain⟨wN,sU⟩:=zN (relab (relab (relab (relab (relab aa w.heap.size b) w5.heap.size (b+2)) w6.heap.size (b+6)) w7.heap.size (b+1)) w8.heap.size b);rw[sU]at pE;have Qd:∀j,j<w.heap.size->wN j=aa j:=fun j hj=>by
  rw[<-sU,ae (by omega),ae (by omega),ae (by omega),ae (by omega),ae hj]
 have Zp:wN w.heap.size=b:=by
  rw[<-sU,ae (by omega),ae (by omega),ae (by omega),ae Dg];exact aA zl
 have Wu:∀j,w8.heap.size<=j->wN j=b:=fun j hj=>by rw[<-sU];exact aA hj
 replace sU:=zH sU;have D9:=aj BC Ec zl;have La:ay w10 w.heap.size 29 #[.int .i64 s.hard.term,.int .i64 s.hard.vote,.int .i64 s.snap.idx,.int .i64 s.snap.term,.slice Ad md cd,.slice A1 m1 c1]:=cw.kept Ec;have bN:(ey s.snap.idx zs).map (·.2)=s.entries.filter fun x=>decide (s.snap.idx<x.idx):=by rw[xm,BY]
 have E6:(ey s.snap.idx zs).length<=10000000000:=by
  have e:=congrArg List.length bN;rw[List.length_map]at e;have:=Gj.out;omega
 have dw:=xB (S2:=aL wN mi) s.snap.idx s.snap.term A10 (ey s.snap.idx zs).length c10 (ey s.snap.idx zs) (pE.below (w':=w10.drew) (zb.drew)) zz (im.below NF (zb.drew))
  ((((ua.mono (S':=aL wN mi) fun j hj e=>(Qd j hj).trans e).sub fun z hz=>(List.mem_filter.1 hz).1).mono (S':=fun j=>wN j=mi/\j<w.heap.size) fun j hj e=>⟨e,hj⟩).keep (w':=w10.drew) (fun j hj hl=>D9.block j hj.2) |>.mono fun j _ e=>e.1) (by omega) wn Mn (fun j e=>by have e:wN j=mi:=e;omega) (fun _ j hj=>by rw[Wu j (EU j hj)];omega)
 have oT:=hp.out;rw[bN]at dw;have NQ:(ko id n s ⟨s.snap.idx,s.snap.term,[]⟩).track=bv.mk s.snap.idx s.snap.term []:=rfl;rw[NQ,oT]at dw;have Ov:({ko id n s ⟨s.snap.idx,s.snap.term,[]⟩with track:=p.2}:Rf)=ko id n s p.2:=rfl;rw[Ov]at dw;have uo:p.2.L.length<=100000000000:=by
  have hf:=jg (bv.mk s.snap.idx s.snap.term []) s.snap.idx s.snap.term (s.entries.filter fun x=>decide (s.snap.idx<x.idx));rw[oT]at hf;have h1:=hf.2.1;have h2:=Gj.out;have h4:(bv.mk s.snap.idx s.snap.term []).L.length=0:=rfl;omega
 obtain⟨z0,z2,z3,-⟩:=La.cs [0,2,3];simp only[Zx]at z0 z2 z3;have d8:=pE.s.cell 8;simp only[bt,vi,Zx]at d8;have Xe:=La.lt;have QT:=pE.s.lt;obtain⟨t2,t3,t8⟩:=C3 [g,w.heap.size] z2 z3 d8;have NL:w10.heap[g]?=some (.cells (bt (ko id n s ⟨s.snap.idx,s.snap.term,[]⟩) ⟨.slice none 0 0,.slice none 0 0,.map none,.pointer (some ⟨w5.heap.size,0,none⟩),.slice A7 md c7,.slice none 0 0,.slice none 0 0,.slice none 0 0,.pointer none,.slice none 0 0,.slice none 0 0⟩) 107 (0,0)):=pE.s;have yJ:=zH mr;replace bN:=zH bN;replace oT:=zH oT;clear pE NF wn Mn EU Ov NQ mr;simp only at dw;go_wp2_with fail;refine gj [g,w.heap.size] w10 [([0,1,2,3,4,5,6,7,8,9,10],11)] [12,13,14,15,16] ?_;refine aC fun K4 tW=>?_
 simp only[af,Zx];repeat go_big_quiet_step(fail)
 apply wpQuiet_nil;go_wp2_with fail;refine dw.mono ?_;rintro e w11 ⟨rfl,N2,F9,Rg,Br⟩;have NE:w11.heap[w.heap.size]?=w10.heap[w.heap.size]?:=Br.block w.heap.size Xe fun hm=>by unfold aH at hm;omega
 have NI:w.heap.size<=w10.heap.size:=D9.size;have Ea:Below w.heap.size w w11:=D9.trans (Fr.below (X:=aH wN b) ⟨Br.os,Br.tape,Br.output,Br.size,Br.block⟩ (fun j hj=>by
  rcases Nat.lt_or_ge j w.heap.size with h|h
  ·have:=yJ.out j h;unfold aH at hj;unfold ba at this;rw[Qd j h]at hj;omega
  ·exact h) NI)
 have QQ:w11.heap[g]?=w10.heap[g]?:=F9.s.trans NL.symm;clear dw;go_wp2_with fail;refine⟨dc QQ NE,tW _ _ ?_⟩;refine an ?_;simp only[af,Zx];repeat go_big_quiet_step(fail)
 apply wpQuiet_nil;have Hl:ay w11 w.heap.size 29 #[.int .i64 s.hard.term,.int .i64 s.hard.vote,.int .i64 s.snap.idx,.int .i64 s.snap.term,.slice Ad md cd,.slice A1 m1 c1]:=NE.trans La;by_cases cz:p.1.2=false
 ·have dn:=zH (show Rf.new id n s=none by rw[dR.out,if_pos (.inl cz)]);clear F9;go_wp2_with fail;go_ret;exact⟨Ea,.inl ⟨dn.out,rfl⟩⟩
 ·replace cz:p.1.2=true:=by simpa using cz
  have ci:=iy F9.t (by exact uo);have d8:=F9.s.cell 8;simp only[bt,vi,Zx]at d8;obtain⟨l1,dm⟩:∃l,p.2.lastF.1=l:=⟨_,rfl⟩;obtain⟨l2,fB⟩:∃l,p.2.lastF.2=l:=⟨_,rfl⟩;have Il:Calls prog 44 #[.pointer (some ⟨w5.heap.size,0,none⟩)] w11 fun e w'=>e=.returned (.tuple #[.int .i64 l1,.int .i64 l2])/\Below w11.heap.size w11 w':=by
   rw[<-dm,<-fB];exact ci
  replace dm:=zH dm;replace fB:=zH fB;have Pq:=zH F9;clear ci F9;go_wp2_with fail;refine Il.mono ?_;rintro e w12 ⟨rfl,cI⟩;have W7:=Hl.kept cI;have c0:=W7.cell 0;simp only[Zx]at c0;have Ic:Below w.heap.size w w12:=Ea.trans (cI.mono Ea.size);clear Il;by_cases Hc:s.hard.term<l2
  ·have dn:=zH (show Rf.new id n s=none by rw[dR.out,if_pos (.inr (by rw[fB.out];exact Hc))]);go_wp2_with fail;go_ret;exact⟨Ic,.inl ⟨dn.out,rfl⟩⟩
  ·have iu:=zH (show Rf.new id n s=some (ko id n s p.2) by
    rw[dR.out,if_neg];rintro(h|h)
    ·rw[cz]at h;cases h
    ·rw[fB.out]at h;exact Hc h)
   go_wp2_with fail;go_ret;exact⟨Ic,.inr ⟨ko id n s p.2,g,N2,_,iu.out,rfl,Pq.out.below cI,fun j hj=>(Rg j (Nat.lt_of_lt_of_le hj NI)).trans (Qd j hj),by have:=mX.size;omega⟩⟩
theorem uy(b mi:Nat)(id n:Int)(s:gk)(Ad A1:Option Addr)(md cd m1 c1:Nat)(hE:da aa mi w (.slice A1 m1 c1) s.entries)(hD:cT aa mi w (.slice Ad md cd) s.snap.data)(pK:mi<=b\/b+13<mi)(uX:m1<=1200000000000)(Gj:(s.entries.filter fun x=>decide (s.snap.idx<x.idx)).length<=10000000000)(sW:s.snap.data.length=md)(mr:∀j,j<w.heap.size->¬ba aa b j) :
  Calls prog 13 #[.int .i64 id,.int .i64 n,.agg #[.int .i64 s.hard.term,.int .i64 s.hard.vote,.int .i64 s.snap.idx,.int .i64 s.snap.term,.slice Ad md cd,.slice A1 m1 c1]] w fun e w'=>lJ aa b w (Rf.new id n s) e w':=by
 by_cases h:ia id n s
 ·have h1:=h.1;have h2:=h.2.1;obtain⟨N,rfl⟩:∃N:Nat,n=N:=⟨n.toNat,by omega⟩;obtain⟨I,rfl⟩:∃I:Nat,id=I:=⟨id.toNat,by omega⟩;exact Fm b mi I N s Ad A1 md cd m1 c1 hE hD pK uX Gj sW mr h
 ·exact HO b id n s Ad A1 md cd m1 c1 sW h
theorem HN(b mi:Nat)(id n:Int)(s:gk)(Ad A1:Option Addr)(md cd m1 c1:Nat)(hE:da aa mi w (.slice A1 m1 c1) s.entries)(hD:cT aa mi w (.slice Ad md cd) s.snap.data)(pK:mi<=b\/b+13<mi)(uX:m1<=10000000000)(sW:s.snap.data.length=md)(mr:∀j,j<w.heap.size->¬ba aa b j) :
  Calls prog 13 #[.int .i64 id,.int .i64 n,.agg #[.int .i64 s.hard.term,.int .i64 s.hard.vote,.int .i64 s.snap.idx,.int .i64 s.snap.term,.slice Ad md cd,.slice A1 m1 c1]] w fun e w'=>lJ aa b w (Rf.new id n s) e w':=by
 refine uy b mi id n s Ad A1 md cd m1 c1 hE hD pK (by omega) ?_ sW mr;obtain⟨A,k,c,zs,e,hr,_,hz,_⟩:=hE;injection e with _ e _;have h1:=List.length_filter_le (fun x:En=>decide (s.snap.idx<x.idx)) s.entries;have h2:s.entries.length=k:=by rw[<-hz,List.length_map];exact hr.len
 omega
end
theorem E7{i tm:Int}(hb:kQ i tm=true):bv.Inv ⟨i,tm,[]⟩:=by
 refine⟨?_,fun j x h=>(by cases h),fun x h=>(by cases h),fun j x h=>(by cases h)⟩;unfold kQ fF at hb;simp only[Bool.or_eq_true,Bool.and_eq_true,decide_eq_true_eq]at hb;show(i=0/\tm=0)\/_;rcases hb with h|⟨h1,h2⟩
 ·exact .inl h
 ·exact .inr ⟨h1.1,h1.2,h2.1,h2.2⟩
theorem xa{id n:Nat}{s:gk}(h:ia id n s){p:(Int×Bool)×bv}(hp:bv.takeF (bv.mk s.snap.idx s.snap.term []) s.snap.idx s.snap.term (s.entries.filter fun x=>decide (s.snap.idx<x.idx))=p) :
  Ok (s.entries.length+1) 0 (ko id n s p.2)/\(ko id n s p.2).track.index<=(ko id n s p.2).commit:=by
 obtain⟨hn,nS,IN,NU,hk⟩:=h;obtain⟨hb,hd,BF⟩:=qF (i:=s.snap.idx) (t:=s.snap.term) (l:=s.snap.data) hk;have MS:(bv.mk s.snap.idx s.snap.term []).Inv:=E7 hb;have iV:=MS.takeF s.snap.idx s.snap.term (s.entries.filter fun x=>decide (s.snap.idx<x.idx));have hf:=jg (bv.mk s.snap.idx s.snap.term []) s.snap.idx s.snap.term (s.entries.filter fun x=>decide (s.snap.idx<x.idx));rw[hp]at iV hf;have hi:p.2.index=s.snap.idx:=hf.1;have hl:p.2.L.length<=s.entries.length:=by
  have h1:p.2.L.length<=([]:List En).length+_:=hf.2.1;have h2:=List.length_filter_le (fun x:En=>decide (s.snap.idx<x.idx)) s.entries;simp only[List.length_nil]at h1;omega
 have kI:0<=s.snap.idx/\s.snap.idx<=1099511627776:=by
  unfold kQ fF at hb;simp only[Bool.or_eq_true,Bool.and_eq_true,decide_eq_true_eq]at hb;omega
 refine⟨{id:=⟨?_,?_,?_⟩,tm:=IN,tr:=iV,cm:=kI,dat:=hd,dat0:=?_,gat:=Nat.zero_le _,trk:=?_,ws:=Nat.zero_le _,yl:=Nat.zero_le _,ck:=⟨Int.le_refl _,?_,Int.le_refl _,?_⟩,ms:=Nat.le_refl _,es:=Nat.le_refl _,cs:=Nat.le_refl _,rs:=Nat.le_refl _,ys:=?_,ld:=?_},?_⟩
 ·show 1<=id;omega
 ·show id<=n;omega
 ·show n<=7;omega
 ·intro h;refine BF ?_;rw[<-hi];exact h
 ·show p.2.L.length<=_;omega
 ·show(0:Int)<=_;omega
 ·show(0:Int)<=_;omega
 ·intro h;exact absurd (show(0:Int)=1\/(0:Int)=2 from h) (by omega)
 ·intro h;exact absurd (show(0:Int)=3 from h) (by omega)
 ·show p.2.index<=s.snap.idx;omega
def Y8(R:Rf):Prop:=R.track.index<=R.commit
def Y7(R:Rf):Prop:=(0<=R.wait/\R.wait<=100)/\R.peers.length<=8/\R.n<=7
section
variable {K M:Nat}{R:Rf}
theorem Ok.told(h:Ok K M R):Ok K 0 R.tell.2:=
 {h with ms:=Nat.le_refl 0,es:=Nat.le_refl 0,cs:=Nat.le_refl 0,rs:=Nat.le_refl 0}
theorem Ok.clocked(h:Ok K M R)(t w:Int)(ht:t=0\/t=R.clock\/t=R.clock+1):Ok (K+1) M {R with clock:=t,wait:=w}:=
 {h.mono (Nat.le_succ K) (Nat.le_refl M)with
  ck:=have:=h.ck
   ⟨by show 0<=t;omega,by show t<=((K+1:Nat):Int);omega,this.2.2.1,by show R.round<=((K+1:Nat):Int);omega⟩}
theorem Ok.rounded(h:Ok K M R)(ws:List Wt)(hw:ws.length<=16):Ok (K+1) M {R with clock:=0,round:=R.round+1,waits:=ws}:=
 {h.mono (Nat.le_succ K) (Nat.le_refl M)with
  ws:=hw
  ck:=have:=h.ck
   ⟨Int.le_refl 0,Int.natCast_nonneg _,by show 0<=R.round+1;omega,by show R.round+1<=((K+1:Nat):Int);omega⟩}
theorem Ok.rounded'(h:Ok K M R)(ws:List Wt)(hw:ws.length<=16):Ok (K+1) M {R with round:=R.round+1,waits:=ws}:=
 {h.mono (Nat.le_succ K) (Nat.le_refl M)with
  ws:=hw
  ck:=have:=h.ck
   ⟨this.1,by show R.clock<=((K+1:Nat):Int);omega,by show 0<=R.round+1;omega,by show R.round+1<=((K+1:Nat):Int);omega⟩}
theorem Ok.asks'(h:Ok K M R)(ht:R.hard.term<gU):Ok (K+3) (M+K+40) R.asks:=h.asks ht
theorem Ok.beats(h:Ok K M R)(draw:Int):Ok (K+4) (M+K+60) (R.beats draw):=by
 unfold Rf.beats;simp only;split
 ·split
  ·exact((h.rounded R.waits h.ws).all).mono (by omega) (by omega)
  ·exact(h.clocked (R.clock+1) R.wait (.inr (.inr rfl))).mono (by omega) (by omega)
 ·have e:∀w:Int,Ok (K+4) (M+K+60) (if w<=R.clock+1 then if R.hard.term<gU then Rf.asks {R with clock:=0,wait:=0}else {R with clock:=0,wait:=0}else {R with clock:=R.clock+1,wait:=w}):=by
   intro w;split
   ·split
    ·exact(Ok.asks' (R:={R with clock:=0,wait:=0}) (h.clocked 0 0 (.inl rfl)) (by assumption)).mono (by omega) (by omega)
    ·exact(h.clocked 0 0 (.inl rfl)).mono (by omega) (by omega)
   ·exact(h.clocked (R.clock+1) w (.inr (.inr rfl))).mono (by omega) (by omega)
  by_cases hw:R.wait=0
  ·simp only[hw,if_true];exact e (lH draw)
  ·simp only[hw,if_false];exact e R.wait
theorem Ok.ticked(h:Ok K 0 R)(draw:Int):Ok (K+11) 0 (R.tick draw).2:=((h.beats draw).told).mono (by omega) (by omega)
theorem Ok.reads(h:Ok K M R):Ok K (M+16) R.reads:=by
 have h':=h.mono (Nat.le_refl K) (Nat.le_add_right M 16);refine {h' with ws:=?_,rs:=?_}
 ·exact Nat.le_trans (List.length_filter_le _ _) h.ws
 ·have h1:=List.length_filter_le (fun x:Wt=>decide (x.round<=R.readsTo)) R.waits;have h2:=h.ws;have h3:=h.rs;show(R.out.reads++List.map (fun x:Wt=>(x.ctx,x.idx)) (R.waits.filter (fun x=>decide (x.round<=R.readsTo)))).length<=M+16;rw[List.length_append,List.length_map];omega
theorem Ok.late(h:Ok K M R)(m:Mg):Ok K (M+1) (R.late m):=by
 unfold Rf.late;split
 ·exact h.send _
 ·exact h.mono (Nat.le_refl K) (Nat.le_succ M)
theorem Ok.stepped(h:Ok K 0 R)(hK:1<=K)(m:Mg):Ok (K+11) 0 (R.step m).2:=by
 unfold Rf.step;split
 ·exact h.mono (by omega) (by omega)
 ·rename_i hr;have iL:vC R m:=qZ (by cases hx:R.right m <;> simp_all);simp only;generalize gE:(if R.hard.term<m.term/\m.kind≠1/\(m.kind≠2\/m.reject=true)then R.follows m.term else R)=R1;have h1:Ok K 0 R1:=by
   rw[<-gE];split
   ·exact h.follows (by have:=iL.term;omega) (by have:=iL.term;omega)
   ·exact h
  have EL:R1.n=R.n:=by rw[<-gE];split <;> rfl
  have BN:vC R1 m:=⟨iL.kind,by rw[EL];exact iL.frm,iL.term,iL.idx,iL.lgt,iL.cmt,iL.rnd,iL.off,iL.tot,iL.el,iL.dl⟩;split
  ·exact((h1.late m).told).mono (by omega) (by omega)
  ·have h2:=h1.does hK BN;split
   ·exact(h2.reads.told).mono (by omega) (by omega)
   ·exact(h2.told).mono (by omega) (by omega)
theorem Ok.proposed(h:Ok K 0 R)(x:En):Ok (K+11) 0 (R.propose x).2:=by
 have hp:=h.put R.hard.term x;unfold Rf.propose;split
 ·exact h.mono (by omega) (by omega)
 ·simp only;split
  ·exact hp.mono (by omega) (by omega)
  ·exact(((hp.save [(R.track.putF R.hard.term x).1.1]).all).agrees.told).mono (by omega) (by omega)
theorem Ok.readed(h:Ok K 0 R)(ctx:Int):Ok (K+11) 0 (R.read ctx).2:=by
 unfold Rf.read;split
 ·exact h.mono (by omega) (by omega)
 ·split
  ·exact h.mono (by omega) (by omega)
  ·split
   ·exact h.mono (by omega) (by omega)
   ·exact(((h.rounded' (R.waits++[Wt.mk ctx R.commit (R.round+1)]) (by rw[List.length_append];show R.waits.length+1<=16;omega)).all).reads.told).mono (by omega) (by omega)
theorem Ok.compacted(h:Ok K 0 R)(i:Int)(d:List UInt8):Ok (K+11) 0 (R.compact i d).2:=by
 unfold Rf.compact;split
 ·exact h.mono (by omega) (by omega)
 ·rename_i hd;have hd:=Classical.not_not.1 hd;split
  ·exact h.mono (by omega) (by omega)
  ·split
   ·exact h.mono (by omega) (by omega)
   ·have hl:(R.track.dropF i).2.L.length<=R.track.L.length:=by
     unfold bv.dropF;split
     ·exact Nat.le_refl _
     ·split
      ·exact Nat.le_refl _
      ·show(R.track.L.drop _).length<=_;rw[List.length_drop];omega
    have h':=h.mono (Nat.le_add_right K 11) (Nat.le_refl 0);exact {h' with
     tr:=h.tr.dropF i
     dat:=hd.2
     dat0:=fun _=>hd.1
     trk:=Nat.le_trans hl (by have:=h.trk;omega)
     ld:=fun e=>by
      obtain⟨h1,h2⟩:=h.ld e;refine⟨by show(R.peers.map _).length=_;rw[List.length_map];exact h1,fun p hp=>?_⟩;obtain⟨p0,sY,rfl⟩:=List.mem_map.1 hp;obtain⟨q1,q2,q3⟩:=h2 p0 sY;exact⟨q1,q2,Int.le_refl 0,Int.natCast_nonneg _⟩}
end
structure Gx(d:gk)(R:Rf)(F:List En):Prop where
 hd:d.hard=R.hard
 sn:d.snap=R.snap
 en:∃j,j<=R.track.index.toNat/\d.entries=F.drop j
def gk.told(d:gk)(o:Ot):gk:=match o.snap with
 | none=>d
 | some x=>{d with snap:=x,entries:=if o.reset=true then[]else d.entries}
def gk.put(d:gk)(l:List En):List En:=match l with
 | []=>d.entries
 | y::_=>(d.entries.filter fun x=>decide (x.idx<y.idx))++l
def gk.saves(d:gk)(o:Ot):gk:=if o.save=true then {d.told o with hard:=o.hard,entries:=(d.told o).put o.entries}else d.told o
section
variable {n t T:Int}{i a N N0 k v s K:Nat}{gh gh':Gh}{R R' R0:Rf}{F F' F0 l:List En}{m:Mg}{d:gk}{o:Ot}
theorem gX.other(h:gX n gh i R F)(hb:eD n gh)(e:kf gh gh')(ho:∀t,gh'.V i t=gh.V i t/\gh'.A i t=gh.A i t)(hl:∀t,gh'.lead t=i->gh'.lead t=gh.lead t/\gh'.L t=gh.L t):gX n gh' i R F:=
 {h with
  fa:=h.fa.ext e
  co:=h.co.ext e
  vh:=fun t ht=>by rw[(ho t).1];exact h.vh t ht
  vt:=by rw[(ho _).1];exact h.vt
  ah:=fun t ht=>by rw[(ho t).2];exact h.ah t ht
  kp:=h.kp.ext hb e fun t0 _=>(ho t0).2
  ld:=fun t ht=>h.ld t (by rw[<-(hl t ht).1];exact ht)
  rl:=fun hr=>by
   obtain⟨q1,q2,q3,q4,q5⟩:=h.rl hr;have hi:=h.i0;have e1:gh'.lead R.hard.term=gh.lead R.hard.term:=e.lead _ (by rw[q1];omega);refine⟨e1.trans q1,(hl _ (e1.trans q1)).2.trans q2,(ho _).2.trans q3,q4,fun s s1 s2 s3=>?_⟩;obtain⟨⟨a1,a2⟩,a3⟩:=q5 s s1 s2 s3;exact⟨⟨a1,Nat.le_trans a2 (e.A _ _)⟩,a3⟩
  rc:=fun hr=>by
   obtain⟨q1,q2,q3,q4⟩:=h.rc hr;have hi:=h.i0;refine⟨(ho _).1.trans q1,fun hx=>q2 (by rw[<-(hl _ hx).1];exact hx),(e.Sd _ _ q1 (by omega)).trans q3,fun s hs s1 s2=>(e.V _ _ (by rw[q4 s hs s1 s2];omega)).trans (q4 s hs s1 s2)⟩}
theorem sI:∀(l:List En) (c y:Int),(∀(k:Nat) x,l[k]?=some x->x.idx=c+k)->c<=y->(l.filter fun x=>decide (x.idx<y))=l.take (y-c).toNat
 | [],_,_,_,_=>by simp
 | x::l,c,y,h,hc=>by
  have hx:=h 0 x rfl;rcases Int.lt_or_le c y with h1|h1
  ·have ih:=sI l (c+1) y (fun k z hz=>by have:=h (k+1) z hz;omega) (by omega);rw[List.filter_cons,if_pos (by simp;omega),ih,show(y-c).toNat=(y-(c+1)).toNat+1 by omega,List.take_succ_cons]
  ·rw[show(y-c).toNat=0 by omega,List.take_zero];refine List.filter_eq_nil_iff.2 fun z hz=>?_
   obtain⟨k,hk⟩:=List.getElem?_of_mem hz;have:=h k z hk;simp;omega
theorem nX:∀(l:List En) (c y:Int),(∀(k:Nat) x,l[k]?=some x->x.idx=c+k)->c<=y+1->(l.filter fun x=>decide (y<x.idx))=l.drop (y+1-c).toNat
 | [],_,_,_,_=>by simp
 | x::l,c,y,h,hc=>by
  have hx:=h 0 x rfl;rcases Int.lt_or_le c (y+1)with h1|h1
  ·have ih:=nX l (c+1) y (fun k z hz=>by have:=h (k+1) z hz;omega) (by omega);rw[List.filter_cons,if_neg (by simp;omega),ih,show(y+1-c).toNat=(y+1-(c+1)).toNat+1 by omega,List.drop_succ_cons]
  ·rw[show(y+1-c).toNat=0 by omega,List.drop_zero];refine List.filter_eq_self.2 fun z hz=>?_
   obtain⟨k,hk⟩:=List.getElem?_of_mem hz;have:=h k z hk;simp;omega
theorem gX.dropIdx(h:gX n gh i R F)(j:Nat):∀(k:Nat) x,(F.drop j)[k]?=some x->x.idx=(j+1:Int)+k:=fun k x hx=>by
 rw[List.getElem?_drop]at hx;have:=h.fi _ x hx;omega
theorem Gx.saves(h:Gx d R0 F0)(hs:gX n gh i R0 F0)(A:vu n gh i R0 F0 N gh' F o R):Gx (d.saves o) R F:=by
 obtain⟨j0,Q8,ua⟩:=h.en;have hm:=A.mid;have mZ:=hm.dk;have iU:=hm.cc;have TN:=hm.hd;have eW:=hs.cm;have fw:=hm.sv.sn;unfold uP at mZ;unfold kJ at iU;simp only at mZ iU TN fw;have Is:o.save=true->o.hard=R.hard:=A.hard;cases om:o.snap with
 | none=>
  rw[om]at mZ iU;simp only at mZ iU;obtain⟨d1,d2,d3,d4⟩:=mZ;have EZ:d.told o=d:=by unfold gk.told;rw[om]
  unfold gk.saves;rw[EZ];split
  ·rename_i iS;refine⟨Is iS,h.sn.trans d2.symm,?_⟩;rcases d4 with⟨e1,e2⟩|⟨_,e1,j,q1,q2,q3⟩
   ·refine⟨j0,by rw[d3];exact Q8,?_⟩;show d.put o.entries=_;rw[e1,e2];exact ua
   ·refine⟨j0,by rw[d3];exact Q8,?_⟩;show d.put o.entries=_;obtain⟨y,r,Sr⟩:∃y r,o.entries=y::r:=by
     cases Gl:o.entries with
     | nil=>exact absurd Gl e1
     | cons y r=>exact⟨y,r,rfl⟩
    have ZI:y.idx=(j:Int)+1:=by
     have hf:=hm.sv.fi j y (by rw[q3,List.getElem?_append_right (by rw[List.length_take];omega),List.length_take,Nat.min_eq_left q2,Nat.sub_self,Sr];rfl);omega
    unfold gk.put;rw[Sr];simp only;rw[ua,sI _ (j0+1) y.idx (hs.dropIdx j0) (by omega),show(y.idx-(j0+1)).toNat=j-j0 by omega,q3,<-Sr,List.drop_append_of_le_length (by rw[List.length_take];omega),List.drop_take]
  ·rename_i iS;have iS:o.save=false:=by
    cases hb:o.save
    ·rfl
    ·exact absurd hb iS
   rcases d4 with⟨e1,e2⟩|⟨e1,_⟩
   ·rcases TN with e3|e3
    ·rw[iS]at e3;cases e3
    ·exact⟨h.hd.trans e3.symm,h.sn.trans d2.symm,j0,by rw[d3];exact Q8,by rw[e2];exact ua⟩
   ·rw[iS]at e1;cases e1
 | some x=>
  rw[om]at mZ iU;simp only at mZ iU;obtain⟨d1,d2,d3,d4⟩:=mZ;have EZ:d.told o={d with snap:=x,entries:=if o.reset=true then[]else d.entries}:=by unfold gk.told;rw[om]
  unfold gk.saves;rw[EZ,if_pos d1];refine⟨Is d1,d3,?_⟩;show ∃j,j<=R.track.index.toNat/\gk.put _ o.entries=F.drop j;rw[d2];show ∃j,j<=R.track.index.toNat/\(if o.reset=true then[]else d.entries)=F.drop j;have hx:x.idx=R.track.index:=by rw[d3];exact fw.1
  rcases d4 with⟨e1,e2⟩|⟨e1,e2⟩
  ·refine⟨j0,by omega,?_⟩;rw[e1,if_neg (fun h=>by cases h),e2];exact ua
  ·refine⟨F.length,by omega,?_⟩;rw[if_pos e1,List.drop_length]
theorem AO{idx:Int}:∀(l:List En) (i:Nat) (term:Int),(∀(k:Nat) x,l[k]?=some x->x.idx=idx+1+i+k)->(∀x∈l,di x=true)->(∀(k:Nat) x,l[k]?=some x->jf term l k<=x.term)->ct idx i term l=true
 | [],_,_,_,_,_=>rfl
 | x::l,i,term,h1,h2,h3=>by
  refine iv.2 ⟨h2 x (List.mem_cons_self ..),by have:=h1 0 x rfl;omega,h3 0 x rfl,AO l (i+1) x.term (fun k y hy=>by have:=h1 (k+1) y hy;omega) (fun y hy=>h2 y (List.mem_cons_of_mem _ hy)) fun k y hy=>?_⟩;have h4:=h3 (k+1) y hy;rw[dN]at h4;cases k with
  | zero=>exact h4
  | succ k=>
   rw[dN];obtain⟨z,hz⟩:∃z,l[k]?=some z:=⟨_,List.getElem?_eq_getElem (by have:=(List.getElem?_eq_some_iff.1 hy).1;omega)⟩;rw[List.getElem?_cons_succ,hz]at h4;rw[hz];exact h4
theorem CK{tk:bv}(h:tk.Inv):∃c,bv.takeF ⟨tk.index,tk.term,[]⟩ tk.index tk.term tk.L=((c,true),tk):=by
 have h1:bv.termF ⟨tk.index,tk.term,[]⟩ tk.index=(tk.term,0):=by
  unfold bv.termF;rw[if_neg (Int.lt_irrefl _),if_pos rfl]
 have h2:ct tk.index 0 tk.term tk.L=true:=AO tk.L 0 tk.term (fun k x hx=>by have:=h.idx k x hx;omega) h.plain h.mono;unfold bv.takeF;rw[if_pos ⟨h1,h2⟩];obtain⟨ti,tt,L⟩:=tk;cases L with
 | nil=>exact⟨0,rfl⟩
 | cons x r=>
  have hx:=h.idx 0 x rfl;simp only at hx;have h3:bv.termF ⟨ti,tt,[]⟩ x.idx=(0,33):=by
   unfold bv.termF;rw[if_neg (by show ¬x.idx<ti;omega),if_neg (by show ¬x.idx=ti;omega)];rfl
  have h4:bv.findDiff ⟨ti,tt,[]⟩ (x::r)=some (x,r):=by
   unfold bv.findDiff;rw[h3,if_neg (fun e=>by injection e with _ e;cases e)]
  refine⟨x.idx,?_⟩;simp only[h4,List.take_nil,List.nil_append]
structure nh(K:Nat)(n:Int)(gh:Gh)(i:Nat)(R:Rf)(F:List En)(d:gk):Prop where
 sv:gX n gh i R F
 out:R.out=eO
 vt:Vt R
 ok:Ok K 0 R
 dk:Gx d R F
 z:R.snap.idx=0->R.snap.data=[]
theorem nh.mono{K':Nat}(h:nh K n gh i R F d)(hK:K<=K'):nh K' n gh i R F d:=⟨h.sv,h.out,h.vt,h.ok.mono hK (Nat.le_refl 0),h.dk,h.z⟩
theorem nh.keeps(h:nh K n gh i R F d):fe d.snap=true:=by
 have hs:=h.sv.sn;have hb:=h.sv.tr.base;have hz:=h.z;have hd:=h.ok.dat;have BF:=h.ok.dat0;rw[h.dk.sn];unfold fe gU;split
 ·rename_i hc;rw[hz hc.1];rfl
 ·rename_i hc;rw[hs.1,hs.2]at hc ⊢;rcases hb with hb|⟨b1,b2,b3,b4⟩
  ·exact absurd hb hc
  ·have:=BF (by omega);exact decide_eq_true ⟨⟨b1,b2⟩,⟨b3,b4⟩,by omega,hd⟩
theorem nh.may(h:nh K N0 gh i R F d):ia (i:Int) (N0:Int) d:=by
 have h1:=h.ok.id;have h2:=h.ok.tm;have h3:=h.vt;have h4:=h.sv.i0;have h5:=h.sv.nn;unfold Vt at h3;have hd:=h.dk.hd;exact⟨by omega,by omega,by rw[hd];exact h2,by rw[hd];omega,h.keeps⟩
theorem nh.opened(h:nh K N0 gh i R F d):∃R',Rf.new (i:Int) (N0:Int) d=some R'/\nh K N0 gh i R' F d/\R'.commit=d.snap.idx:=by
 have sv:=h.sv;have fw:=sv.sn;have wG:=sv.idx0;obtain⟨j,hj,ua⟩:=h.dk.en;have sk:=h.dk.sn;have hf:(d.entries.filter fun x=>decide (d.snap.idx<x.idx))=R.track.L:=by
  rw[ua,nX _ (j+1) d.snap.idx (sv.dropIdx j) (by rw[sk,fw.1];omega),List.drop_drop,sv.trL,sk,fw.1];congr 1;omega
 obtain⟨c,hc⟩:=CK sv.tr;have hp:bv.takeF (bv.mk d.snap.idx d.snap.term []) d.snap.idx d.snap.term (d.entries.filter fun x=>decide (d.snap.idx<x.idx))=((c,true),R.track):=by
  rw[hf,sk,fw.1,fw.2];exact hc
 have qm:¬d.hard.term<R.track.lastF.2:=by
  rw[h.dk.hd,sv.last2];have h0:=sv.t0;have hF:=sv.ft;unfold lastT;cases hl:F.getLast? with
  | none=>simp only;omega
  | some x=>
   have:=(hF x (List.mem_of_getLast? hl)).2;simp only;omega
 have dR:=uz h.may hp;rw[if_neg (fun hh=>by rcases hh with hh|hh;cases hh;exact qm hh)]at dR;have cz:=h.ok;have Ry:R.n=N0:=by have:=sv.nn;omega
 have nS:R.id=i:=sv.id;have BX:=sv.tr.b;refine⟨_,dR,⟨?_,rfl,?_,?_,⟨rfl,rfl,j,hj,ua⟩,by show d.snap.idx=0->d.snap.data=[];rw[sk];exact h.z⟩,rfl⟩
 ·exact {sv with
   id:=rfl
   nn:=rfl
   ft:=by show ∀x∈F,1<=x.term/\x.term<=d.hard.term;rw[h.dk.hd];exact sv.ft
   t0:=by show 0<=d.hard.term;rw[h.dk.hd];exact sv.t0
   sn:=by show d.snap.idx=_/\d.snap.term=_;rw[sk];exact fw
   cm:=by show R.track.index<=d.snap.idx;rw[sk,fw.1];exact Int.le_refl _
   co:=by
    show dq N0 gh d.hard.term F d.snap.idx.toNat;rw[h.dk.hd,sk,fw.1];exact sv.co.less (by have:=sv.cm;omega)
   vh:=by show ∀t,d.hard.term<t->_;rw[h.dk.hd];exact sv.vh
   vt:=by show(gh.V i d.hard.term:Int)=d.hard.vote;rw[h.dk.hd];exact sv.vt
   ah:=by show ∀t,d.hard.term<t->_;rw[h.dk.hd];exact sv.ah
   kp:=by show dY gh i (d.hard.term+1) F;rw[h.dk.hd];exact sv.kp
   ld:=by show ∀t,_->t<=d.hard.term;rw[h.dk.hd];exact sv.ld
   rl:=fun hr=>by cases hr
   rc:=fun hr=>by cases hr}
 ·have:=h.vt;unfold Vt at this ⊢;show i<=N0/\0<=d.hard.vote/\d.hard.vote<=(N0:Int);rw[h.dk.hd];omega
 ·refine {cz with
   id:=by show 1<=i/\i<=N0/\N0<=7;have:=cz.id;omega
   tm:=by show 0<=d.hard.term/\d.hard.term<=1099511627776;rw[h.dk.hd];exact cz.tm
   cm:=by show 0<=d.snap.idx/\d.snap.idx<=1099511627776;rw[sk,fw.1];omega
   dat:=by show d.snap.data.length<=65536;rw[sk];exact cz.dat
   dat0:=by show 0<R.track.index->0<d.snap.data.length;rw[sk];exact cz.dat0
   gat:=Nat.zero_le _
   ws:=Nat.zero_le _
   yl:=Nat.zero_le _
   ck:=⟨Int.le_refl _,Int.natCast_nonneg _,Int.le_refl _,Int.natCast_nonneg _⟩
   ms:=Nat.le_refl _
   es:=Nat.le_refl _
   cs:=Nat.le_refl _
   rs:=Nat.le_refl _
   ys:=fun e=>by rcases e with e|e <;> cases e
   ld:=fun e=>by cases e}
end
structure Gp where
 n:Nat
 l:List Rf
 disk:List gk
 net:List Mg
 log:List En
 pos:List Int
 leads:List Int
 two:Bool
 rn:Nat
def AV:Rf:=Rf.mk 0 0 ⟨0,0⟩ ⟨0,0,[]⟩ Ds 0 0 0 0 0 [] [] 0 [] HZ eO
def gm:gk:=⟨⟨0,0⟩,Ds,[]⟩
namespace Gp
variable (G:Gp)
def srv(s:Nat):Rf:=G.l[s]?.getD AV
def dk(s:Nat):gk:=G.disk[s]?.getD gm
def up(s:Nat):Int:=G.pos[s]?.getD 0
def saves(s:Nat)(o:Ot):Gp:={G with disk:=G.disk.set s ((G.dk s).saves o)}
def room(T:Int):List Int:=G.leads++List.replicate (min (T.toNat+1) 5000-G.leads.length) 0
def looks(s:Nat):Gp:=
 if(G.srv s).role=3 then
  if(G.srv s).hard.term<(G.room (G.srv s).hard.term).length then
   {G with two:=G.two||decide ((G.room (G.srv s).hard.term)[(G.srv s).hard.term.toNat]?.getD 0≠0/\(G.room (G.srv s).hard.term)[(G.srv s).hard.term.toNat]?.getD 0≠(s:Int)+1),leads:=(G.room (G.srv s).hard.term).set (G.srv s).hard.term.toNat ((s:Int)+1)}
  else {G with leads:=G.room (G.srv s).hard.term}
 else G
def snapTo(s:Nat)(o:Ot):Int:=match o.snap with
 | none=>G.up s
 | some x=>max (G.up s) x.idx
def commits(s:Nat)(o:Ot):Gp:=
 {G with pos:=G.pos.set s (G.snapTo s o+o.commits.length),log:=G.log++o.commits.drop (G.log.length-(G.snapTo s o).toNat)}
def sends(l:List Mg):Gp:={G with net:=G.net++l.take (300-G.net.length)}
def takes(s:Nat)(o:Ot):Gp:=(((G.saves s o).looks s).commits s o).sends o.msgs
def act(s:Nat)(p:Ot×Rf):Gp:=({G with l:=G.l.set s p.2}:Gp).takes s p.1
def crash(s:Nat):Gp:=match Rf.new ((s+1:Nat):Int) G.n (G.dk s)with
 | none=>G
 | some R=>{G with l:=G.l.set s R,pos:=G.pos.set s (G.dk s).snap.idx}
end Gp
structure iT(K:Nat)(G:Gp)(gh:Gh)(Fs:Nat->List En):Prop where
 n3:3<=G.n/\G.n<=7
 ll:G.l.length=G.n
 dl:G.disk.length=G.n
 pl:G.pos.length=G.n
 bs:eD G.n gh
 sv:∀s,s<G.n->nh K G.n gh (s+1) (G.srv s) (Fs s) (G.dk s)/\G.up s=(G.srv s).commit/\(G.srv s).commit<=G.log.length
 ms:∀m∈G.net,eF G.n gh G.log.length m
 nl:G.net.length<=300
 lg:G.log=[]\/∃t k,cZ G.n gh t k/\G.log.length<=k/\G.log=(gh.L t).take G.log.length
 lk:G.log.length<=1099511627776
 ld:∀(t:Nat) (x:Int),G.leads[t]?=some x->x≠0->(gh.lead t:Int)=x
 lz:G.leads.length<=5000
 two:G.two=false
section
variable {n t T:Int}{i a N N0 k v s K:Nat}{gh gh':Gh}{R R' R0:Rf}{F F' F0 l:List En}{m:Mg}{d:gk}{o:Ot}{G:Gp}{Fs:Nat->List En}
theorem eH{α:Type}{l:List α}{s j:Nat}{x y:α}(hs:s<l.length):(l.set s x)[j]?.getD y=if s=j then x else l[j]?.getD y:=by
 rw[List.getElem?_set];by_cases e:s=j
 ·subst e;simp[hs]
 ·rw[if_neg e,if_neg e]
theorem Bc(EE:G.log=[]\/∃t k,cZ G.n gh t k/\G.log.length<=k/\G.log=(gh.L t).take G.log.length):∃T,dq G.n gh T G.log G.log.length:=by
 rcases EE with h|⟨t,k,h1,h2,h3⟩
 ·exact⟨0,.inl (by rw[h];rfl)⟩
 ·exact⟨t,.inr ⟨t,k,h1,Int.le_refl _,h2,by rw[List.take_length];exact h3⟩⟩
theorem iT.logAlike(h:iT K G gh Fs)(hb:eD G.n gh')(e:kf gh gh'){T:Int}{c:Nat}(Ej:dq G.n gh' T F c){j:Nat}(hj:j<=c)(hl:j<=G.log.length):F.take j=G.log.take j:=by
 obtain⟨T0,h0⟩:=Bc h.lg;exact Ej.compat hb.core (h0.ext e) hj hl
theorem iT.step(h:iT K G gh Fs)(hs:s<G.n)(A:vu G.n gh (s+1) (G.srv s) (Fs s) G.log.length gh' F' o R')(cz:Ok (K+11) 0 R')(NU:Vt R')(hx:∀x,o.snap=some x->x.idx≠0/\x.idx<=G.log.length) :
  ∃Fs',iT (K+11) (G.act s (o,R')) gh' Fs':=by
 obtain⟨hI,AG,gf⟩:=h.sv s hs;have hm:=A.mid;have sv':=hm.sv;have iU:=hm.cc;have mZ:=hm.dk;have gn:=hI.sv.cm;have wG:=hI.sv.idx0;have QB:(G.srv s).commit<=R'.commit/\G.snapTo s o+o.commits.length=R'.commit/\((o.snap=none/\o.commits=(F'.drop (G.srv s).commit.toNat).take (R'.commit.toNat-(G.srv s).commit.toNat)/\G.snapTo s o=(G.srv s).commit)\/(o.commits=[]/\R'.commit<=G.log.length)):=by
  unfold kJ at iU;unfold Gp.snapTo;simp only at iU;cases om:o.snap with
  | none=>
   rw[om]at iU;simp only at iU;obtain⟨c1,c2⟩:=iU;have ab:R'.commit.toNat<=F'.length:=sv'.co.len;refine⟨c1,?_,.inl ⟨rfl,c2,AG⟩⟩;show G.up s+(o.commits.length:Int)=R'.commit;rw[c2,List.length_take,List.length_drop,AG];omega
  | some x=>
   rw[om]at iU;simp only at iU;obtain⟨c1,c2,c3⟩:=iU;have:=hx x om;refine⟨c1,?_,.inr ⟨c2,by omega⟩⟩;rw[c2];show max (G.up s) x.idx+((0:Nat):Int)=_;omega
 obtain⟨fP,kE,BD⟩:=QB;have ab:R'.commit.toNat<=F'.length:=sv'.co.len;have jC:(G.act s (o,R')).log=G.log++o.commits.drop (G.log.length-(G.snapTo s o).toNat):=by
  unfold Gp.act Gp.takes Gp.sends Gp.commits Gp.looks;split
  ·split <;> rfl
  ·rfl
 have Iz:(G.act s (o,R')).log=G.log/\R'.commit<=G.log.length\/((G.act s (o,R')).log=F'.take R'.commit.toNat/\G.log.length<R'.commit.toNat):=by
  rw[jC];rcases BD with⟨_,q1,q2⟩|⟨q1,q2⟩
  ·rcases Int.lt_or_le G.log.length R'.commit with hl|hl
   ·refine .inr ⟨?_,by omega⟩;have ha:=h.logAlike hm.bs hm.ext sv'.co (j:=G.log.length) (by show G.log.length<=R'.commit.toNat;omega) zl;rw[List.take_length]at ha;rw[q1,q2,List.drop_take,List.drop_drop,<-ha];have e1:(F'.take G.log.length).length=G.log.length:=by rw[List.length_take];omega
    rw[e1,show(G.srv s).commit.toNat+(G.log.length-(G.srv s).commit.toNat)=G.log.length by omega];conv=>rhs;rw[show R'.commit.toNat=G.log.length+(R'.commit.toNat-(G.srv s).commit.toNat-(G.log.length-(G.srv s).commit.toNat)) by omega]
    rw[List.take_add]
   ·refine .inl ⟨?_,hl⟩;rw[q1,q2,List.drop_eq_nil_of_le (by rw[List.length_take];omega),List.append_nil]
  ·exact .inl ⟨by rw[q1,List.drop_nil,List.append_nil],q2⟩
 have mG:(G.act s (o,R')).log.length=max G.log.length R'.commit.toNat:=by
  rcases Iz with⟨e,hl⟩|⟨e,hl⟩
  ·rw[e];omega
  ·rw[e,List.length_take];omega
 have en:(G.act s (o,R')).n=G.n:=by
  unfold Gp.act Gp.takes Gp.sends Gp.commits Gp.looks;split
  ·split <;> rfl
  ·rfl
 have el:(G.act s (o,R')).l=G.l.set s R':=by
  unfold Gp.act Gp.takes Gp.sends Gp.commits Gp.looks;split
  ·split <;> rfl
  ·rfl
 have ed:(G.act s (o,R')).disk=G.disk.set s ((G.dk s).saves o):=by
  unfold Gp.act Gp.takes Gp.sends Gp.commits Gp.looks;split
  ·split <;> rfl
  ·rfl
 have ep:(G.act s (o,R')).pos=G.pos.set s R'.commit:=by
  rw[<-kE];unfold Gp.act Gp.takes Gp.sends Gp.commits Gp.looks;split
  ·split <;> rfl
  ·rfl
 have enet:(G.act s (o,R')).net=G.net++o.msgs.take (300-G.net.length):=by
  unfold Gp.act Gp.takes Gp.sends Gp.commits Gp.looks;split
  ·split <;> rfl
  ·rfl
 have e0:(({G with l:=G.l.set s R'}:Gp).saves s o).srv s=R':=by
  show(G.l.set s R')[s]?.getD AV=R';rw[eH (by rw[h.ll];exact hs),if_pos rfl]
 have eld:(G.act s (o,R')).leads=((({G with l:=G.l.set s R'}:Gp).saves s o).looks s).leads/\(G.act s (o,R')).two=((({G with l:=G.l.set s R'}:Gp).saves s o).looks s).two:=⟨rfl,rfl⟩;have iS:gX G.n gh' (s+1) R' F':=sv'.same rfl rfl rfl rfl rfl rfl (fun hr=>⟨hr,rfl,fun _ _ _ _=>⟨rfl,rfl⟩⟩) fun hr=>⟨hr,fun _ h=>.inl h⟩
 have jE:∀(T:Int) (t:Nat) (x:Int),(G.room T)[t]?=some x->x≠0->(gh'.lead t:Int)=x:=fun T t x hx h0=>by
  unfold Gp.room at hx;rcases Nat.lt_or_ge t G.leads.length with hl|hl
  ·rw[List.getElem?_append_left hl]at hx;have:=h.ld t x hx h0;rw[hm.ext.lead _ (by omega)];exact this
  ·rw[List.getElem?_append_right hl]at hx;exact absurd (List.eq_of_mem_replicate (List.mem_of_getElem? hx)) h0
 have ET:∀T,(G.room T).length<=5000:=fun T=>by
  have:=h.lz;unfold Gp.room;rw[List.length_append,List.length_replicate];omega
 have oS:(∀(t:Nat) (x:Int),(G.act s (o,R')).leads[t]?=some x->x≠0->(gh'.lead t:Int)=x)/\(G.act s (o,R')).leads.length<=5000/\(G.act s (o,R')).two=false:=by
  have BU:=iS.t0;have e1:∀T,(({G with l:=G.l.set s R'}:Gp).saves s o).room T=G.room T:=fun T=>rfl
  rw[eld.1,eld.2];unfold Gp.looks;rw[e0];split
  ·rename_i hr;obtain⟨q1,_⟩:=iS.rl hr;rw[e1];split
   ·rename_i bh;refine⟨fun t x hx wG=>?_,?_,?_⟩
    ·rw[List.getElem?_set]at hx;split at hx
     ·rename_i e;rw[if_pos (by omega)]at hx;injection hx with hx;rw[<-e,Int.toNat_of_nonneg BU,q1,<-hx];omega
     ·exact jE _ t x hx wG
    ·show((G.room R'.hard.term).set _ _).length<=5000;rw[List.length_set];exact ET _
    ·show(G.two||decide ((G.room R'.hard.term)[R'.hard.term.toNat]?.getD 0≠0/\(G.room R'.hard.term)[R'.hard.term.toNat]?.getD 0≠(s:Int)+1))=false;rw[h.two,Bool.false_or];refine decide_eq_false fun hh=>?_
     obtain⟨x,hx⟩:∃x,(G.room R'.hard.term)[R'.hard.term.toNat]?=some x:=⟨_,List.getElem?_eq_getElem (by omega)⟩;rw[hx]at hh;have:=jE _ _ x hx hh.1;rw[Int.toNat_of_nonneg BU,q1]at this;exact hh.2 (by show x=_;omega)
   ·exact⟨fun t x hx wG=>jE _ t x hx wG,ET _,h.two⟩
  ·exact⟨fun t x hx wG=>by
    have:=h.ld t x hx wG;rw[hm.ext.lead _ (by omega)];exact this,h.lz,h.two⟩
 have esrv:∀j,(G.act s (o,R')).srv j=if s=j then R' else G.srv j:=fun j=>by
  unfold Gp.srv;rw[el];exact eH (by rw[h.ll];exact hs)
 have edk:∀j,(G.act s (o,R')).dk j=if s=j then(G.dk s).saves o else G.dk j:=fun j=>by
  show(G.act s (o,R')).disk[j]?.getD gm=_;rw[ed];exact eH (by rw[h.dl];exact hs)
 have eup:∀j,(G.act s (o,R')).up j=if s=j then R'.commit else G.up j:=fun j=>by
  show(G.act s (o,R')).pos[j]?.getD 0=_;rw[ep];exact eH (by rw[h.pl];exact hs)
 refine⟨fun j=>if s=j then F' else Fs j,?_⟩;refine {n3:=by rw[en];exact h.n3,ll:=by rw[el,en,List.length_set];exact h.ll,dl:=by rw[ed,en,List.length_set];exact h.dl,pl:=by rw[ep,en,List.length_set];exact h.pl,bs:=by rw[en];exact hm.bs,sv:=fun j hj=>?_,ms:=fun m og=>?_,nl:=?_,lg:=?_,lk:=?_,ld:=oS.1,lz:=oS.2.1,two:=oS.2.2}
 ·rw[en]at hj ⊢;rw[esrv,edk,eup,mG];by_cases e:s=j
  ·subst e;rw[if_pos rfl,if_pos rfl,if_pos rfl,if_pos rfl];refine⟨⟨iS,A.out,NU,cz,hI.dk.saves hI.sv A,fun hz=>?_⟩,rfl,by omega⟩;unfold uP at mZ;simp only at mZ;cases om:o.snap with
   | none=>
    rw[om]at mZ;simp only at mZ;rw[mZ.2.1]at hz ⊢;exact hI.z hz
   | some x=>
    rw[om]at mZ;simp only at mZ;exact absurd (by rw[mZ.2.2.1];exact hz) (hx x om).1
  ·rw[if_neg e,if_neg e,if_neg e,if_neg e];obtain⟨hJ,Sb,WJ⟩:=h.sv j hj;refine⟨⟨hJ.sv.other h.bs hm.ext (fun t=>hm.oth (j+1) (by omega) t) fun t ht=>hm.ol t (by omega),hJ.out,hJ.vt,hJ.ok.mono (by omega) (Nat.le_refl 0),hJ.dk,hJ.z⟩,Sb,by omega⟩
 ·rw[en,mG];rw[enet]at og;rcases List.mem_append.1 og with og|og
  ·exact(h.ms m og).ext hm.ext (by omega)
  ·exact hm.ms m (List.mem_of_mem_take og)
 ·rw[enet,List.length_append,List.length_take];have:=h.nl;omega
 ·rw[en];rcases Iz with⟨e,hl⟩|⟨e,hl⟩
  ·rw[e];rcases h.lg with h1|⟨t,k,h1,h2,h3⟩
   ·exact .inl h1
   ·exact .inr ⟨t,k,h1.ext hm.ext,h2,by rw[hm.ext.take (Nat.le_trans h2 h1.len)];exact h3⟩
  ·rw[e];have e2:(F'.take R'.commit.toNat).length=R'.commit.toNat:=by rw[List.length_take];omega
   rw[e2];rcases sv'.co with h1|⟨t,k,h1,h2,h3,h4⟩
   ·have h1:R'.commit.toNat=0:=h1;omega
   ·exact .inr ⟨t,k,h1,h3,h4⟩
 ·have:=h.lk;have:=cz.cm;rw[mG];omega
theorem iT.crash(h:iT K G gh Fs)(hs:s<G.n):∃R',Rf.new ((s+1:Nat):Int) G.n (G.dk s)=some R'/\iT K (G.crash s) gh Fs:=by
 obtain⟨hI,AG,gf⟩:=h.sv s hs;obtain⟨R',dR,V9,hc⟩:=hI.opened;refine⟨R',dR,?_⟩;have e:G.crash s={G with l:=G.l.set s R',pos:=G.pos.set s (G.dk s).snap.idx}:=by
  unfold Gp.crash;rw[dR]
 rw[e];have fw:=hI.dk.sn;have OW:=hI.sv.sn;have eW:=hI.sv.cm;exact {h with
  ll:=by show(G.l.set s R').length=G.n;rw[List.length_set];exact h.ll
  pl:=by show(G.pos.set s _).length=G.n;rw[List.length_set];exact h.pl
  sv:=fun j hj=>by
   show nh K G.n gh (j+1) ((G.l.set s R')[j]?.getD AV) (Fs j) (G.dk j)/\(G.pos.set s (G.dk s).snap.idx)[j]?.getD 0=((G.l.set s R')[j]?.getD AV).commit/\((G.l.set s R')[j]?.getD AV).commit<=G.log.length;rw[eH (by rw[h.ll];exact hs),eH (by rw[h.pl];exact hs)];by_cases e:s=j
   ·subst e;rw[if_pos rfl,if_pos rfl];refine⟨V9,hc.symm,?_⟩;rw[hc,fw,OW.1];omega
   ·rw[if_neg e,if_neg e];exact h.sv j hj}
theorem iT.fewer(h:iT K G gh Fs){ms:List Mg}(hm:∀m∈ms,m∈G.net)(hl:ms.length<=G.net.length):iT K {G with net:=ms} gh Fs:=
 {h with
  ms:=fun m hh=>h.ms m (hm m hh)
  nl:=Nat.le_trans hl h.nl}
theorem iT.mono{K':Nat}(h:iT K G gh Fs)(hK:K<=K'):iT K' G gh Fs:=
 {h with
  sv:=fun s hs=>⟨(h.sv s hs).1.mono hK,(h.sv s hs).2⟩}
end
def KC:Nat->Code->Option Code
 | 0,c=>some c
 | k+1,.seq _ b=>KC k b
 | _+1,_=>none
def IU(k:Nat)(c:Code):Option Code:=match KC k c with
 | some (.seq a _)=>some a
 | some b=>some b
 | none=>none
def KB(k:Nat)(c:Code):Code:=(KC k c).getD .skip
def Of(k:Nat)(c:Code):Code:=(IU k c).getD .skip
def aB(F:Func):Code:=F.body.getD .skip
section
variable {P:Program}{Q:Exit->Act->World->Prop}{a:Act}{w:World}
theorem ge{o:Option Code}{c:Code}(h:o=some c)(hw:c.wp P Q a w):(o.getD .skip).wp P Q a w:=by
 subst h;exact hw
theorem cK{k:Nat}{c:Code}(h:KC k c=some (.seq (Of k c) (KB (k+1) c)))(hw:(Of k c).wp P (Exit.then ((KB (k+1) c).wp P Q) Q) a w):(KB k c).wp P Q a w:=by
 unfold KB;rw[h];exact wp_seq hw
end
theorem zd(l:List Value):l=(List.range l.length).map fun i=>l[i]?.getD undef:=by
 refine List.ext_getElem? fun i=>?_
 rw[List.getElem?_map];rcases Nat.lt_or_ge i l.length with h|h
 ·rw[List.getElem?_range h,List.getElem?_eq_getElem h];simp[h]
 ·rw[List.getElem?_eq_none (l:=List.range l.length) (by simp;exact h),List.getElem?_eq_none h];rfl
theorem am{l:List Value}{n:Nat}(h:l.length=n):∃f:Nat->Value,l=(List.range n).map f/\∀i v,l[i]?=some v->f i=v:=
 ⟨fun i=>l[i]?.getD undef,by subst h;exact zd l,fun i v e=>by show l[i]?.getD undef=v;rw[e];rfl⟩
theorem bJ{P:Program}{f:FuncId}{fn:Func}{args:List Value}{w:World}{R:Ending->World->Prop}(n:Nat)(hf:P.funcs[f]?=some fn)(hb:fn.body=some (aB fn))(hn:fn.ntmps=n)(ha:args.length<=n)
  (h:∀l:List Value,l.length=n->(∀(i:Nat) (v:Value),args[i]?=some v->l[i]?=some v)->(KB 0 (aB fn)).wp P (bodyPost P fn R) ⟨l.toArray,[]⟩ w):Calls P f args.toArray w R:=by
 refine calls_of_wp hf hb ?_;have e:args.toArray++Array.replicate (fn.ntmps-args.toArray.size) undef=(args++List.replicate (n-args.length) undef).toArray:=by
  rw[hn];simp
 rw[e];exact h _ (by simp;omega) fun i v hi=>by
  have hl:i<args.length:=(List.getElem?_eq_some_iff.1 hi).1;rw[List.getElem?_append_left hl];exact hi
theorem lu {P:Program}{Q:Exit->Act->World->Prop}{a:Act}{w:World}(k:Nat)(F:Func){c:Code}(h:IU k (aB F)=some c)(hw:c.wp P Q a w):(Of k (aB F)).wp P Q a w:=ge h hw
theorem Kw {P:Program}{Q:Exit->Act->World->Prop}{a:Act}{w:World}(k:Nat)(F:Func){c:Code}(h:KC k (aB F)=some c)(hw:c.wp P Q a w):(KB k (aB F)).wp P Q a w:=ge h hw
abbrev sQ (k:Nat)(F:Func)(K:Act->World->Prop)(Q:Exit->Act->World->Prop)(l:List Value)(w:World):Prop:=(Of k (aB F)).wp prog (Exit.then K Q) ⟨l.toArray,[]⟩ w
abbrev sP (k:Nat)(F:Func)(K:Act->World->Prop)(H:Ending->World->Prop)(l:List Value)(w:World):Prop:=(Of k (aB F)).wp prog (Exit.then K (bodyPost prog F H)) ⟨l.toArray,[]⟩ w
abbrev tP (k:Nat)(F:Func)(H:Ending->World->Prop)(l:List Value)(w:World):Prop:=(KB k (aB F)).wp prog (bodyPost prog F H) ⟨l.toArray,[]⟩ w
abbrev rT (H:World->Prop):Ending->World->Prop:=fun e w''=>e=.returned (.tuple #[])/\H w'' 
structure bC(X:Nat->Prop)(aa ac:Nat->Nat)(w w':World):Prop where
 size:w.heap.size<=w'.heap.size
 stay:∀j,j<w.heap.size->¬X j->ac j=aa j/\w'.heap[j]?=w.heap[j]?
 wld:w'.os=w.os/\w'.tape=w.tape/\w'.output=w.output
section
variable {X Y:Nat->Prop}{aa ac ar bK:Nat->Nat}{w w' w1 w2:World}{b c q i ga gb:Nat}{R R':Rf}{v:Rw}
theorem bC.refl(X:Nat->Prop)(aa:Nat->Nat)(w:World):bC X aa aa w w:=⟨Nat.le_refl _,fun _ _ _=>⟨rfl,rfl⟩,rfl,rfl,rfl⟩
theorem bC.mono(h:bC X aa ac w w')(hX:∀j,j<w.heap.size->X j->Y j):bC Y aa ac w w':=⟨h.size,fun j hj hn=>h.stay j hj fun hx=>hn (hX j hj hx),h.wld⟩
theorem bC.trans(h:bC X aa ar w w1)(h':bC Y ar bK w1 w2)(hY:∀j,j<w.heap.size->¬X j->ar j=aa j->¬Y j):bC X aa bK w w2:=
 ⟨Nat.le_trans h.size h'.size,fun j hj hn=>by
  obtain⟨h1,h2⟩:=h.stay j hj hn;obtain⟨h3,h4⟩:=h'.stay j (Nat.lt_of_lt_of_le hj h.size) (hY j hj hn h1);exact⟨h3.trans h1,h4.trans h2⟩,h'.wld.1.trans h.wld.1,h'.wld.2.1.trans h.wld.2.1,h'.wld.2.2.trans h.wld.2.2⟩
theorem bC.of_fr(hF:Fr Y w w')(h:∀j,j<w.heap.size->¬X j->ac j=aa j/\¬Y j):bC X aa ac w w':=⟨hF.size,fun j hj hn=>⟨(h j hj hn).1,hF.block j hj (h j hj hn).2⟩,hF.os,hF.tape,hF.output⟩
theorem bC.new(i:Nat)(aa:Nat->Nat)(hb:Below w.heap.size w w'):bC (fun _=>False) aa (relab aa w.heap.size i) w w':=⟨hb.size,fun j hj _=>⟨ae hj,hb.block j hj⟩,hb.os,hb.tape,hb.output⟩
theorem bC.same(aa:Nat->Nat)(hb:Below w.heap.size w w'):bC (fun _=>False) aa aa w w':=⟨hb.size,fun j hj _=>⟨rfl,hb.block j hj⟩,hb.os,hb.tape,hb.output⟩
theorem bC.hold{P:(Nat->Nat)->World->Prop}(good:Nat->Prop)(z:Nat)(hz:¬good z)(xM:∀aa ac w,P aa w->(∀j,j<w.heap.size->good (aa j)->ac j=aa j)->P ac w)
  (P1:∀aa w w',P aa w->(∀j,good (aa j)->j<w.heap.size->w'.heap[j]?=w.heap[j]?)->P aa w') (h:bC X aa ac w w') (hX:∀j,j<w.heap.size->good (aa j)->¬X j) (hp:P aa w):P ac w':=by
 have m1:∀j,j<w.heap.size->relab aa w.heap.size z j=aa j:=fun j hj=>ae hj
 have h1:=xM aa (relab aa w.heap.size z) w hp fun j hj _=>m1 j hj
 have h2:=P1 _ w w' h1 fun j hg hj=>by
  rw[m1 j hj]at hg;exact(h.stay j hj (hX j hj hg)).2
 refine xM _ ac w' h2 fun j hj hg=>?_
 rcases Nat.lt_or_ge j w.heap.size with hl|hl
 ·rw[m1 j hl]at hg ⊢;exact(h.stay j hl (hX j hl hg)).1
 ·rw[aA hl]at hg;exact absurd hg hz
theorem bC.raft(h:bC X aa ac w w')(hX:∀j,j<w.heap.size->ba aa b j->¬X j)(hr:av aa b w ga R v):av ac b w' ga R v:=
 h.hold (P:=fun aa w=>av aa b w ga R v) (fun k=>b<k/\k<=b+13) b (by omega) (fun _ _ _ h1 h2=>h1.relabel h2) (fun _ _ _ h1 h2=>h1.keep h2) hX hr
theorem bC.one{P:(Nat->Nat)->World->Prop}(xM:∀aa ac w,P aa w->(∀j,j<w.heap.size->aa j=i->ac j=i)->P ac w)
  (P1:∀aa w w',P aa w->(∀j,aa j=i->j<w.heap.size->w'.heap[j]?=w.heap[j]?)->P aa w') (h:bC X aa ac w w') (hX:∀j,j<w.heap.size->aa j=i->¬X j) (hp:P aa w):P ac w':=
 h.hold (fun k=>k=i) (i+1) (by omega) (fun _ _ _ h1 h2=>xM _ _ _ h1 fun j hj e=>(h2 j hj e).trans e) P1 hX hp
theorem bC.ens{u:Value}{L:List En}(h:bC X aa ac w w')(hX:∀j,j<w.heap.size->aa j=i->¬X j)(he:da aa i w u L):da ac i w' u L:=
 h.one (P:=fun aa w=>da aa i w u L) (fun _ _ _ h1 h2=>h1.relabel h2) (fun _ _ _ h1 h2=>h1.keep h2) hX he
theorem bC.byt{u:Value}{L:List UInt8}(h:bC X aa ac w w')(hX:∀j,j<w.heap.size->aa j=i->¬X j)(he:cT aa i w u L):cT ac i w' u L:=
 h.one (P:=fun aa w=>cT aa i w u L) (fun _ _ _ h1 h2=>h1.relabel h2) (fun _ _ _ h1 h2=>h1.keep h2) hX he
theorem fd.relab{O:Ot}{x:Ox}(h:fd aa i w O x)(hl:∀j,j<w.heap.size->aa j=i->ac j=i):fd ac i w O x:=
 ⟨h.e.relabel hl hl,h.c.relabel hl hl,h.s.relabel hl,h.r.relabel hl,h.m.relabel hl hl⟩
theorem bC.outX{O:Ot}{x:Ox}(h:bC X aa ac w w')(hX:∀j,j<w.heap.size->aa j=i->¬X j)(he:fd aa i w O x):fd ac i w' O x:=
 h.one (P:=fun aa w=>fd aa i w O x) (fun _ _ _ h1 h2=>h1.relab h2) (fun _ _ _ h1 h2=>h1.keep h2) hX he
end
def eP(aa:Nat->Nat)(i:Nat)(w:World)(T:TypeId)(size:Nat)(v:Value)(n:Nat)(xs:List Value):Prop:=
 ∃A c,v=.slice A n c/\xs.length=n*size/\((A=none/\n=0/\c=0)\/∃g o cur,A=some ⟨g,o,none⟩/\aa g=i/\w.heap[g]?=some (.cells cur T (0,0))/\n<=c/\c<=maxLen/\o+c*size<=cur.size/\(cur.toList.drop o).take (n*size)=xs)
section
variable {aa ac:Nat->Nat}{i k n size:Nat}{T:TypeId}{w w':World}{v:Value}{xs:List Value}
theorem eP.of_row(h:aX aa i w T size v n xs):eP aa i w T size v n xs:=by
 obtain⟨A,c,rfl,⟨h1,h2⟩,h3⟩:=h;refine⟨A,c,rfl,h1,?_⟩;rcases h2 with⟨e,e2⟩|⟨g,cap,cur,e,_,hg,hn,hc,hs,ht⟩
 ·injection e with e1 e3 e4;exact .inl ⟨e1,e2,e4⟩
 ·injection e with e1 e3 e4;subst e4;exact .inr ⟨g,0,cur,e1,h3 g ⟨_,e1,rfl⟩,hg,hn,hc,by omega,by rw[List.drop_zero];exact ht⟩
theorem eP.nil(aa:Nat->Nat)(i:Nat)(w:World)(T:TypeId)(size:Nat):eP aa i w T size (.slice none 0 0) 0 []:=.of_row (aX.nil _ _ _ _ _)
theorem eP.keep(h:eP aa i w T size v n xs)(hk:∀j,aa j=i->j<w.heap.size->w'.heap[j]?=w.heap[j]?):eP aa i w' T size v n xs:=by
 obtain⟨A,c,e,h1,h2⟩:=h;refine⟨A,c,e,h1,?_⟩;rcases h2 with h2|⟨g,o,cur,e1,hl,hg,r⟩
 ·exact .inl h2
 ·exact .inr ⟨g,o,cur,e1,hl,(hk g hl (aS hg)).trans hg,r⟩
theorem eP.relabel(h:eP aa i w T size v n xs)(hl:∀j,j<w.heap.size->aa j=i->ac j=k):eP ac k w T size v n xs:=by
 obtain⟨A,c,e,h1,h2⟩:=h;refine⟨A,c,e,h1,?_⟩;rcases h2 with h2|⟨g,o,cur,e1,Dj,hg,r⟩
 ·exact .inl h2
 ·exact .inr ⟨g,o,cur,e1,hl g (aS hg) Dj,hg,r⟩
theorem eP.rds{A:Option Addr}{c:Nat}(h:eP aa i w T size (.slice A n c) n xs):cj w size A n xs:=by
 obtain⟨A',c',e,h1,h2⟩:=h;injection e with e1 e2 e3;subst e1 e3;refine⟨h1,fun hn=>?_⟩;rcases h2 with⟨_,h2,_⟩|⟨g,o,cur,rfl,_,hg,_,_,hs,ht⟩
 ·omega
 ·refine⟨_,rfl,fun j u hu=>?_⟩;rw[Addr.add_lit,cell_of_row w g (o+j) cur T (0,0) hg];rw[<-ht,List.getElem?_take]at hu;split at hu
  ·rw[List.getElem?_drop]at hu;simpa using hu
  ·cases hu
theorem eP.form(h:eP aa i w T size v n xs):∃A c,v=.slice A n c/\n<=c/\c<=maxLen:=by
 obtain⟨A,c,e,_,⟨_,h1,h2⟩|⟨g,o,cur,_,_,_,h1,h2,_⟩⟩:=h
 ·exact⟨A,c,e,by omega,by unfold maxLen;omega⟩
 ·exact⟨A,c,e,h1,h2⟩
theorem eP.tail{A:Option Addr}{c:Nat}(h:eP aa i w T size (.slice A (n+1) c) (n+1) xs):∃ad,A=some ad/\eP aa i w T size (.slice (if c=1 then some ad else some (ad.add size)) n (c-1)) n (xs.drop size):=by
 obtain⟨A',c',e,h1,h2⟩:=h;injection e with e1 e2 e3;subst e1 e3;rcases h2 with⟨_,h2,_⟩|⟨g,o,cur,rfl,hl,hg,hn,hc,hs,ht⟩
 ·omega
 ·refine⟨_,rfl,?_⟩;have ab:(xs.drop size).length=n*size:=by rw[List.length_drop,h1,Nat.add_mul];omega
  have sR:((cur.toList.drop (o+size)).take (n*size))=xs.drop size:=by
   rw[<-ht,List.drop_take,List.drop_drop,Nat.add_mul,Nat.one_mul,Nat.add_sub_cancel]
  have fP:o+size+(c-1)*size<=cur.size:=by
   have:c*size=(c-1)*size+size:=by rw[<-Nat.succ_mul];congr 1;omega
   omega
  by_cases S5:c=1
  ·have ug:n=0:=by omega
   subst ug;refine⟨_,_,rfl,by rw[Nat.zero_mul]at ab ⊢;exact ab,.inr ⟨g,o,cur,by rw[if_pos S5],hl,hg,by omega,by omega,by omega,?_⟩⟩;rw[Nat.zero_mul]at ab;rw[List.eq_nil_of_length_eq_zero ab];simp
  ·refine⟨_,_,rfl,ab,.inr ⟨g,o+size,cur,by rw[if_neg S5,Addr.add_lit],hl,hg,by omega,by omega,fP,sR⟩⟩
end
section
variable {P:Program}{aa:Nat->Nat}{k:Nat}(w:World)
theorem sC(t ty e:TypeId)(i:TypeInfo)(ht:P.underlying t=some (.slice e))(hi:P.info? e=some i)
  (g o sLen sCap:Nat) (cur:Array Value) (hg:w.heap[g]?=some (.cells cur e (0,0)))
  (a:Addr) (m c:Nat) (news:List Value) (hl:news.length=m*i.size) (qn:∀j u,news[j]?=some u->w.cell? (a.add j)=some u) (h1:∀u∈news,u.oneCell'=true)
  (jE:sLen+m<=sCap) (Jy:o+sLen*i.size+news.length<=cur.size) :
  (Builtin.append_ #[t,t] ty #[.slice (some ⟨g,o,none⟩) sLen sCap,.slice (some a) m c]).run P w=
   .ok (.slice (some ⟨g,o,none⟩) (sLen+m) sCap) (w.setRow g (cur.toList.take (o+sLen*i.size)++news++cur.toList.drop (o+sLen*i.size+news.length)).toArray):=by
 have hf:=run_firstCells_some (P:=P) w i.size m a m c news hl qn;have bP:=run_storeCells_at P g (o+sLen*i.size) e news 0 cur w hg (by simpa using Jy) h1;simp only[Nat.add_zero]at bP;simp[Builtin.append_,run_underlying ht,sizeOf,typeInfo,hi,Builtin.lenOf,jE,hf,Addr.add_lit,bP]
theorem uH(t ty e:TypeId)(i:TypeInfo)(z:Value)(size bytes:Nat)(ht:P.underlying t=some (.slice e))(hi:P.info? e=some i)(hz:i.zero=some z)
  (lq:i.size=size) (Eg:i.bytes=bytes) (BY:z.cells.size=size) (gn:0<size)
  (v:Value) (n:Nat) (xs:List Value) (aJ:eP aa k w e size v n xs)
  (a:Addr) (m c:Nat) (news:List Value) (hl:news.length=m*size) (qn:∀j u,news[j]?=some u->w.cell? (a.add j)=some u) (h1:∀u∈news,u.oneCell'=true) (hm:0<m)
  (Db:n+m<=maxLen) (g8:(n+m)*bytes<=140737488355328) :
  ∃A' c' w',(Builtin.append_ #[t,t] ty #[v,.slice (some a) m c]).run P w=.ok (.slice A' (n+m) c') w'/\eP (relab aa w.heap.size k) k w' e size (.slice A' (n+m) c') (n+m) (xs++news)/\Fr (aL aa k) w w':=by
 subst lq;subst Eg;have qu:n+m<=9223372036854775807:=by simp only[maxLen]at Db;omega
 obtain⟨A,cap,rfl,vn,hA⟩:=aJ;have ab:(xs++news).length=(n+m)*i.size:=by rw[List.length_append,vn,hl,Nat.add_mul]
 have grown:∀(old:Nat),eP (relab aa w.heap.size k) k (w.drew.alloc (.cells (xs.toArray++news.toArray++Builtin.zeroCells z.cells (grownCap w (n+m) old e-(n+m))) e)) e i.size
    (.slice (some ⟨w.heap.size,0,none⟩) (n+m) (grownCap w (n+m) old e)) (n+m) (xs++news)/\
   Fr (aL aa k) w (w.drew.alloc (.cells (xs.toArray++news.toArray++Builtin.zeroCells z.cells (grownCap w (n+m) old e-(n+m))) e)):=by
  intro old;have ud:=grownCap_ge w (n+m) old e;have eW:grownCap w (n+m) old e<=maxLen:=grownCap_le_maxLen w (n+m) old e Db;refine⟨⟨_,_,rfl,ab,.inr ⟨w.heap.size,0,_,rfl,aA zl,heap_alloc_new w.drew _,ud,eW,?_,?_⟩⟩,Fr.of_below ((zb.drew).alloc zl _)⟩
  ·simp only[Array.size_append,List.size_toArray,size_zeroCells,BY,vn,hl,<-Nat.add_mul];rw[Nat.zero_add,Nat.add_sub_cancel' ud];exact Nat.le_refl _
  ·simp only[Array.toList_append,List.append_assoc];rw[<-List.append_assoc,<-ab];exact List.take_left
 rcases hA with⟨rfl,rfl,rfl⟩|⟨g,o,cur,rfl,Dj,hg,lO,eW,fA,IM⟩
 ·have hx:xs=[]:=List.eq_nil_of_length_eq_zero (by simpa using vn);subst hx;have hr:=run_append_nil (P:=P) w t ty e i z ht hi hz a m c news hl qn hm (by omega) (by have hb:=g8;simp only[Nat.zero_add]at hb;omega);have BJ:=grown 0;simp only[Nat.zero_add,List.nil_append,Array.empty_append]at BJ ⊢;exact⟨_,_,_,hr,BJ.1,BJ.2⟩
 ·by_cases jE:n+m<=cap
  ·have Jy:o+n*i.size+news.length<=cur.size:=by
    have:(n+m)*i.size<=cap*i.size:=Nat.mul_le_mul_right _ jE;rw[Nat.add_mul]at this;omega
   have hr:=sC (P:=P) w t ty e i ht hi g o n cap cur hg a m c news hl qn h1 jE Jy;refine⟨_,_,_,hr,⟨_,_,rfl,ab,.inr ⟨g,o,_,rfl,(ae (aS hg)).trans Dj,setRow_heap w g cur _ e _ hg,jE,eW,?_,?_⟩⟩,⟨rfl,rfl,rfl,by simp,fun j _ hj=>setRow_other w g j _ (fun e=>hj (by subst e;exact Dj))⟩⟩
   ·simp only[List.size_toArray,List.length_append,List.length_take,List.length_drop,Array.length_toList];omega
   ·have e1:(cur.toList.take (o+n*i.size)++news++cur.toList.drop (o+n*i.size+news.length)).drop o=xs++(news++cur.toList.drop (o+n*i.size+news.length)):=by
     rw[List.append_assoc,List.drop_append_of_le_length (by rw[List.length_take,Array.length_toList];omega),List.drop_take,Nat.add_sub_cancel_left,IM]
    show(List.drop o (cur.toList.take (o+n*i.size)++news++cur.toList.drop (o+n*i.size+news.length))).take _=_;rw[e1,<-List.append_assoc,<-ab];exact List.take_left
  ·have Nq:∀j u,xs[j]?=some u->w.cell? ((⟨g,o,none⟩:Addr).add j)=some u:=by
    intro j u hu;have hq:eP aa k w e i.size (.slice (some ⟨g,o,none⟩) n cap) n xs:=⟨_,_,rfl,vn,.inr ⟨g,o,cur,rfl,Dj,hg,lO,eW,fA,IM⟩⟩;rcases Nat.eq_zero_or_pos n with h0|h0
    ·subst h0;rw[List.eq_nil_of_length_eq_zero (show xs.length=0 by simpa using vn)]at hu;cases hu
    ·obtain⟨ad,e1,e2⟩:=hq.rds.2 h0;injection e1 with e1;subst e1;exact e2 j u hu
   have hr:=run_append_grow (P:=P) w t ty e i z ht hi hz ⟨g,o,none⟩ n cap xs vn Nq a m c news hl qn (by omega) (by omega) (growslice_fits (by omega) g8);have BJ:=grown cap;exact⟨_,_,_,hr,BJ.1,BJ.2⟩
end
section
variable {P:Program}{aa:Nat->Nat}{k:Nat}{w:World}
theorem pB{ops:Array Oper}{rest:List Oper}{o:Oper}{a:Act}{Q:Exit->Act->World->Prop}(iJ:o.guard=none)(s x:Operand)(t:TypeId)
  (ho:o.op=.call {callee:=.builtin .append,args:=#[s,x],argTypes:=#[t,t]})
  (e:TypeId) (i:TypeInfo) (z:Value) (size bytes:Nat) (ht:P.underlying t=some (.slice e)) (hi:P.info? e=some i) (hz:i.zero=some z)
  (lq:i.size=size) (Eg:i.bytes=bytes) (BY:z.cells.size=size) (gn:0<size)
  (v:Value) (n:Nat) (xs:List Value) (hs:a.eval s=v) (aJ:eP aa k w e size v n xs)
  (ad:Addr) (m c:Nat) (news:List Value) (hx:a.eval x=.slice (some ad) m c) (hl:news.length=m*size) (qn:∀j u,news[j]?=some u->w.cell? (ad.add j)=some u) (h1:∀u∈news,u.oneCell'=true) (hm:0<m)
  (Db:n+m<=maxLen) (g8:(n+m)*bytes<=140737488355328)
  (h:∀A' c' w',eP (relab aa w.heap.size k) k w' e size (.slice A' (n+m) c') (n+m) (xs++news)->Fr (aL aa k) w w'->wpList P ops Q rest (a.put o.dst (.slice A' (n+m) c')) w'):wpList P ops Q (o::rest) a w:=
 wpList_plain iJ fun _ hK=>by
  obtain⟨A',c',w',hr,h2,h3⟩:=uH (P:=P) w t o.type e i z size bytes ht hi hz lq Eg BY gn v n xs aJ ad m c news hl qn h1 hm Db g8;unfold Oper.wp execOp;simp only[ho,resolve,invoke,builtin,Sem.run_bind,Sem.run_pure,Result.andThen_ok,List.map_toArray,List.map_cons,List.map_nil,hs,hx,hr];exact hK _ _ (h A' c' w' h2 h3)
theorem cO{ops:Array Oper}{rest:List Oper}{o:Oper}{a:Act}{Q:Exit->Act->World->Prop}(iJ:o.guard=none)(s x:Operand)(t:TypeId)
  (ho:o.op=.call {callee:=.builtin .append,args:=#[s,x],argTypes:=#[t,t]})
  (e:TypeId) (i:TypeInfo) (z:Value) (size bytes:Nat) (ht:P.underlying t=some (.slice e)) (hi:P.info? e=some i) (hz:i.zero=some z)
  (lq:i.size=size) (Eg:i.bytes=bytes) (BY:z.cells.size=size) (gn:0<size)
  (v:Value) (n:Nat) (xs:List Value) (hs:a.eval s=v) (aJ:aX aa k w e size v n xs)
  (A:Option Addr) (m c:Nat) (news:List Value) (hx:a.eval x=.slice A m c) (hr:cj w size A m news) (h1:∀u∈news,u.oneCell'=true)
  (Db:n+m<=maxLen) (g8:(n+m)*bytes<=140737488355328)
  (h:∀A' c' w',aX (relab aa w.heap.size k) k w' e size (.slice A' (n+m) c') (n+m) (xs++news)->Fr (aL aa k) w w'->wpList P ops Q rest (a.put o.dst (.slice A' (n+m) c')) w'):wpList P ops Q (o::rest) a w:=by
 obtain⟨A0,c0,rfl,aD,hl⟩:=aJ;refine bj w iJ s x t ho 0 e i z size bytes ht hi hz lq Eg BY gn (.slice A0 n c0) n xs hs aD A m c news hx hr h1 Db g8 zz fun A' c' w' h3 h4 h5=>?_
 refine h _ _ _ ⟨A',c',rfl,h3,fun j hj=>?_⟩ ((Fr.grown h4).mono fun j hj=>hl j hj);rcases iP h5 j hj with h6|h6
 ·unfold relab;split
  ·rfl
  ·exact hl j h6
 ·exact aA h6
end
theorem jI{w:World}{ops:Array Oper}{rest:List Oper}{o:Oper}{a:Act}{Q:Exit->Act->World->Prop}(iJ:o.guard=none)(s x:Operand)
  (ho:o.op=.call {callee:=.builtin .append,args:=#[s,x],argTypes:=#[76,76]}) {aa:Nat->Nat} {i n:Nat} {v:Value} {xs:List Value} (hs:a.eval s=v) (aJ:aX aa i w 3 1 v n xs)
  {gb d:Nat} {u:Value} (hx:a.eval x=.slice (some ⟨gb,0,none⟩) 1 d) (hb:ay w gb 3 #[u]) (h1:u.oneCell'=true) (hn:n<=1000000000000)
  (h:∀A' c' w',aX (relab aa w.heap.size i) i w' 3 1 (.slice A' (n+1) c') (n+1) (xs++[u])->Fr (aL aa i) w w'->wpList prog ops Q rest (a.put o.dst (.slice A' (n+1) c')) w'):wpList prog ops Q (o::rest) a w:=by
 obtain⟨i0,fT,gv,fC,fK⟩:=info_parts qA;have hr:cj w 1 (some ⟨gb,0,none⟩) 1 [u]:=⟨rfl,fun _=>⟨_,rfl,fun j y hy=>by
  rw[Addr.add_lit,Nat.zero_add,hb.cell j,<-hy];simp⟩⟩
 exact cO iJ s x 76 ho 3 i0 _ 1 8 underlying76 fT gv fC fK rfl (by omega) v n xs hs aJ _ 1 d [u] hx hr (fun y hy=>by rw[List.mem_singleton.1 hy];exact h1) (by unfold maxLen;omega) (by omega) h
def cu(n:Int)(m:Nat):Nat:=((if n<0 then -(n+1)else n)%(m:Int)).toNat
theorem dH(n:Int){m:Nat}(h:0<m):cu n m<m:=by
 unfold cu;have h1:=Int.emod_lt_of_pos (if n<0 then -(n+1)else n) (b:=(m:Int)) (by omega);have h2:=Int.emod_nonneg (if n<0 then -(n+1)else n) (b:=(m:Int)) (by omega);omega
theorem Fy(n:Int){m:Nat}(h:0<m):(if n<0 then -(n+1)else n).tmod m=(cu n m:Nat):=by
 have h2:=Int.emod_nonneg (if n<0 then -(n+1)else n) (b:=(m:Int)) (by omega);unfold cu;rw[Int.toNat_of_nonneg h2];exact Int.tmod_eq_emod_of_nonneg (by split <;> omega)
end Go.Proofs.YtjcninheccmpoaaGreat
