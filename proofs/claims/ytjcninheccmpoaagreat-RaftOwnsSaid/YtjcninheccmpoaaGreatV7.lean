import Derived.Test.YtjcninheccmpoaaGreatV6
import Derived.Lib.SliceRun
import Derived.Deep.DeepCutAuto
set_option maxRecDepth 100000
set_option maxHeartbeats 8000000
set_option linter.all false
namespace Go.Proofs.YtjcninheccmpoaaGreat
open Go.RowKit Go.Proofs.Tryz
section
open Go.Maps Go.MapKept Go.WideMaps
open Go.ChangeMaps (setBlock)
structure xE(R:Rf)(m:Mg):Prop where
 kind:1<=m.kind/\m.kind<=8
 frm:1<=m.frm/\m.frm<=R.n
 term:1<=m.term/\m.term<=1099511627776
 idx:0<=m.idx/\m.idx<=1099511627776
 lgt:0<=m.logTerm/\m.logTerm<=1099511627776
 cmt:0<=m.commit/\m.commit<=1099511627776
 rnd:0<=m.round/\m.round<=1099511627776
 off:0<=m.offset/\m.offset<=1099511627776
 tot:0<=m.total/\m.total<=1099511627776
 el:m.entries.length<=6
 dl:m.data.length<=160
theorem sx{R:Rf}{m:Mg}(h:R.right m=true):xE R m:=by
 unfold Rf.right Rf.numOk iQ at h;simp only[Bool.and_eq_true,decide_eq_true_eq]at h;obtain⟨⟨⟨⟨⟨⟨a,c⟩,d⟩,e⟩,f⟩,k⟩,h1,h2,h3,h4,h5,h6,h7⟩:=h;exact⟨h1,h3,h5,a,c,d,e,f,k,h6,h7⟩
theorem Kb{k:Int}(h:1<=k/\k<=8):k=1\/k=2\/k=3\/k=4\/k=5\/k=6\/k=7\/k=8:=by omega
theorem Ok.hears{K M:Nat}{R:Rf}(h:Ok K M R)(m:Mg):Ok K M (R.hears m):=
 {h with
  ck:=⟨Int.le_refl 0,Int.natCast_nonneg _,h.ck.2.2.1,h.ck.2.2.2⟩
  ys:=fun e=>by rcases e with e|e <;> cases e
  ld:=fun e=>by cases e}
section
variable {aa:Nat->Nat}{b g:Nat}{w:World}{R:Rf}{v:Rw}
theorem Og(s:Int)(h:ax aa b w g R v)(h0:0<=s)(rm:s<=1000)(gB:R.yes≠[])(af:R.yes.length<=100000) :
  Calls prog 98 #[.pointer (some ⟨g,0,none⟩),.int .i64 s] w fun e w'=>e=.returned (.bool (R.says s).won)/\ap aa b w g (R.says s) w'/\w'.heap[g]?=w.heap[g]?:=by
 have cW:=h.s.lt;obtain⟨bm,hv,fR,hk⟩:∃bm,v.yes=.map (some bm)/\aa bm=b+5/\fj w bm R.yes:=by
  rcases h.y with⟨_,hn⟩|⟨bm,es,clock,h1,h2,h3,h4,h5,h6⟩
  ·exact absurd hn gB
  ·exact⟨bm,h1,h2,es,clock,h3,h4,h5,h6⟩
 obtain⟨c3,c5,-⟩:=h.s.cs [3,5];simp only[bV,vi,Zx]at c3 c5;rw[hv]at c3;have K9:g≠bm:=fun e=>by
  have:=h.sl;rw[e,fR]at this;omega
 obtain⟨w1,RI,cA,iM⟩:=sC hk underlying101 h0 rm (.bool true);have ir:=Fr.map iM;have xh:ao w1 g 107 (bV R v):=(ir.block g cW K9).trans h.s;obtain⟨d3,d5,-⟩:=xh.cs [3,5];simp only[bV,vi,Zx]at d3 d5;rw[hv]at d3;have qe:ap aa b w g (R.says s) w1:=by
  obtain⟨es,clock,q1,q2,q3,q4⟩:=cA;refine ap.turn (v':=v) (ak:=aa) [5] h xh (fun j _=>rfl) (by simp) (ir.mono fun j e=>.inr ⟨5,by simp,by rw[e];exact fR⟩)
   tI tI tI (.inl ?_) tI tI tI tI tI tI tI
  rw[hv];exact .inr ⟨bm,es,clock,rfl,fR,q1,q2,q3,q4⟩
 have cD:(R.yes++[s]).length<=100001:=by simp;exact af
 have nD:(R.says s).won=lv R.n (R.yes++[s]):=rfl;obtain⟨l,hl⟩:=zN (R.yes++[s]);rw[hl]at cA cD nD;obtain⟨w2,nn,ls,JT,hR,o,cZ⟩:=zO cA underlying101;have ef:Below w1.heap.size w1 w2:=by rw[cZ];exact zb.alloc zl o
 have Fj:w1.heap.size≠bm:=by have:=cA.lt;omega
 have rz:g<w1.heap.size:=xh.lt;have MZ:w1.heap[g]?=w.heap[g]?:=ir.block g cW K9;replace MZ:=zH MZ;replace qe:=zH qe;replace nD:=zH nD;clear h hk cA ir hl cZ fR gB;obtain⟨r,hr⟩:=zN (w1.heap.size);rw[hr]at hR ef Fj ls;go_enter func98,ntmps98;go_wp2_with fail
 go_loopw [5] (fun v wr=>∃(left:Int->Prop) (q:Nat) (last:Option Int) (K:List Int) (A:Option Addr) (m cc:Nat),v=.slice A m cc/\wr.ownsRow r 3 1 (.slice A m cc) m (K.map vi)/\(∀s,s∈K↔(s∈l/\¬left s))/\lB wr r bm l left q last/\m+q<=l.length/\Below r w1 wr) (fun _ wr=>uF wr r bm)
 case atStart=>exact⟨_,nn,_,[],none,0,0,rfl,bX _ _,fun s=>⟨fun h=>(by cases h),fun h=>absurd h.1 h.2⟩,hR,by omega,ef⟩
 case round=>
  clear hR ef;obtain⟨left,q,last,K,A,m,cc,rfl,aB,hK,hR,U8,br⟩:=hrel;have TR:K.length=m:=by have:=aB.1;simpa using this
  have DL:g<r:=by omega
  have d5w:=(br.cell (p:=⟨g,5,none⟩) DL).trans d5;rcases nl hR Fj 0 with⟨h0,hl,cu⟩|⟨s',v',w2',o2,q',Ry,Zu,cZ,cu,ja⟩
  ·have aE:∀s,s∈K↔s∈l:=fun s=>by
    rw[hK];exact⟨fun h=>h.1,fun h=>⟨h,hl s⟩⟩
   have ti:=bB aB;have aH:=Da R.n A m cc K wr (fv.of_own aB) ti.2 ti.1;rw[mK aE]at aH;have hQ:=zH (show ap aa b w g (R.says s) wr/\wr.heap[g]?=w.heap[g]? from⟨qe.out.below (by rw[hr];exact br),(br.block g DL).trans MZ.out⟩);clear aE hK hR aB U8 TR h0 hl;go_wp2_with fail;refine aH.mono ?_;rintro e w9 ⟨rfl,rfl⟩;go_wp2_with fail;go_ret;exact⟨by rw[nD.out];rfl,hQ.out⟩
  ·have Gw:=mh ja;obtain⟨ve,Gw⟩:=Gw;have NA:r<wr.heap.size:=by
    obtain⟨x,y,z,t,h1⟩:=hR.iter;exact aV h1
   have BB:wr.grownBy (setBlock w2' r o2) (some r):=by
    rcases cZ with rfl|rfl
    ·exact⟨rfl,rfl,rfl,by simp[setBlock],fun j _ fe=>by simp only[setBlock];rw[Array.getElem?_setIfInBounds_ne (fun e=>fe (by rw[e]))]⟩
    ·exact⟨rfl,rfl,rfl,by show wr.heap.size<=(wr.heap.setIfInBounds r o2).size;simp,fun j _ fe=>by show(wr.heap.setIfInBounds r o2)[j]?=_;rw[Array.getElem?_setIfInBounds_ne (fun e=>fe (by rw[e]))]⟩
   have bY:(setBlock w2' r o2).ownsRow r 3 1 (.slice A m cc) m (K.map vi):=zw aB fun j cs hj=>(BB.block j (aV hj) (fun e=>by
    injection e with e;obtain⟨x,y,z,t,h1⟩:=hR.iter;rw[e,h1]at hj;cases hj)).trans hj
   have bN:=br.trans (pF BB (by have:=br.size;omega) (fun x hx=>by cases hx;exact Nat.le_refl _));have lz:uF wr r bm=q:=hR.n_eq;clear BB hR br cZ NA aB;generalize jm:setBlock w2' r o2=w3 at *;clear jm;have cO:Below w3.heap.size w3 (w3.alloc (.cells #[.int .i64 s'] 3)):=zb.alloc zl _;have lA:=fv.one w3 s';have gz:=bf bY cO;have te:lB (w3.alloc (.cells #[.int .i64 s'] 3)) r bm l (fun t=>left t/\t≠s') q' (some s'):=ja.keep (cO.block r (by
    obtain⟨x,y,z,t,h1⟩:=ja.iter;exact aV h1)) (cO.block bm ja.m.lt)
   have gT:=ab bN cO (by have:=bN.size;omega);have bE:r<=(w3.alloc (.cells #[.int .i64 s'] 3)).heap.size:=by have:=gT.size;omega
   have fw:m+1<=1000000000:=by omega
   go_wp2_with (at_builtin;refine bh rfl (.tmp 23) (.tmp 25) rfl r rfl gz rfl lA fw bE ?_;intro A5 c5 w5 dq jl cM);have xg:lB w5 r bm l (fun t=>left t/\t≠s') q' (some s'):=by
    refine te.keep ?_ ?_
    ·obtain⟨x,y,z,t,h1⟩:=te.iter;rw[h1];exact oA gz jl h1 (fun cs e=>by cases e)
    ·obtain⟨es,clock,h1,_⟩:=te.m;rw[h1];exact oA gz jl h1 (fun cs e=>by cases e)
   have GO:=xg.n_eq;have dP:s'∈l:=by
    obtain⟨es,clock,h1,h2,h3,h4⟩:=ja.m;obtain⟨es',clock',since,c0,seen,k1,k2,k3,k4,k5,k6,k7,k8,k9,k10⟩:=ja.it;obtain⟨e,seen0,q1,q2,_⟩:=k10 s' rfl;rw[h1]at k2;cases k2;exact(h4 s').2 ⟨e,q1,q2⟩
   refine⟨⟨_,q',_,K++[s'],A5,m+1,c5,rfl,dq,fun t=>?_,xg,by omega,gT.trans cM⟩,by rw[GO,lz];exact Ry⟩;rw[List.mem_append,List.mem_singleton,hK];constructor
   ·rintro(h|rfl)
    ·exact⟨h.1,fun h2=>h.2 h2.1⟩
    ·exact⟨dP,fun h2=>h2.2 rfl⟩
   ·rintro⟨h1,h2⟩;by_cases e:t=s'
    ·exact .inr e
    ·exact .inl ⟨h1,fun h3=>h2 ⟨h3,e⟩⟩
theorem cT.byt2{N mi:Nat}{wX:World}{R1:Rf}{x:Value}{l:List UInt8}(h:cT aa b w g R1 N wX)(hm:mi<=b\/b+13<mi)(he:bP aa mi w x l) :
  ∃ag v1,ax ag b wX g R1 v1/\bP ag mi wX x l/\∀w' R2,ap ag b wX g R2 w'->cT aa b w g R2 N w'/\boxes w.heap.size N wX w':=by
 obtain⟨ag,v1,h1,h2,h3,h4,h5⟩:=h;have hn:∀j,aa j=mi->¬aS aa b j:=fun j e hx=>by unfold aS at hx;omega
 refine⟨ag,v1,h1,?_,fun w' R2 hP=>g9 h2 h3 h4 h5 hP⟩;refine(he.relabel (ak:=ag) (k:=mi) fun j hl e=>(h2 j hl (hn j e)).trans e).keep fun j hj ny=>h4.block j ny fun hx=>?_
 have h6:=h3 j ny hx;have hj:ag j=mi:=hj;unfold aS at h6;omega
theorem FN{K M:Nat}(m:Mg)(A1 A2:Option Addr)(n1 c1 n2 c2 mi:Nat)(h:ax aa b w g R v)(hk:Ok K M R)(hK:K<=9000)(hM:M<=20000)(ut:mi<=b\/b+13<mi)(he:cP aa mi w (.slice A1 n1 c1) m.entries)(hd:bP aa mi w (.slice A2 n2 c2) m.data)
  (iU:n1=m.entries.length) (kJ:n2=m.data.length) (hm:xE R m) :
  Calls prog 60 #[.pointer (some ⟨g,0,none⟩),eI m (.slice A1 n1 c1) (.slice A2 n2 c2)] w fun e w'=>e=.returned (.tuple #[])/\ap aa b w g (R.does m) w':=by
 have cW:=h.s.lt;have aI:Below w.heap.size w (w.alloc (.cells #[.int .i64 m.kind,.int .i64 m.frm,.int .i64 m.tgt,.int .i64 m.term,.int .i64 m.idx,.int .i64 m.logTerm,.int .i64 m.commit,.int .i64 m.round,.bool m.reject,.int .i64 m.offset,.int .i64 m.total,.slice A1 n1 c1,.slice A2 n2 c2] 39)):=zb.alloc zl _;have bM:=ao.new w 39 #[.int .i64 m.kind,.int .i64 m.frm,.int .i64 m.tgt,.int .i64 m.term,.int .i64 m.idx,.int .i64 m.logTerm,.int .i64 m.commit,.int .i64 m.round,.bool m.reject,.int .i64 m.offset,.int .i64 m.total,.slice A1 n1 c1,.slice A2 n2 c2];obtain⟨w1,ct⟩:=zN (w.alloc (.cells #[.int .i64 m.kind,.int .i64 m.frm,.int .i64 m.tgt,.int .i64 m.term,.int .i64 m.idx,.int .i64 m.logTerm,.int .i64 m.commit,.int .i64 m.round,.bool m.reject,.int .i64 m.offset,.int .i64 m.total,.slice A1 n1 c1,.slice A2 n2 c2] 39));rw[ct]at aI bM;have hX:=cT.start (N:=1) h aI (by have:=bM.lt;omega);obtain⟨y0,y1,y2,y3,y4,y5,y6,y7,y8,y9,y10,y11,y12,-⟩:=bM.cs [0,1,2,3,4,5,6,7,8,9,10,11,12];simp only[Zx]at y0 y1 y2 y3 y4 y5 y6 y7 y8 y9 y10 y11 y12;obtain⟨c6,c13,-⟩:=h.s.cs [6,13];simp only[bV,vi,Zx]at c6 c13;have c6':=(aI.cell (ar c6)).trans c6;have c13':=(aI.cell (ar c13)).trans c13;have xq:=hk.ms;have hN:R.track.L.length<=1000000:=by have:=hk.trk;omega
 obtain⟨ul,ai,qG,tg,GH,oM,AJ,No,IM,OP,Qo⟩:=hm;have CG:=Kb ul;clear h;replace iU:=zH iU;replace kJ:=zH kJ;replace ct:=zH ct;unfold eI;simp only[vi];rcases CG with cA|cA|cA|cA|cA|cA|cA|cA
 ·have e1:(m.kind==1)=true:=by simp[cA]
  have hD:=zH (show R.does m=R.asked m by unfold Rf.does;rw[if_pos cA]);have hs:=hX.act (fun ag v1 h=>Dl m (.slice A1 n1 c1) (.slice A2 n2 c2) h (by omega) hN);unfold eI at hs;simp only[vi]at hs;replace cA:=zH cA;replace hk:=zH hk;clear hX;go_enter func60,ntmps60;go_wp2_with fail;rw[ct.out];try go_wp2_with fail
  refine hs.mono ?_;rintro e w9 ⟨rfl,jk,_⟩;have hQ:=zH (show ap aa b w g (R.does m) w9 from by rw[hD.out];exact jk.post);clear hs jk;go_wp2_with fail;exact am rfl rfl ⟨rfl,hQ.out⟩
 ·have e1:(m.kind==1)=false:=by simp[cA]
  have e2:(m.kind==2)=true:=by simp[cA]
  have hD:R.does m=if m.reject=false/\m.term=R.hard.term+1/\R.role=1 then(if(R.says m.frm).won then(R.says m.frm).stands else R.says m.frm)else R:=by unfold Rf.does;rw[if_neg (by omega),if_pos cA]
  obtain⟨q1,q3,q8,q6,q13⟩:=Ov [g,w.heap.size] y1 y3 y8 c6' c13';have iM:g<w1.heap.size:=by have:=aI.size;omega
  have XR:=hk.tm;replace cA:=zH cA;by_cases hC:m.reject=false/\m.term=R.hard.term+1/\R.role=1
  ·have f1:=hC.1;have f2:(m.term==R.hard.term+1)=true:=by simp[hC.2.1]
   have f3:(R.role==1)=true:=by simp[hC.2.2]
   have aU:R.hard.term<1099511627776:=by have:=hC.2.1;omega
   rw[if_pos hC]at hD;obtain⟨bs,v2,h2,Ng⟩:=(hX.below (w':=w1.drew) (zb.drew)).1.raft;have D0:=Og m.frm h2 (by omega) (by have:=hk.id;omega) (hk.ys (.inl hC.2.2)) (by have:=hk.yl;omega);have cR:=hk.says m.frm;obtain⟨x,hx⟩:=zN ((R.says m.frm).won);rw[hx]at D0 hD;replace hD:=zH hD;replace hC:=zH hC;replace cR:=zH cR;replace hk:=zH hk;clear h2 hX hx;have j9:=ct.out;rw[f1]at j9 y8;go_enter func60,ntmps60;go_wp2_with fail;try rw[j9]
   try go_wp2_with fail
   refine eE [g,w.heap.size] w1 [([0,1,2,3,4,5,6,7,8,9,10,11,12,13,14,15,16,17,18,19,20,21,22,23,24],25)] [26] ?_;refine aF fun K1 cQ=>?_
   simp only[ah,Zx];repeat go_big_quiet_step(fail)
   apply wpQuiet_nil;go_wp2_with fail;refine D0.mono ?_;rintro e w5 ⟨rfl,nv,jl⟩;obtain⟨mO,cM⟩:=Ng _ _ nv;clear D0 nv;go_wp2_with fail;refine⟨bO jl (cM _ zl (by omega)),cQ _ _ ?_⟩;refine al ?_;simp only[ah,Zx];repeat go_big_quiet_step(fail)
   apply wpQuiet_nil;cases x
   ·have hQ:=zH (show ap aa b w g (R.does m) w5 from by rw[hD.out];exact mO.post);clear mO;go_wp2_with fail;exact am rfl rfl ⟨rfl,hQ.out⟩
   ·have hs:=mO.act (fun ag v1 h=>sI h cR.out (by omega) (by omega) aU);clear mO;go_wp2_with fail;refine hs.mono ?_;rintro e w9 ⟨rfl,jk,_⟩;have hQ:=zH (show ap aa b w g (R.does m) w9 from by rw[hD.out];exact jk.post);clear hs jk;go_wp2_with fail;exact am rfl rfl ⟨rfl,hQ.out⟩
  ·rw[if_neg hC]at hD;have hQ:=zH (show ap aa b w g (R.does m) w1.drew from by rw[hD];exact(hX.below (w':=w1.drew) (zb.drew)).1.post);have cB:m.reject=true\/(m.reject=false/\(m.term==R.hard.term+1)=false)\/(m.reject=false/\(m.term==R.hard.term+1)=true/\(R.role==1)=false):=by
    rcases Bool.eq_false_or_eq_true m.reject with kL|kL
    ·exact .inl kL
    ·by_cases a:m.term=R.hard.term+1
     ·exact .inr (.inr ⟨kL,by simp[a],by simp;exact fun hh=>hC ⟨kL,a,hh⟩⟩)
     ·exact .inr (.inl ⟨kL,by simp[a]⟩)
   replace hC:=zH hC;replace hk:=zH hk;clear hX hD;rcases cB with f1|⟨f1,f2⟩|⟨f1,f2,f3⟩
   all_goals
    have j9:=ct.out;rw[f1]at j9 y8;go_enter func60,ntmps60;go_wp2_with fail;try rw[j9]
    try go_wp2_with fail
    refine eE [g,w.heap.size] w1 [([0,1,2,3,4,5,6,7,8,9,10,11,12,13,14,15,16,17,18,19,20,21,22,23,24],25)] [26] ?_;refine aF fun K1 cQ=>?_
    simp only[ah,Zx];repeat go_big_quiet_step(fail)
    apply wpQuiet_nil;go_wp2_with fail;refine⟨aQ,cQ _ _ ?_⟩;refine al ?_;simp only[ah,Zx];repeat go_big_quiet_step(fail)
    apply wpQuiet_nil;go_wp2_with fail;exact am rfl rfl ⟨rfl,hQ.out⟩
 ·have e1:(m.kind==1)=false:=by simp[cA]
  have e2:(m.kind==2)=false:=by simp[cA]
  have e3:(m.kind==3)=true:=by simp[cA]
  have hD:=zH (show R.does m=R.votes m by unfold Rf.does;rw[if_neg (by omega),if_neg (by omega),if_pos cA]);have hs:=hX.act (fun ag v1 h=>EV m (.slice A1 n1 c1) (.slice A2 n2 c2) h (by omega) hN);unfold eI at hs;simp only[vi]at hs;replace cA:=zH cA;replace hk:=zH hk;clear hX;go_enter func60,ntmps60;go_wp2_with fail;rw[ct.out];try go_wp2_with fail
  refine hs.mono ?_;rintro e w9 ⟨rfl,jk,_⟩;have hQ:=zH (show ap aa b w g (R.does m) w9 from by rw[hD.out];exact jk.post);clear hs jk;go_wp2_with fail;exact am rfl rfl ⟨rfl,hQ.out⟩
 ·have e1:(m.kind==1)=false:=by simp[cA]
  have e2:(m.kind==2)=false:=by simp[cA]
  have e3:(m.kind==3)=false:=by simp[cA]
  have e4:(m.kind==4)=true:=by simp[cA]
  have hD:R.does m=if m.reject=false/\R.role=2 then(if(R.says m.frm).won then(R.says m.frm).leads else R.says m.frm)else R:=by unfold Rf.does;rw[if_neg (by omega),if_neg (by omega),if_neg (by omega),if_pos cA]
  replace cA:=zH cA;by_cases hC:m.reject=false/\R.role=2
  ·have f1:=hC.1;have f3:(R.role==2)=true:=by simp[hC.2]
   rw[if_pos hC]at hD;have D0:=hX.act (fun ag v1 h=>sD m.frm h (by omega) (by have:=hk.id;omega) (hk.ys (.inr hC.2)) (by have:=hk.yl;omega));have cR:=hk.says m.frm;obtain⟨x,hx⟩:=zN ((R.says m.frm).won);rw[hx]at D0 hD;replace hD:=zH hD;replace hC:=zH hC;replace cR:=zH cR;replace hk:=zH hk;clear hX hx;have j9:=ct.out;rw[f1]at j9 y8;go_enter func60,ntmps60;go_wp2_with fail;try rw[j9]
   try go_wp2_with fail
   refine D0.mono ?_;rintro e w5 ⟨rfl,mO,cM⟩;clear D0;cases x
   ·have hQ:=zH (show ap aa b w g (R.does m) w5 from by rw[hD.out];exact mO.post);clear mO;go_wp2_with fail;exact am rfl rfl ⟨rfl,hQ.out⟩
   ·have hs:=mO.act (fun ag v1 h=>yZ h cR.out (by omega) (by omega));clear mO;go_wp2_with fail;refine hs.mono ?_;rintro e w9 ⟨rfl,jk,_⟩;have hQ:=zH (show ap aa b w g (R.does m) w9 from by rw[hD.out];exact jk.post);clear hs jk;go_wp2_with fail;exact am rfl rfl ⟨rfl,hQ.out⟩
  ·rw[if_neg hC]at hD;have hQ:=zH (show ap aa b w g (R.does m) w1 from by rw[hD];exact hX.post);have cB:m.reject=true\/(m.reject=false/\(R.role==2)=false):=by
    rcases Bool.eq_false_or_eq_true m.reject with kL|kL
    ·exact .inl kL
    ·exact .inr ⟨kL,by simp;exact fun hh=>hC ⟨kL,hh⟩⟩
   replace hC:=zH hC;replace hk:=zH hk;clear hX hD;rcases cB with f1|⟨f1,f2⟩
   all_goals
    have j9:=ct.out;rw[f1]at j9 y8;go_enter func60,ntmps60;go_wp2_with fail;try rw[j9]
    try go_wp2_with fail
    exact am rfl rfl ⟨rfl,hQ.out⟩
 ·have e1:(m.kind==1)=false:=by simp[cA]
  have e2:(m.kind==2)=false:=by simp[cA]
  have e3:(m.kind==3)=false:=by simp[cA]
  have e4:(m.kind==4)=false:=by simp[cA]
  have e5:(m.kind==5)=true:=by simp[cA]
  have hD:R.does m=if R.role≠3 then(R.hears m).appends m else R:=by unfold Rf.does;rw[if_neg (by omega),if_neg (by omega),if_neg (by omega),if_neg (by omega),if_pos cA]
  replace cA:=zH cA;by_cases hC:R.role=3
  ·have f1:(R.role !=3)=false:=by simp[hC]
   rw[if_neg (by simpa using hC)]at hD;have hQ:=zH (show ap aa b w g (R.does m) w1 from by rw[hD];exact hX.post);replace hC:=zH hC;replace hk:=zH hk;clear hX hD;go_enter func60,ntmps60;go_wp2_with fail;rw[ct.out];try go_wp2_with fail
   exact am rfl rfl ⟨rfl,hQ.out⟩
  ·have f1:(R.role !=3)=true:=by simp[hC]
   rw[if_pos hC]at hD;have JH:=hX.act (fun ag v1 h=>uh m (.slice A1 n1 c1) (.slice A2 n2 c2) h);unfold eI at JH;simp only[vi]at JH;have cR:=hk.hears m;replace hD:=zH hD;replace hC:=zH hC;replace cR:=zH cR;replace hk:=zH hk;clear hX;go_enter func60,ntmps60;go_wp2_with fail;rw[ct.out];try go_wp2_with fail
   refine JH.mono ?_;rintro e w5 ⟨rfl,mO,cM⟩;have Nb:ao w5 w.heap.size 39 #[.int .i64 m.kind,.int .i64 m.frm,.int .i64 m.tgt,.int .i64 m.term,.int .i64 m.idx,.int .i64 m.logTerm,.int .i64 m.commit,.int .i64 m.round,.bool m.reject,.int .i64 m.offset,.int .i64 m.total,.slice A1 n1 c1,.slice A2 n2 c2]:=cM.blk zl (by omega) bM;clear JH y0 y1 y2 y3 y4 y5 y6 y7 y8 y9 y10 y11 y12 c6' c13' c6 c13;obtain⟨y0,y1,y2,y3,y4,y5,y6,y7,y8,y9,y10,y11,y12,-⟩:=Nb.cs [0,1,2,3,4,5,6,7,8,9,10,11,12];simp only[Zx]at y0 y1 y2 y3 y4 y5 y6 y7 y8 y9 y10 y11 y12;obtain⟨V0,v7,h7,Qq,pI⟩:=mO.ens2 ut he;have hs:=(xJ m A1 A2 n1 c1 n2 c2 mi h7 cR.out (by omega) (by omega) ut Qq iU.out (by rw[iU.out];exact OP) tg.1 tg.2 oM.1 oM.2).mono (fun e w' hh=>(⟨hh.1,(pI _ _ hh.2).1.post⟩:e=.returned (.tuple #[])/\ap aa b w g ((R.hears m).appends m) w'));clear h7 Qq pI;unfold eI at hs;simp only[vi]at hs;clear mO;go_wp2_with fail;refine hs.mono ?_;rintro e w9 ⟨rfl,jk⟩;have hQ:=zH (show ap aa b w g (R.does m) w9 from by rw[hD.out];exact jk);clear hs jk;go_wp2_with fail;exact am rfl rfl ⟨rfl,hQ.out⟩
 ·have e1:(m.kind==1)=false:=by simp[cA]
  have e2:(m.kind==2)=false:=by simp[cA]
  have e3:(m.kind==3)=false:=by simp[cA]
  have e4:(m.kind==4)=false:=by simp[cA]
  have e5:(m.kind==5)=false:=by simp[cA]
  have e7:(m.kind==7)=false:=by simp[cA]
  have e8:(m.kind==8)=false:=by simp[cA]
  have e6:(m.kind==6)=true:=by simp[cA]
  ·have hD:R.does m=if R.role=3 then R.answered m else R:=by unfold Rf.does;rw[if_neg (by omega),if_neg (by omega),if_neg (by omega),if_neg (by omega),if_neg (by omega),if_neg (by omega),if_neg (by omega)]
   replace cA:=zH cA;by_cases hC:R.role=3
   ·have f1:(R.role==3)=true:=by simp[hC]
    rw[if_pos hC]at hD;obtain⟨s,NC⟩:∃s:Nat,m.frm=(s:Int):=⟨m.frm.toNat,by omega⟩;have hs:=hX.act (fun ag v1 h=>nV m (.slice A1 n1 c1) (.slice A2 n2 c2) s h hk hC NC (by omega) (by omega) (by omega) tg.1 tg.2 No.1);unfold eI at hs;simp only[vi]at hs;replace hD:=zH hD;replace hC:=zH hC;replace NC:=zH NC;replace hk:=zH hk;clear hX;go_enter func60,ntmps60;go_wp2_with fail;rw[ct.out];try go_wp2_with fail
    refine hs.mono ?_;rintro e w9 ⟨rfl,jk,_⟩;have hQ:=zH (show ap aa b w g (R.does m) w9 from by rw[hD.out];exact jk.post);clear hs jk;go_wp2_with fail;exact am rfl rfl ⟨rfl,hQ.out⟩
   ·have f1:(R.role==3)=false:=by simp[hC]
    rw[if_neg hC]at hD;have hQ:=zH (show ap aa b w g (R.does m) w1 from by rw[hD];exact hX.post);replace hC:=zH hC;replace hk:=zH hk;clear hX hD;go_enter func60,ntmps60;go_wp2_with fail;rw[ct.out];try go_wp2_with fail
    exact am rfl rfl ⟨rfl,hQ.out⟩
 ·have e1:(m.kind==1)=false:=by simp[cA]
  have e2:(m.kind==2)=false:=by simp[cA]
  have e3:(m.kind==3)=false:=by simp[cA]
  have e4:(m.kind==4)=false:=by simp[cA]
  have e5:(m.kind==5)=false:=by simp[cA]
  have e7:(m.kind==7)=true:=by simp[cA]
  have hD:R.does m=if R.role≠3 then(R.hears m).piece m else R:=by unfold Rf.does;rw[if_neg (by omega),if_neg (by omega),if_neg (by omega),if_neg (by omega),if_neg (by omega),if_pos cA]
  replace cA:=zH cA;by_cases hC:R.role=3
  ·have f1:(R.role !=3)=false:=by simp[hC]
   rw[if_neg (by simpa using hC)]at hD;have hQ:=zH (show ap aa b w g (R.does m) w1 from by rw[hD];exact hX.post);replace hC:=zH hC;replace hk:=zH hk;clear hX hD;go_enter func60,ntmps60;go_wp2_with fail;rw[ct.out];try go_wp2_with fail
   exact am rfl rfl ⟨rfl,hQ.out⟩
  ·have f1:(R.role !=3)=true:=by simp[hC]
   rw[if_pos hC]at hD;have JH:=hX.act (fun ag v1 h=>uh m (.slice A1 n1 c1) (.slice A2 n2 c2) h);unfold eI at JH;simp only[vi]at JH;have cR:=hk.hears m;replace hD:=zH hD;replace hC:=zH hC;replace cR:=zH cR;replace hk:=zH hk;clear hX;go_enter func60,ntmps60;go_wp2_with fail;rw[ct.out];try go_wp2_with fail
   refine JH.mono ?_;rintro e w5 ⟨rfl,mO,cM⟩;have Nb:ao w5 w.heap.size 39 #[.int .i64 m.kind,.int .i64 m.frm,.int .i64 m.tgt,.int .i64 m.term,.int .i64 m.idx,.int .i64 m.logTerm,.int .i64 m.commit,.int .i64 m.round,.bool m.reject,.int .i64 m.offset,.int .i64 m.total,.slice A1 n1 c1,.slice A2 n2 c2]:=cM.blk zl (by omega) bM;clear JH y0 y1 y2 y3 y4 y5 y6 y7 y8 y9 y10 y11 y12 c6' c13' c6 c13;obtain⟨y0,y1,y2,y3,y4,y5,y6,y7,y8,y9,y10,y11,y12,-⟩:=Nb.cs [0,1,2,3,4,5,6,7,8,9,10,11,12];simp only[Zx]at y0 y1 y2 y3 y4 y5 y6 y7 y8 y9 y10 y11 y12;obtain⟨V0,v7,h7,Qq,pI⟩:=mO.byt2 ut hd;have hs:=(Ep m A1 A2 n1 c1 n2 c2 mi h7 cR.out (by omega) (by omega) ut Qq kJ.out (by rw[kJ.out];exact Qo) tg.1 tg.2 GH.1 GH.2 IM.1 IM.2).mono (fun e w' hh=>(⟨hh.1,(pI _ _ hh.2).1.post⟩:e=.returned (.tuple #[])/\ap aa b w g ((R.hears m).piece m) w'));clear h7 Qq pI;unfold eI at hs;simp only[vi]at hs;clear mO;go_wp2_with fail;refine hs.mono ?_;rintro e w9 ⟨rfl,jk⟩;have hQ:=zH (show ap aa b w g (R.does m) w9 from by rw[hD.out];exact jk);clear hs jk;go_wp2_with fail;exact am rfl rfl ⟨rfl,hQ.out⟩
 ·have e1:(m.kind==1)=false:=by simp[cA]
  have e2:(m.kind==2)=false:=by simp[cA]
  have e3:(m.kind==3)=false:=by simp[cA]
  have e4:(m.kind==4)=false:=by simp[cA]
  have e5:(m.kind==5)=false:=by simp[cA]
  have e7:(m.kind==7)=false:=by simp[cA]
  have e8:(m.kind==8)=true:=by simp[cA]
  rcases Bool.eq_false_or_eq_true m.reject with kL|kL
  ·have hD:R.does m=R:=by unfold Rf.does;rw[if_neg (by omega),if_neg (by omega),if_neg (by omega),if_neg (by omega),if_neg (by omega),if_neg (by omega),if_pos ⟨cA,kL⟩]
   have hQ:=zH (show ap aa b w g (R.does m) w1 from by rw[hD];exact hX.post);replace cA:=zH cA;replace hk:=zH hk;clear hX hD;have j9:=ct.out;rw[kL]at j9 y8;go_enter func60,ntmps60;go_wp2_with fail;try rw[j9]
   try go_wp2_with fail
   exact aP rfl rfl ⟨rfl,hQ.out⟩
  ·have hD:R.does m=if R.role=3 then R.answered m else R:=by unfold Rf.does;rw[if_neg (by omega),if_neg (by omega),if_neg (by omega),if_neg (by omega),if_neg (by omega),if_neg (by omega),if_neg (by rw[kL];simp)]
   replace cA:=zH cA;by_cases hC:R.role=3
   ·have f1:(R.role==3)=true:=by simp[hC]
    rw[if_pos hC]at hD;obtain⟨s,NC⟩:∃s:Nat,m.frm=(s:Int):=⟨m.frm.toNat,by omega⟩;have hs:=hX.act (fun ag v1 h=>nV m (.slice A1 n1 c1) (.slice A2 n2 c2) s h hk hC NC (by omega) (by omega) (by omega) tg.1 tg.2 No.1);unfold eI at hs;simp only[vi]at hs;replace hD:=zH hD;replace hC:=zH hC;replace NC:=zH NC;replace hk:=zH hk;clear hX;have j9:=ct.out;rw[kL]at j9 y8;rw[kL]at hs;go_enter func60,ntmps60;go_wp2_with fail;try rw[j9]
    try go_wp2_with fail
    refine hs.mono ?_;rintro e w9 ⟨rfl,jk,_⟩;have hQ:=zH (show ap aa b w g (R.does m) w9 from by rw[hD.out];exact jk.post);clear hs jk;go_wp2_with fail;exact am rfl rfl ⟨rfl,hQ.out⟩
   ·have f1:(R.role==3)=false:=by simp[hC]
    rw[if_neg hC]at hD;have hQ:=zH (show ap aa b w g (R.does m) w1 from by rw[hD];exact hX.post);replace hC:=zH hC;replace hk:=zH hk;clear hX hD;have j9:=ct.out;rw[kL]at j9 y8;go_enter func60,ntmps60;go_wp2_with fail;try rw[j9]
    try go_wp2_with fail
    exact am rfl rfl ⟨rfl,hQ.out⟩
end
end
section
open Go.MapKept
theorem Cf:(prog.info? 134).map (fun i=>(i.zero,i.size,i.bytes))=some (some (.agg #[.int .i64 0,.int .i64 0]),2,16):=by kernel_rfl
theorem pz{w:World}{ops:Array Oper}{rest:List Oper}{o:Oper}{a:Act}{Q:Exit->Act->World->Prop}(lq:o.guard=none)(s x:Operand)
  (ho:o.op=.call {callee:=.builtin .append,args:=#[s,x],argTypes:=#[46,46]})
  (base:Nat) {A:Option Addr} {n c:Nat} {l:List (Int×Int)} (hs:a.eval s=.slice A n c) (aB:w.ownsRow base 134 2 (.slice A n c) n (l.flatMap qM))
  {B:Option Addr} {m d:Nat} {r:List (Int×Int)} (hx:a.eval x=.slice B m d) (hr:cn w 2 B m (r.flatMap qM)) (hb:n+m<=1000000000) (bE:base<=w.heap.size)
  (h:∀A' c' w',w'.ownsRow base 134 2 (.slice A' (n+m) c') (n+m) ((l++r).flatMap qM)->Fr (aA A) w w'->(∀j,aA A' j->aA A j\/w.heap.size<=j)->wpList prog ops Q rest (a.put o.dst (.slice A' (n+m) c')) w'):wpList prog ops Q (o::rest) a w:=by
 obtain⟨i0,iF,jT,iW,gC⟩:=info_parts Cf;refine bg w lq s x 46 ho base 134 i0 _ 2 16 underlying46 iF jT iW gC rfl (by omega) (.slice A n c) n _ hs aB B m d _ hx hr (fun u hu=>?_) (by unfold maxLen;omega) (by omega) bE fun A' c' w' h3 h4 h5=>?_
 ·obtain⟨z,_,hz⟩:=List.mem_flatMap.1 hu;unfold qM at hz;simp only[List.mem_cons,List.not_mem_nil,or_false]at hz;rcases hz with rfl|rfl <;> rfl
 ·rw[<-List.flatMap_append]at h3;exact h A' c' w' h3 (Fr.grown h4) (iA h5)
theorem RdR.one{w:World}{g:Nat}{a c:Int}(hg:ao w g 134 #[.int .i64 a,.int .i64 c]):cn w 2 (some ⟨g,0,none⟩) 1 ([(a,c)].flatMap qM):=
 ⟨rfl,fun _=>⟨_,rfl,fun j y hy=>by
  have e:(⟨g,0,none⟩:Addr).add j=⟨g,j,none⟩:=by unfold Addr.add;split <;> simp[*]
  rw[e,hg.cell j,<-hy];simp[qM,vi]⟩⟩
def Wt.rd(x:Wt):Int×Int:=(x.ctx,x.idx)
def Rf.tellRead(R:Rf)(x:Wt)(k:Int):Rf:=if x.round<=k then {R with out:={R.out with reads:=R.out.reads++[x.rd]}}else R
section
variable {aa:Nat->Nat}{b g:Nat}{w:World}{R:Rf}{v:Rw}
theorem pR(x:Wt)(k:Int)(p1 p2:Nat)(h:ax aa b w g R v)(cA:ao w p1 32 #[.pointer (some ⟨g,0,none⟩)])(eY:ao w p2 3 #[.int .i64 k])(cD:aa p1=b)(dG:aa p2=b)(AJ:R.out.reads.length<=100000) :
  Calls prog 114 #[.agg #[.int .i64 x.ctx,.int .i64 x.idx,.int .i64 x.round],.pointer (some ⟨p2,0,none⟩),.pointer (some ⟨p1,0,none⟩)] w fun e w'=>e=.returned (.bool (decide (x.round<=k)))/\
   ∃(ak:Nat->Nat) (v':Rw),ax ak b w' g (R.tellRead x k) v'/\v'.waits=v.waits/\(∀j,j<w.heap.size->ak j=aa j)/\Fr (fun j=>j=g\/aa j=b+11) w w':=by
 have cW:=h.s.lt;have aI:Below w.heap.size w (w.alloc (.cells #[.int .i64 x.ctx,.int .i64 x.idx,.int .i64 x.round] 167)):=zb.alloc zl _;have bM:=ao.new w 167 #[.int .i64 x.ctx,.int .i64 x.idx,.int .i64 x.round];obtain⟨w1,ct⟩:=zN (w.alloc (.cells #[.int .i64 x.ctx,.int .i64 x.idx,.int .i64 x.round] 167));rw[ct]at aI bM;have iM:p1≠g:=fun e=>by have:=h.sl;rw[<-e,cD]at this;omega
 have qA:p2≠g:=fun e=>by have:=h.sl;rw[<-e,dG]at this;omega
 have BE:=cA.kept aI;have DO:=eY.kept aI;have h1:=h.fresh aI;have vV:aj aa w.heap.size b p1=b:=(ac cA.lt).trans cD;have Zs:aj aa w.heap.size b p2=b:=(ac eY.lt).trans dG;have JO:aj aa w.heap.size b w.heap.size=b:=az zl;have Rr:=BE.lt;have Vk:=DO.lt;have JB:=h1.s.lt;obtain⟨y0,y1,y2,-⟩:=bM.cs [0,1,2];simp only[Zx]at y0 y1 y2;have a0:=BE.cell 0;simp only[Zx]at a0;have e0:=DO.cell 0;simp only[Zx]at e0;have ZJ:=cA.lt;have ZK:=eY.lt;have ew0:=eY.cell 0;simp only[Zx]at ew0;replace ct:=zH ct;by_cases hc:x.round<=k
 ·have hT:R.tellRead x k={R with out:={R.out with reads:=R.out.reads++[x.rd]}}:=if_pos hc;have hd:decide (x.round<=k)=true:=decide_eq_true hc;obtain⟨A,c,hv,aB,hl⟩:=id h1.r;obtain⟨n,hn⟩:=zN (R.out.reads.length);rw[hn]at hv aB AJ;have d29:w1.cell? ⟨g,29,none⟩=some (.slice A n c):=by
   have:=h1.s.cell 29;simp only[bV,Zx]at this;rw[this,hv]
  obtain⟨q29,qa,q0,q1⟩:=IA [g,p1,w.heap.size] d29 a0 y0 y1;have fw:n+1<=1000000000:=by omega
  have dX:Below w1.heap.size w1 ((w1.alloc (.cells #[.int .i64 x.ctx,.int .i64 x.idx] 134)).drew):=((Below.refl w1.heap.size w1).alloc zl _).drew;have SU:ao ((w1.alloc (.cells #[.int .i64 x.ctx,.int .i64 x.idx] 134)).drew) w1.heap.size 134 #[.int .i64 x.ctx,.int .i64 x.idx]:=ao.new w1 _ _;have Vs:=RdR.one SU;have pJ:=bf aB dX;have aE:∀(A6:Option Addr) (c6:Nat) (w6:World),w6.ownsRow 0 134 2 (.slice A6 (n+1) c6) (n+1) ((R.out.reads++[(x.ctx,x.idx)]).flatMap qM)->Fr (aA A) ((w1.alloc (.cells #[.int .i64 x.ctx,.int .i64 x.idx] 134)).drew) w6->(∀j,aA A6 j->aA A j\/((w1.alloc (.cells #[.int .i64 x.ctx,.int .i64 x.idx] 134)).drew).heap.size<=j)->
    (∀q∈[g,p1,w.heap.size],w6.heap[q]?=w1.heap[q]?)/\ao w6 w.heap.size 167 #[.int .i64 x.ctx,.int .i64 x.idx,.int .i64 x.round]/\ao w6 p2 3 #[.int .i64 k]/\ao w6 g 107 (bV R v)/\True/\
    ∃(ak:Nat->Nat) (v':Rw),ax ak b (w6.setCell ⟨g,29,none⟩ (.slice A6 (n+1) c6)) g (R.tellRead x k) v'/\v'.waits=v.waits/\(∀j,j<w.heap.size->ak j=aa j)/\Fr (fun j=>j=g\/aa j=b+11) w (w6.setCell ⟨g,29,none⟩ (.slice A6 (n+1) c6)):=fun A6 c6 w6 vY kV Fi=>by
   have OW:∀q,q<w1.heap.size->aj aa w.heap.size b q≠b+11->w6.heap[q]?=w1.heap[q]?:=fun q hq fe=>(kV.block q (Nat.lt_of_lt_of_le hq dX.size) fun hh=>fe (hl q hh)).trans (dX.block q hq)
   have QC:aj aa w.heap.size b g≠b+11:=by have:=h1.sl;omega
   have mN:ao w6 g 107 (bV R v):=(OW g JB QC).trans h1.s;have fh:=Fr.set (w:=w6) g 29 (.slice A6 (n+1) c6);have DB:=mN.set_ 29 (.slice A6 (n+1) c6);simp only[bV,Zy]at DB;have PA:Fr (fun j=>j=g\/aj aa w.heap.size b j=b+11) w1 (w6.setCell ⟨g,29,none⟩ (.slice A6 (n+1) c6)):=(((Fr.of_below (X:=fun j=>j=g\/aj aa w.heap.size b j=b+11) dX).trans (kV.mono (X':=fun j=>j=g\/aj aa w.heap.size b j=b+11) fun j hj=>.inr (hl j hj)) fun j hj=>.inl hj).trans (fh.mono (X':=fun j=>j=g\/aj aa w.heap.size b j=b+11) fun j e=>.inl e) fun j hj=>.inl hj);refine⟨fun q hq=>?_,(OW _ bM.lt (by omega)).trans bM,(OW _ Vk (by omega)).trans DO,mN,trivial,aj (aj aa w.heap.size b) w1.heap.size (b+11),{v with rds:=.slice A6 (n+1) c6},?_,rfl,fun j hj=>(ac (by have:=aI.size;omega)).trans (ac hj),?_⟩
   ·simp only[List.mem_cons,List.not_mem_nil,or_false]at hq;rcases hq with rfl|rfl|rfl
    ·exact OW _ JB QC
    ·exact OW _ Rr (by omega)
    ·exact OW _ bM.lt (by omega)
   ·rw[hT];refine h1.turn (ak:=aj (aj aa w.heap.size b) w1.heap.size (b+11)) (v':={v with rds:=.slice A6 (n+1) c6}) [11] DB (fun i j _ _ _ hj e=>(ac hj).trans e) (by simp) (PA.mono fun j hj=>hj.elim .inl fun e=>.inr ⟨11,by simp,e⟩)
     tI tI tI tI tI tI tI tI tI (.inl ?_) tI
    show bR _ _ _ _ _ _ (R.out.reads++[x.rd]).length _;rw[List.length_append,hn];have fR:∀j,aA A6 j->aj (aj aa w.heap.size b) w1.heap.size (b+11) j=b+11:=fun j hj=>by
     rcases Fi j hj with h6|h6
     ·exact(ac (aw aB A c rfl j h6).1).trans (hl j h6)
     ·exact az (Nat.le_trans dX.size h6)
    refine bR.keep (w:=w6) ⟨A6,c6,rfl,vY,fR⟩ fun j hj hl=>fh.block j hl fun e=>?_
    rw[e,ac JB]at hj;omega
   ·refine(Fr.of_below (X:=fun j=>j=g\/aa j=b+11) aI).trans PA fun j hj=>?_
    rcases Nat.lt_or_ge j w.heap.size with aU|ry
    ·rw[ac aU]at hj;exact .inl hj
    ·exact .inr ry
  clear aB;go_enter func114,ntmps114;go_wp2_with fail;rw[ct.out];try go_wp2_with fail
  refine nj [g,p1,w.heap.size] w1 [([0,1,2,3,4,5,6,7],8),([],9)] ([10,11,12],13) ?_;refine aq fun K1 cQ=>?_
  simp only[ah,Zx];repeat go_big_quiet_step(fail)
  apply wpQuiet_nil;go_wp2_with fail;have dA:∀q∈[g,p1,w.heap.size],q<w1.heap.size:=by simp;exact⟨JB,Rr,bM.lt⟩
  refine⟨av dA dX,cQ _ _ ?_⟩;refine aq fun K2 iu=>?_
  simp only[ah,Zx];apply wpQuiet_nil;go_wp2_with (at_builtin;refine pz rfl (.tmp 14) (.tmp 17) rfl 0 rfl pJ rfl Vs fw zz ?_;intro A6 c6 w6 vY kV Fi;obtain⟨M3,E9,Vj,mN,CA,Gx⟩:=aE A6 c6 w6 vY kV Fi;clear aE vY kV Fi);have e29:=mN.cell 29;have f29:=mN.free 29;simp only[bV,Zx]at e29;have ln:=mN.lt;have hBg:w.heap.size≠g:=by omega
  have z2:=E9.cell 2;simp only[Zx]at z2;have u0:=Vj.cell 0;simp only[Zx]at u0;refine⟨dT M3,iu _ _ ?_⟩;refine aC ?_;simp only[ah,Zx];repeat go_big_quiet_step(fail)
  apply wpQuiet_nil;replace Gx:=zH Gx;go_wp2_with fail;go_ret;exact⟨by rw[hd];rfl,Gx.out⟩
 ·have hT:R.tellRead x k=R:=if_neg hc;have hd:decide (x.round<=k)=false:=decide_eq_false hc;replace hc:=Int.not_le.1 hc;go_enter func114,ntmps114;go_wp2_with fail;rw[ct.out];try go_wp2_with fail
  go_ret;exact⟨by rw[hd];rfl,_,v,by rw[hT];exact h1,rfl,fun j hj=>ac hj,Fr.of_below aI⟩
end
end
section
open Go.MapKept
def iG(k:Int):List Wt->Int->Int
 | [],_=>-1
 | x::l,i=>if x.round<=k then i else iG k l (i+1)
def eC(R:Rf)(k:Int):List Wt->Rf
 | []=>R
 | x::l=>if x.round<=k then R.tellRead x k else eC R k l
def gQ(aa:Nat->Nat)(b:Nat)(w:World)(g:Nat)(R':Rf)(v:Rw)(w':World):Prop:=
 ∃(ak:Nat->Nat) (v':Rw),ax ak b w' g R' v'/\v'.waits=v.waits/\(∀j,j<w.heap.size->ak j=aa j)/\Fr (fun j=>j=g\/aa j=b+11) w w'
section
variable {aa:Nat->Nat}{b g:Nat}{w w1 w2:World}{R R1 R2:Rf}{v:Rw}
theorem gQ.refl(h:ax aa b w g R v):gQ aa b w g R v w:=⟨aa,v,h,rfl,fun _ _=>rfl,Fr.refl _ _⟩
theorem gQ.next{ag:Nat->Nat}{v1:Rw}(h:gQ ag b w1 g R2 v1 w2)(hv:v1.waits=v.waits)(hl:∀j,j<w.heap.size->ag j=aa j)(hF:Fr (fun j=>j=g\/aa j=b+11) w w1):gQ aa b w g R2 v w2:=by
 obtain⟨bs,v2,q1,q2,q3,q4⟩:=h;have hs:=hF.size;refine⟨bs,v2,q1,q2.trans hv,fun j hj=>(q3 j (by omega)).trans (hl j hj),hF.trans q4 fun j hj=>?_⟩;rcases Nat.lt_or_ge j w.heap.size with h|h
 ·rw[hl j h]at hj;exact .inl hj
 ·exact .inr h
theorem gQ.blk{T:TypeId}{cs:Array Value}{p:Nat}(h:gQ aa b w g R2 v w1)(hg:p≠g)(hl:aa p≠b+11)(hk:ao w p T cs):ao w1 p T cs:=by
 obtain⟨bs,v2,q1,q2,q3,q4⟩:=h;exact(q4.block p hk.lt fun hh=>hh.elim hg hl).trans hk
theorem yQ(k:Int)(p1 p2 n c:Nat)(A:Option Addr)(h:ax aa b w g R v)(cA:ao w p1 32 #[.pointer (some ⟨g,0,none⟩)])(eY:ao w p2 3 #[.int .i64 k])(cD:aa p1=b)(dG:aa p2=b)(AJ:R.out.reads.length<=90000)
  (hv:v.waits=.slice A n c) (hn:n=R.waits.length) (Ri:n<=1000) :
  Calls prog 141 #[.slice A n c,.func (.func 114) #[] #[.pointer (some ⟨p2,0,none⟩),.pointer (some ⟨p1,0,none⟩)]] w fun e w'=>e=.returned (.int .i64 (iG k R.waits 0))/\gQ aa b w g (eC R k R.waits) v w':=by
 have cW:=h.s.lt;have Nq:p1≠g:=fun e=>by have:=h.sl;rw[<-e,cD]at this;omega
 have Ns:p2≠g:=fun e=>by have:=h.sl;rw[<-e,dG]at this;omega
 have h0:=gQ.refl h;replace hn:=zH hn;go_enter func141,ntmps141;go_wp2_with fail
 go_loopw [8] (fun i wr=>∃j:Nat,j<=n/\i=.int .i64 j/\gQ aa b w g R v wr/\iG k R.waits 0=iG k (R.waits.drop j) j/\eC R k R.waits=eC R k (R.waits.drop j)) (fun i _=>n-(intOf i).toNat)
 case atStart=>exact⟨0,Nat.zero_le _,rfl,h0,rfl,rfl⟩
 case round=>
  obtain⟨j,hj,rfl,hQ,hf,ht⟩:=hrel;by_cases aU:j<n
  ·have SS:R.waits[j]?=some (R.waits[j]'(by rw[<-hn.out];exact aU)):=List.getElem?_eq_getElem _;obtain⟨x,hx⟩:=zN (R.waits[j]'(by rw[<-hn.out];exact aU));rw[hx]at SS;have yr:R.waits.drop j=x::R.waits.drop (j+1):=iq SS;rw[yr]at hf ht;have IF:iG k (x::R.waits.drop (j+1)) j=if x.round<=k then(j:Int)else iG k (R.waits.drop (j+1)) (j+1):=rfl
   have XU:eC R k (x::R.waits.drop (j+1))=if x.round<=k then R.tellRead x k else eC R k (R.waits.drop (j+1)):=rfl
   rw[IF]at hf;rw[XU]at ht;obtain⟨ag,v1,q1,q2,q3,q4⟩:=id hQ;obtain⟨q,c',Lz,OK,na,BL,eh,_⟩:=q1.q.at_ (by rw[<-hn.out];omega);rw[q2,hv,<-hn.out]at Lz;injection Lz with a1 a2 a3;subst a1;subst a3;have key:∀s u,s<3->(sZ x)[s]?=some u->wr.cell? ⟨q,j*3+s,none⟩=some u:=fun s u hs hu=>eh _ _ ((dW (f:=sZ) (k:=3) (fun _=>rfl) hs SS).trans hu)
   have m0:=key 0 _ (by omega) rfl;have m1:=key 1 _ (by omega) rfl;have m2:=key 2 _ (by omega) rfl;simp only[vi,Nat.add_zero]at m0 m1 m2;have hc:=pR x k p1 p2 q1 (hQ.blk Nq (by omega) cA) (hQ.blk Ns (by omega) eY) ((q3 p1 cA.lt).trans cD) ((q3 p2 eY.lt).trans dG) (by omega);have aO:=zH (show n-(j+1)<n-j by omega);clear key eh IF XU yr hx SS q1;go_wp2_with fail;refine hc.mono ?_;rintro e w5 ⟨rfl,hT⟩;have tf:gQ aa b w g (R.tellRead x k) v w5:=gQ.next hT q2 q3 q4;clear hc hT q4;by_cases fd:x.round<=k
   ·rw[if_pos fd]at hf ht;have hd:decide (x.round<=k)=true:=decide_eq_true fd;replace hf:=zH hf;replace ht:=zH ht;replace tf:=zH tf;clear hQ;go_wp2_with fail;go_ret;exact⟨by rw[hf.out];rfl,by rw[ht.out];exact tf.out⟩
   ·rw[if_neg fd]at hf ht;have hd:decide (x.round<=k)=false:=decide_eq_false fd;have PP:R.tellRead x k=R:=if_neg fd;rw[PP]at tf;replace fd:=Int.not_le.1 fd;replace hf:=zH hf;replace ht:=zH ht;clear hQ PP;go_wp2_with fail;exact⟨⟨j+1,aU,by go_num,tf,hf.out,ht.out⟩,by simp[intOf];exact aO.out⟩
  ·obtain rfl:n=j:=by omega
   rw[List.drop_eq_nil_of_le (by rw[<-hn.out];exact Nat.le_refl _)]at hf ht;have Ff:iG k R.waits 0=-1:=hf;have NH:eC R k R.waits=R:=ht;replace Ff:=zH Ff;replace NH:=zH NH;replace hQ:=zH hQ;clear hf ht;go_wp2_with fail;go_ret;exact⟨by rw[Ff.out];rfl,by rw[NH.out];exact hQ.out⟩
end
end
section
open Go.MapKept
theorem nk(w:World)(t e ty:TypeId)(z:Value)(ht:prog.underlying t=some (.slice e))(hv:∀w,(zeroValue e).run prog w=.ok z w)(h1:∀u∈z.cells.toList,u.oneCell'=true)(b o n c:Nat)(hn:0<n)
  (hc:∀j,j<(Builtin.zeroCells z.cells n).toList.length->(w.cell? ⟨b,o+j,none⟩).isSome=true) (hf:∀j,j<(Builtin.zeroCells z.cells n).toList.length->w.frozen? ⟨b,o+j,none⟩=false) (hz:∀u∈(Builtin.zeroCells z.cells n).toList,u.oneCell'=true) :
  (Builtin.clear_ #[t] ty #[.slice (some ⟨b,o,none⟩) n c]).run prog w=.ok (.tuple #[]) (w.setCells b o (Builtin.zeroCells z.cells n).toList):=by
 have aD:=run_storeCells_cells (P:=prog) b o (Builtin.zeroCells z.cells n).toList 0 w (by simpa using hc) (by simpa using hf) hz;simp only[Nat.add_zero]at aD;obtain⟨m,rfl⟩:∃m,n=m+1:=⟨n-1,by omega⟩;simp[Builtin.clear_,run_underlying ht,hv,aD]
theorem pE(b:Nat):∀(vs:List Value) (o:Nat) (w:World),Fr (fun j=>j=b) w (w.setCells b o vs)
 | [],_,w=>Fr.refl _ w
 | v::r,o,w=>(Fr.set b o v).trans (pE b r (o+1) _) fun _ h=>.inl h
theorem gZ{base n c size q:Nat}{T:TypeId}{xs:List Value}:∀(vs:List Value) (o:Nat) (w:World),n*size<=o->w.ownsRow base T size (.slice (some ⟨q,0,none⟩) n c) n xs->(w.setCells q o vs).ownsRow base T size (.slice (some ⟨q,0,none⟩) n c) n xs
 | [],_,_,_,h=>h
 | v::r,o,w,ho,h=>by
  have h1:=(h.stored o v).1;rw[List.set_eq_of_length_le (by rw[h.1];exact ho)]at h1;exact gZ r (o+1) _ (by omega) h1
theorem uL{w:World}{base:Nat}{e:TypeId}{size n c k q:Nat}{xs:List Value}(h:w.ownsRow base e size (.slice (some ⟨q,0,none⟩) n c) n xs)(hk:k<=n):w.ownsRow base e size (.slice (some ⟨q,0,none⟩) k c) k (xs.take (k*size)):=by
 have hl:(xs.take (k*size)).length=k*size:=by rw[List.length_take,h.1];exact Nat.min_eq_left (Nat.mul_le_mul_right _ hk)
 refine⟨hl,?_⟩;rcases h.2 with⟨h1,h2⟩|⟨g,cap,cur,h1,h2,h3,h4,h5,h6,h7⟩
 ·cases h1
 ·injection h1 with h1 _ hc;injection h1 with h1;injection h1 with h1;subst h1;subst hc;refine .inr ⟨q,c,cur,rfl,h2,h3,by omega,h5,h6,?_⟩;rw[<-h7,List.take_take,Nat.min_eq_left (Nat.mul_le_mul_right _ hk)]
def zR(w:World)(q i:Nat)(x:Wt):World:=((w.setCell ⟨q,i*3,none⟩ (.int .i64 x.ctx)).setCell ⟨q,i*3+1,none⟩ (.int .i64 x.idx)).setCell ⟨q,i*3+2,none⟩ (.int .i64 x.round)
section
variable {aa:Nat->Nat}{b g:Nat}{w:World}{R:Rf}{v:Rw}
theorem ax.setWait{i q n c:Nat}(x:Wt)(h:ax aa b w g R v)(hi:i<R.waits.length)(hq:v.waits=.slice (some ⟨q,0,none⟩) n c)(hn:n=R.waits.length) :
  ax aa b (zR w q i x) g {R with waits:=R.waits.set i x} v/\Fr (fun k=>k=q) w (zR w q i x)/\aa q=b+4:=by
 obtain⟨A,c',e,aB,hl⟩:=id h.q;rw[hq,hn]at e;injection e with e1 e2 e3;subst e1;subst e3;have na:=hl q ⟨_,rfl,rfl⟩;have hF:Fr (fun k=>k=q) w (zR w q i x):=((Fr.set q _ _).trans (Fr.set q _ _) fun _ h=>.inl h).trans (Fr.set q _ _) fun _ h=>.inl h
 have JF:g≠q:=fun e=>by have:=h.sl;rw[e,na]at this;omega
 have RG:ao (zR w q i x) g 107 (bV {R with waits:=R.waits.set i x} v):=(hF.block g h.s.lt JF).trans h.s;obtain⟨y,hy⟩:∃y,R.waits[i]?=some y:=⟨_,List.getElem?_eq_getElem hi⟩;have aD:=((((aB.stored (i*3+0) (.int .i64 x.ctx)).1.stored (i*3+1) (.int .i64 x.idx)).1).stored (i*3+2) (.int .i64 x.round)).1;rw[je (f:=sZ) (k:=3) (fun _=>rfl) (z:=y) (z':=⟨x.ctx,y.idx,y.round⟩) (by omega) rfl hy,
  je (f:=sZ) (k:=3) (fun _=>rfl) (z:=⟨x.ctx,y.idx,y.round⟩) (z':=⟨x.ctx,x.idx,y.round⟩) (by omega) rfl (by rw[List.getElem?_set_self hi]),
  je (f:=sZ) (k:=3) (fun _=>rfl) (z:=⟨x.ctx,x.idx,y.round⟩) (z':=x) (by omega) rfl (by rw[List.getElem?_set_self (by rw[List.length_set];exact hi)]),List.set_set,List.set_set]at aD
 refine⟨h.turn [4] RG (fun _ _ _ _ _ _ e=>e) (by simp) (hF.mono fun k e=>.inr ⟨4,by simp,by rw[e];exact na⟩) tI tI (.inl ?_) tI tI tI tI tI tI tI tI,hF,na⟩;rw[hq,hn];show bR _ _ _ _ _ _ (R.waits.set i x).length _;rw[List.length_set];exact⟨_,_,rfl,aD,hl⟩
end
end
def gS(k:Int):List (Value×En)->Int->Int
 | [],_=>-1
 | z::l,i=>if z.2.idx<=k then i else gS k l (i+1)
def bT(k:Int)(l:List (Value×En)):List (Value×En):=l.filter fun z=>decide (k<z.2.idx)
theorem xY(k:Int):∀(l:List (Value×En)) (s:Nat),(gS k l s=-1/\bT k l=l)\/
  ∃i z,gS k l s=((s+i:Nat):Int)/\l[i]?=some z/\z.2.idx<=k/\bT k (l.take (i+1))=l.take i:=by
 intro l;induction l with
 | nil=>intro s;exact .inl ⟨rfl,rfl⟩
 | cons y l ih=>
  intro s;by_cases hy:y.2.idx<=k
  ·refine .inr ⟨0,y,?_,rfl,hy,?_⟩
   ·show(if y.2.idx<=k then(s:Int)else _)=_;rw[if_pos hy];simp
   ·show bT k [y]=[];unfold bT;rw[List.filter_cons,if_neg (by simp;omega)];rfl
  ·have e1:gS k (y::l) s=gS k l ((s+1:Nat):Int):=by
    show(if y.2.idx<=k then(s:Int)else gS k l ((s:Int)+1))=_;rw[if_neg hy];simp
   have hr:∀m:List (Value×En),bT k (y::m)=y::bT k m:=fun m=>by
    unfold bT;rw[List.filter_cons,if_pos (by simp;omega)]
   rw[e1];rcases ih (s+1)with⟨h1,h2⟩|⟨i,x,h1,h2,h3,h4⟩
   ·exact .inl ⟨h1,by rw[hr,h2]⟩
   ·refine .inr ⟨i+1,x,by rw[h1];congr 1;omega,h2,h3,?_⟩;rw[List.take_succ_cons,hr,h4,List.take_succ_cons]
theorem ss{k:Int}{l:List (Value×En)}{j:Nat}{x:Value×En}(h:l[j]?=some x):bT k (l.take (j+1))=bT k (l.take j)++if k<x.2.idx then[x]else[]:=by
 unfold bT;rw[List.take_add_one,h,List.filter_append];congr 1;by_cases hx:k<x.2.idx
 ·simp[hx]
 ·simp[hx]
theorem Et(k:Int)(l:List (Value×En)):(bT k l).length<=l.length:=List.length_filter_le _ _
structure xC(zs:List (Value×En))(k:Int)(n j i:Nat)(W:List (Value×En)):Prop where
 len:W.length=n
 jn:j<=n
 ij:i<j
 il:i=(bT k (zs.take j)).length
 tk:W.take i=bT k (zs.take j)
 dr:W.drop j=zs.drop j
theorem xC.skip{zs:List (Value×En)}{k:Int}{n j i:Nat}{W:List (Value×En)}{x:Value×En}(h:xC zs k n j i W)(hj:j<n)(hx:zs[j]?=some x)(hr:x.2.idx<=k):xC zs k n (j+1) i W:=by
 have e:=ss (k:=k) hx;rw[if_neg (by omega),List.append_nil]at e;refine⟨h.len,hj,by have:=h.ij;omega,by rw[e];exact h.il,by rw[e];exact h.tk,?_⟩;have:=congrArg (List.drop 1) h.dr;rw[List.drop_drop,List.drop_drop]at this;exact this
theorem xC.put{zs:List (Value×En)}{k:Int}{n j i:Nat}{W:List (Value×En)}{x:Value×En}(h:xC zs k n j i W)(hj:j<n)(hx:zs[j]?=some x)(hr:k<x.2.idx):xC zs k n (j+1) (i+1) (W.set i x):=by
 have e:=ss (k:=k) hx;rw[if_pos hr]at e;have JI:=h.ij;have hl:=h.len;refine⟨by rw[List.length_set];exact hl,hj,by omega,by rw[e,List.length_append,<-h.il];rfl,?_,?_⟩
 ·rw[e,<-h.tk,List.take_set,List.take_add_one,List.getElem?_eq_getElem (by omega)];have af:(W.take i).length=i:=by rw[List.length_take];omega
  rw[List.set_append_right _ _ (by omega),af,Nat.sub_self];rfl
 ·rw[List.drop_set_of_lt (by omega)];have:=congrArg (List.drop 1) h.dr;rw[List.drop_drop,List.drop_drop]at this;exact this
section
variable {w:World}{S:Nat->Prop}
theorem uI(x:En)(k:Int)(p n c:Nat)(A:Option Addr)(hk:w.cell? ⟨p,2,none⟩=some (.int .i64 k)) :
  Calls prog 42 #[.agg #[.int .i64 x.idx,.int .i64 x.term,.int .i64 x.op,.int .i64 x.sess,.int .i64 x.seq,.slice A n c],.pointer (some ⟨p,0,none⟩)] w fun e w'=>e=.returned (.bool (decide (x.idx<=k)))/\Below w.heap.size w w':=by
 have aI:Below w.heap.size w (w.alloc (.cells #[.int .i64 x.idx,.int .i64 x.term,.int .i64 x.op,.int .i64 x.sess,.int .i64 x.seq,.slice A n c] 59)):=zb.alloc zl _;have nA:=ar hk;go_enter func42,ntmps42;go_wp2_with fail;go_ret;exact⟨rfl,aI⟩
theorem BU(k:Int)(p n c:Nat)(A:Option Addr)(zs:List (Value×En))(hr:ff w A n zs)(hd:bo S w zs)(hk:w.cell? ⟨p,2,none⟩=some (.int .i64 k))(hn:n<=1000000) :
  Calls prog 88 #[.slice A n c,.func (.func 42) #[] #[.pointer (some ⟨p,0,none⟩)]] w fun e w'=>e=.returned (.int .i64 (gS k zs 0))/\Below w.heap.size w w':=by
 have jo:=Below.refl w.heap.size w;have CJ:=zH hr.len;go_enter func88,ntmps88;go_wp2_with fail
 go_loopw [8] (fun i wr=>∃j:Nat,j<=n/\i=.int .i64 j/\Below w.heap.size w wr/\gS k zs 0=gS k (zs.drop j) j) (fun i _=>n-(intOf i).toNat)
 case atStart=>exact⟨0,Nat.zero_le _,rfl,jo,rfl⟩
 case round=>
  obtain⟨j,hj,rfl,hb,hf⟩:=hrel;by_cases aU:j<n
  ·obtain⟨ad,vf,x,hA,hz,m0,m1,m2,m3,m4,m5⟩:=(hr.below hb).at_ aU;obtain⟨B,m,d,hv,_⟩:=(hd _ (List.mem_of_getElem? hz)).form;obtain rfl:vf=_:=hv;have IF:gS k (zs.drop j) j=if x.idx<=k then(j:Int)else gS k (zs.drop (j+1)) ((j+1:Nat):Int):=by
    rw[List.drop_eq_getElem_cons (by rw[CJ.out];exact aU)];have e:zs[j]'(by rw[CJ.out];exact aU)=(.slice B m d,x):=by
     have:=List.getElem?_eq_getElem (l:=zs) (i:=j) (by rw[CJ.out];exact aU);rw[this]at hz;exact Option.some.inj hz
    rw[e];show(if x.idx<=k then(j:Int)else gS k _ ((j:Int)+1))=_;simp
   rw[IF]at hf;have QX:wr.cell? ⟨p,2,none⟩=some (.int .i64 k):=(hb.cell (p:=⟨p,2,none⟩) (ar hk)).trans hk;have hc:=uI x k p m d B QX;have aO:=zH (show n-(j+1)<n-j by omega);subst hA;clear IF hz QX;go_wp2_with fail;refine hc.mono ?_;rintro e w5 ⟨rfl,cM⟩;have iv:Below w.heap.size w w5:=hb.trans (cM.mono hb.size);clear hc cM;by_cases fd:x.idx<=k
   ·rw[if_pos fd]at hf;have hd:decide (x.idx<=k)=true:=decide_eq_true fd;replace hf:=zH hf;go_wp2_with fail;go_ret;exact⟨by rw[hf.out];rfl,iv⟩
   ·rw[if_neg fd]at hf;have hd:decide (x.idx<=k)=false:=decide_eq_false fd;replace fd:=Int.not_le.1 fd;replace hf:=zH hf;go_wp2_with fail;exact⟨⟨j+1,aU,by go_num,iv,hf.out⟩,by simp[intOf];exact aO.out⟩
  ·obtain rfl:n=j:=by omega
   rw[List.drop_eq_nil_of_le (by rw[CJ.out];exact Nat.le_refl _)]at hf;have Ff:gS k zs 0=-1:=hf;replace Ff:=zH Ff;clear hf;go_wp2_with fail;go_ret;exact⟨by rw[Ff.out];rfl,hb⟩
theorem AX(A:Option Addr)(n c:Nat)(zs:List (Value×En))(hr:ff w A n zs)(hd:bo S w zs)(hn:n<=1000000) :
  Calls prog 41 #[.slice A n c] w fun e w'=>∃A' c',e=.returned (.slice A' n c')/\
   w'.ownsRow w.heap.size 59 6 (.slice A' n c') n (zs.flatMap cl)/\Below w.heap.size w w':=by
 have q30:∀(w:World) (a:Option Addr) (n c n' c':Nat),(binOp .eql 27 (.slice a n c) (.slice none n' c')).run prog w=.ok (.bool a.isNone) w:=fun w a n c n' c'=>Lib.run_eql_slice_nil w _ _ a n c n' c' underlying27
 have fo:=hd.one;rcases A with _|ad
 ·have h0:n=0:=by
   rcases Nat.eq_zero_or_pos n with h|h
   ·exact h
   ·obtain⟨ad,_,_,e,_⟩:=hr.at_ h;cases e
  subst h0;have hl:zs=[]:=List.eq_nil_of_length_eq_zero hr.len;subst hl;go_enter func41,ntmps41
  go_wp2
  go_ret;exact⟨none,0,rfl,bX _ _,Below.refl _ _⟩
 ·have br:Below w.heap.size w (w.alloc (.cells #[] 59)):=zb.alloc zl _;have aB:(w.alloc (.cells #[] 59)).ownsRow w.heap.size 59 6 (.slice (some ⟨w.heap.size,0,none⟩) 0 0) 0 (([]:List (Value×En)).flatMap cl):=qL _ [] 0 rfl zz;have Fj:=hr.below br;go_enter func41,ntmps41;go_wp2_with (first
    | (at_builtin;refine aW rfl (.tmp 5) (.tmp 6) rfl w.heap.size rfl aB rfl Fj fo (by omega) br.size ?_;intro A3 c3 w3 bY iy bN GX;clear iy GX)
    | fail)
  go_ret;simp only[Nat.zero_add,List.nil_append]at bY;exact⟨A3,c3,rfl,bY,br.trans bN⟩
end
theorem Bg:∀w,(zeroValue 59).run prog w=.ok (.agg #[.int .i64 0,.int .i64 0,.int .i64 0,.int .i64 0,.int .i64 0,.slice none 0 0]) w:=fun _=>rfl
theorem EZ(m:Nat):(Builtin.zeroCells (Value.agg #[.int .i64 0,.int .i64 0,.int .i64 0,.int .i64 0,.int .i64 0,.slice none 0 0]).cells m).toList.length=m*6:=by
 simp[Builtin.zeroCells,Value.cells]
theorem E0(m:Nat):∀u∈(Builtin.zeroCells (Value.agg #[.int .i64 0,.int .i64 0,.int .i64 0,.int .i64 0,.int .i64 0,.slice none 0 0]).cells m).toList,u.oneCell'=true:=fun u hu=>by
 obtain⟨i,hi,e⟩:=List.getElem_of_mem hu;rw[<-e];have h3:i%6=0\/i%6=1\/i%6=2\/i%6=3\/i%6=4\/i%6=5:=by omega
 rcases h3 with h3|h3|h3|h3|h3|h3 <;> simp[Builtin.zeroCells,Value.cells,h3] <;> rfl
def LM(w:World)(q i:Nat)(z:Value×En):World:=(((((w.setCell ⟨q,i*6,none⟩ (.int .i64 z.2.idx)).setCell ⟨q,i*6+1,none⟩ (.int .i64 z.2.term)).setCell ⟨q,i*6+2,none⟩ (.int .i64 z.2.op)).setCell ⟨q,i*6+3,none⟩ (.int .i64 z.2.sess)).setCell ⟨q,i*6+4,none⟩ (.int .i64 z.2.seq)).setCell ⟨q,i*6+5,none⟩ z.1
theorem uc{z:Value×En}:∀{l:List (Value×En)} {i:Nat},i<l.length->
  ((((((l.flatMap cl).set (i*6) (.int .i64 z.2.idx)).set (i*6+1) (.int .i64 z.2.term)).set (i*6+2) (.int .i64 z.2.op)).set (i*6+3) (.int .i64 z.2.sess)).set (i*6+4) (.int .i64 z.2.seq)).set (i*6+5) z.1=(l.set i z).flatMap cl
 | [],_,h=>by cases h
 | y::l,0,_=>by simp[List.flatMap_cons,cl,vi]
 | y::l,i+1,h=>by
  have ih:=uc (z:=z) (l:=l) (i:=i) (by simpa using h);rw[List.flatMap_cons,List.set_cons_succ,List.flatMap_cons,<-ih];have e:∀(u:Value) (m:List Value) (j:Nat),(cl y++m).set ((i+1)*6+j) u=cl y++m.set (i*6+j) u:=fun u m j=>by
   rw[List.set_append_right _ _ (by rw[eX];omega),eX];congr 2;omega
  have e0:∀(u:Value) (m:List Value),(cl y++m).set ((i+1)*6) u=cl y++m.set (i*6) u:=fun u m=>e u m 0
  rw[e0,e,e,e,e,e]
theorem Em{w:World}{B n c q i:Nat}{W:List (Value×En)}(z:Value×En)(h:w.ownsRow B 59 6 (.slice (some ⟨q,0,none⟩) n c) n (W.flatMap cl))(hi:i<W.length) :
  (LM w q i z).ownsRow B 59 6 (.slice (some ⟨q,0,none⟩) n c) n ((W.set i z).flatMap cl):=by
 have s:=(((((h.stored (i*6) (.int .i64 z.2.idx)).1.stored (i*6+1) (.int .i64 z.2.term)).1.stored (i*6+2) (.int .i64 z.2.op)).1.stored (i*6+3) (.int .i64 z.2.sess)).1.stored (i*6+4) (.int .i64 z.2.seq)).1.stored (i*6+5) z.1;have s:=s.1;rw[uc hi]at s;exact s
theorem xL{w w0:World}{B q i:Nat}(z:Value×En)(h:Below B w0 w)(hq:B<=q):Below B w0 (LM w q i z):=
 (((((h.setCell hq _).setCell hq _).setCell hq _).setCell hq _).setCell hq _).setCell hq _
theorem lJ{w0:World}{B q:Nat}(hq:B<=q):∀(vs:List Value) (o:Nat) (w:World),Below B w0 w->Below B w0 (w.setCells q o vs)
 | [],_,_,h=>h
 | v::r,o,w,h=>lJ hq r (o+1) _ (h.setCell hq _)
section
variable {w:World}{S:Nat->Prop}
theorem xR(k:Int)(B p n c:Nat)(A:Option Addr)(zs:List (Value×En))(aB:w.ownsRow B 59 6 (.slice A n c) n (zs.flatMap cl))(hB:B<=w.heap.size)(hd:bo S w zs)(hS:∀j,S j->j<B)(hp:p<B)(hk:w.cell? ⟨p,2,none⟩=some (.int .i64 k))(hn:n<=1000000) :
  Calls prog 40 #[.slice A n c,.func (.func 42) #[] #[.pointer (some ⟨p,0,none⟩)]] w fun e w'=>∃A' c',e=.returned (.slice A' (bT k zs).length c')/\ff w' A' (bT k zs).length (bT k zs)/\(bT k zs).length<=c'/\c'<=maxLen/\(∀j,aA A' j->B<=j)/\Below B w w':=by
 have tg:=BU k p n c A zs (cn.of_own aB) hd hk hn;have CJ:zs.length=n:=ff.len (cn.of_own aB);have J1:=xY k zs 0;have gH:=bB aB;have Lu:∀j,aA A j->B<=j:=fun j hj=>(aw aB A c rfl j hj).2.1
 rcases J1 with⟨s1,s2⟩|⟨i,x,s1,s2,s3,s4⟩
 ·rw[show((0:Nat):Int)=0 from rfl]at s1;rw[s1]at tg;rw[s2,CJ];go_enter func40,ntmps40;go_wp2_with fail;refine tg.mono ?_;rintro e w5 ⟨rfl,cM⟩;have DY:ff w5 A n zs:=ff.below (cn.of_own aB) cM;have MB:=cM.mono hB;clear tg;go_wp2_with fail;go_ret;exact⟨A,c,rfl,DY,gH.1,gH.2,Lu,MB⟩
 ·have vS:=(List.getElem?_eq_some_iff.1 s2).1;rw[CJ]at vS;obtain⟨q,c0,hv,OZ,_⟩:=aB.form (by omega);injection hv with a1 a2 a3;subst a1;subst a3;rw[show((0:Nat):Int)=0 from rfl,Nat.zero_add]at s1;rw[s1]at tg;go_enter func40,ntmps40;go_wp2_with fail;refine tg.mono ?_;rintro e w5 ⟨rfl,cM⟩;clear tg;have qw:xC zs k n (i+1) i zs:=⟨CJ,vS,Nat.lt_succ_self _,by rw[s4,List.length_take];omega,s4.symm,rfl⟩;have dq:=bf aB cM;have PZ:=cM.mono hB;clear aB;go_wp2_with fail
  go_loopw [5,6] (fun si sj wr=>∃(j i:Nat) (W:List (Value×En)),si=.int .i64 i/\sj=.int .i64 j/\xC zs k n j i W/\wr.ownsRow B 59 6 (.slice (some ⟨q,0,none⟩) n c) n (W.flatMap cl)/\Below B w wr) (fun _ sj _=>n-(intOf sj).toNat)
  case atStart=>exact⟨i+1,i,zs,rfl,by go_num,qw,dq,PZ⟩
  case round=>
   clear qw dq PZ cM s1 s2 s3 s4 vS;obtain⟨j,i',W,rfl,rfl,qw,lU,Fd⟩:=hrel;have xo:=qw.jn;have JI:=qw.ij;have Mq:=qw.len;by_cases aU:j<n
   ·obtain⟨z,hz⟩:∃z,zs[j]?=some z:=⟨_,List.getElem?_eq_getElem (by omega)⟩;have KJ:W[j]?=some z:=by
     have e:=congrArg (fun l=>l[0]?) qw.dr;simp only[List.getElem?_drop,Nat.add_zero]at e;rw[e,hz]
    obtain⟨vf,x⟩:=z;obtain⟨D,m,d,hv,_⟩:=(hd _ (List.mem_of_getElem? hz)).form;obtain rfl:vf=_:=hv;have UF:(W.flatMap cl).length=n*6:=lU.1;have key:∀s u,s<6->(cl (.slice D m d,x))[s]?=some u->wr.cell? ⟨q,j*6+s,none⟩=some u:=fun s u hs hu=>(lU.cellAt _ (by omega)).trans ((dW (f:=cl) (k:=6) (fun _=>rfl) hs KJ).trans hu)
    have m0:=key 0 _ (by omega) rfl;have m1:=key 1 _ (by omega) rfl;have m2:=key 2 _ (by omega) rfl;have m3:=key 3 _ (by omega) rfl;have m4:=key 4 _ (by omega) rfl;have m5:=key 5 _ (by omega) rfl;simp only[vi,Nat.add_zero]at m0 m1 m2 m3 m4 m5;have aI:Below wr.heap.size wr (wr.alloc (.cells #[.int .i64 x.idx,.int .i64 x.term,.int .i64 x.op,.int .i64 x.sess,.int .i64 x.seq,.slice D m d] 59)):=zb.alloc zl _;have gK:=ao.new wr 59 #[.int .i64 x.idx,.int .i64 x.term,.int .i64 x.op,.int .i64 x.sess,.int .i64 x.seq,.slice D m d];obtain⟨wA,BQ⟩:=zN (wr.alloc (.cells #[.int .i64 x.idx,.int .i64 x.term,.int .i64 x.op,.int .i64 x.sess,.int .i64 x.seq,.slice D m d] 59));rw[BQ]at aI gK;have OY:p<w.heap.size:=by omega
    have QX:wr.cell? ⟨p,2,none⟩=some (.int .i64 k):=(Fd.cell (p:=⟨p,2,none⟩) hp).trans hk;have IJ:wA.cell? ⟨p,2,none⟩=some (.int .i64 k):=(aI.cell (p:=⟨p,2,none⟩) (by have:=Fd.size;show p<_;omega)).trans QX;have hc:=uI x k p m d D IJ;obtain⟨y0,y1,y2,y3,y4,y5,-⟩:=gK.cs [0,1,2,3,4,5];simp only[Zx]at y0 y1 y2 y3 y4 y5;have Yp:wr.heap.size<wA.heap.size:=gK.lt;have hqr:q<wr.heap.size:=(aw lU _ _ rfl q ⟨_,rfl,rfl⟩).1;have aO:=zH (show n-(j+1)<n-j by omega);replace BQ:=zH BQ;clear key QX IJ;go_wp2_with fail;rw[BQ.out];try go_wp2_with fail
    refine hc.mono ?_;rintro e w5 ⟨rfl,cM⟩;clear hc;have Vx:=Fd.size;have MD:=ab aI cM zl;have dq:=bf lU MD;have kE:Below B w w5:=Fd.trans (MD.mono (by omega));have MJ:=gK.kept cM;clear aI cM MD;by_cases fd:x.idx<=k
    ·have pG:=qw.skip aU hz fd;have Qm:decide (x.idx<=k)=true:=decide_eq_true fd;replace dq:=zH dq;go_wp2_with fail;refine⟨?_,by simp[intOf];exact aO.out⟩;repeat apply Exists.intro
     repeat apply Exists.intro
     repeat apply Exists.intro
     repeat apply Exists.intro
     refine⟨?_,rfl⟩;exact⟨j+1,i',W,rfl,by go_num,pG,dq.out,kE⟩
    ·replace fd:=Int.not_le.1 fd;have pG:=qw.put aU hz fd;have Qm:decide (x.idx<=k)=false:=decide_eq_false (by omega);have aD:=Em (i:=i') (.slice D m d,x) dq (by omega);have SM:=xL (i:=i') (.slice D m d,x) kE OZ;have old:∀s,s<6->∃u,w5.cell? ⟨q,i' * 6+s,none⟩=some u:=fun s hs=>by
      refine⟨(W.flatMap cl)[i' * 6+s]'(by rw[UF];omega),?_⟩;rw[dq.cellAt _ (by omega),List.getElem?_eq_getElem]
     obtain⟨o0,n0⟩:=old 0 (by omega);obtain⟨o1,n1⟩:=old 1 (by omega);obtain⟨o2,n2⟩:=old 2 (by omega);obtain⟨o3,n3⟩:=old 3 (by omega);obtain⟨o4,n4⟩:=old 4 (by omega);obtain⟨o5,n5⟩:=old 5 (by omega);have f0:=dq.frozenAt (i' * 6);have f1:=dq.frozenAt (i' * 6+1);have f2:=dq.frozenAt (i' * 6+2);have f3:=dq.frozenAt (i' * 6+3);have f4:=dq.frozenAt (i' * 6+4);have f5:=dq.frozenAt (i' * 6+5);rw[Nat.add_zero]at n0;obtain⟨z0,z1,z2,z3,z4,z5,-⟩:=MJ.cs [0,1,2,3,4,5];simp only[Zx]at z0 z1 z2 z3 z4 z5;replace aD:=zH aD;replace SM:=zH SM;clear old dq lU;go_wp2_with fail;refine⟨?_,by simp[intOf];exact aO.out⟩;repeat apply Exists.intro
     repeat apply Exists.intro
     repeat apply Exists.intro
     repeat apply Exists.intro
     refine⟨?_,rfl⟩;exact⟨j+1,i'+1,W.set i' (.slice D m d,x),by go_num,by go_num,pG,aD.out,SM.out⟩
   ·obtain rfl:n=j:=by omega
    have cx:zs.take n=zs:=by rw[<-CJ];exact List.take_length
    have vS:=qw.il;have RQ:=qw.tk;rw[cx]at vS RQ;have Uu:=gH.1;have eh:∀s,s<n*6->(wr.cell? ⟨q,s,none⟩).isSome=true:=fun s hs=>by
     rw[lU.cellAt s hs,List.getElem?_eq_getElem (by rw[lU.1];exact hs)];rfl
    have OS:=lU.frozenAt;replace vS:=zH vS;replace cx:=zH cx;replace lU:=zH lU;go_wp2_with fail;have Qj:c≠i':=by omega
    rw[nk wr 27 59 0 _ underlying27 Bg (fun u hu=>by simp[Value.cells]at hu;rcases hu with rfl|rfl|rfl|rfl|rfl|rfl <;> rfl) q (i' * 6) (n-i') (c-i') (by omega) (fun s hs=>by
      rw[EZ]at hs;exact eh _ (by omega)) (fun s _=>OS _) (E0 _)]
    have aE:ff (wr.setCells q (i' * 6) (Builtin.zeroCells (Value.agg #[.int .i64 0,.int .i64 0,.int .i64 0,.int .i64 0,.int .i64 0,.slice none 0 0]).cells (n-i')).toList) (some ⟨q,0,none⟩) i' (bT k zs):=by
     have h1:=uL lU.out (k:=i') (by omega);have h2:=gZ (Builtin.zeroCells (Value.agg #[.int .i64 0,.int .i64 0,.int .i64 0,.int .i64 0,.int .i64 0,.slice none 0 0]).cells (n-i')).toList (i' * 6) wr zl h1;have e:(W.flatMap cl).take (i' * 6)=(bT k zs).flatMap cl:=by rw[<-RQ];exact(oV (f:=cl) (k:=6) (fun _=>rfl) W i').symm
     rw[e]at h2;exact cn.of_own h2
    have DG:=lJ (w0:=w) OZ (Builtin.zeroCells (Value.agg #[.int .i64 0,.int .i64 0,.int .i64 0,.int .i64 0,.int .i64 0,.slice none 0 0]).cells (n-i')).toList (i' * 6) wr Fd;replace aE:=zH aE;replace DG:=zH DG;clear eh OS Fd hd;go_wp2_with fail;go_ret;rw[<-vS.out];exact⟨some ⟨q,0,none⟩,c,rfl,aE.out,by omega,gH.2,Lu,DG.out⟩
end
theorem rN{lo hi x:Int}(w:World):Calls prog 36 #[.int .i64 x,.int .i64 lo,.int .i64 hi] w fun e w'=>e=.returned (.bool (decide (lo<=x/\x<=hi)))/\w'=w:=rM (by simp) w
theorem uD(i t:Int)(A:Option Addr)(n c:Nat)(l:List UInt8)(w:World)(hl:l.length=n):Calls prog 37 #[.agg #[.int .i64 i,.int .i64 t,.slice A n c]] w fun e w'=>e=.returned (.bool (eU ⟨i,t,l⟩))/\Below w.heap.size w w':=by
 have aI:Below w.heap.size w (w.alloc (.cells #[.int .i64 i,.int .i64 t,.slice A n c] 26)):=zb.alloc zl _;have bM:=ao.new w 26 #[.int .i64 i,.int .i64 t,.slice A n c];obtain⟨w1,ct⟩:=zN (w.alloc (.cells #[.int .i64 i,.int .i64 t,.slice A n c] 26));rw[ct]at aI bM;obtain⟨y0,y1,y2,-⟩:=bM.cs [0,1,2];simp only[Zx]at y0 y1 y2;have vU:eU ⟨i,t,l⟩=if i=0/\t=0 then decide ((n:Int)=0)else decide ((1<=i/\i<=1099511627776)/\(1<=t/\t<=1099511627776)/\(1<=(n:Int)/\(n:Int)<=65536)):=by
  unfold eU iQ;simp only[hl];by_cases h:i=0/\t=0
  ·rw[if_pos h,if_pos h];simp
  ·rw[if_neg h,if_neg h];congr 1;apply propext;constructor <;> intro h <;> omega
 have tE:∀(x lo hi:Int),Calls prog 36 #[.int .i64 x,.int .i64 lo,.int .i64 hi] w1 fun e w'=>e=.returned (.bool (decide (lo<=x/\x<=hi)))/\w'=w1:=fun x lo hi=>rN w1
 have h1:=tE i 1 1099511627776;have h2:=tE t 1 1099511627776;have h3:=tE (n:Int) 1 65536;replace ct:=zH ct;replace hl:=zH hl;clear tE;by_cases h0:i=0/\t=0
 ·rw[if_pos h0]at vU;obtain⟨rfl,rfl⟩:=h0;replace vU:=zH vU;go_enter func37,ntmps37;go_wp2_with fail;rw[ct.out];try go_wp2_with fail
  go_ret;refine⟨?_,aI⟩;rw[vU.out];congr 2;try simp
 ·rw[if_neg h0]at vU;have cB:(i==0)=false\/((i==0)=true/\(t==0)=false):=by
   by_cases a:i=0
   ·exact .inr ⟨by simp[a],by simp;exact fun e=>h0 ⟨a,e⟩⟩
   ·exact .inl (by simp[a])
  replace vU:=zH vU;by_cases b1:1<=i/\i<=1099511627776
  ·rw[decide_eq_true b1]at h1;by_cases b2:1<=t/\t<=1099511627776
   ·rw[decide_eq_true b2]at h2;by_cases b3:1<=(n:Int)/\(n:Int)<=65536
    ·rw[decide_eq_true b3]at h3;have aE:=zH (show eU ⟨i,t,l⟩=true by rw[vU.out];simp only[b1,b2,b3,and_self,decide_true]);replace b1:=zH b1;replace b2:=zH b2;replace b3:=zH b3;rcases cB with a|⟨a,a'⟩
     all_goals
      go_enter func37,ntmps37;go_wp2_with fail;rw[ct.out];try go_wp2_with fail
      refine h1.mono ?_;rintro e wA ⟨rfl,rfl⟩;go_wp2_with fail;refine h2.mono ?_;rintro e wB ⟨rfl,rfl⟩;go_wp2_with fail;refine h3.mono ?_;rintro e wC ⟨rfl,rfl⟩;go_wp2_with fail;go_ret;exact⟨by rw[aE.out];rfl,aI⟩
    ·rw[decide_eq_false b3]at h3;have aE:=zH (show eU ⟨i,t,l⟩=false by rw[vU.out];simp only[b3,and_false,decide_false]);replace b1:=zH b1;replace b2:=zH b2;replace b3:=zH b3;rcases cB with a|⟨a,a'⟩
     all_goals
      go_enter func37,ntmps37;go_wp2_with fail;rw[ct.out];try go_wp2_with fail
      refine h1.mono ?_;rintro e wA ⟨rfl,rfl⟩;go_wp2_with fail;refine h2.mono ?_;rintro e wB ⟨rfl,rfl⟩;go_wp2_with fail;refine h3.mono ?_;rintro e wC ⟨rfl,rfl⟩;go_wp2_with fail;go_ret;exact⟨by rw[aE.out];rfl,aI⟩
   ·rw[decide_eq_false b2]at h2;have aE:=zH (show eU ⟨i,t,l⟩=false by rw[vU.out];simp only[b2,false_and,and_false,decide_false]);replace b1:=zH b1;replace b2:=zH b2;rcases cB with a|⟨a,a'⟩
    all_goals
     go_enter func37,ntmps37;go_wp2_with fail;rw[ct.out];try go_wp2_with fail
     refine h1.mono ?_;rintro e wA ⟨rfl,rfl⟩;go_wp2_with fail;refine h2.mono ?_;rintro e wB ⟨rfl,rfl⟩;go_wp2_with fail;go_ret;exact⟨by rw[aE.out];rfl,aI⟩
  ·rw[decide_eq_false b1]at h1;have aE:=zH (show eU ⟨i,t,l⟩=false by rw[vU.out];simp only[b1,false_and,decide_false]);replace b1:=zH b1;rcases cB with a|⟨a,a'⟩
   all_goals
    go_enter func37,ntmps37;go_wp2_with fail;rw[ct.out];try go_wp2_with fail
    refine h1.mono ?_;rintro e wA ⟨rfl,rfl⟩;go_wp2_with fail;go_ret;exact⟨by rw[aE.out];rfl,aI⟩
section
open Go.MapKept
def dE(k:Int)(l:List Wt):List Wt:=l.filter fun x=>decide (k<x.round)
def fb(k:Int)(l:List Wt):List (Int×Int):=(l.filter fun x=>decide (x.round<=k)).map Wt.rd
theorem xZ(k:Int)(R:Rf):∀(l:List Wt) (s:Nat),(iG k l s=-1/\dE k l=l/\fb k l=[]/\eC R k l=R)\/
  ∃i x,iG k l s=((s+i:Nat):Int)/\l[i]?=some x/\x.round<=k/\dE k (l.take (i+1))=l.take i/\fb k (l.take (i+1))=[x.rd]/\eC R k l=R.tellRead x k:=by
 intro l;induction l with
 | nil=>intro s;exact .inl ⟨rfl,rfl,rfl,rfl⟩
 | cons y l ih=>
  intro s;by_cases hy:y.round<=k
  ·refine .inr ⟨0,y,?_,rfl,hy,?_,?_,?_⟩
   ·show(if y.round<=k then(s:Int)else _)=_;rw[if_pos hy];simp
   ·show dE k [y]=[];unfold dE;rw[List.filter_cons,if_neg (by simp;omega)];rfl
   ·show fb k [y]=[y.rd];unfold fb;rw[List.filter_cons,if_pos (by simp;exact hy)];rfl
   ·show(if y.round<=k then _ else _)=_;rw[if_pos hy]
  ·have e1:iG k (y::l) s=iG k l ((s+1:Nat):Int):=by
    show(if y.round<=k then(s:Int)else iG k l ((s:Int)+1))=_;rw[if_neg hy];simp
   have e2:eC R k (y::l)=eC R k l:=by
    show(if y.round<=k then _ else _)=_;rw[if_neg hy]
   have hr:∀m:List Wt,dE k (y::m)=y::dE k m:=fun m=>by
    unfold dE;rw[List.filter_cons,if_pos (by simp;omega)]
   have ht:∀m:List Wt,fb k (y::m)=fb k m:=fun m=>by
    unfold fb;rw[List.filter_cons,if_neg (by simp;omega)]
   rw[e1,e2];rcases ih (s+1)with⟨h1,h2,h3,h4⟩|⟨i,x,h1,h2,h3,h4,h5,h6⟩
   ·exact .inl ⟨h1,by rw[hr,h2],by rw[ht,h3],h4⟩
   ·refine .inr ⟨i+1,x,by rw[h1];congr 1;omega,h2,h3,?_,?_,h6⟩
    ·rw[List.take_succ_cons,hr,h4,List.take_succ_cons]
    ·rw[List.take_succ_cons,ht,h5]
theorem nI{k:Int}{l:List Wt}{j:Nat}{x:Wt}(h:l[j]?=some x):dE k (l.take (j+1))=dE k (l.take j)++if k<x.round then[x]else[]:=by
 unfold dE;rw[List.take_add_one,h,List.filter_append];congr 1;by_cases hx:k<x.round
 ·simp[hx]
 ·simp[hx]
theorem nN{k:Int}{l:List Wt}{j:Nat}{x:Wt}(h:l[j]?=some x):fb k (l.take (j+1))=fb k (l.take j)++if x.round<=k then[x.rd]else[]:=by
 unfold fb;rw[List.take_add_one,h,List.filter_append,List.map_append];congr 1;by_cases hx:x.round<=k
 ·simp[hx]
 ·simp[hx]
theorem uS(k:Int)(l:List Wt):(dE k l).length<=l.length:=List.length_filter_le _ _
def kl(aa:Nat->Nat)(b:Nat)(w:World)(g:Nat)(R':Rf)(v:Rw)(w':World):Prop:=
 ∃(ak:Nat->Nat) (v':Rw),ax ak b w' g R' v'/\v'.waits=v.waits/\(∀j,j<w.heap.size->ak j=aa j)/\Fr (fun j=>j=g\/aa j=b+11\/aa j=b+4) w w'
structure pB(R:Rf)(k:Int)(n j i:Nat)(W:List Wt):Prop where
 len:W.length=n
 jn:j<=n
 ij:i<j
 il:i=(dE k (R.waits.take j)).length
 tk:W.take i=dE k (R.waits.take j)
 dr:W.drop j=R.waits.drop j
def lN(R:Rf)(k:Int)(j:Nat)(W:List Wt):Rf:={R with waits:=W,out:={R.out with reads:=R.out.reads++fb k (R.waits.take j)}}
section
variable {aa:Nat->Nat}{b g:Nat}{w w1 w2:World}{R R1 R2:Rf}{v:Rw}
theorem kl.blk{T:TypeId}{cs:Array Value}{p:Nat}(h:kl aa b w g R2 v w1)(hg:p≠g)(hl:aa p≠b+11)(od:aa p≠b+4)(hk:ao w p T cs):ao w1 p T cs:=by
 obtain⟨bs,v2,q1,q2,q3,q4⟩:=h;exact(q4.block p hk.lt fun hh=>by rcases hh with hh|hh|hh;exact hg hh;exact hl hh;exact od hh).trans hk
theorem pB.skip{k:Int}{n j i:Nat}{W:List Wt}{x:Wt}(h:pB R k n j i W)(hj:j<n)(hx:R.waits[j]?=some x)(hr:x.round<=k):pB R k n (j+1) i W:=by
 have e:=nI (k:=k) hx;rw[if_neg (by omega),List.append_nil]at e;refine⟨h.len,hj,by have:=h.ij;omega,by rw[e];exact h.il,by rw[e];exact h.tk,?_⟩;have:=congrArg (List.drop 1) h.dr;rw[List.drop_drop,List.drop_drop]at this;exact this
theorem pB.put{k:Int}{n j i:Nat}{W:List Wt}{x:Wt}(h:pB R k n j i W)(hj:j<n)(hx:R.waits[j]?=some x)(hr:k<x.round):pB R k n (j+1) (i+1) (W.set i x):=by
 have e:=nI (k:=k) hx;rw[if_pos hr]at e;have JI:=h.ij;have hl:=h.len;refine⟨by rw[List.length_set];exact hl,hj,by omega,by rw[e,List.length_append,<-h.il];rfl,?_,?_⟩
 ·rw[e,<-h.tk,List.take_set,List.take_add_one,List.getElem?_eq_getElem (by omega)];have af:(W.take i).length=i:=by rw[List.length_take];omega
  rw[List.set_append_right _ _ (by omega),af,Nat.sub_self];rfl
 ·rw[List.drop_set_of_lt (by omega)];have:=congrArg (List.drop 1) h.dr;rw[List.drop_drop,List.drop_drop]at this;exact this
end
end
section
open Go.MapKept
theorem EW:∀w,(zeroValue 167).run prog w=.ok (.agg #[.int .i64 0,.int .i64 0,.int .i64 0]) w:=fun _=>rfl
theorem E5(m:Nat):(Builtin.zeroCells (Value.agg #[.int .i64 0,.int .i64 0,.int .i64 0]).cells m).toList.length=m*3:=by
 simp[Builtin.zeroCells,Value.cells]
theorem E6(m:Nat):∀u∈(Builtin.zeroCells (Value.agg #[.int .i64 0,.int .i64 0,.int .i64 0]).cells m).toList,u.oneCell'=true:=fun u hu=>by
 obtain⟨i,hi,e⟩:=List.getElem_of_mem hu;rw[<-e];have h3:i%3=0\/i%3=1\/i%3=2:=by omega
 rcases h3 with h3|h3|h3 <;> simp[Builtin.zeroCells,Value.cells,h3] <;> rfl
def vl(aa:Nat->Nat)(b:Nat)(w:World)(g:Nat)(R:Rf)(k:Int)(v:Rw)(A:Option Addr)(c:Nat)(e:Ending)(w':World):Prop:=
 ∃(W:List Wt) (w'':World) (c':Nat),e=.returned (.slice A (dE k R.waits).length c')/\kl aa b w g {R with waits:=W,out:={R.out with reads:=R.out.reads++fb k R.waits}} v w''/\W.length=R.waits.length/\W.take (dE k R.waits).length=dE k R.waits/\c'=c/\
  (w'=w''\/∃q zs o,A=some ⟨q,0,none⟩/\(dE k R.waits).length*3<=o/\w'=w''.setCells q o zs)
section
variable {aa:Nat->Nat}{b g:Nat}{w:World}{R:Rf}{v:Rw}
theorem vx(k:Int)(p1 p2 n c:Nat)(A:Option Addr)(h:ax aa b w g R v)(cA:ao w p1 32 #[.pointer (some ⟨g,0,none⟩)])(eY:ao w p2 3 #[.int .i64 k])(cD:aa p1=b)(dG:aa p2=b)(AJ:R.out.reads.length<=80000)
  (hv:v.waits=.slice A n c) (hn:n=R.waits.length) (Ri:n<=1000) :
  Calls prog 113 #[.slice A n c,.func (.func 114) #[] #[.pointer (some ⟨p2,0,none⟩),.pointer (some ⟨p1,0,none⟩)]] w fun e w'=>vl aa b w g R k v A c e w':=by
 have cW:=h.s.lt;have Nq:p1≠g:=fun e=>by have:=h.sl;rw[<-e,cD]at this;omega
 have Ns:p2≠g:=fun e=>by have:=h.sl;rw[<-e,dG]at this;omega
 have tg:=yQ k p1 p2 n c A h cA eY cD dG (by omega) hv hn Ri;have J1:=xZ k R R.waits 0;have uv:=h.q;rw[hv,<-hn]at uv;replace hn:=zH hn;rcases J1 with⟨s1,s2,s3,s4⟩|⟨i,x,s1,s2,s3,s4,s5,s6⟩
 ·rw[show((0:Nat):Int)=0 from rfl]at s1;rw[s1,s4]at tg;clear h uv;go_enter func113,ntmps113;go_wp2_with fail;refine tg.mono ?_;rintro e w5 ⟨rfl,ag,v1,q1,q2,q3,q4⟩;have hD:vl aa b w g R k v A c (.returned (.slice A n c)) w5:=by
   refine⟨R.waits,w5,c,by rw[s2,<-hn.out],⟨ag,v1,?_,q2,q3,q4.mono fun j hj=>hj.elim .inl fun e=>.inr (.inl e)⟩,rfl,by rw[s2,List.take_length],rfl,.inl rfl⟩;rw[s3,List.append_nil];exact q1
  replace hD:=zH hD;clear tg q1 q4;go_wp2_with fail;go_ret;exact hD.out
 ·have vS:=(List.getElem?_eq_some_iff.1 s2).1;rw[<-hn.out]at vS;obtain⟨q,cq,Yo,na,aB,CO⟩:∃q cq,Value.slice A n c=.slice (some ⟨q,0,none⟩) n cq/\aa q=b+4/\q<w.heap.size/\True:=by
   obtain⟨q,cq,e,_,h2,h3,_⟩:=uv.at_ (by omega);exact⟨q,cq,e,h2,h3,trivial⟩
  injection Yo with a1 a2 a3;subst a1;subst a3;rw[show((0:Nat):Int)=0 from rfl,Nat.zero_add]at s1;rw[s1,s6]at tg;clear h uv;go_enter func113,ntmps113;go_wp2_with fail;refine tg.mono ?_;rintro e w5 ⟨rfl,W2⟩;clear tg;have PP:R.tellRead x k=lN R k (i+1) R.waits:=by
   unfold Rf.tellRead lN;rw[if_pos s3,s5]
  have qw:pB R k n (i+1) i R.waits:=⟨hn.out.symm,vS,Nat.lt_succ_self _,by rw[s4,List.length_take];have:=hn.out;omega,s4.symm,rfl⟩;have W1:kl aa b w g (lN R k (i+1) R.waits) v w5:=by
   obtain⟨ag,v1,q1,q2,q3,q4⟩:=W2;rw[PP]at q1;exact⟨ag,v1,q1,q2,q3,q4.mono fun j hj=>hj.elim .inl fun e=>.inr (.inl e)⟩
  clear W2 PP;go_wp2_with fail
  go_loopw [5,6] (fun si sj wr=>∃(j i:Nat) (W:List Wt),si=.int .i64 i/\sj=.int .i64 j/\pB R k n j i W/\kl aa b w g (lN R k j W) v wr) (fun _ sj _=>n-(intOf sj).toNat)
  case atStart=>exact⟨i+1,i,R.waits,rfl,by go_num,qw,W1⟩
  case round=>
   clear qw W1 s1 s2 s3 s4 s5 s6 vS;obtain⟨j,i',W,rfl,rfl,qw,hQ⟩:=hrel;have xo:=qw.jn;have JI:=qw.ij;by_cases aU:j<n
   ·obtain⟨x,hx⟩:∃x,R.waits[j]?=some x:=⟨_,List.getElem?_eq_getElem (by rw[<-hn.out];exact aU)⟩;have KJ:W[j]?=some x:=by
     have e:=congrArg (fun l=>l[0]?) qw.dr;simp only[List.getElem?_drop,Nat.add_zero]at e;rw[e,hx]
    obtain⟨ag,v1,q1,q2,q3,q4⟩:=id hQ;have Mq:=qw.len;obtain⟨q',c',Lz,OK,U2,BL,eh,OS⟩:=q1.q.at_ (by show 0<W.length;omega);rw[q2,hv]at Lz;injection Lz with a1 a2 a3;injection a1 with a1;injection a1 with a1;subst a1;subst a3;clear a2;have key:∀s u,s<3->(sZ x)[s]?=some u->wr.cell? ⟨q,j*3+s,none⟩=some u:=fun s u hs hu=>eh _ _ ((dW (f:=sZ) (k:=3) (fun _=>rfl) hs KJ).trans hu)
    have m0:=key 0 _ (by omega) rfl;have m1:=key 1 _ (by omega) rfl;have m2:=key 2 _ (by omega) rfl;simp only[vi,Nat.add_zero]at m0 m1 m2;have aI:Below wr.heap.size wr (wr.alloc (.cells #[.int .i64 x.ctx,.int .i64 x.idx,.int .i64 x.round] 167)):=zb.alloc zl _;have gK:=ao.new wr 167 #[.int .i64 x.ctx,.int .i64 x.idx,.int .i64 x.round];obtain⟨wA,BQ⟩:=zN (wr.alloc (.cells #[.int .i64 x.ctx,.int .i64 x.idx,.int .i64 x.round] 167));rw[BQ]at aI gK;have Nr:=hQ.blk Nq (by omega) (by omega) cA;have Nt:=hQ.blk Ns (by omega) (by omega) eY;have hc:=pR x k p1 p2 (q1.fresh aI) (Nr.kept aI) (Nt.kept aI) ((ac Nr.lt).trans ((q3 p1 cA.lt).trans cD)) ((ac Nt.lt).trans ((q3 p2 eY.lt).trans dG)) (by show(R.out.reads++fb k (R.waits.take j)).length<=_;have e:(fb k (R.waits.take j)).length<=(R.waits.take j).length:=by {unfold fb;rw[List.length_map];exact List.length_filter_le _ _};rw[List.length_append];rw[List.length_take]at e;omega);obtain⟨y0,y1,y2,-⟩:=gK.cs [0,1,2];simp only[Zx]at y0 y1 y2;have Yp:wr.heap.size<wA.heap.size:=gK.lt;have Y8:g<wr.heap.size:=q1.s.lt;have aO:=zH (show n-(j+1)<n-j by omega);have Ux:(lN R k j W).tellRead x k=if x.round<=k then lN R k (j+1) W else lN R k j W:=by
     unfold Rf.tellRead;by_cases hh:x.round<=k
     ·rw[if_pos hh,if_pos hh];unfold lN;rw[nN hx,if_pos hh,List.append_assoc]
     ·rw[if_neg hh,if_neg hh]
    have du:∀w5 R5,gQ (aj ag wr.heap.size b) b wA g R5 v1 w5->∃dU v5,ax dU b w5 g R5 v5/\v5.waits=v.waits/\(∀j,j<w.heap.size->dU j=aa j)/\Fr (fun j=>j=g\/aa j=b+11\/aa j=b+4) w w5/\ao w5 wr.heap.size 167 #[.int .i64 x.ctx,.int .i64 x.idx,.int .i64 x.round]:=fun w5 R5 hP=>by
     have MJ:=hP.blk (by omega) (by rw[az zl];omega) gK;obtain⟨dU,v5,t1,t2,t3,t4⟩:=hP;have hsA:=aI.size;have O4:=q4.size;refine⟨dU,v5,t1,t2.trans q2,fun j hj=>(t3 j (by omega)).trans ((ac (by omega)).trans (q3 j hj)),(q4.trans (Fr.of_below (X:=fun j=>j=g\/ag j=b+11\/ag j=b+4) aI) fun j hj=>?_).trans t4 fun j hj=>?_,MJ⟩
     ·rcases Nat.lt_or_ge j w.heap.size with hl|hl
      ·rw[q3 j hl]at hj;exact .inl hj
      ·exact .inr hl
     ·rcases Nat.lt_or_ge j w.heap.size with hl|hl
      ·rw[ac (by omega),q3 j hl]at hj;exact .inl (hj.elim .inl fun e=>.inr (.inl e))
      ·exact .inr hl
    replace BQ:=zH BQ;replace du:=zH du;clear key eh Nr Nt OS q1 hQ;go_wp2_with fail;rw[BQ.out];try go_wp2_with fail
    refine hc.mono ?_;rintro e w5 ⟨rfl,nv⟩;rw[Ux]at nv;clear hc;by_cases fd:x.round<=k
    ·rw[if_pos fd]at nv;obtain⟨dU,v5,t1,t2,t3,t4,t5⟩:=du.out _ _ nv;have pG:=qw.skip aU hx fd;have hd:decide (x.round<=k)=true:=decide_eq_true fd;have OG:kl aa b w g (lN R k (j+1) W) v w5:=⟨dU,v5,t1,t2,t3,t4⟩;clear t1 t4 t5 nv Ux;go_wp2_with fail;refine⟨?_,by simp[intOf];exact aO.out⟩;repeat apply Exists.intro
     repeat apply Exists.intro
     repeat apply Exists.intro
     repeat apply Exists.intro
     refine⟨?_,rfl⟩;exact⟨j+1,i',W,rfl,by go_num,pG,OG⟩
    ·rw[if_neg fd]at nv;obtain⟨dU,v5,t1,t2,t3,t4,t5⟩:=du.out _ _ nv;replace fd:=Int.not_le.1 fd;have pG:=qw.put aU hx fd;have hd:decide (x.round<=k)=false:=decide_eq_false (by omega);have Zg:i'<(lN R k j W).waits.length:=by show i'<W.length;omega
     obtain⟨u1,u2,u3⟩:=t1.setWait x Zg (t2.trans hv) (by show n=W.length;omega);have OG:kl aa b w g (lN R k j (W.set i' x)) v (zR w5 q i' x):=by
      refine⟨dU,v5,u1,t2,t3,t4.trans u2 fun j hj=>?_⟩;rcases Nat.lt_or_ge j w.heap.size with hl|hl
      ·rw[hj]at hl ⊢;rw[t3 q hl]at u3;exact .inl (.inr (.inr u3))
      ·exact .inr hl
     have YY:lN R k j (W.set i' x)=lN R k (j+1) (W.set i' x):=by
      unfold lN;rw[nN hx,if_neg (by omega),List.append_nil]
     rw[YY]at OG;obtain⟨q5,c5,dK,_,_,ZU,Gn,JA⟩:=t1.q.at_ (by omega);rw[t2,hv]at dK;injection dK with b1 b2 b3;injection b1 with b1;injection b1 with b1;subst b1;clear b2 b3;obtain⟨y',hy'⟩:∃y',W[i']?=some y':=⟨_,List.getElem?_eq_getElem (by omega)⟩;have key5:∀s u,s<3->(sZ y')[s]?=some u->w5.cell? ⟨q,i' * 3+s,none⟩=some u:=fun s u hs hu=>Gn _ _ ((dW (f:=sZ) (k:=3) (fun _=>rfl) hs hy').trans hu)
     have n0:=key5 0 _ (by omega) rfl;have n1:=key5 1 _ (by omega) rfl;have n2:=key5 2 _ (by omega) rfl;simp only[vi,Nat.add_zero]at n0 n1 n2;have f0:=JA (i' * 3);have f1:=JA (i' * 3+1);have f2:=JA (i' * 3+2);obtain⟨z0,z1,z2,-⟩:=t5.cs [0,1,2];simp only[Zx]at z0 z1 z2;replace OG:=zH OG;clear t1 t4 t5 nv Ux u1 u2 key5 Gn JA;go_wp2_with fail;refine⟨?_,by simp[intOf];exact aO.out⟩;repeat apply Exists.intro
     repeat apply Exists.intro
     repeat apply Exists.intro
     repeat apply Exists.intro
     refine⟨?_,rfl⟩;exact⟨j+1,i'+1,W.set i' x,by go_num,by go_num,pG,OG.out⟩
   ·obtain rfl:n=j:=by omega
    have cx:R.waits.take n=R.waits:=by rw[hn.out];exact List.take_length
    have vS:=qw.il;have RQ:=qw.tk;have Mq:=qw.len;rw[cx]at vS RQ;obtain⟨ag,v1,q1,q2,q3,q4⟩:=id hQ;obtain⟨q',c',Lz,OK,U2,BL,eh,OS⟩:=q1.q.at_ (by show 0<W.length;omega);rw[q2,hv]at Lz;injection Lz with a1 a2 a3;injection a1 with a1;injection a1 with a1;subst a1;subst a3;clear a2;have Uu:n<=c:=by have e:(lN R k n W).waits.length=n:=Mq;rw[e]at OK;exact OK
    replace vS:=zH vS;replace cx:=zH cx;clear q1;go_wp2_with fail;have Qj:c≠i':=by omega
    have UF:(W.flatMap sZ).length=W.length*3:=eO (f:=sZ) (k:=3) (fun _=>rfl) W;rw[nk wr 98 167 0 _ underlying98 EW (fun u hu=>by simp[Value.cells]at hu;rcases hu with rfl|rfl|rfl <;> rfl) q (i' * 3) (n-i') (c-i') (by omega) (fun s hs=>by
      rw[E5]at hs;have aU:i' * 3+s<(W.flatMap sZ).length:=by rw[UF,Mq];omega
      rw[eh (i' * 3+s) _ (List.getElem?_eq_getElem aU)];rfl) (fun s _=>OS _) (E6 _)]
    have hD:vl aa b w g R k v (some ⟨q,0,none⟩) c (.returned (.slice (some ⟨q,0,none⟩) i' c)) (wr.setCells q (i' * 3) (Builtin.zeroCells (Value.agg #[.int .i64 0,.int .i64 0,.int .i64 0]).cells (n-i')).toList):=by
     refine⟨W,wr,c,by rw[<-vS.out],?_,by rw[Mq,hn.out],by rw[<-vS.out];exact RQ,rfl,.inr ⟨q,_,_,rfl,by rw[<-vS.out];exact Nat.le_refl _,rfl⟩⟩;have e:lN R k n W={R with waits:=W,out:={R.out with reads:=R.out.reads++fb k R.waits}}:=by unfold lN;rw[cx.out]
     rw[e]at hQ;exact hQ
    replace hD:=zH hD;clear hQ eh;go_wp2_with fail;go_ret;exact hD.out
end
end
section
open Go.MapKept
theorem rl:∀(W:List Wt) (m:Nat),(W.flatMap sZ).take (m*3)=(W.take m).flatMap sZ
 | _,0=>by simp
 | [],m+1=>by simp
 | x::W,m+1=>by
  rw[List.flatMap_cons,List.take_succ_cons,List.flatMap_cons,<-rl W m,show(m+1)*3=3+m*3 by omega,List.take_append];rw[List.take_of_length_le (show(sZ x).length<=3+m*3 by show 3<=_;omega)];congr 2;show 3+m*3-3=m*3;omega
def Ct(p1 p2:Addr)(u1 u2:Value):Type:={W:World // W.cell? p1=some u1/\W.cell? p2=some u2}
def FF(p1 p2:Addr)(u1 u2:Value):World->Prop:=fun W=>∃x:Ct p1 p2 u1 u2,W=x.1
attribute [go_sem] FF
theorem rh{p1 p2:Addr}{u1 u2:Value}{W:World}(h1:W.cell? p1=some u1)(h2:W.cell? p2=some u2):FF p1 p2 u1 u2 W:=⟨⟨W,h1,h2⟩,rfl⟩
section
variable {aa:Nat->Nat}{b g:Nat}{w:World}{R:Rf}{v:Rw}
theorem H7(R:Rf):R.reads={R with waits:=dE R.readsTo R.waits,out:={R.out with reads:=R.out.reads++fb R.readsTo R.waits}}:=rfl
theorem Es{K M:Nat}(h:ax aa b w g R v)(hk:Ok K M R)(hr:R.role=3)(hM:M<=80000) :
  Calls prog 61 #[.pointer (some ⟨g,0,none⟩)] w fun e w'=>e=.returned (.tuple #[])/\ap aa b w g R.reads w':=by
 have cW:=h.s.lt;have nA:=(hk.ld hr).1;have pI:=hk.id.2.2;have aI:Below w.heap.size w (w.alloc (.cells #[.pointer (some ⟨g,0,none⟩)] 32)):=zb.alloc zl _;have bM:=ao.new w 32 #[.pointer (some ⟨g,0,none⟩)];obtain⟨w1,ct⟩:=zN (w.alloc (.cells #[.pointer (some ⟨g,0,none⟩)] 32));rw[ct]at aI bM;have h1:=h.below aI;have y0:=bM.cell 0;simp only[Zx]at y0;obtain⟨c1,c5,-⟩:=h1.s.cs [1,5];simp only[bV,vi,Zx]at c1 c5;have iM:g<w1.heap.size:=h1.s.lt;obtain⟨k0,k1,k5⟩:=tT [g,w.heap.size] y0 c1 c5;have dA:∀q∈[g,w.heap.size],q<w1.heap.size:=by simp;exact⟨iM,bM.lt⟩
 obtain⟨kk,CG⟩:=zN (R.readsTo);have DR:=zH (show ∀W,Below w1.heap.size w1 W->_ from fun W hb=>rR R.round (h1.below hb) nA pI);replace ct:=zH ct;have hH:=zH h;clear h;go_enter func61,ntmps61;go_wp2_with fail;rw[ct.out]
 go_cut [2] (fun s2 wr=>∃p2:Nat,s2=.pointer (some ⟨p2,0,none⟩)/\Below w.heap.size w wr/\ao wr w.heap.size 32 #[.pointer (some ⟨g,0,none⟩)]/\ao wr p2 3 #[.int .i64 kk]/\w.heap.size<p2)
 case first=>
  refine Sq [g,w.heap.size] w1 (.two [0,1,2,3,4,5,6,7,8,9] 10 12 (.two [] 11 12 (.one [] 12 (.one [] 13 (.last []))) (.one [] 11 (.one [] 13 (.last [])))) (.one [] 10 (.one [] 11 (.one [] 13 (.last []))))) ?_;have pK:w.heap.size<w1.heap.size:=bM.lt;refine ie fun K1 K2 cQ iu=>?_
  simp only[ah,Zx];repeat go_big_quiet_step(fail)
  apply wpQuiet_nil;constructor
  ·go_wp2_with fail;refine(DR.out _ (zb.drew)).mono ?_;rintro e w2 ⟨A2,c2,rfl,cw,bQ⟩;go_wp2_with fail;have ef:Below w1.heap.size w1 w2:=(zb.drew).trans bQ;refine⟨av dA ef,cQ _ _ ?_⟩;have gw:=ko (R.n:Int) A2 R.n c2 _ w2 (fv.of_own cw);rw[show eL R.n (R.matchL R.round Pr.round)=kk from CG]at gw;refine ie fun K3 K4 jY ro=>?_
   simp only[ah,Zx];repeat go_big_quiet_step(fail)
   apply wpQuiet_nil;constructor
   ·go_wp2_with fail;refine gw.mono ?_;rintro e w3 ⟨rfl,bN⟩;clear gw;go_wp2_with fail;have gl:=ab ef bN zl;refine⟨av dA gl,jY _ _ ?_⟩;refine bF fun K5 vE=>?_
    simp only[ah,Zx];apply wpQuiet_nil;go_wp2_with fail;have jZ:Below w3.heap.size w3 (w3.alloc (.cells #[.int .i64 0] 3)):=zb.alloc zl _;have gT:=ab gl jZ zl;have QT:=ao.new w3 3 #[.int .i64 0];have mU:=gl.size;refine⟨av dA gT,vE _ _ ?_⟩;generalize fV:w3.alloc (.cells #[.int .i64 0] 3)=w4 at *;have jS:ao w4 (w3.heap.size) 3 #[.int .i64 0]:=QT;have eF:Below w.heap.size w w4:=ab aI gT zl;have lm:=bM.kept gT;have z0:=jS.cell 0;simp only[Zx]at z0;have f0:=jS.free 0;have Rv:=jS.lt;refine bF fun K6 vF=>?_
    simp only[ah,Zx];apply wpQuiet_nil;go_wp2_with fail;refine⟨gV (av dA gT) (fun q hq=>by have:=dA q hq;omega) (fun q hq=>Nat.lt_of_lt_of_le (dA q hq) gT.size),vF _ _ ?_⟩;refine dx ?_;simp only[ah];apply wpQuiet_nil;go_wp2_with fail
    go_meet
    exact⟨_,rfl,eF.setCell (by dsimp only;omega) _,((Fr.set (w3.heap.size) 0 _).block w.heap.size lm.lt (by omega)).trans lm,by simpa using jS.set_ 0 (.int .i64 kk),by omega⟩
   ·go_wp2_with fail;have jZ:Below w2.heap.size w2 (w2.alloc (.cells #[.int .i64 0] 3)):=zb.alloc zl _;have gl:=ab ef jZ zl;have QT:=ao.new w2 3 #[.int .i64 0];have mU:=ef.size;refine⟨av dA gl,ro _ _ ?_⟩;have gw:=ko (R.n:Int) A2 R.n c2 _ (w2.alloc (.cells #[.int .i64 0] 3)) (fv.of_own (bf cw jZ));rw[show eL R.n (R.matchL R.round Pr.round)=kk from CG]at gw;generalize jm:w2.alloc (.cells #[.int .i64 0] 3)=w3 at *;refine bF fun K5 vE=>?_
    simp only[ah,Zx];apply wpQuiet_nil;go_wp2_with fail;refine gw.mono ?_;rintro e w4 ⟨rfl,cO⟩;clear gw;go_wp2_with fail;have gT:=ab gl cO zl;have M2:=QT.kept cO;refine⟨av dA gT,vE _ _ ?_⟩;have jS:ao w4 (w2.heap.size) 3 #[.int .i64 0]:=M2;have eF:Below w.heap.size w w4:=ab aI gT zl;have lm:=bM.kept gT;have z0:=jS.cell 0;simp only[Zx]at z0;have f0:=jS.free 0;have Rv:=jS.lt;refine bF fun K6 vF=>?_
    simp only[ah,Zx];apply wpQuiet_nil;go_wp2_with fail;refine⟨gV (av dA gT) (fun q hq=>by have:=dA q hq;omega) (fun q hq=>Nat.lt_of_lt_of_le (dA q hq) gT.size),vF _ _ ?_⟩;refine dx ?_;simp only[ah];apply wpQuiet_nil;go_wp2_with fail
    go_meet
    exact⟨_,rfl,eF.setCell (by dsimp only;omega) _,((Fr.set (w2.heap.size) 0 _).block w.heap.size lm.lt (by omega)).trans lm,by simpa using jS.set_ 0 (.int .i64 kk),by omega⟩
  ·go_wp2_with fail;have jZ:Below w1.heap.size w1 ((w1.alloc (.cells #[.int .i64 0] 3)).drew):=((Below.refl w1.heap.size w1).alloc zl _).drew;have QT:ao ((w1.alloc (.cells #[.int .i64 0] 3)).drew) w1.heap.size 3 #[.int .i64 0]:=ao.new w1 3 #[.int .i64 0];refine⟨av dA jZ,iu _ _ ?_⟩;have tG:=DR.out _ jZ;generalize cZ:(w1.alloc (.cells #[.int .i64 0] 3)).drew=w2 at *;refine bF fun K3 jY=>?_
   simp only[ah,Zx];apply wpQuiet_nil;go_wp2_with fail;refine tG.mono ?_;rintro e w3 ⟨A2,c2,rfl,cw,bN⟩;clear tG;go_wp2_with fail;have gl:=ab jZ bN zl;refine⟨av dA gl,jY _ _ ?_⟩;have gw:=ko (R.n:Int) A2 R.n c2 _ w3 (fv.of_own cw);rw[show eL R.n (R.matchL R.round Pr.round)=kk from CG]at gw;refine bF fun K5 vE=>?_
   simp only[ah,Zx];apply wpQuiet_nil;go_wp2_with fail;refine gw.mono ?_;rintro e w4 ⟨rfl,cO⟩;clear gw;go_wp2_with fail;have gT:=ab gl cO zl;have M2:=(QT.kept bN).kept cO;have mU:w1.heap.size<=w1.heap.size:=Nat.le_refl _;refine⟨av dA gT,vE _ _ ?_⟩;have jS:ao w4 (w1.heap.size) 3 #[.int .i64 0]:=M2;have eF:Below w.heap.size w w4:=ab aI gT zl;have lm:=bM.kept gT;have z0:=jS.cell 0;simp only[Zx]at z0;have f0:=jS.free 0;have Rv:=jS.lt;refine bF fun K6 vF=>?_
   simp only[ah,Zx];apply wpQuiet_nil;go_wp2_with fail;refine⟨gV (av dA gT) (fun q hq=>by have:=dA q hq;omega) (fun q hq=>Nat.lt_of_lt_of_le (dA q hq) gT.size),vF _ _ ?_⟩;refine dx ?_;simp only[ah];apply wpQuiet_nil;go_wp2_with fail
   go_meet
   exact⟨_,rfl,eF.setCell (by dsimp only;omega) _,((Fr.set (w1.heap.size) 0 _).block w.heap.size lm.lt (by omega)).trans lm,by simpa using jS.set_ 0 (.int .i64 kk),by omega⟩
 case rest=>
  obtain⟨p2,rfl,oa,vT,tF,ZL⟩:=hcut
  rename World=>wc
  clear y0 c1 c5 k0 k1 k5 dA DR iM bM aI h1;have hc:=hH.out.fresh oa;obtain⟨A,c,hv,_⟩:=id hc.q;obtain⟨n,hn⟩:=zN (R.waits.length);rw[hn]at hv;have fL:=hk.ws;rw[hn]at fL;have d2:wc.cell? ⟨g,2,none⟩=some (.slice A n c):=by
   have:=hc.s.cell 2;simp only[bV,Zx]at this;rw[this,hv]
  have jo:wc.cell? ⟨w.heap.size,0,none⟩=some (.pointer (some ⟨g,0,none⟩)):=by
   have:=vT.cell 0;simp only[List.getElem?_toArray,List.getElem?_cons_zero]at this;exact this
  have Xp:g<wc.heap.size:=hc.s.lt;have Gr:=vx kk w.heap.size p2 n c A (hc.below (w':=wc.drew) (zb.drew)) vT tF (az zl) (az (Nat.le_of_lt ZL)) (by have:=hk.rs;omega) hv hn.symm (by omega);have fe:Nonempty (Ct ⟨g,2,none⟩ ⟨w.heap.size,0,none⟩ (.slice A n c) (.pointer (some ⟨g,0,none⟩))):=⟨⟨wc,d2,jo⟩⟩;have q1:∀x:Ct ⟨g,2,none⟩ ⟨w.heap.size,0,none⟩ (.slice A n c) (.pointer (some ⟨g,0,none⟩)),x.1.cell? ⟨g,2,none⟩=some (.slice A n c):=fun x=>x.2.1
  have q2:∀x:Ct ⟨g,2,none⟩ ⟨w.heap.size,0,none⟩ (.slice A n c) (.pointer (some ⟨g,0,none⟩)),x.1.cell? ⟨w.heap.size,0,none⟩=some (.pointer (some ⟨g,0,none⟩)):=fun x=>x.2.2
  replace hn:=zH hn;go_wp2_with fail;refine bU (C:=FF ⟨g,2,none⟩ ⟨w.heap.size,0,none⟩ (.slice A n c) (.pointer (some ⟨g,0,none⟩))) [([0,1,2,3,4,5],6),([],7)] ([8,9,10],11) (by kernel_rfl) (by kernel_rfl) (fun _ _ _ _ e h=>⟨e.symm.trans h.1,h.2⟩) (rh d2 jo) ?_;refine aq fun K7 Yz=>?_
  simp only[ah,Zx];repeat go_big_quiet_step(fail)
  apply wpQuiet_nil;go_wp2_with fail;refine⟨rh (W:=wc.drew) d2 jo,Yz _ _ ?_⟩;refine aq fun K8 ID=>?_
  simp only[ah,Zx];apply wpQuiet_nil;go_wp2_with fail;refine Gr.mono ?_;rintro e w6 ⟨W,w5,c',rfl,⟨dU,v5,h5,e5,l5,F5⟩,Mq,T5,rfl,hw⟩;obtain⟨m,hm⟩:=zN ((dE kk R.waits).length);rw[hm]at T5 hw;obtain⟨A0,c0,e0,dq,oY⟩:=id h5.q;have jl:g<w5.heap.size:=h5.s.lt;have Pv:ao w5 w.heap.size 32 #[.pointer (some ⟨g,0,none⟩)]:=(F5.block w.heap.size vT.lt fun hh=>by
   rw[az zl]at hh;omega).trans vT
  have dK:v5.waits=.slice A n c':=e5.trans hv;have hWn:W.length=n:=Mq.trans hn.out;have Rg:m<=n:=by rw[<-hm,<-hn.out];exact uS _ _
  rw[dK]at e0;injection e0 with a1 a2 a3;subst a1;subst a3;have Jg:Fr (fun j=>dU j=b+4) w5 w6:=by
   rcases hw with rfl|⟨q,zs,o,hA,_,rfl⟩
   ·exact Fr.refl _ _
   ·exact(pE q zs o w5).mono fun j e=>by rw[e];exact oY q ⟨_,hA,rfl⟩
  have Q3:dU g≠b+4:=by have:=h5.sl;omega
  have UZ:dU w.heap.size≠b+4:=by rw[l5 w.heap.size vT.lt,az zl];omega
  have mN:ao w6 g 107 (bV {R with waits:=W,out:={R.out with reads:=R.out.reads++fb kk R.waits}} v5):=(Jg.block g jl Q3).trans h5.s;have E9:ao w6 w.heap.size 32 #[.pointer (some ⟨g,0,none⟩)]:=(Jg.block w.heap.size Pv.lt UZ).trans Pv;have d6:w6.cell? ⟨g,2,none⟩=some (.slice A n c'):=by
   have:=mN.cell 2;simp only[bV,Zx]at this;rw[this,dK]
  have b6:w6.cell? ⟨w.heap.size,0,none⟩=some (.pointer (some ⟨g,0,none⟩)):=by
   have:=E9.cell 0;simp only[List.getElem?_toArray,List.getElem?_cons_zero]at this;exact this
  have f6:=mN.free 2;have ln:=mN.lt;have aE:ap aa b w g R.reads (w6.setCell ⟨g,2,none⟩ (.slice A m c')):=by
   have fh:=Fr.set (w:=w6) g 2 (.slice A m c');have DB:=mN.set_ 2 (.slice A m c');simp only[bV,Zy]at DB;have PB:Fr (fun j=>j=g\/∃i,i∈[4]/\dU j=b+i) w5 (w6.setCell ⟨g,2,none⟩ (.slice A m c')):=(Jg.mono (X':=fun j=>j=g\/∃i,i∈[4]/\dU j=b+i) fun j e=>.inr ⟨4,by simp,e⟩).trans fh fun j e=>.inl (.inl e)
   have h7:ax dU b (w6.setCell ⟨g,2,none⟩ (.slice A m c')) g R.reads {v5 with waits:=.slice A m c'}:=by
    rw[H7,CG];refine h5.turn [4] DB (fun _ _ _ _ _ _ e=>e) (by simp) PB tI tI (.inl ?_) tI tI tI tI tI tI tI tI;show bR dU (b+4) _ _ 3 (.slice A m c') (dE kk R.waits).length ((dE kk R.waits).flatMap sZ);rw[hm];rcases dq.2 with⟨e1,e2⟩|⟨q,cap,cur,e1,_⟩
    ·injection e1 with b1 _ b3;subst b1;subst b3;have Na:m=0:=by have e2:W.length=0:=e2;omega
     have ZX:dE kk R.waits=[]:=List.eq_nil_of_length_eq_zero (by rw[hm,Na]);rw[ZX,Na];exact bR.nil _ _ _ _ _
    ·injection e1 with b1 _ _;subst b1;have ht:=uL dq (k:=m) (show m<=W.length by omega);have Y4:(W.flatMap sZ).take (m*3)=(dE kk R.waits).flatMap sZ:=by
      rw[<-T5];exact rl W m
     change w5.ownsRow 0 _ 3 (.slice (some ⟨q,0,none⟩) m c') m ((W.flatMap sZ).take (m*3))at ht;rw[Y4]at ht;have h6:w6.ownsRow 0 167 3 (.slice (some ⟨q,0,none⟩) m c') m ((dE kk R.waits).flatMap sZ):=by
      rcases hw with rfl|⟨q',zs,o,hA,ho,rfl⟩
      ·exact ht
      ·injection hA with hA;injection hA with hA;subst hA;exact gZ zs o w5 ho ht
     refine⟨some ⟨q,0,none⟩,c',rfl,cN h6 fun j hj hl=>fh.block j hl fun e=>?_,oY⟩;have:=oY j hj;rw[e]at this;exact Q3 this
   have nv:ap dU b w5 g R.reads (w6.setCell ⟨g,2,none⟩ (.slice A m c')):=⟨dU,_,h7,fun _ _ _=>rfl,fun _ _ h=>h,PB.mono fun j hj=>by
    rcases hj with rfl|⟨i,hi,e⟩
    ·have:=h5.sl;exact⟨by omega,by omega⟩
    ·have:i=4:=by simpa using hi
     exact⟨by omega,by omega⟩⟩
   have KH:ap (aj aa w.heap.size b) b wc.drew g R.reads (w6.setCell ⟨g,2,none⟩ (.slice A m c')):=nv.next (fun j hj _=>l5 j hj) (fun j hj hx=>by unfold aS at hx ⊢;rw[l5 j hj];exact hx) (F5.mono fun j hj=>by
    have:=hc.sl;rcases hj with rfl|hj|hj
    ·exact⟨by omega,by omega⟩
    ·exact⟨by omega,by omega⟩
    ·exact⟨by omega,by omega⟩)
   exact(KH.behind (w:=wc) (zb.drew)).fresh oa
  replace aE:=zH aE;clear Gr h5 e5 l5 F5 T5 hw dq oY Jg mN E9 Pv a2;go_wp2_with fail;refine⟨rh d6 b6,ID _ _ ?_⟩;refine aC ?_;simp only[ah,Zx];repeat go_big_quiet_step(fail)
  apply wpQuiet_nil;go_wp2_with fail;exact am rfl rfl ⟨rfl,aE.out⟩
end
end
section
variable {K M:Nat}{R:Rf}
theorem Ok.turn_out(h:Ok K M R){R':Rf}(e1:R'.id=R.id)(e2:R'.n=R.n)(e3:R'.hard.term=R.hard.term)(e4:R'.track=R.track)(e5:R'.commit=R.commit)(e6:R'.snap=R.snap)(e7:R'.gath=R.gath)(e8:R'.waits=R.waits)(e9:R'.yes=R.yes)(e10:R'.role=R.role)(e11:R'.peers=R.peers)
  (hc:0<=R'.clock/\R'.clock<=K/\0<=R'.round/\R'.round<=K) (h1:R'.out.msgs=R.out.msgs) (h2:R'.out.entries=R.out.entries) (h3:R'.out.commits=R.out.commits) (h4:R'.out.reads=R.out.reads):Ok K M R' where
 id:=by rw[e1,e2];exact h.id
 tm:=by rw[e3];exact h.tm
 tr:=by rw[e4];exact h.tr
 cm:=by rw[e5];exact h.cm
 dat:=by rw[e6];exact h.dat
 dat0:=by rw[e4,e6];exact h.dat0
 gat:=by rw[e7];exact h.gat
 trk:=by rw[e4];exact h.trk
 ws:=by rw[e8];exact h.ws
 yl:=by rw[e9];exact h.yl
 ck:=hc
 ms:=by rw[h1];exact h.ms
 es:=by rw[h2];exact h.es
 cs:=by rw[h3];exact h.cs
 rs:=by rw[h4];exact h.rs
 ys:=by rw[e10,e9];exact h.ys
 ld:=by rw[e10,e11,e2,e6];exact h.ld
theorem Ok.asked(h:Ok K M R)(m:Mg):Ok K (M+1) (R.asked m):=by
 unfold Rf.asked;split
 ·exact h.send _
 ·exact h.send _
theorem Ok.votes(h:Ok K M R)(m:Mg):Ok K (M+1) (R.votes m):=by
 unfold Rf.votes;split
 ·refine Ok.send ?_ _;exact h.turn_out rfl rfl rfl rfl rfl rfl rfl rfl rfl rfl rfl ⟨Int.le_refl 0,Int.natCast_nonneg _,h.ck.2.2.1,h.ck.2.2.2⟩ rfl rfl rfl rfl
 ·exact h.send _
theorem Ok.follows(h:Ok K M R){t:Int}(h0:0<=t)(h1:t<=1099511627776):Ok K M (R.follows t):=
 {h with
  tm:=⟨h0,h1⟩
  ws:=Nat.zero_le _
  ys:=fun e=>by rcases e with e|e <;> cases e
  ld:=fun e=>by cases e}
theorem Ok.trackTo(h:Ok K M R){t:bD}{K':Nat}(hK:K<=K')(hi:t.Inv)(hx:t.index=R.track.index)(hl:t.L.length<=K'):Ok K' M {R with track:=t}:=
 {h.mono hK (Nat.le_refl M)with
  tr:=hi
  dat0:=fun e=>h.dat0 (by have e:0<t.index:=e;rw[hx]at e;exact e)
  trk:=hl}
theorem Ok.appends(h:Ok K M R){m:Mg}(he:m.entries.length<=6)(hc:m.commit<=1099511627776):Ok (K+6) (M+K+20) (R.appends m):=by
 unfold Rf.appends;split
 ·exact(h.send _).mono (by omega) (by omega)
 ·simp only;split
  ·exact(h.send _).mono (by omega) (by omega)
  ·have hf:=eJ R.track m.idx m.logTerm m.entries;have h1:Ok (K+6) M {R with track:=(R.track.takeF m.idx m.logTerm m.entries).2}:=h.trackTo (by omega) (h.tr.takeF _ _ _) hf.1 (by have:=hf.2.1;have:=h.trk;omega);have h2:Ok (K+6) (M+6) (if 0<(R.track.takeF m.idx m.logTerm m.entries).1.1 then({R with track:=(R.track.takeF m.idx m.logTerm m.entries).2}:Rf).save ((R.track.takeF m.idx m.logTerm m.entries).2.sliceF (R.track.takeF m.idx m.logTerm m.entries).1.1 m.entries.length)else {R with track:=(R.track.takeF m.idx m.logTerm m.entries).2}):=by
    split
    ·refine(h1.save _).mono zl ?_;have:((R.track.takeF m.idx m.logTerm m.entries).2.sliceF (R.track.takeF m.idx m.logTerm m.entries).1.1 m.entries.length).length<=m.entries.length:=by
      unfold bD.sliceF;split
      ·exact Nat.zero_le _
      ·rw[List.length_take];omega
     omega
    ·exact h1.mono zl (by omega)
   exact((h2.commits (k:=min m.commit (m.idx+m.entries.length)) (by omega)).send _).mono zl (by omega)
theorem Ok.install(h:Ok K M R)(hr:R.role≠3){x:tU}(hi:1<=x.idx/\x.idx<=1099511627776)(ht:1<=x.term/\x.term<=1099511627776)(hd:0<x.data.length/\x.data.length<=65536):Ok K M (R.install x):=by
 have key:∀(t:bD) (rs:Bool),t.Inv->t.L.length<=K->Ok K M (rO {R with track:=t,out:={R.out with reset:=rs}} x):=fun t rs h1 h2=>
  {h with
   tr:=h1
   cm:=⟨by show 0<=x.idx;omega,hi.2⟩
   dat:=hd.2
   dat0:=fun _=>hd.1
   gat:=Nat.zero_le _
   trk:=h2
   ld:=fun e=>absurd e hr}
 rw[nE];split
 ·exact key (R.track.dropF x.idx).2 R.out.reset (h.tr.dropF _) (by
   have:=h.trk;unfold bD.dropF;split
   ·exact this
   ·split
    ·exact this
    ·show(R.track.L.drop _).length<=K;rw[List.length_drop];omega)
 ·exact key ⟨x.idx,x.term,[]⟩ true ⟨.inr ⟨hi.1,hi.2,ht.1,ht.2⟩,fun i y hy=>by(simp at hy),fun y hy=>by(simp at hy),fun i y hy=>by(simp at hy)⟩ zz
theorem Ok.piece(h:Ok K M R)(hr:R.role≠3){m:Mg}(hi:0<=m.idx/\m.idx<=1099511627776)(ht:0<=m.logTerm/\m.logTerm<=1099511627776):Ok K (M+1) (R.piece m):=by
 unfold Rf.piece;by_cases hc:m.idx=0\/m.logTerm=0\/¬(1<=m.total/\m.total<=65536)
 ·rw[if_pos hc];exact h.mono zl (Nat.le_succ M)
 ·rw[if_neg hc];split
  ·exact h.send _
  ·have hT:1<=m.total/\m.total<=65536:=by
    by_cases hh:1<=m.total/\m.total<=65536
    ·exact hh
    ·exact absurd (.inr (.inr hh)) hc
   have hg:Ok K M ({R with gath:=R.gath1 m}:Rf):={h with gat:=oW h.gat hT.2};simp only;split
   ·exact hg.send _
   ·rename_i hl;refine Ok.send ?_ _;have h1:m.idx≠0:=fun e=>hc (.inl e)
    have h2:m.logTerm≠0:=fun e=>hc (.inr (.inl e))
    exact hg.install hr ⟨by show 1<=m.idx;omega,hi.2⟩ ⟨by show 1<=m.logTerm;omega,ht.2⟩ ⟨by show 0<(R.gath1 m).data.length;omega,oW h.gat hT.2⟩
theorem Ok.answered(h:Ok K M R)(hr:R.role=3){m:Mg}{s:Nat}(hf:m.frm=(s:Int))(hs:s<=R.n)(hi:0<=m.idx/\m.idx<=1099511627776)(ho:0<=m.offset):Ok K (M+K+1) (R.answered m):=by
 obtain⟨h1,h2,h3,h4⟩:=h.peer hr hs;rw[lI h1 hf];have hP:zr R (oR R s m):=⟨h2,h3,h4⟩;split
 ·split
  ·exact((h.setPeer s (p:={oR R s m with offset:=min m.offset R.snap.data.length}) ⟨h2,h3,by show 0<=min _ _;omega,by show min _ _<=_;omega⟩).lacks s).mono zl (by omega)
  ·exact(h.setPeer s hP).mono zl (by omega)
 ·split
  ·exact((h.setPeer s (p:={oR R s m with next:=max ((R.peer s).mat+1) (min ((R.peer s).next-1) (m.idx+1))}) ⟨h2,by show 1<=max _ _/\max _ _<=_;omega,h4⟩).lacks s).mono zl (by omega)
  ·exact(h.setPeer s hP).has hr hs m.idx
theorem Ok.does(h:Ok K M R)(hK:1<=K){m:Mg}(hm:xE R m):Ok (K+10) (M+K+60) (R.does m):=by
 unfold Rf.does;split
 ·exact(h.asked m).mono (by omega) (by omega)
 split
 ·split
  ·rename_i hc;split
   ·exact((h.says m.frm).stands (by show R.hard.term<_;have:=hc.2.1;have:=hm.term;omega)).mono (by omega) (by omega)
   ·exact(h.says m.frm).mono (by omega) (by omega)
  ·exact h.mono (by omega) (by omega)
 split
 ·exact(h.votes m).mono (by omega) (by omega)
 split
 ·split
  ·split
   ·exact((h.says m.frm).leads (by omega)).mono (by omega) (by omega)
   ·exact(h.says m.frm).mono (by omega) (by omega)
  ·exact h.mono (by omega) (by omega)
 split
 ·split
  ·exact((h.hears m).appends hm.el hm.cmt.2).mono (by omega) (by omega)
  ·exact h.mono (by omega) (by omega)
 split
 ·split
  ·exact((h.hears m).piece (show(0:Int)≠3 by omega) hm.idx hm.lgt).mono (by omega) (by omega)
  ·exact h.mono (by omega) (by omega)
 split
 ·exact h.mono (by omega) (by omega)
 split
 ·rename_i hr;exact(h.answered hr (s:=m.frm.toNat) (by have:=hm.frm;omega) (by have:=hm.frm;omega) hm.idx hm.off.1).mono (by omega) (by omega)
 ·exact h.mono (by omega) (by omega)
end
section
open Go.MapKept
section
variable {aa:Nat->Nat}{b g n c c':Nat}{w w5:World}{R:Rf}{v:Rw}{A A':Option Addr}
theorem ap.facts{R':Rf}{w':World}{vy:Value}{fs:List Fa}(h:ap aa b w g R' w')(hf:aG (aM aa (b+13)) w vy fs):∃(ak:Nat->Nat) (v':Rw),ax ak b w' g R' v'/\(∀j,j<w.heap.size->¬aS aa b j->ak j=aa j)/\(∀j,j<w.heap.size->aS aa b j->aS ak b j)/\Fr (aS aa b) w w'/\aG (aM ak (b+13)) w' vy fs:=by
 obtain⟨ak,v',h1,h2,h3,h4⟩:=h;have hn:∀j,aM aa (b+13) j->¬aS aa b j:=fun j e hm=>by
  have e:aa j=b+13:=e;unfold aS at hm;omega
 refine⟨ak,v',h1,h2,h3,h4,(hf.mono (S':=aM ak (b+13)) fun j hj e=>(h2 j hj (hn j e)).trans e).keep fun j hj hl=>h4.block j hl fun hm=>?_⟩;have e:ak j=b+13:=hj;have:=(h3 j hl hm).2;omega
end
end
section
open Go.MapKept
section
variable {aa:Nat->Nat}{b g i j N mi:Nat}{w w' wX w2:World}{R R1:Rf}{v:Rw}{O:Ot}{X:Ox}
theorem vg{ag:Nat->Nat}(h:dI ag b i wX g O R1 X w')(hj:j<wX.heap.size)(hl:ag j=b)(hk:ao wX j 49 bL)(lS:i≠b)(h2:∀j,j<w.heap.size->¬aS aa b j->ag j=aa j)(h3:∀j,j<w.heap.size->aS aa b j->aS ag b j)(h4:Fr (aS aa b) w wX)(hw:w.heap.size<=j) :
  ao w' j 49 bL/\ao (cE w' j O X) j 49 (be O X)/\dI aa b i w g O R1 X (cE w' j O X):=by
 obtain⟨ak,v',q1,q2,q3,q4,q5⟩:=h;have hn:¬bw ag b j:=fun hm=>by unfold bw at hm;omega
 have S0:¬aS ag b j:=fun hm=>by unfold aS at hm;omega
 have U1:ak j=b:=(q3 j hj hn).trans hl;have eY:ao w' j 49 bL:=(q5.block j hj S0).trans hk;have hF:=kS w' j O X;obtain⟨bs,v2,r1,r2,r3,r4,r5⟩:dI aa b i w g O R1 X w':=dI.next (ag:=ag) (w1:=wX) ⟨ak,v',q1,q2,q3,q4,q5⟩ h2 h3 h4;refine⟨eY,oF O X eY,?_⟩;have O4:=h4.size;refine⟨ak,v',q1.keep fun k hk hl=>hF.block k hl fun e=>?_,q2.keep fun k hk hl=>hF.block k hl fun e=>lS ?_,fun k hk hm=>?_,fun k hk hm=>q4 k (by omega) ?_,r5.trans hF fun k e=>.inr (by omega)⟩
 ·unfold bw at hk;rw[e,U1]at hk;omega
 ·rw[<-hk,e];exact U1
 ·have e:=h2 k hk fun h=>hm ⟨h.1,by have:=h.2;omega⟩
  rw[q3 k (by omega) fun h=>hm (by unfold bw at h ⊢;rw[e]at h;exact h)];exact e
 ·rcases Classical.em (aS aa b k)with h|h
  ·have:=h3 k hk h;exact⟨this.1,by have:=this.2;omega⟩
  ·unfold bw at hm ⊢;rw[h2 k hk h];exact hm
theorem cT.take(i:Nat)(h:cT aa b w g R1 N wX)(Lb:w.heap.size<=j)(Lc:j<w.heap.size+N)(hk:ao wX j 49 bL)(lS:i≠b) :
  Calls prog 52 #[.pointer (some ⟨g,0,none⟩)] wX fun e w'=>∃X,e=.returned (.agg (be R1.tell.1 X))/\ao w' j 49 bL/\ao (cE w' j R1.tell.1 X) j 49 (be R1.tell.1 X)/\dI aa b i w g R1.tell.1 R1.tell.2 X (cE w' j R1.tell.1 X):=by
 obtain⟨ag,v1,h1,h2,h3,h4,h5⟩:=h;refine(Im i h1).mono ?_;rintro e w' ⟨X,rfl,hT⟩;exact⟨X,rfl,vg hT (h5 j Lb Lc).1 (h5 j Lb Lc).2 hk lS h2 h3 h4 Lb⟩
theorem cT.zero(h:cT aa b w g R1 N wX)(Lb:w.heap.size<=j)(Lc:j<w.heap.size+N)(hk:ao wX j 49 bL)(lS:i≠b):ao (cE wX j gk pX) j 49 (be gk pX)/\dI aa b i w g gk R1 pX (cE wX j gk pX):=by
 obtain⟨ag,v1,h1,h2,h3,h4,h5⟩:=h;have hT:dI ag b i wX g gk R1 pX wX:=⟨ag,v1,h1,gq.zero _ _ _,fun _ _ _=>rfl,fun _ _ h=>.inl h,Fr.refl _ _⟩;exact(vg hT (h5 j Lb Lc).1 (h5 j Lb Lc).2 hk lS h2 h3 h4 Lb).2
theorem cT.msg2{x y:Value}{L:List En}{l:List UInt8}(h:cT aa b w g R1 N wX)(hm:mi<=b\/b+13<mi)(he:cP aa mi w x L)(hd:bP aa mi w y l) :
  ∃ag v1,ax ag b wX g R1 v1/\cP ag mi wX x L/\bP ag mi wX y l/\∀w' R2,ap ag b wX g R2 w'->cT aa b w g R2 N w'/\boxes w.heap.size N wX w':=by
 obtain⟨ag,v1,h1,h2,h3,h4,h5⟩:=h;have hn:∀j,aa j=mi->¬aS aa b j:=fun j e hx=>by unfold aS at hx;omega
 have hx:∀j,ag j=mi->j<w.heap.size->wX.heap[j]?=w.heap[j]?:=fun j hj ny=>h4.block j ny fun hx=>by
  have h6:=h3 j ny hx;unfold aS at h6;omega
 exact⟨ag,v1,h1,(he.relabel (ak:=ag) (k:=mi) fun j hl e=>(h2 j hl (hn j e)).trans e).keep hx,(hd.relabel (ak:=ag) (k:=mi) fun j hl e=>(h2 j hl (hn j e)).trans e).keep hx,fun w' R2 hP=>g9 h2 h3 h4 h5 hP⟩
def jQ(R:Rf)(m:Mg):Bool:=decide (R.hard.term<m.term/\m.kind≠1/\(m.kind≠2\/m.reject=true))
theorem wZ{R:Rf}{m:Mg}{x:Bool}(h:jQ R m=x) :
  (decide (R.hard.term<m.term)=false/\x=false)\/(R.hard.term<m.term/\(m.kind !=1)=false/\x=false)\/(R.hard.term<m.term/\(m.kind !=1)=true/\(m.kind !=2)=true/\x=true)\/(R.hard.term<m.term/\(m.kind !=1)=true/\(m.kind !=2)=false/\m.reject=x):=by
 subst h;unfold jQ;by_cases a:R.hard.term<m.term
 ·by_cases c:m.kind=1
  ·exact .inr (.inl ⟨a,by simp[c],by simp[c]⟩)
  ·by_cases d:m.kind=2
   ·refine .inr (.inr (.inr ⟨a,by simp[c],by simp[d],?_⟩));cases hr:m.reject <;> simp[a,c,d]
   ·exact .inr (.inr (.inl ⟨a,by simp[c],by simp[d],by simp[a,c,d]⟩))
 ·exact .inl ⟨decide_eq_false a,by simp[a]⟩
theorem oH{K M:Nat}(i:Nat)(m:Mg)(A1 A2:Option Addr)(n1 c1 n2 c2 mi:Nat)(h:ax aa b w g R v)(hk:Ok K M R)(cQ:1<=K)(hK:K<=8000)(hM:M<=10000)(lS:i≠b)(ut:mi<=b\/b+13<mi)(he:cP aa mi w (.slice A1 n1 c1) m.entries)(hd:bP aa mi w (.slice A2 n2 c2) m.data)
  (iU:n1=m.entries.length) (kJ:n2=m.data.length) :
  Calls prog 19 #[.pointer (some ⟨g,0,none⟩),eI m (.slice A1 n1 c1) (.slice A2 n2 c2)] w fun e w'=>∃X,e=.returned (.agg (be (R.step m).1 X))/\dI aa b i w g (R.step m).1 (R.step m).2 X w':=by
 have cW:=h.s.lt;obtain⟨aI,bM,gH⟩:=gE w 39 49 #[.int .i64 m.kind,.int .i64 m.frm,.int .i64 m.tgt,.int .i64 m.term,.int .i64 m.idx,.int .i64 m.logTerm,.int .i64 m.commit,.int .i64 m.round,.bool m.reject,.int .i64 m.offset,.int .i64 m.total,.slice A1 n1 c1,.slice A2 n2 c2] bL;obtain⟨w2,cZ⟩:=zN ((w.alloc (.cells #[.int .i64 m.kind,.int .i64 m.frm,.int .i64 m.tgt,.int .i64 m.term,.int .i64 m.idx,.int .i64 m.logTerm,.int .i64 m.commit,.int .i64 m.round,.bool m.reject,.int .i64 m.offset,.int .i64 m.total,.slice A1 n1 c1,.slice A2 n2 c2] 39)).alloc (.cells #[.bool false,.bool false,.int .i64 0,.int .i64 0,.slice none 0 0,.slice none 0 0,.pointer none,.slice none 0 0,.slice none 0 0] 49));rw[show(w.alloc (.cells #[.int .i64 m.kind,.int .i64 m.frm,.int .i64 m.tgt,.int .i64 m.term,.int .i64 m.idx,.int .i64 m.logTerm,.int .i64 m.commit,.int .i64 m.round,.bool m.reject,.int .i64 m.offset,.int .i64 m.total,.slice A1 n1 c1,.slice A2 n2 c2] 39)).alloc (.cells bL 49)=w2 from cZ]at aI bM gH;have hX:=cT.start (N:=2) h aI (by have:=gH.lt;omega);obtain⟨y0,y1,y2,y3,y4,y5,y6,y7,y8,y9,y10,y11,y12,-⟩:=bM.cs [0,1,2,3,4,5,6,7,8,9,10,11,12];simp only[Zx]at y0 y1 y2 y3 y4 y5 y6 y7 y8 y9 y10 y11 y12;obtain⟨bs,v2,h2,Ng⟩:=hX.raft;have xv:=Ev m A1 A2 n1 n2 c1 c2 iU kJ h2;unfold eI at xv ⊢;simp only[vi]at xv ⊢;have qA:g<w2.heap.size:=h2.s.lt;have jM:w.heap.size+1<w2.heap.size:=gH.lt;have lg:R.step m=if R.right m=false then(gk,R)else if m.term<(if jQ R m=true then R.follows m.term else R).hard.term/\m.kind≠1 then((if jQ R m=true then R.follows m.term else R).late m).tell else(if((if jQ R m=true then R.follows m.term else R).does m).role=3 then((if jQ R m=true then R.follows m.term else R).does m).reads else((if jQ R m=true then R.follows m.term else R).does m)).tell:=by
  have e:(if R.hard.term<m.term/\m.kind≠1/\(m.kind≠2\/m.reject=true)then R.follows m.term else R)=if jQ R m=true then R.follows m.term else R:=by
   unfold jQ;by_cases hc:R.hard.term<m.term/\m.kind≠1/\(m.kind≠2\/m.reject=true)
   ·rw[if_pos hc,if_pos (by simpa using hc)]
   ·rw[if_neg hc,if_neg (by simpa using hc)]
  unfold Rf.step;simp only;rw[e]
 replace cZ:=zH cZ;replace iU:=zH iU;replace kJ:=zH kJ;cases O3:R.right m
 ·rw[O3]at xv;have hS:R.step m=(gk,R):=by rw[lg,if_pos O3]
  replace hS:=zH hS;replace hk:=zH hk;clear lg h h2 he hd;go_enter func19,ntmps19;go_wp2_with fail;rw[cZ.out];try go_wp2_with fail
  refine xv.mono ?_;rintro e w3 ⟨rfl,bN⟩;obtain⟨rq,lm⟩:=hX.below bN;have JU:=gH.kept bN;obtain⟨td,jx⟩:=rq.zero (i:=i) (j:=w.heap.size+1) (by omega) (by omega) JU lS;obtain⟨z0,z1,z2,z3,z4,z5,z6,z7,z8,-⟩:=JU.cs [0,1,2,3,4,5,6,7,8];simp only[bL,vi,Zx]at z0 z1 z2 z3 z4 z5 z6 z7 z8;obtain⟨u0,u1,u2,u3,u4,u5,u6,u7,u8,-⟩:=JU.fs [0,1,2,3,4,5,6,7,8];replace jx:=zH jx;clear xv hX rq JU;go_wp2_with fail;show bodyPost _ _ _ _ _ (cE w3 (w.heap.size+1) gk pX);generalize cE w3 (w.heap.size+1) gk pX=w9 at *;obtain⟨r0,r1,r2,r3,r4,r5,r6,r7,r8,-⟩:=td.cs [0,1,2,3,4,5,6,7,8];simp only[be,vi,Zx]at r0 r1 r2 r3 r4 r5 r6 r7 r8;exact bodyPost_ret (v:=.agg (be gk pX)) (by simp[results,results19,go_sem,be,r0,r1,r2,r3,r4,r5,r6,r7,r8]) rfl ⟨pX,by rw[hS.out],by rw[hS.out];exact jx.out⟩
 ·rw[O3]at xv;have jp:=sx O3;rw[if_neg (by rw[O3];simp)]at lg;obtain⟨x,hx⟩:=zN (jQ R m);rw[hx]at lg;have qG:=hk.tm;replace hk:=zH hk;replace lg:=zH lg;clear h h2 O3;go_enter func19,ntmps19;go_wp2_with fail;rw[cZ.out];try go_wp2_with fail
  refine xv.mono ?_;rintro e w3 ⟨rfl,bN⟩;obtain⟨rq,lm⟩:=hX.below bN;have oZ:ao w3 w.heap.size 39 #[.int .i64 m.kind,.int .i64 m.frm,.int .i64 m.tgt,.int .i64 m.term,.int .i64 m.idx,.int .i64 m.logTerm,.int .i64 m.commit,.int .i64 m.round,.bool m.reject,.int .i64 m.offset,.int .i64 m.total,.slice A1 n1 c1,.slice A2 n2 c2]:=bM.kept bN;obtain⟨cJ,v3,h3,_⟩:=rq.raft;clear xv hX y0 y1 y2 y3 y4 y5 y6 y7 y8 y9 y10 y11 y12 Ng;obtain⟨y0,y3,y8,-⟩:=oZ.cs [0,3,8];simp only[Zx]at y0 y3 y8;have c6:=h3.s.cell 6;simp only[bV,vi,Zx]at c6;have iy:g<w3.heap.size:=h3.s.lt;obtain⟨k0,k3,k8,k6⟩:=IA [g,w.heap.size] y0 y3 y8 c6;have tB:=zH (rq.below (w':=w3.drew) (zb.drew)).1;clear h3 rq;go_wp2_with fail
  go_cut [31] (fun s31 wr=>s31=.bool x/\cT aa b w g R 2 wr/\boxes w.heap.size 2 w2 wr)
  case first=>
   have cB:=wZ hx;clear hx;rcases cB with⟨e1,rfl⟩|⟨e1,e2,rfl⟩|⟨e1,e2,e3,rfl⟩|⟨e1,e2,e3,rfl⟩
   ·skip
    refine eE [g,w.heap.size] w3 [] [0,1,2,3,4,5,6,7,8,9,10,11,12,13,14,15,16,17,18,19,20,21] ?_;refine al ?_;simp only[ah,Zx];repeat go_big_quiet_step(fail)
    apply wpQuiet_nil;go_wp2_with fail
    go_meet
    exact⟨rfl,tB.out,lm⟩
   ·skip
    refine eE [g,w.heap.size] w3 [] [0,1,2,3,4,5,6,7,8,9,10,11,12,13,14,15,16,17,18,19,20,21] ?_;refine al ?_;simp only[ah,Zx];repeat go_big_quiet_step(fail)
    apply wpQuiet_nil;go_wp2_with fail
    go_meet
    exact⟨rfl,tB.out,lm⟩
   ·skip
    refine eE [g,w.heap.size] w3 [] [0,1,2,3,4,5,6,7,8,9,10,11,12,13,14,15,16,17,18,19,20,21] ?_;refine al ?_;simp only[ah,Zx];repeat go_big_quiet_step(fail)
    apply wpQuiet_nil;go_wp2_with fail
    go_meet
    exact⟨rfl,tB.out,lm⟩
   ·skip
    refine eE [g,w.heap.size] w3 [] [0,1,2,3,4,5,6,7,8,9,10,11,12,13,14,15,16,17,18,19,20,21] ?_;refine al ?_;simp only[ah,Zx];repeat go_big_quiet_step(fail)
    apply wpQuiet_nil;go_wp2_with fail
    go_meet
    exact⟨rfl,tB.out,lm⟩
  case rest=>
   obtain⟨VB,vJ,oa⟩:=hcut;subst VB
   rename World=>wc
   clear y0 y3 y8 c6 k0 k3 k8 k6 tB oZ lm;have yH:ao wc w.heap.size 39 #[.int .i64 m.kind,.int .i64 m.frm,.int .i64 m.tgt,.int .i64 m.term,.int .i64 m.idx,.int .i64 m.logTerm,.int .i64 m.commit,.int .i64 m.round,.bool m.reject,.int .i64 m.offset,.int .i64 m.total,.slice A1 n1 c1,.slice A2 n2 c2]:=oa.blk zl (by omega) bM;have y3:=yH.cell 3;simp only[Zx]at y3;go_upto_if 31 with fail
   obtain⟨R1,iS⟩:=zN ((if x=true then R.follows m.term else R));have aD:=lg.out;rw[iS]at aD;have rD:Ok K M R1:=by
    rw[<-iS];split
    ·exact hk.out.follows (by have:=jp.term;omega) (by have:=jp.term;omega)
    ·exact hk.out
   have Nf:R1.n=R.n:=by rw[<-iS];split <;> rfl
   have BI:xE R1 m:=⟨jp.kind,by rw[Nf];exact jp.frm,jp.term,jp.idx,jp.lgt,jp.cmt,jp.rnd,jp.off,jp.tot,jp.el,jp.dl⟩;replace rD:=zH rD;replace aD:=zH aD
   go_cut [] (fun wr=>cT aa b w g R1 2 wr/\boxes w.heap.size 2 w2 wr)
   case first=>
    cases x
    ·have Mj:=zH (show R=R1 from iS);replace vJ:=zH vJ;clear iS;go_wp2_with fail
     go_meet
     exact⟨by rw[<-Mj.out];exact vJ.out,oa⟩
    ·have Mj:=zH (show R.follows m.term=R1 from iS);have hf:=vJ.act (fun ag v1 h=>ya m.term h);clear iS vJ;go_wp2_with fail;refine hf.mono ?_;rintro e w5 ⟨rfl,mO,cM⟩;clear hf;replace mO:=zH mO;go_wp2_with fail
     go_meet
     exact⟨by rw[<-Mj.out];exact mO.out,oa.trans cM⟩
   case rest=>
    rename World=>wd
    obtain⟨tB,qi⟩:=hcut;clear y3 yH oa vJ iS hx qG;have ur:ao wd w.heap.size 39 #[.int .i64 m.kind,.int .i64 m.frm,.int .i64 m.tgt,.int .i64 m.term,.int .i64 m.idx,.int .i64 m.logTerm,.int .i64 m.commit,.int .i64 m.round,.bool m.reject,.int .i64 m.offset,.int .i64 m.total,.slice A1 n1 c1,.slice A2 n2 c2]:=qi.blk zl (by omega) bM;have XG:ao wd (w.heap.size+1) 49 bL:=qi.blk (by omega) (by omega) gH;obtain⟨Kc,v4,h4,_⟩:=tB.raft;obtain⟨y0,y3,-⟩:=ur.cs [0,3];simp only[Zx]at y0 y3;have c6:=h4.s.cell 6;simp only[bV,vi,Zx]at c6;have lq:g<wd.heap.size:=h4.s.lt;obtain⟨k0,k3,k6⟩:=tT [g,w.heap.size] y0 y3 c6;have tC:=(tB.below (w':=wd.drew) (zb.drew)).1;clear h4;by_cases hL:m.term<R1.hard.term/\m.kind≠1
    ·have cD:=hL.1;have dG:(m.kind !=1)=true:=by simp[hL.2]
     have BO:=zH (aD.out.trans (if_pos hL));have aU:=tC.act (fun ag v1 h=>Hc m (.slice A1 n1 c1) (.slice A2 n2 c2) h (by have:=rD.out.ms;omega));unfold eI at aU;simp only[vi]at aU;obtain⟨a0,a1,a2,a3,a4,a5,a6,a7,a8,a9,a10,a11,a12,-⟩:=ur.cs [0,1,2,3,4,5,6,7,8,9,10,11,12];simp only[Zx]at a0 a1 a2 a3 a4 a5 a6 a7 a8 a9 a10 a11 a12;replace hL:=zH hL;clear tB tC;go_wp2_with fail;refine eE [g,w.heap.size] wd [] [0,1,2,3,4,5,6,7,8,9,10,11,12] ?_;refine al ?_;simp only[ah,Zx];repeat go_big_quiet_step(fail)
     apply wpQuiet_nil;go_wp2_with fail;refine aU.mono ?_;rintro e w5 ⟨rfl,mO,cM⟩;clear aU;have S3:ao w5 (w.heap.size+1) 49 bL:=cM.blk (by omega) (by omega) XG;have cx:=mO.take (j:=w.heap.size+1) i (by omega) (by omega) S3 lS;obtain⟨OR,F7⟩:=zN (Rf.tell (R1.late m));rw[F7]at cx;have qx:=zH (show R.step m=OR from(BO.out).trans F7);clear F7;unfold be at cx;go_wp2_with fail;refine cx.mono ?_;rintro e w8 ⟨X,rfl,fu,td,jx⟩;have Qd:=fu.lt;obtain⟨z0,z1,z2,z3,z4,z5,z6,z7,z8,-⟩:=fu.cs [0,1,2,3,4,5,6,7,8];simp only[bL,vi,Zx]at z0 z1 z2 z3 z4 z5 z6 z7 z8;obtain⟨u0,u1,u2,u3,u4,u5,u6,u7,u8,-⟩:=fu.fs [0,1,2,3,4,5,6,7,8];replace jx:=zH jx;clear cx fu;go_wp2_with fail;show bodyPost _ _ _ _ _ (cE w8 (w.heap.size+1) OR.1 X);generalize cE w8 (w.heap.size+1) OR.1 X=w9 at *;obtain⟨r0,r1,r2,r3,r4,r5,r6,r7,r8,-⟩:=td.cs [0,1,2,3,4,5,6,7,8];simp only[be,vi,Zx]at r0 r1 r2 r3 r4 r5 r6 r7 r8;exact bodyPost_ret (v:=.agg (be OR.1 X)) (by simp[results,results19,go_sem,be,r0,r1,r2,r3,r4,r5,r6,r7,r8]) rfl ⟨X,by rw[qx.out],by rw[qx.out];exact jx.out⟩
    ·have BO:=zH (aD.out.trans (if_neg hL));have cB:decide (m.term<R1.hard.term)=false\/(m.term<R1.hard.term/\(m.kind !=1)=false):=by
      by_cases a:m.term<R1.hard.term
      ·refine .inr ⟨a,?_⟩;by_cases c:m.kind=1
       ·simp[c]
       ·exact absurd ⟨a,c⟩ hL
      ·exact .inl (decide_eq_false a)
     obtain⟨dU,v5,h5,Xm,OM,GO⟩:=tC.msg2 ut he hd;have KU:=FN m A1 A2 n1 c1 n2 c2 mi h5 rD.out (by omega) (by omega) ut Xm OM iU.out kJ.out BI;unfold eI at KU;simp only[vi]at KU;have nz:=rD.out.does cQ BI;obtain⟨R2,ja⟩:=zN (R1.does m);rw[ja]at KU nz;have wg:=BO.out;rw[ja]at wg;replace wg:=zH wg;replace nz:=zH nz;obtain⟨a0,a1,a2,a3,a4,a5,a6,a7,a8,a9,a10,a11,a12,-⟩:=ur.cs [0,1,2,3,4,5,6,7,8,9,10,11,12];simp only[Zx]at a0 a1 a2 a3 a4 a5 a6 a7 a8 a9 a10 a11 a12;replace hL:=zH hL;clear tB tC h5 Xm OM ja;go_wp2_with fail
     go_cut [48] (fun s48 wr=>s48=.bool false/\wr=wd.drew)
     case first=>
      rcases cB with e1|⟨e1,e2⟩
      ·skip
       refine eE [g,w.heap.size] wd [] [0,1,2,3,4,5,6,7,8,9,10,11,12] ?_;refine al ?_;simp only[ah,Zx];repeat go_big_quiet_step(fail)
       apply wpQuiet_nil;go_wp2_with fail
       go_meet
       exact⟨rfl,rfl⟩
      ·skip
       refine eE [g,w.heap.size] wd [] [0,1,2,3,4,5,6,7,8,9,10,11,12] ?_;refine al ?_;simp only[ah,Zx];repeat go_big_quiet_step(fail)
       apply wpQuiet_nil;go_wp2_with fail
       go_meet
       exact⟨rfl,rfl⟩
     case rest=>
      obtain⟨VC,hwe⟩:=hcut;subst VC;subst hwe;go_wp2_with fail;refine KU.mono ?_;rintro e w5 ⟨rfl,nv⟩;obtain⟨mO,cM⟩:=GO _ _ nv;clear KU nv GO;have S3:ao w5 (w.heap.size+1) 49 bL:=cM.blk (by omega) (by omega) XG;obtain⟨D5,v6,h6,_⟩:=mO.raft;have d13:=h6.s.cell 13;simp only[bV,vi,Zx]at d13;clear h6;by_cases hr:R2.role=3
      ·have O2:(R2.role==3)=true:=by simp[hr]
       have jh:=wg.out;rw[if_pos hr]at jh;have gp:=mO.act (fun ag v1 h=>Es h nz.out hr (by omega));replace jh:=zH jh;replace hr:=zH hr;clear mO;go_wp2_with fail;refine gp.mono ?_;rintro e w6 ⟨rfl,Ji,iT⟩;clear gp;have vY:ao w6 (w.heap.size+1) 49 bL:=iT.blk (by omega) (by omega) S3;have cx:=Ji.take (j:=w.heap.size+1) i (by omega) (by omega) vY lS;obtain⟨OR,F7⟩:=zN (Rf.tell R2.reads);rw[F7]at cx;have qx:=zH (show R.step m=OR from(jh.out).trans F7);clear F7;unfold be at cx;go_wp2_with fail;refine cx.mono ?_;rintro e w8 ⟨X,rfl,fu,td,jx⟩;have Qd:=fu.lt;obtain⟨z0,z1,z2,z3,z4,z5,z6,z7,z8,-⟩:=fu.cs [0,1,2,3,4,5,6,7,8];simp only[bL,vi,Zx]at z0 z1 z2 z3 z4 z5 z6 z7 z8;obtain⟨u0,u1,u2,u3,u4,u5,u6,u7,u8,-⟩:=fu.fs [0,1,2,3,4,5,6,7,8];replace jx:=zH jx;clear cx fu;go_wp2_with fail;show bodyPost _ _ _ _ _ (cE w8 (w.heap.size+1) OR.1 X);generalize cE w8 (w.heap.size+1) OR.1 X=w9 at *;obtain⟨r0,r1,r2,r3,r4,r5,r6,r7,r8,-⟩:=td.cs [0,1,2,3,4,5,6,7,8];simp only[be,vi,Zx]at r0 r1 r2 r3 r4 r5 r6 r7 r8;exact bodyPost_ret (v:=.agg (be OR.1 X)) (by simp[results,results19,go_sem,be,r0,r1,r2,r3,r4,r5,r6,r7,r8]) rfl ⟨X,by rw[qx.out],by rw[qx.out];exact jx.out⟩
      ·have O2:(R2.role==3)=false:=by simp[hr]
       have jh:=wg.out;rw[if_neg hr]at jh;replace jh:=zH jh;replace hr:=zH hr;go_wp2_with fail;have cx:=mO.take (j:=w.heap.size+1) i (by omega) (by omega) S3 lS;obtain⟨OR,F7⟩:=zN (Rf.tell R2);rw[F7]at cx;have qx:=zH (show R.step m=OR from(jh.out).trans F7);clear F7;unfold be at cx;go_wp2_with fail;refine cx.mono ?_;rintro e w8 ⟨X,rfl,fu,td,jx⟩;have Qd:=fu.lt;obtain⟨z0,z1,z2,z3,z4,z5,z6,z7,z8,-⟩:=fu.cs [0,1,2,3,4,5,6,7,8];simp only[bL,vi,Zx]at z0 z1 z2 z3 z4 z5 z6 z7 z8;obtain⟨u0,u1,u2,u3,u4,u5,u6,u7,u8,-⟩:=fu.fs [0,1,2,3,4,5,6,7,8];replace jx:=zH jx;clear cx fu;go_wp2_with fail;show bodyPost _ _ _ _ _ (cE w8 (w.heap.size+1) OR.1 X);generalize cE w8 (w.heap.size+1) OR.1 X=w9 at *;obtain⟨r0,r1,r2,r3,r4,r5,r6,r7,r8,-⟩:=td.cs [0,1,2,3,4,5,6,7,8];simp only[be,vi,Zx]at r0 r1 r2 r3 r4 r5 r6 r7 r8;exact bodyPost_ret (v:=.agg (be OR.1 X)) (by simp[results,results19,go_sem,be,r0,r1,r2,r3,r4,r5,r6,r7,r8]) rfl ⟨X,by rw[qx.out],by rw[qx.out];exact jx.out⟩
end
end
end Go.Proofs.YtjcninheccmpoaaGreat
