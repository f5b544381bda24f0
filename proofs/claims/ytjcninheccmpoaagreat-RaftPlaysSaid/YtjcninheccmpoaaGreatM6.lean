import Derived.Test.YtjcninheccmpoaaGreatM5
import Derived.Deep.DeepCutAuto
set_option maxRecDepth 100000
set_option maxHeartbeats 8000000
set_option linter.all false
namespace Go.Proofs.YtjcninheccmpoaaGreat
open Go.RowKit Go.Proofs.Tryz
section
open Go.MapKept
theorem ow(t:bB):∀{l r:List En} {x:En},t.findDiff l=some (x,r)->r.length+1<=l.length:=by
 intro l;induction l with
 | nil=>intro r x h;cases h
 | cons y l ih=>
  intro r x h;unfold bB.findDiff at h;split at h
  ·have:=ih h;simp;omega
  ·injection h with h;injection h with h1 h2;subst h2;simp
theorem eJ(t:bB)(i tm:Int)(l:List En):(t.takeF i tm l).2.index=t.index/\(t.takeF i tm l).2.L.length<=t.L.length+l.length/\((t.takeF i tm l).1.2=false->(t.takeF i tm l).2=t):=by
 unfold bB.takeF;split
 ·cases hd:t.findDiff l with
  | none=>exact⟨rfl,Nat.le_add_right _ _,fun h=>by cases h⟩
  | some p=>
   obtain⟨x,r⟩:=p;have:=ow t hd;refine⟨rfl,?_,fun h=>by cases h⟩;show(t.L.take _++x::r).length<=_;rw[List.length_append,List.length_take,List.length_cons];omega
 ·exact⟨rfl,Nat.le_add_right _ _,fun _=>rfl⟩
theorem ic{gs:List Nat}{w w':World}{j k:Nat}{u:Value}(h:dP gs w w')(hj:∀q∈gs,q≠j)(hl:∀q∈gs,q<w'.heap.size):dP gs w (w'.setCell ⟨j,k,none⟩ u):=by
 obtain⟨⟨w',hx⟩,rfl⟩:=h;exact dN fun q hq=>((Fr.set j k u).block q (hl q hq) (hj q hq)).trans (hx q hq)
section
variable {aa:Nat->Nat}{b g:Nat}{w w2:World}{R:Rf}{v:Rw}
theorem zY{A:Option Addr}{n c:Nat}{zs:List (Value×En)}{L:List En}(h:ax aa b w g R v)(hE:gi w.heap.size w2 A n c zs L)(hb:Below w.heap.size w w2)(hn:n<=100000)(hN:R.out.entries.length<=100000) :
  Calls prog 67 #[.pointer (some ⟨g,0,none⟩),.slice A n c] w2 fun e w'=>e=.returned (.tuple #[])/\ao aa b w g (R.save L) w':=by
 have cQ:=h.s.lt;have h2:=h.fresh' (b+13) hb;refine(pd A n c zs h2 (cn.of_own hE.1) (hE.2.1.mono fun j hj e=>ay e.1) (fun _ j hj e=>?_) hn hN).mono ?_
 ·have:=(aB hE.1 A c rfl j hj).2.1;omega
 ·rintro e w' ⟨rfl,hP⟩;rw[hE.2.2]at hP;exact⟨rfl,hP.fresh' hb⟩
def xF(k dst idx round:Int)(rej:Bool)(off tot:Int):Array Value:=#[.int .i64 k,.int .i64 0,.int .i64 dst,.int .i64 0,.int .i64 idx,.int .i64 0,.int .i64 0,.int .i64 round,.bool rej,.int .i64 off,.int .i64 tot,.slice none 0 0,.slice none 0 0]
def BJ(k dst idx round:Int)(rej:Bool)(off tot:Int):Mg:={cZ with kind:=k,tgt:=dst,idx:=idx,round:=round,reject:=rej,offset:=off,total:=tot}
theorem kx(k dst idx round:Int)(rej:Bool)(off tot:Int)(h:ax aa b w g R v)(hn:R.out.msgs.length<=100000) :
  Calls prog 97 #[.pointer (some ⟨g,0,none⟩),.agg (xF k dst idx round rej off tot)] w fun e w'=>e=.returned (.tuple #[])/\ao aa b w g (R.send (BJ k dst idx round rej off tot)) w':=
 gj (BJ k dst idx round rej off tot) rfl rfl h hn
theorem xN{K M:Nat}(m:Mg)(A1 A2:Option Addr)(n c n2 c2 mi:Nat)(h:ax aa b w g R v)(hk:Ok K M R)(hK:K<=100000)(hM:M<=60000)(uM:mi<=b\/b+13<mi)(he:cN aa mi w (.slice A1 n c) m.entries)(hn:n=m.entries.length)(Kj:n<=6)
  (Kx:0<=m.idx) (om:m.idx<=1099511627776) (fX:0<=m.commit) (gC:m.commit<=1099511627776) :
  Calls prog 107 #[.pointer (some ⟨g,0,none⟩),eH m (.slice A1 n c) (.slice A2 n2 c2)] w fun e w'=>e=.returned (.tuple #[])/\ao aa b w g (R.appends m) w':=by
 have cQ:=h.s.lt;have aI:=(fC w 39 39 #[.int .i64 m.kind,.int .i64 m.frm,.int .i64 m.tgt,.int .i64 m.term,.int .i64 m.idx,.int .i64 m.logTerm,.int .i64 m.commit,.int .i64 m.round,.bool m.reject,.int .i64 m.offset,.int .i64 m.total,.slice A1 n c,.slice A2 n2 c2] #[.int .i64 6,.int .i64 0,.int .i64 m.frm,.int .i64 0,.int .i64 0,.int .i64 0,.int .i64 0,.int .i64 m.round,.bool false,.int .i64 0,.int .i64 0,.slice none 0 0,.slice none 0 0]);obtain⟨aI,bN,BC⟩:=aI;obtain⟨w2,cw⟩:=zN (((w.alloc (.cells #[.int .i64 m.kind,.int .i64 m.frm,.int .i64 m.tgt,.int .i64 m.term,.int .i64 m.idx,.int .i64 m.logTerm,.int .i64 m.commit,.int .i64 m.round,.bool m.reject,.int .i64 m.offset,.int .i64 m.total,.slice A1 n c,.slice A2 n2 c2] 39)).alloc (.cells #[.int .i64 6,.int .i64 0,.int .i64 m.frm,.int .i64 0,.int .i64 0,.int .i64 0,.int .i64 0,.int .i64 m.round,.bool false,.int .i64 0,.int .i64 0,.slice none 0 0,.slice none 0 0] 39)));rw[cw]at aI bN BC;have hX:=cJ.start (N:=2) h aI (by have:=BC.lt;omega);obtain⟨y1,y4,y5,y6,y7,y11,-⟩:=bN.cs [1,4,5,6,7,11];simp only[Zx]at y1 y4 y5 y6 y7 y11;obtain⟨c8,c12,-⟩:=h.s.cs [8,12];simp only[bE,vi,Zx]at c8 c12;have c12':=(aI.cell (aw c12)).trans c12;have c8':=(aI.cell (aw c8)).trans c8;have tX:g<w2.heap.size:=by have:=aI.size;omega
 have cT:∀q∈[g,w.heap.size],q<w2.heap.size:=by simp;exact⟨tX,bN.lt⟩
 obtain⟨q12,q4,q5,q11⟩:=GD [g,w.heap.size] c12' y4 y5 y11;obtain⟨a0,a1,a2,a3,a4,a5,a6,a7,a8,a9,a10,a11,a12,-⟩:=BC.cs [0,1,2,3,4,5,6,7,8,9,10,11,12];simp only[Zx]at a0 a1 a2 a3 a4 a5 a6 a7 a8 a9 a10 a11 a12;obtain⟨u4,u8,-⟩:=BC.fs [4,8];have VL:=hk.cm;have xu:=hk.ms;have nK:w.heap.size+1<w2.heap.size:=BC.lt;replace hn:=zH hn;replace cw:=zH cw;unfold eH;simp only[vi];by_cases aU:m.idx<R.commit
 ·have hA:=zH (show R.appends m=R.send (BJ 6 m.frm R.commit m.round false 0 0) by unfold Rf.appends;rw[if_pos aU];rfl);have PU:=((hX.set (j:=w.heap.size+1) (by omega) (by omega) (Fr.set (w:=w2) (w.heap.size+1) 4 (.int .i64 R.commit))).below (w':=(w2.setCell ⟨w.heap.size+1,4,none⟩ (.int .i64 R.commit)).drew) (zb.drew)).1;have hs:=PU.act (fun ag v1 h=>kx 6 m.frm R.commit m.round false 0 0 h (by omega));unfold xF at hs;replace hk:=zH hk;clear h hX PU he;go_enter func107,ntmps107;go_wp2_with fail;rw[cw.out];refine dV [g,w.heap.size] w2 [] [0,1,2,3,4,5,6] ?_;refine aj ?_;simp only[af,Zx];repeat go_big_quiet_step(fail)
  apply wpQuiet_nil;go_wp2_with fail;refine hs.mono ?_;rintro e w9 ⟨rfl,jo,_⟩;have hQ:=zH (show ao aa b w g (R.appends m) w9 from by rw[hA.out];exact jo.post);clear hs jo;go_wp2_with fail;exact aO rfl rfl ⟨rfl,hQ.out⟩
 ·have tR:=(hX.below (w':=w2.drew) (zb.drew)).1;have Qj:=(tR.below (w':=w2.drew.drew) (zb.drew)).1;obtain⟨ag,v1,h1,NV,dh⟩:=Qj.ens2 uM he;obtain⟨A,n',c',zs,e0,e1,e2,e3,e4,e5,e6⟩:=NV;injection e0 with e00 e01 e02;subst e00;subst e01;subst e02;have Rp:=Ak (aQ ag mi) m.idx m.logTerm A1 n c zs h1 (by have:=hk.trk;omega) e1 e2 (by omega) e4 e5 (fun j e=>by have e:ag j=mi:=e;omega) (fun h0 j hj=>by have:=e6 h0 j hj;omega);rw[e3]at Rp;have jv:=eJ R.track m.idx m.logTerm m.entries;obtain⟨pf,Ol⟩:=zN (R.track.takeF m.idx m.logTerm m.entries);rw[Ol]at Rp jv;have hA:R.appends m=if pf.1.2=false then R.send {cZ with kind:=6,tgt:=m.frm,reject:=true,idx:=R.track.hintF m.idx m.logTerm,round:=m.round}else
    ((if 0<pf.1.1 then({R with track:=pf.2}:Rf).save (pf.2.sliceF pf.1.1 m.entries.length)else {R with track:=pf.2}).commits (min m.commit (m.idx+m.entries.length))).send {cZ with kind:=6,tgt:=m.frm,idx:=m.idx+m.entries.length,round:=m.round}:=by
   unfold Rf.appends;rw[if_neg aU,<-Ol]
  have d8:=h1.s.cell 8;simp only[bE,vi,Zx]at d8;have d8':w2.cell? ⟨g,8,none⟩=some v1.trk:=d8;have q8:=ae (w:=w2.drew) (gs:=[g,w.heap.size]) d8' (by simp);have p4:=ae (w:=w2.drew) (gs:=[g,w.heap.size]) y4 (by simp);have p5:=ae (w:=w2.drew) (gs:=[g,w.heap.size]) y5 (by simp);have p11:=ae (w:=w2.drew) (gs:=[g,w.heap.size]) y11 (by simp);replace hk:=zH hk;have fo:=Int.not_lt.1 aU;have rl:=h1.s;clear h hX tR Qj he h1 e1 e2 e3 d8 c8 c8' c12;go_enter func107,ntmps107;go_wp2_with fail;rw[cw.out];refine dV [g,w.heap.size] w2 [] [0,1,2,3,4,5,6] ?_;refine aj ?_;simp only[af,Zx];repeat go_big_quiet_step(fail)
  apply wpQuiet_nil;go_wp2_with fail;refine cF (C:=dP [g,w.heap.size] w2.drew) [([0,1,2,3,4,5,6,7,8,9],10)] [11,12,13,14,15] (by kernel_rfl) (by kernel_rfl) (fun _ _ _ _ e h=>⟨e.symm.trans h.1,h.2⟩) aR ?_;refine av fun K1 ct=>?_
  simp only[af,Zx];repeat go_big_quiet_step(fail)
  apply wpQuiet_nil;go_wp2_with fail;refine Rp.mono ?_;rintro e w3 ⟨rfl,hT⟩;clear Rp;go_wp2_with fail;have gK:w3.heap[g]?=w2.heap[g]?:=hT.blk.trans rl.symm;obtain⟨pS,bS⟩:=dh w3 _ hT.post;refine⟨bO gK (bS _ zl (by omega)),ct _ _ ?_⟩;refine aj ?_;simp only[af,Zx];repeat go_big_quiet_step(fail)
  apply wpQuiet_nil;have Jq:ar w3 w.heap.size 39 _:=bS.blk zl (by omega) bN;have Mf:ar w3 (w.heap.size+1) 39 _:=bS.blk (by omega) (by omega) BC;clear y1 y4 y5 y6 y7 y11 c12' q12 q4 q5 q11 q8 p4 p5 p11 a0 a1 a2 a3 a4 a5 a6 a7 a8 a9 a10 a11 a12 u4 u8 hT d8' bN BC tX cT nK rl;obtain⟨cM,v3,h3,iu⟩:=(pS.below (w':=w3.drew) (zb.drew)).1.raft;have TB:g<w3.heap.size:=h3.s.lt;have d8:=h3.s.cell 8;simp only[bE,vi,Zx]at d8;have d8':w3.cell? ⟨g,8,none⟩=some v3.trk:=d8;obtain⟨y4,y5,y6,y11,-⟩:=Jq.cs [4,5,6,11];simp only[Zx]at y4 y5 y6 y11;obtain⟨q4,q5,q11,q8⟩:=GD [g,w.heap.size] y4 y5 y11 d8';have cT:∀q∈[g,w.heap.size],q<w3.heap.size:=by simp;exact⟨TB,Jq.lt⟩
  cases cB:pf.1.2
  ·have pV:=zH (show R.appends m=R.send (BJ 6 m.frm (R.track.hintF m.idx m.logTerm) m.round true 0 0) by rw[hA,if_pos cB];rfl);have ht:=jv.2.2 cB;have ur:=FQ m.idx m.logTerm h3.t (by show pf.2.L.length<=_;rw[ht];have:=hk.out.trk;omega);rw[show({R with track:=pf.2}:Rf).track=pf.2 from rfl,ht]at ur;obtain⟨hi,SX⟩:=zN (R.track.hintF m.idx m.logTerm);rw[SX]at ur pV;replace pS:cJ aa b w g R 2 w3:=by rw[ht]at pS;exact pS
   clear hA h3 jv ht SX iu dh d8;go_wp2_with fail;refine dV [g,w.heap.size] w3 [([0,1,2,3,4,5,6,7,9],8),([],10),([11],12)] [] ?_;refine av fun K4 tj=>?_
   simp only[af,Zx];repeat go_big_quiet_step(fail)
   apply wpQuiet_nil;go_wp2_with fail;refine ur.mono ?_;rintro e w4 ⟨rfl,cz⟩;go_wp2_with fail;have qx:Below w3.heap.size w3 w4:=(zb.drew).trans cz;refine⟨aq cT qx,tj _ _ ?_⟩;have PN:=Mf.kept qx;obtain⟨a0,a1,a2,a3,a4,a5,a6,a7,a8,a9,a10,a11,a12,-⟩:=PN.cs [0,1,2,3,4,5,6,7,8,9,10,11,12];simp only[Zx]at a0 a1 a2 a3 a4 a5 a6 a7 a8 a9 a10 a11 a12;obtain⟨u4,u8,-⟩:=PN.fs [4,8];refine av fun K5 wR=>?_
   simp only[af,Zx];apply wpQuiet_nil;go_wp2_with fail;have fV:∀q∈[g,w.heap.size],q≠w.heap.size+1:=by simp;omega
   have Mo:∀q∈[g,w.heap.size],q<w4.heap.size:=fun q hq=>Nat.lt_of_lt_of_le (cT q hq) qx.size
   refine⟨ic (aq cT qx) fV Mo,wR _ _ ?_⟩;refine av fun K6 rS=>?_
   simp only[af,Zx];repeat go_big_quiet_step(fail)
   apply wpQuiet_nil;go_wp2_with fail;refine⟨ic (ic (aq cT qx) fV Mo) fV (by simpa[World.setCell]using Mo),rS _ _ ?_⟩;refine aj ?_;simp only[af];apply wpQuiet_nil;have Ik:=(pS.below qx).1;have nP:=(Ik.set (j:=w.heap.size+1) (by omega) (by omega) ((Fr.set (w:=w4) (w.heap.size+1) 8 (.bool true)).trans (Fr.set (w.heap.size+1) 4 (.int .i64 hi)) fun _ h=>.inl h));have hs:=nP.act (fun ag v1 h=>kx 6 m.frm hi m.round true 0 0 h (by omega));unfold xF at hs;go_wp2_with fail;refine hs.mono ?_;rintro e w9 ⟨rfl,jo,_⟩;have hQ:=zH (show ao aa b w g (R.appends m) w9 from by rw[pV.out];exact jo.post);clear hs jo;go_wp2_with fail;exact aO rfl rfl ⟨rfl,hQ.out⟩
  ·have WO:=hA;rw[cB,if_neg (by simp)]at hA;have WF:=hn.out;have hLt:pf.2.L.length<=200000:=by have:=jv.2.1;have:=hk.out.trk;omega
   rw[<-WF]at hA;clear WF;rcases Int.lt_or_le 0 pf.1.1 with hf|hf
   ·rw[if_pos hf]at hA;have DZ:0<=R.commit/\R.commit<=4000000000000:=by omega
    have dL:=pL pf.1.1 n h3.t (by show pf.2.L.length<=_;omega);obtain⟨R4,tA⟩:=zN (({R with track:=pf.2}:Rf).save (pf.2.sliceF pf.1.1 n));have SH:R4.track.L.length<=1000000:=by rw[<-tA];show pf.2.L.length<=_;omega
    have TI:R4.out.commits.length<=1000000:=by rw[<-tA];have:=hk.out.cs;show R.out.commits.length<=_;omega
    have YV:R4.out.msgs.length<=60000:=by rw[<-tA];show R.out.msgs.length<=_;omega
    rw[show R.commit=R4.commit by rw[<-tA];rfl]at DZ;have pN:=zH (show ∀w4 A4 n4 c4 z4,gi w3.heap.size w4 A4 n4 c4 z4 (pf.2.sliceF pf.1.1 n)->Below w3.drew.heap.size w3.drew w4->Calls prog 67 #[.pointer (some ⟨g,0,none⟩),.slice A4 n4 c4] w4 fun e w'=>e=.returned (.tuple #[])/\cJ aa b w g R4 2 w'/\boxes w.heap.size 2 w3.drew w' from fun w4 A4 n4 c4 z4 hE hb=>by
     have nG:n4<=100000:=by
      have e1:=hE.len.1;have e2:=congrArg List.length hE.2.2;rw[List.length_map,e1]at e2;have e3:(pf.2.sliceF pf.1.1 n).length<=n:=by unfold bB.sliceF;split <;> simp;omega
      omega
     refine(zY h3 hE hb nG (by show R.out.entries.length<=_;have:=hk.out.es;omega)).mono ?_;rintro e w' ⟨rfl,hP⟩;rw[tA]at hP;exact⟨rfl,iu _ _ hP⟩)
    rw[tA]at hA;replace pV:=zH hA;replace Kc:=hf;clear hA WO h3 jv iu dh d8 tA;go_wp2_with fail;refine mI [g,w.heap.size] w3 [([0,1,2,3,4,5,6,7,8],9)] ([],10) ?_;refine ap fun K4 tj=>?_
    simp only[af,Zx];repeat go_big_quiet_step(fail)
    apply wpQuiet_nil;go_wp2_with fail;refine dL.mono ?_;rintro e w4 ⟨A4,n4,c4,z4,rfl,QX,cz⟩;go_wp2_with fail;have qx:Below w3.heap.size w3 w4:=(zb.drew).trans cz;have Pn:=pN.out _ _ _ _ _ QX cz;refine⟨aq cT qx,tj _ _ ?_⟩;refine aC ?_;simp only[af,Zx];repeat go_big_quiet_step(fail)
    apply wpQuiet_nil;clear dL QX pN;go_wp2_with fail;refine Pn.mono ?_;rintro e w5 ⟨rfl,nP,cD⟩;clear Pn;have eK:ar w5 w.heap.size 39 _:=cD.blk zl (by omega) Jq;have I2:ar w5 (w.heap.size+1) 39 _:=cD.blk (by omega) (by omega) Mf;obtain⟨m4,m6,m11,-⟩:=eK.cs [4,6,11];simp only[Zx]at m4 m6 m11;obtain⟨z0,z1,z2,z3,z4,z5,z6,z7,z8,z9,z10,z11,z12,-⟩:=I2.cs [0,1,2,3,4,5,6,7,8,9,10,11,12];simp only[Zx]at z0 z1 z2 z3 z4 z5 z6 z7 z8 z9 z10 z11 z12;have u4:=I2.free 4;have O1:=(nP.set (j:=w.heap.size+1) (by omega) (by omega) (Fr.set (w:=w5) (w.heap.size+1) 4 (.int .i64 (m.idx+n))));have vJ:=O1.act (fun ag v1 h=>(lM (min m.commit (m.idx+n)) h (by omega) (by omega) DZ.1 DZ.2 SH TI).mono (fun e w' hh=>⟨hh.1,hh.2.1⟩));clear pS;go_wp2_with fail;refine vJ.mono ?_;rintro e w7 ⟨rfl,C5,io⟩;have mM:=I2.set_ 4 (.int .i64 (m.idx+n));simp only[Zy]at mM;have GY:ar w7 (w.heap.size+1) 39 _:=io.blk (by omega) (by omega) mM;clear vJ O1 eK I2 mM m4 m6 m11 z0 z1 z2 z3 z4 z5 z6 z7 z8 z9 z10 z11 z12 u4;obtain⟨z0,z1,z2,z3,z4,z5,z6,z7,z8,z9,z10,z11,z12,-⟩:=GY.cs [0,1,2,3,4,5,6,7,8,9,10,11,12];simp only[Zx]at z0 z1 z2 z3 z4 z5 z6 z7 z8 z9 z10 z11 z12;have hs:=C5.act (fun ag v1 h=>kx 6 m.frm (m.idx+n) m.round false 0 0 h (by unfold Rf.commits;split <;> (show R4.out.msgs.length<=_;omega)));unfold xF at hs;clear C5 GY;go_wp2_with fail;refine hs.mono ?_;rintro e w9 ⟨rfl,jo,_⟩;have hQ:=zH (show ao aa b w g (R.appends m) w9 from by rw[pV.out];exact jo.post);clear hs jo;go_wp2_with fail;exact al rfl rfl ⟨rfl,hQ.out⟩
   ·rw[if_neg (Int.not_lt.2 hf)]at hA;obtain⟨R4,tA⟩:=zN (({R with track:=pf.2}:Rf));have DZ:0<=R4.commit/\R4.commit<=4000000000000:=by rw[<-tA];show 0<=R.commit/\R.commit<=_;omega
    have SH:R4.track.L.length<=1000000:=by rw[<-tA];show pf.2.L.length<=_;omega
    have TI:R4.out.commits.length<=1000000:=by rw[<-tA];have:=hk.out.cs;show R.out.commits.length<=_;omega
    have YV:R4.out.msgs.length<=60000:=by rw[<-tA];show R.out.msgs.length<=_;omega
    rw[tA]at hA pS;replace pV:=zH hA;have jA:boxes w.heap.size 2 w3 w3:=fun _ _ _=>rfl
    have Ik:=pS;clear hA WO h3 jv iu dh d8 tA;have eK:ar w3 w.heap.size 39 _:=jA.blk zl (by omega) Jq;have I2:ar w3 (w.heap.size+1) 39 _:=jA.blk (by omega) (by omega) Mf;obtain⟨m4,m6,m11,-⟩:=eK.cs [4,6,11];simp only[Zx]at m4 m6 m11;obtain⟨z0,z1,z2,z3,z4,z5,z6,z7,z8,z9,z10,z11,z12,-⟩:=I2.cs [0,1,2,3,4,5,6,7,8,9,10,11,12];simp only[Zx]at z0 z1 z2 z3 z4 z5 z6 z7 z8 z9 z10 z11 z12;have u4:=I2.free 4;have O1:=(Ik.set (j:=w.heap.size+1) (by omega) (by omega) (Fr.set (w:=w3) (w.heap.size+1) 4 (.int .i64 (m.idx+n))));have vJ:=O1.act (fun ag v1 h=>(lM (min m.commit (m.idx+n)) h (by omega) (by omega) DZ.1 DZ.2 SH TI).mono (fun e w' hh=>⟨hh.1,hh.2.1⟩));clear pS;go_wp2_with fail;refine vJ.mono ?_;rintro e w7 ⟨rfl,C5,io⟩;have mM:=I2.set_ 4 (.int .i64 (m.idx+n));simp only[Zy]at mM;have GY:ar w7 (w.heap.size+1) 39 _:=io.blk (by omega) (by omega) mM;clear vJ O1 eK I2 mM m4 m6 m11 z0 z1 z2 z3 z4 z5 z6 z7 z8 z9 z10 z11 z12 u4;obtain⟨z0,z1,z2,z3,z4,z5,z6,z7,z8,z9,z10,z11,z12,-⟩:=GY.cs [0,1,2,3,4,5,6,7,8,9,10,11,12];simp only[Zx]at z0 z1 z2 z3 z4 z5 z6 z7 z8 z9 z10 z11 z12;have hs:=C5.act (fun ag v1 h=>kx 6 m.frm (m.idx+n) m.round false 0 0 h (by unfold Rf.commits;split <;> (show R4.out.msgs.length<=_;omega)));unfold xF at hs;clear C5 GY;go_wp2_with fail;refine hs.mono ?_;rintro e w9 ⟨rfl,jo,_⟩;have hQ:=zH (show ao aa b w g (R.appends m) w9 from by rw[pV.out];exact jo.post);clear hs jo;go_wp2_with fail;exact al rfl rfl ⟨rfl,hQ.out⟩
end
end
section
open Go.MapKept
theorem jN(R:Rf):∃(k:Int) (cs:List En),R.agrees={R with commit:=k,out:={R.out with commits:=cs}}:=by
 unfold Rf.agrees;split
 ·unfold Rf.commits;split
  ·exact⟨_,_,rfl⟩
  ·exact⟨R.commit,R.out.commits,rfl⟩
 ·exact⟨R.commit,R.out.commits,rfl⟩
theorem lR(R:Rf):R.agrees.role=R.role:=by
 obtain⟨k,cs,e⟩:=jN R;rw[e]
theorem fq(R:Rf)(s:Nat)(p p':Pr):(R.setPeer s p).setPeer s p'=R.setPeer s p':=by
 unfold Rf.setPeer;simp only[List.set_set]
theorem bK(R:Rf)(s:Nat)(p:Pr)(hs:s<R.peers.length):(R.setPeer s p).peer s=p:=by
 unfold Rf.setPeer Rf.peer;simp only;rw[List.getElem?_set_self hs];rfl
def xG(R:Rf)(p:Pr):Prop:=(0<=p.mat/\p.mat<=1099511627776)/\(1<=p.next/\p.next<=1099511627777)/\0<=p.offset/\p.offset<=R.snap.data.length
theorem Ok.setPeer{K M:Nat}{R:Rf}(h:Ok K M R)(s:Nat){p:Pr}(hp:xG R p):Ok K M (R.setPeer s p):=
 {h with ld:=fun hr=>⟨by show(R.peers.set s p).length=_;rw[List.length_set];exact(h.ld hr).1,fun x hx=>by
   rcases List.mem_or_eq_of_mem_set (show x∈R.peers.set s p from hx)with hx|rfl
   ·exact(h.ld hr).2 x hx
   ·exact hp⟩}
theorem Ok.peer{K M:Nat}{R:Rf}(h:Ok K M R)(hr:R.role=3){s:Nat}(hs:s<=R.n):s<R.peers.length/\xG R (R.peer s):=by
 obtain⟨h1,h2⟩:=h.ld hr;refine⟨by omega,h2 _ ?_⟩;unfold Rf.peer;rw[List.getElem?_eq_getElem (by omega)];exact List.getElem_mem _
def oM(R:Rf)(s:Nat)(index:Int):Pr:=
 ⟨max (R.peer s).next (max (R.peer s).mat (min index R.track.lastF.1)+1),max (R.peer s).mat (min index R.track.lastF.1),if R.track.index<=max (R.peer s).mat (min index R.track.lastF.1)then 0 else(R.peer s).offset,(R.peer s).round⟩
theorem Bu(R:Rf)(s:Nat)(index:Int):R.has s index=if(oM R s index).next<=R.track.lastF.1 then(R.setPeer s (oM R s index)).agrees.lacks s else(R.setPeer s (oM R s index)).agrees:=rfl
theorem vO{K M:Nat}{R:Rf}(h:Ok K M R){s:Nat}(index:Int)(hp:xG R (R.peer s)):xG R (oM R s index):=by
 obtain⟨h1,h2,h3⟩:=hp;have h4:=h.tr.last;have h5:=h.tr.room;have h6:=h.tr.b;have hx:max (R.peer s).mat (min index R.track.lastF.1)<=1099511627776:=by omega
 refine⟨⟨by show 0<=max _ _;omega,hx⟩,⟨by show 1<=max _ _;omega,by show max _ _<=_;omega⟩,?_⟩;show 0<=(if _ then _ else _:Int)/\(if _ then _ else _:Int)<=_;split
 ·exact⟨Int.le_refl 0,Int.natCast_nonneg _⟩
 ·exact h3
theorem Ok.has{K M:Nat}{R:Rf}(h:Ok K M R)(hr:R.role=3){s:Nat}(hs:s<=R.n)(index:Int):Ok K (M+K+1) (R.has s index):=by
 rw[Bu];have h1:=(h.setPeer s (vO h index (h.peer hr hs).2)).agrees;split
 ·exact h1.lacks s
 ·exact h1.mono zl (Nat.le_succ _)
section
variable {aa:Nat->Nat}{b g:Nat}{w:World}{R:Rf}{v:Rw}
theorem nW{K M:Nat}(s:Nat)(h:ax aa b w g R v)(hk:Ok K M R)(hr:R.role=3)(hs:s<=R.n)(hK:K<=100000)(hM:M<=90000) :
  Calls prog 95 #[.pointer (some ⟨g,0,none⟩),.int .i64 s] w fun e w'=>e=.returned (.tuple #[])/\ao aa b w g (R.lacks s) w':=by
 obtain⟨h1,h2,h3,h4⟩:=hk.peer hr hs;exact uJ s h h1 (by have:=hk.ms;omega) (by have:=hk.trk;omega) h3.1 (by omega) h4.1 h4.2 hk.dat hk.dat0
theorem ax.setPeer{s j q c:Nat}{u:Value}{p':Pr}(h:ax aa b w g R v)(hs:s<R.peers.length)(hq:v.peers=.slice (some ⟨q,0,none⟩) R.peers.length c)(hj:j<4)(hp:mK p'=(mK (R.peer s)).set j u) :
  ax aa b (w.setCell ⟨q,s*4+j,none⟩ u) g (R.setPeer s p') v/\Fr (fun k=>k=q) w (w.setCell ⟨q,s*4+j,none⟩ u)/\aa q=b+3:=by
 obtain⟨A,c',e,aD,hl⟩:=id h.p;rw[hq]at e;injection e with e1 e2 e3;subst e1;subst e3;have nC:=hl q ⟨_,rfl,rfl⟩;have hF:=Fr.set (w:=w) q (s*4+j) u;have JB:g≠q:=fun e=>by have:=h.sl;rw[e,nC]at this;omega
 have O3:ar (w.setCell ⟨q,s*4+j,none⟩ u) g 107 (bE (R.setPeer s p') v):=(hF.block g h.s.lt JB).trans h.s;have aE:=(aD.stored (s*4+j) u).1;have Lw:R.peers[s]?=some (R.peer s):=by unfold Rf.peer;rw[List.getElem?_eq_getElem hs];rfl
 rw[jl jD hj hp Lw]at aE;refine⟨h.turn [3] O3 (fun _ _ _ _ _ _ e=>e) (by simp) (hF.mono fun k e=>.inr ⟨3,by simp,by rw[e];exact nC⟩) tI (.inl ?_) tI tI tI tI tI tI tI tI tI,hF,nC⟩;rw[hq];have e:(R.setPeer s p').peers.length=R.peers.length:=List.length_set;rw[e];exact⟨_,_,rfl,aE,hl⟩
theorem ax.peer_cells{s q c n:Nat}{P:Pr}(h:ax aa b w g R v)(hs:s<R.peers.length)(hv:v.peers=.slice (some ⟨q,0,none⟩) n c)(hP:R.peer s=P) :
  (w.cell? ⟨q,s*4,none⟩=some (.int .i64 P.next)/\w.cell? ⟨q,s*4+1,none⟩=some (.int .i64 P.mat)/\w.cell? ⟨q,s*4+2,none⟩=some (.int .i64 P.offset)/\w.cell? ⟨q,s*4+3,none⟩=some (.int .i64 P.round))/\
  (w.frozen? ⟨q,s*4,none⟩=false/\w.frozen? ⟨q,s*4+1,none⟩=false/\w.frozen? ⟨q,s*4+2,none⟩=false/\w.frozen? ⟨q,s*4+3,none⟩=false)/\q<w.heap.size:=by
 obtain⟨q',c',e,h1,h2,p0,p1,p2,p3,pf⟩:=h.peer_at hs;rw[hv]at e;injection e with e1 _ _;injection e1 with e1;injection e1 with e1;subst e1;rw[hP]at p0 p1 p2 p3;exact⟨⟨p0,p1,p2,p3⟩,⟨pf _,pf _,pf _,pf _⟩,h2⟩
theorem bo(R:Rf)(s:Nat)(p:Pr):(R.setPeer s p).peers.length=R.peers.length:=List.length_set
theorem J7{K M:Nat}(s:Nat)(index:Int)(h:ax aa b w g R v)(hk:Ok K M R)(hr:R.role=3)(hs:s<=R.n)(hK:K<=10000)(hM:M<=60000) :
  Calls prog 138 #[.pointer (some ⟨g,0,none⟩),.int .i64 s,.int .i64 index] w fun e w'=>e=.returned (.tuple #[])/\ao aa b w g (R.has s index) w':=by
 have cQ:=h.s.lt;obtain⟨dL,lk⟩:=hk.peer hr hs;obtain⟨q,c,hv,nC,pl,p0,p1,p2,p3,pf⟩:=h.peer_at dL;have cB:=vO hk index lk;have hN:R.track.L.length<=1000000:=by have:=hk.trk;omega
 have bI:=iW h.t hN;have bl:=oy h.t;obtain⟨c0,c8,-⟩:=h.s.cs [0,8];simp only[bE,vi,Zx]at c0 c8;rw[hv]at c0;obtain⟨l1,cy⟩:∃l,R.track.lastF.1=l:=⟨_,rfl⟩;obtain⟨P,hP⟩:=zN (R.peer s);obtain⟨i1,rP⟩:∃i,R.track.index=i:=⟨_,rfl⟩;rw[hP]at p0 p1 p2 p3 lk;have Dx:oM R s index=⟨max P.next (max P.mat (min index l1)+1),max P.mat (min index l1),if i1<=max P.mat (min index l1)then 0 else P.offset,P.round⟩:=by unfold oM;rw[hP,cy,rP]
 have he:=Bu R s index;rw[cy]at he;have oV:=hk.tr.last;have uN:=hk.tr.room;have kp:=hk.tr.b;rw[cy]at oV;have DF:0<=l1/\l1<=1099511627776:=by omega
 rw[rP]at bl;obtain⟨mt,Da⟩:∃x,max P.mat (min index l1)=x:=⟨_,rfl⟩;have ZU:0<=mt/\mt<=1099511627776:=by have:=lk.1;omega
 have Os:=lk.2.1;rw[Da]at Dx;obtain⟨nx,ci⟩:∃x,max P.next (mt+1)=x:=⟨_,rfl⟩;rw[ci]at Dx;have hH:=zH h;have BK:=zH hk;replace Da:=zH Da;replace ci:=zH ci;replace Dx:=zH Dx;replace he:=zH he;replace cy:=zH cy;replace rP:=zH rP;replace hP:=zH hP;clear h hk oV uN kp;go_enter func138,ntmps138;go_wp2_with fail;refine bl.mono ?_;rintro e w1 ⟨rfl,bs⟩;have c8':=(bs.cell cQ).trans c8;have Fj:=iW (hH.out.below bs).t hN;rw[cy.out]at Fj;clear bl bI;go_wp2_with fail;refine Fj.mono ?_;rintro e w2 ⟨rfl,bJ⟩;clear Fj;have du:=ab bs bJ zl;have h2:=hH.out.fresh du;have p0':=(du.cell pl).trans p0;have p1':=(du.cell pl).trans p1;have p2':=(du.cell pl).trans p2;have Xv:q<w2.heap.size:=Nat.lt_of_lt_of_le pl du.size;have f2:∀j,w2.frozen? ⟨q,j,none⟩=false:=fun j=>(du.frozen pl).trans (pf j)
 have f2a:=f2 (s*4);have f2b:=f2 (s*4+1);have f2c:=f2 (s*4+2);clear c8 c8' f2;go_wp2_with fail;rw[Da.out];have Wr:mK (R.peer s)=[vi P.next,vi P.mat,vi P.offset,vi P.round]:=by rw[hP.out];rfl
 obtain⟨h3,lu,_⟩:=h2.setPeer (s:=s) (j:=1) (u:=.int .i64 mt) (p':={P with mat:=mt}) dL hv (by omega) (by rw[Wr];rfl);obtain⟨w3,iU⟩:=zN (w2.setCell ⟨q,s*4+1,none⟩ (.int .i64 mt));rw[iU]at h3 lu ⊢;have e3:=bK R s {P with mat:=mt} dL;obtain⟨⟨x0,x1,x2,_⟩,⟨y0,y1,y2,_⟩,Lc⟩:=h3.peer_cells (by rw[bo];exact dL) hv e3;obtain⟨k0,k1⟩:=nY [q] x0 x1;obtain⟨h4,iK,_⟩:=h3.setPeer (s:=s) (j:=0) (u:=.int .i64 nx) (p':={P with mat:=mt,next:=nx}) (by rw[bo];exact dL) (by rw[bo];exact hv) (by omega) (by rw[e3];rfl);rw[fq,Nat.add_zero]at h4;rw[Nat.add_zero]at iK;obtain⟨w4,eL⟩:=zN (w3.setCell ⟨q,s*4,none⟩ (.int .i64 nx));rw[eL]at h4 iK;have e4:=bK R s {P with mat:=mt,next:=nx} dL;obtain⟨⟨z0,z1,z2,_⟩,⟨_,_,v2,_⟩,I0⟩:=h4.peer_cells (by rw[bo];exact dL) hv e4;obtain⟨h5,UL,_⟩:=h4.setPeer (s:=s) (j:=2) (u:=.int .i64 0) (p':={P with mat:=mt,next:=nx,offset:=0}) (by rw[bo];exact dL) (by rw[bo];exact hv) (by omega) (by rw[e4];rfl);rw[fq]at h5;have zj:ai aa w.heap.size b q=b+3:=(ac pl).trans nC;have U5:Fr (fun k=>k=q) w2 (w4.setCell ⟨q,s*4+2,none⟩ (.int .i64 0)):=(lu.trans iK fun _ h=>.inl h).trans UL fun _ h=>.inl h
 have H8:Fr (fun k=>k=q) w2 w4:=lu.trans iK fun _ h=>.inl h
 replace iU:=zH iU;replace eL:=zH eL;clear h2 h3 p0' p1' p2' f2a f2b f2c Wr;replace h4:=zH h4;replace h5:=zH h5;refine mI [q] w3 [([0,1,2,3,4,5,6,7,8,9],10)] ([11,12],13) ?_;refine ap fun K1 ct=>?_
 simp only[af,Zx];repeat go_big_quiet_step(fail)
 apply wpQuiet_nil;go_wp2_with fail;rw[ci.out];refine⟨aR,ct _ _ ?_⟩;refine aC ?_;simp only[af,Zx];repeat go_big_quiet_step(fail)
 apply wpQuiet_nil;by_cases hc:i1<=mt
 ·obtain⟨W,HS⟩:=zN (((w3.setCell ⟨q,s*4,none⟩ (.int .i64 nx)).setCell ⟨q,s*4+2,none⟩ (.int .i64 0)).drew);have hW:ax (ai aa w.heap.size b) b W g (R.setPeer s (oM R s index)) v:=by
   rw[<-HS,eL.out,Dx.out,if_pos hc];have:=h5.out.below (w':=(w4.setCell ⟨q,s*4+2,none⟩ (.int .i64 0)).drew) (zb.drew);exact this
  have Io:Fr (fun k=>k=q) w2 W:=by
   rw[<-HS,eL.out];exact U5.trans (Fr.of_below (X:=fun k=>k=q) (zb.drew)) fun _ h=>.inl h
  have zW:W.cell? ⟨q,s*4,none⟩=some (.int .i64 nx):=(hW.peer_cells (by rw[bo];exact dL) hv (bK R s _ dL)).1.1.trans (by rw[Dx.out]);replace HS:=zH HS;have Bj:Fr (aN (ai aa w.heap.size b) b) w2 W:=Io.mono fun k e=>by rw[e];exact⟨by omega,by omega⟩
  obtain⟨RA,AG⟩:=zN ((R.setPeer s (oM R s index)).agrees);have lH:=(BK.out.setPeer s cB);have Bk:Ok K (M+K) RA:=by rw[<-AG];exact lH.agrees
  have KU:RA.role=3:=by rw[<-AG,lR];exact hr
  have NS:RA.n=R.n:=by obtain⟨k,cs,e⟩:=jN (R.setPeer s (oM R s index));rw[<-AG,e];rfl
  have gJ:=kL hW ((lH.ld hr).1) lH.id.2.2 lH.cm.1 (by have:=lH.cm.2;omega) (by have:=lH.trk;omega) (by have:=lH.cs;omega);rw[AG]at gJ;have I4:R.has s index=if nx<=l1 then RA.lacks s else RA:=by rw[he.out,AG];rw[Dx.out]
  have Tv:g≠q:=fun e=>by have:=hW.sl;rw[e,zj]at this;omega
  have UA:q<W.heap.size:=aw zW;replace I4:=zH I4;replace Bk:=zH Bk;replace zj:=zH zj;clear hW lH AG cB lk Dx;go_wp2_with fail;rw[HS.out];refine gJ.mono ?_;rintro e w6 ⟨rfl,qp,jb⟩;have z6:w6.cell? ⟨q,s*4,none⟩=some (.int .i64 nx):=(World.cell?_of_block (jb.block q UA fun hx=>by rcases hx with hx|hx;exact Tv hx.symm;rw[zj.out]at hx;omega)).trans zW;clear gJ jb;by_cases fo:nx<=l1
  ·have ik:=qp.call (fun ag v1 h=>nW s h Bk.out KU (by rw[NS];exact hs) (by omega) (by omega));have MV:=zH (show R.has s index=RA.lacks s by rw[I4.out,if_pos fo]);clear qp;go_wp2_with fail;refine ik.mono ?_;rintro e w7 ⟨rfl,AU⟩;have hQ:=zH (show ao aa b w g (R.has s index) w7 by rw[MV.out];exact(AU.next (fun _ _ _=>rfl) (fun _ _ h=>h) Bj).fresh du);clear ik AU;go_wp2_with fail;exact al rfl rfl ⟨rfl,hQ.out⟩
  ·have hQ:=zH (show ao aa b w g (R.has s index) w6 by rw[I4.out,if_neg fo];exact(qp.next (fun _ _ _=>rfl) (fun _ _ h=>h) Bj).fresh du);replace fo:=Int.not_le.1 fo;clear qp;go_wp2_with fail;exact al rfl rfl ⟨rfl,hQ.out⟩
 ·obtain⟨W,HS⟩:=zN ((w3.setCell ⟨q,s*4,none⟩ (.int .i64 nx)).drew);have hW:ax (ai aa w.heap.size b) b W g (R.setPeer s (oM R s index)) v:=by
   rw[<-HS,eL.out,Dx.out,if_neg hc];exact h4.out.below (w':=w4.drew) (zb.drew)
  have Io:Fr (fun k=>k=q) w2 W:=by
   rw[<-HS,eL.out];exact H8.trans (Fr.of_below (X:=fun k=>k=q) (zb.drew)) fun _ h=>.inl h
  have zW:W.cell? ⟨q,s*4,none⟩=some (.int .i64 nx):=(hW.peer_cells (by rw[bo];exact dL) hv (bK R s _ dL)).1.1.trans (by rw[Dx.out]);replace HS:=zH HS;replace hc:=Int.not_le.1 hc;have Bj:Fr (aN (ai aa w.heap.size b) b) w2 W:=Io.mono fun k e=>by rw[e];exact⟨by omega,by omega⟩
  obtain⟨RA,AG⟩:=zN ((R.setPeer s (oM R s index)).agrees);have lH:=(BK.out.setPeer s cB);have Bk:Ok K (M+K) RA:=by rw[<-AG];exact lH.agrees
  have KU:RA.role=3:=by rw[<-AG,lR];exact hr
  have NS:RA.n=R.n:=by obtain⟨k,cs,e⟩:=jN (R.setPeer s (oM R s index));rw[<-AG,e];rfl
  have gJ:=kL hW ((lH.ld hr).1) lH.id.2.2 lH.cm.1 (by have:=lH.cm.2;omega) (by have:=lH.trk;omega) (by have:=lH.cs;omega);rw[AG]at gJ;have I4:R.has s index=if nx<=l1 then RA.lacks s else RA:=by rw[he.out,AG];rw[Dx.out]
  have Tv:g≠q:=fun e=>by have:=hW.sl;rw[e,zj]at this;omega
  have UA:q<W.heap.size:=aw zW;replace I4:=zH I4;replace Bk:=zH Bk;replace zj:=zH zj;clear hW lH AG cB lk Dx;go_wp2_with fail;rw[HS.out];refine gJ.mono ?_;rintro e w6 ⟨rfl,qp,jb⟩;have z6:w6.cell? ⟨q,s*4,none⟩=some (.int .i64 nx):=(World.cell?_of_block (jb.block q UA fun hx=>by rcases hx with hx|hx;exact Tv hx.symm;rw[zj.out]at hx;omega)).trans zW;clear gJ jb;by_cases fo:nx<=l1
  ·have ik:=qp.call (fun ag v1 h=>nW s h Bk.out KU (by rw[NS];exact hs) (by omega) (by omega));have MV:=zH (show R.has s index=RA.lacks s by rw[I4.out,if_pos fo]);clear qp;go_wp2_with fail;refine ik.mono ?_;rintro e w7 ⟨rfl,AU⟩;have hQ:=zH (show ao aa b w g (R.has s index) w7 by rw[MV.out];exact(AU.next (fun _ _ _=>rfl) (fun _ _ h=>h) Bj).fresh du);clear ik AU;go_wp2_with fail;exact al rfl rfl ⟨rfl,hQ.out⟩
  ·have hQ:=zH (show ao aa b w g (R.has s index) w6 by rw[I4.out,if_neg fo];exact(qp.next (fun _ _ _=>rfl) (fun _ _ h=>h) Bj).fresh du);replace fo:=Int.not_le.1 fo;clear qp;go_wp2_with fail;exact al rfl rfl ⟨rfl,hQ.out⟩
end
end
section
open Go.MapKept
def pc(R:Rf)(s:Nat)(m:Mg):Pr:={R.peer s with round:=max (R.peer s).round (min m.round R.round)}
theorem lE{R:Rf}{s:Nat}{m:Mg}(hs:s<R.peers.length)(hf:m.frm=(s:Int)):R.answered m=
  if m.kind=8/\0<m.total then(if m.idx=R.snap.idx/\(R.peer s).next-1<R.snap.idx then(R.setPeer s {pc R s m with offset:=min m.offset R.snap.data.length}).lacks s else R.setPeer s (pc R s m))
  else if m.kind=6/\m.reject=true then(R.setPeer s {pc R s m with next:=max ((R.peer s).mat+1) (min ((R.peer s).next-1) (m.idx+1))}).lacks s else(R.setPeer s (pc R s m)).has s m.idx:=by
 have e:m.frm.toNat=s:=by rw[hf];rfl
 unfold Rf.answered;simp only;rw[e];have e2:(R.setPeer s {R.peer s with round:=max (R.peer s).round (min m.round R.round)}).peer s=pc R s m:=bK R s _ hs;rw[e2];unfold pc;simp only[fq]
section
variable {aa:Nat->Nat}{b g:Nat}{w:World}{R:Rf}{v:Rw}
theorem oz{K M:Nat}(m:Mg)(ve vd:Value)(s:Nat)(h:ax aa b w g R v)(hk:Ok K M R)(hr:R.role=3)(hf:m.frm=(s:Int))(hs:s<=R.n)(hK:K<=10000)(hM:M<=50000)
  (iy:0<=m.idx) (rP:m.idx<=1099511627776) (Mi:0<=m.offset) :
  Calls prog 109 #[.pointer (some ⟨g,0,none⟩),eH m ve vd] w fun e w'=>e=.returned (.tuple #[])/\ao aa b w g (R.answered m) w':=by
 have cQ:=h.s.lt;obtain⟨dL,lk⟩:=hk.peer hr hs;have Kk:=lE dL hf;have aI:Below w.heap.size w (w.alloc (.cells #[.int .i64 m.kind,.int .i64 m.frm,.int .i64 m.tgt,.int .i64 m.term,.int .i64 m.idx,.int .i64 m.logTerm,.int .i64 m.commit,.int .i64 m.round,.bool m.reject,.int .i64 m.offset,.int .i64 m.total,ve,vd] 39)):=zb.alloc zl _;have bN:=ar.new w 39 #[.int .i64 m.kind,.int .i64 m.frm,.int .i64 m.tgt,.int .i64 m.term,.int .i64 m.idx,.int .i64 m.logTerm,.int .i64 m.commit,.int .i64 m.round,.bool m.reject,.int .i64 m.offset,.int .i64 m.total,ve,vd];obtain⟨w1,bV⟩:=zN (w.alloc (.cells #[.int .i64 m.kind,.int .i64 m.frm,.int .i64 m.tgt,.int .i64 m.term,.int .i64 m.idx,.int .i64 m.logTerm,.int .i64 m.commit,.int .i64 m.round,.bool m.reject,.int .i64 m.offset,.int .i64 m.total,ve,vd] 39));rw[bV]at aI bN;obtain⟨y0,y1,y2,y3,y4,y5,y6,y7,y8,y9,yA,yB,yC,-⟩:=bN.cs [0,1,2,3,4,5,6,7,8,9,10,11,12];simp only[Zx]at y0 y1 y2 y3 y4 y5 y6 y7 y8 y9 yA yB yC;obtain⟨k0,k1,k2,k3,k4,k5,k6,k7,k8,k9,kA,kB,kC⟩:=vV [w.heap.size,g] y0 y1 y2 y3 y4 y5 y6 y7 y8 y9 yA yB yC;rw[hf]at bN bV;have h1:=h.fresh aI;obtain⟨q,c,hv,nC,pl,p0,p1,p2,p3,pf⟩:=h1.peer_at dL;obtain⟨P,hP⟩:=zN (R.peer s);rw[hP]at p0 p1 p2 p3 lk;obtain⟨c0,c1,c9,c11,-⟩:=h1.s.cs [0,1,9,11];simp only[bE,vi,Zx]at c0 c1 c9 c11;rw[hv]at c0;rw[hf]at k1;have Bi:q≠g:=fun e=>by have:=h1.sl;rw[e]at nC;omega
 have N5:q≠w.heap.size:=fun e=>by rw[e,ay zl]at nC;omega
 have j0:=CV [w.heap.size,g] c0;have l1:=ae (w:=w1.drew) (gs:=[w.heap.size,g,q]) c1 (by simp);have l7:=ae (w:=w1.drew) (gs:=[w.heap.size,g,q]) y7 (by simp);have l3:=ae (w:=w1.drew) (gs:=[w.heap.size,g,q]) p3 (by simp);obtain⟨rd,dx⟩:∃x,max P.round (min m.round R.round)=x:=⟨_,rfl⟩;have NW:pc R s m={P with round:=rd}:=by unfold pc;rw[hP,dx]
 obtain⟨h2,di,_⟩:=h1.setPeer (s:=s) (j:=3) (u:=.int .i64 rd) (p':={P with round:=rd}) dL hv (by omega) (by rw[hP];rfl);obtain⟨w2,cw⟩:=zN (((w1.setCell ⟨q,s*4+3,none⟩ (.int .i64 rd)).drew).drew);have ui:ar w2 w.heap.size 39 #[.int .i64 m.kind,.int .i64 (s:Int),.int .i64 m.tgt,.int .i64 m.term,.int .i64 m.idx,.int .i64 m.logTerm,.int .i64 m.commit,.int .i64 m.round,.bool m.reject,.int .i64 m.offset,.int .i64 m.total,ve,vd]:=by
  rw[<-cw];exact(di.block w.heap.size bN.lt fun e=>N5 e.symm).trans bN
 have CF:ax (ai aa w.heap.size b) b w2 g (R.setPeer s {P with round:=rd}) v:=by
  rw[<-cw];exact(h2.below (w':=(w1.setCell ⟨q,s*4+3,none⟩ (.int .i64 rd)).drew) (zb.drew)).below (w':=((w1.setCell ⟨q,s*4+3,none⟩ (.int .i64 rd)).drew).drew) (zb.drew)
 have Bj:Fr (aN (ai aa w.heap.size b) b) w1 w2:=by
  rw[<-cw];refine Fr.mono (X:=fun k=>k=q) ?_ fun k e=>by rw[e];exact⟨by omega,by omega⟩
  exact(di.trans (Fr.of_below (X:=fun k=>k=q) (zb.drew)) fun _ h=>.inl h).trans (Fr.of_below (X:=fun k=>k=q) (zb.drew)) fun _ h=>.inl h
 replace dx:=zH dx;replace cw:=zH cw;replace NW:=zH NW;replace Kk:=zH Kk;have BK:=zH hk;clear h h1 h2 di hk;unfold eH;simp only[vi];rw[hf];go_enter func109,ntmps109;go_wp2_with fail;refine dV [w.heap.size,g] w1 [] [0,1,2,3,4,5,6,7,8] ?_;refine aj ?_;simp only[af,Zx];repeat go_big_quiet_step(fail)
 apply wpQuiet_nil;go_wp2_with fail;refine bT (C:=dP [w.heap.size,g,q] w1.drew) [([0,1,2,3,4,5,6,7,8,9,10,11],12),([],13)] ([14,15],16) (by kernel_rfl) (by kernel_rfl) (fun _ _ _ _ e h=>⟨e.symm.trans h.1,h.2⟩) aR ?_;refine ap fun K1 ct=>?_
 simp only[af,Zx];repeat go_big_quiet_step(fail)
 apply wpQuiet_nil;go_wp2_with fail;refine⟨aR,ct _ _ ?_⟩;refine ap fun K2 ge=>?_
 simp only[af,Zx];apply wpQuiet_nil;go_wp2_with fail;rw[dx.out];refine⟨aR,ge _ _ ?_⟩;refine aC ?_;simp only[af,Zx];repeat go_big_quiet_step(fail)
 apply wpQuiet_nil;obtain⟨pf0,pf1,pf2,pf3⟩:=(⟨pf (s*4),pf (s*4+1),pf (s*4+2),pf (s*4+3)⟩:_/\_/\_/\_);obtain⟨m0,m1,m4,m8,m9,m10,-⟩:=ui.cs [0,1,4,8,9,10];simp only[Zx]at m0 m1 m4 m8 m9 m10;obtain⟨d9,d11,-⟩:=CF.s.cs [9,11];simp only[bE,vi,Zx]at d9 d11;have e2:=bK R s {P with round:=rd} dL;obtain⟨⟨z0,z1,z2,_⟩,⟨u0,u1,u2,_⟩,kE⟩:=CF.peer_cells (by rw[bo];exact dL) hv e2;have xx:w.heap.size<w2.heap.size:=ui.lt;have tX:g<w2.heap.size:=CF.s.lt;obtain⟨Ad,cd,rv,_⟩:=id CF.d;have d11':w2.cell? ⟨g,11,none⟩=some (.slice Ad R.snap.data.length cd):=by rw[d11,rv];rfl
 replace d9:w2.cell? ⟨g,9,none⟩=some (.int .i64 R.snap.idx):=d9;clear d11 rv;obtain⟨XK,ZI⟩:=lk.2.1;obtain⟨X9,Xo⟩:=lk.1;by_cases h8:m.kind=8/\0<m.total
 ·have e8:(m.kind==8)=true:=by simp[h8.1]
  have e10:=h8.2;by_cases hi:m.idx=R.snap.idx/\P.next-1<R.snap.idx
  ·have Rk:=hi.1;have N7:=hi.2;rw[<-Rk]at d9 N7 c9;clear Rk;replace hi:=zH hi;replace h8:=zH h8;obtain⟨of,Lm⟩:∃x,min m.offset (R.snap.data.length:Int)=x:=⟨_,rfl⟩;have Si:0<=of/\of<=R.snap.data.length:=by omega
   obtain⟨h3,lu,_⟩:=CF.setPeer (s:=s) (j:=2) (u:=.int .i64 of) (p':={P with round:=rd,offset:=of}) (by rw[bo];exact dL) (by rw[bo];exact hv) (by omega) (by rw[e2];rfl);rw[fq]at h3;obtain⟨W,hW⟩:=zN (((w2.setCell ⟨q,s*4+2,none⟩ (.int .i64 of)).drew).drew);have CM:ax (ai aa w.heap.size b) b W g (R.setPeer s {P with round:=rd,offset:=of}) v:=by
    rw[<-hW];exact(h3.below (w':=(w2.setCell ⟨q,s*4+2,none⟩ (.int .i64 of)).drew) (zb.drew)).below (w':=((w2.setCell ⟨q,s*4+2,none⟩ (.int .i64 of)).drew).drew) (zb.drew)
   have Ch:Fr (fun k=>k=q) w2 W:=by
    rw[<-hW];exact(lu.trans (Fr.of_below (X:=fun k=>k=q) (zb.drew)) fun _ h=>.inl h).trans (Fr.of_below (X:=fun k=>k=q) (zb.drew)) fun _ h=>.inl h
   have Io:Fr (aN (ai aa w.heap.size b) b) w1 W:=Bj.trans (Ch.mono (X':=aN (ai aa w.heap.size b) b) fun k e=>by rw[e];exact⟨by omega,by omega⟩) fun k h=>.inl h
   have Yf:W.cell? ⟨w.heap.size,1,none⟩=some (.int .i64 s):=(World.cell?_of_block (Ch.block w.heap.size xx fun e=>N5 e.symm)).trans m1;have aH:=nW s CM (BK.out.setPeer s (p:={P with round:=rd,offset:=of}) ⟨lk.1,lk.2.1,Si⟩) hr hs (by omega) (by omega);obtain⟨r4,r9,r0⟩:=sD [w.heap.size,g,q] m4 d9 z0;have s9:=ae (w:=w2.drew) (gs:=[w.heap.size,g]) m9 (by simp);have s11:=ae (w:=w2.drew) (gs:=[w.heap.size,g]) d11' (by simp);replace Lm:=zH Lm;replace hW:=zH hW;clear h3 CM lu Ch CF;go_wp2_with fail;rw[cw.out];refine dV [w.heap.size,g,q] w2 [] [0,1,2,3,4,5,6,7,8,9,10,11,12,13,14,15,16,17,18,19,20] ?_;refine aj ?_;simp only[af,Zx];repeat go_big_quiet_step(fail)
   apply wpQuiet_nil;go_wp2_with fail;refine bT (C:=dP [w.heap.size,g] w2.drew) [([0,1,2,3,4,5,6,7,8],9)] ([10,11],12) (by kernel_rfl) (by kernel_rfl) (fun _ _ _ _ e h=>⟨e.symm.trans h.1,h.2⟩) aR ?_;refine ap fun K3 jx=>?_
   simp only[af,Zx];repeat go_big_quiet_step(fail)
   apply wpQuiet_nil;go_wp2_with fail;rw[Lm.out];refine⟨aR,jx _ _ ?_⟩;refine aC ?_;simp only[af,Zx];repeat go_big_quiet_step(fail)
   apply wpQuiet_nil;go_wp2_with fail;rw[hW.out];refine aH.mono ?_;rintro e w9 ⟨rfl,mE⟩;have hQ:=zH (show ao aa b w g (R.answered m) w9 by rw[Kk.out,if_pos h8.out,hP,if_pos hi.out,NW.out,Lm.out];exact(mE.next (fun _ _ _=>rfl) (fun _ _ h=>h) Io).fresh aI);clear aH mE;go_wp2_with fail;exact al rfl rfl ⟨rfl,hQ.out⟩
  ·have Io:=Bj;have uW:ao (ai aa w.heap.size b) b w2 g (R.setPeer s {P with round:=rd}) w2:=⟨_,v,CF,fun _ _ _=>rfl,fun _ _ h=>h,Fr.refl _ _⟩;have hQ:=zH (show ao aa b w g (R.answered m) w2 by rw[Kk.out,if_pos h8,hP,if_neg hi,NW.out];exact(uW.next (fun _ _ _=>rfl) (fun _ _ h=>h) Bj).fresh aI);have VA:=zH (show ao aa b w g (R.answered m) w2.drew from hQ.out.below (zb.drew));obtain⟨r4,r9,r0⟩:=sD [w.heap.size,g,q] m4 d9 z0;replace h8:=zH h8;clear CF uW;by_cases hx:m.idx=R.snap.idx
   ·have zm:R.snap.idx<=P.next-1:=by
     rcases Int.lt_or_le (P.next-1) R.snap.idx with h|h
     ·exact absurd ⟨hx,h⟩ hi
     ·exact h
    have Oa:(m.idx==R.snap.idx)=true:=by simp[hx]
    replace hx:=zH hx;replace hi:=zH hi;go_wp2_with fail;rw[cw.out];refine dV [w.heap.size,g,q] w2 [] [0,1,2,3,4,5,6,7,8,9,10,11,12,13,14,15,16,17,18,19,20] ?_;refine aj ?_;simp only[af,Zx];repeat go_big_quiet_step(fail)
    apply wpQuiet_nil;go_wp2_with fail;exact al rfl rfl ⟨rfl,VA.out⟩
   ·have Oa:(m.idx==R.snap.idx)=false:=by simp[hx]
    replace hx:=zH hx;replace hi:=zH hi;go_wp2_with fail;rw[cw.out];refine dV [w.heap.size,g,q] w2 [] [0,1,2,3,4,5,6,7,8,9,10,11,12,13,14,15,16,17,18,19,20] ?_;refine aj ?_;simp only[af,Zx];repeat go_big_quiet_step(fail)
    apply wpQuiet_nil;go_wp2_with fail;exact al rfl rfl ⟨rfl,VA.out⟩
 ·by_cases h6:m.kind=6/\m.reject=true
  ·have e8:(m.kind==8)=false:=by simp[h6.1]
   have e6:(m.kind==6)=true:=by simp[h6.1]
   have er:=h6.2;obtain⟨nx,ci⟩:∃x,max (P.mat+1) (min (P.next-1) (m.idx+1))=x:=⟨_,rfl⟩;have hpm:=lk.1;have WU:=lk.2.1;have Os:1<=nx/\nx<=1099511627777:=by omega
   obtain⟨h3,lu,_⟩:=CF.setPeer (s:=s) (j:=0) (u:=.int .i64 nx) (p':={P with round:=rd,next:=nx}) (by rw[bo];exact dL) (by rw[bo];exact hv) (by omega) (by rw[e2];rfl);rw[fq,Nat.add_zero]at h3;rw[Nat.add_zero]at lu;obtain⟨W,hW⟩:=zN ((w2.setCell ⟨q,s*4,none⟩ (.int .i64 nx)).drew);have CM:ax (ai aa w.heap.size b) b W g (R.setPeer s {P with round:=rd,next:=nx}) v:=by
    rw[<-hW];exact h3.below (w':=(w2.setCell ⟨q,s*4,none⟩ (.int .i64 nx)).drew) (zb.drew)
   have Ch:Fr (fun k=>k=q) w2 W:=by
    rw[<-hW];exact lu.trans (Fr.of_below (X:=fun k=>k=q) (zb.drew)) fun _ h=>.inl h
   have Io:Fr (aN (ai aa w.heap.size b) b) w1 W:=Bj.trans (Ch.mono (X':=aN (ai aa w.heap.size b) b) fun k e=>by rw[e];exact⟨by omega,by omega⟩) fun k h=>.inl h
   have Yf:W.cell? ⟨w.heap.size,1,none⟩=some (.int .i64 s):=(World.cell?_of_block (Ch.block w.heap.size xx fun e=>N5 e.symm)).trans m1;have aH:=nW s CM (BK.out.setPeer s (p:={P with round:=rd,next:=nx}) ⟨lk.1,Os,lk.2.2⟩) hr hs (by omega) (by omega);obtain⟨r4,r1,r0⟩:=sD [w.heap.size,g,q] m4 z1 z0;replace ci:=zH ci;replace hW:=zH hW;replace h6:=zH h6;replace h8:=zH h8;clear h3 CM lu Ch CF;go_wp2_with fail;rw[cw.out];refine mI [w.heap.size,g,q] w2 [([0,1,2,3,4,5,6,7,8,9,10,11,12,13],14),([],15)] ([16,17],18) ?_;refine ap fun K3 jx=>?_
   simp only[af,Zx];repeat go_big_quiet_step(fail)
   apply wpQuiet_nil;go_wp2_with fail;refine⟨aR,jx _ _ ?_⟩;refine ap fun K4 tj=>?_
   simp only[af,Zx];apply wpQuiet_nil;go_wp2_with fail;rw[ci.out];refine⟨aR,tj _ _ ?_⟩;refine aC ?_;simp only[af,Zx];repeat go_big_quiet_step(fail)
   apply wpQuiet_nil;go_wp2_with fail;rw[hW.out];refine aH.mono ?_;rintro e w9 ⟨rfl,mE⟩;have hQ:=zH (show ao aa b w g (R.answered m) w9 by rw[Kk.out,if_neg h8.out,if_pos h6.out,hP,NW.out,ci.out];exact(mE.next (fun _ _ _=>rfl) (fun _ _ h=>h) Io).fresh aI);clear aH mE;go_wp2_with fail;exact al rfl rfl ⟨rfl,hQ.out⟩
  ·have aH:=J7 s m.idx CF (BK.out.setPeer s (p:={P with round:=rd}) ⟨lk.1,lk.2.1,lk.2.2⟩) hr hs (by omega) (by omega);have Io:=Bj;have cu:((m.kind==8)=true/\(m.kind==6)=false/\m.total<=0)\/((m.kind==8)=false/\(m.kind==6)=true/\m.reject=false)\/((m.kind==8)=false/\(m.kind==6)=false):=by
    by_cases a:m.kind=8
    ·refine .inl ⟨by simp[a],by simp[a],?_⟩;rcases Int.lt_or_le 0 m.total with h|h
     ·exact absurd ⟨a,h⟩ h8
     ·exact h
    ·by_cases c:m.kind=6
     ·refine .inr (.inl ⟨by simp[a],by simp[c],?_⟩);cases lh:m.reject with
      | false=>rfl
      | true=>exact absurd ⟨c,lh⟩ h6
     ·exact .inr (.inr ⟨by simp[a],by simp[c]⟩)
   replace h6:=zH h6;replace h8:=zH h8;clear CF;rcases cu with⟨e8,e6,et⟩|⟨e8,e6,er⟩|⟨e8,e6⟩
   all_goals
    go_wp2_with fail;rw[cw.out];refine aH.mono ?_;rintro e w9 ⟨rfl,mE⟩;have hQ:=zH (show ao aa b w g (R.answered m) w9 by rw[Kk.out,if_neg h8.out,if_neg h6.out,NW.out];exact(mE.next (fun _ _ _=>rfl) (fun _ _ h=>h) Io).fresh aI);clear aH mE;go_wp2_with fail;exact al rfl rfl ⟨rfl,hQ.out⟩
end
end
section
open Go.MapKept
theorem nv(i t:Int)(A:Option Addr)(n c:Nat)(l:List UInt8)(w:World)(hl:Rd w A n l)(hn:n<=1000000000) :
  Calls prog 39 #[.agg #[.int .i64 i,.int .i64 t,.slice A n c]] w fun e w'=>∃A' c',e=.returned (.agg #[.int .i64 i,.int .i64 t,.slice A' n c'])/\w'.ownsRow w.heap.size 5 1 (.slice A' n c') n (l.map vb)/\Below w.heap.size w w':=by
 obtain⟨aI,cl,eb⟩:=fC w 26 26 #[.int .i64 i,.int .i64 t,.slice A n c] #[.int .i64 0,.int .i64 0,.slice none 0 0];obtain⟨w2,cw⟩:=zN ((w.alloc (.cells #[.int .i64 i,.int .i64 t,.slice A n c] 26)).alloc (.cells #[.int .i64 0,.int .i64 0,.slice none 0 0] 26));rw[cw]at aI cl eb;have eB:=pt A n c l w2 (hl.below aI) hn;obtain⟨c0,c1,c2,-⟩:=cl.cs [0,1,2];simp only[Zx]at c0 c1 c2;replace cw:=zH cw;go_enter func39,ntmps39;go_wp2_with fail;rw[cw.out];go_wp2_with fail;refine eB.mono ?_;rintro e w3 ⟨A',c',rfl,aD,bS⟩;clear eB;have Ev:w.heap.size+1<w2.heap.size:=eb.lt;have J0:=cl.kept bS;have Je:=eb.kept bS;obtain⟨d0,d1,d2,-⟩:=J0.cs [0,1,2];simp only[Zx]at d0 d1 d2;obtain⟨e0,e1,e2,-⟩:=Je.cs [0,1,2];simp only[Zx]at e0 e1 e2;have f2:=J0.free 2;obtain⟨g0,g1,g2,-⟩:=Je.fs [0,1,2];have eE:=ab aI bS zl;go_wp2_with fail;obtain⟨w4,eL⟩:=zN ((((w3.setCell ⟨w.heap.size,2,none⟩ (.slice A' n c')).setCell ⟨w.heap.size+1,0,none⟩ (.int .i64 i)).setCell ⟨w.heap.size+1,1,none⟩ (.int .i64 t)).setCell ⟨w.heap.size+1,2,none⟩ (.slice A' n c'));have iK:Fr (fun j=>j=w.heap.size\/j=w.heap.size+1) w3 w4:=by
  rw[<-eL];exact((((Fr.set w.heap.size 2 _).mono (X':=fun j=>j=w.heap.size\/j=w.heap.size+1) fun _ h=>.inl h).trans ((Fr.set (w.heap.size+1) 0 _).mono (X':=fun j=>j=w.heap.size\/j=w.heap.size+1) fun _ h=>.inr h) fun _ h=>.inl h).trans ((Fr.set (w.heap.size+1) 1 _).mono (X':=fun j=>j=w.heap.size\/j=w.heap.size+1) fun _ h=>.inr h) fun _ h=>.inl h).trans ((Fr.set (w.heap.size+1) 2 _).mono (X':=fun j=>j=w.heap.size\/j=w.heap.size+1) fun _ h=>.inr h) fun _ h=>.inl h
 have C6:ar w4 (w.heap.size+1) 26 #[.int .i64 i,.int .i64 t,.slice A' n c']:=by
  rw[<-eL];have s0:ar (w3.setCell ⟨w.heap.size,2,none⟩ (.slice A' n c')) (w.heap.size+1) 26 #[.int .i64 0,.int .i64 0,.slice none 0 0]:=((Fr.set (w:=w3) w.heap.size 2 (.slice A' n c')).block (w.heap.size+1) Je.lt (by omega)).trans Je;have s:=((s0.set_ 0 (.int .i64 i)).set_ 1 (.int .i64 t)).set_ 2 (.slice A' n c');simp only[Zy]at s;exact s
 have fR:w4.ownsRow w.heap.size 5 1 (.slice A' n c') n (l.map vb):=ed (cH aD fun j hj hl=>iK.block j hl fun e=>by
  have:=(aB aD A' c' rfl j hj).2.1;omega) (by omega)
 have cz:Below w.heap.size w w4:=eE.trans (iK.below (by intro j e;omega) (by have:=eE.size;omega));rw[eL];obtain⟨r0,r1,r2,-⟩:=C6.cs [0,1,2];simp only[Zx]at r0 r1 r2;exact bodyPost_ret (v:=.agg #[.int .i64 i,.int .i64 t,.slice A' n c']) (by simp[results,results39,go_sem,r0,r1,r2]) rfl ⟨A',c',rfl,fR,cz⟩
theorem CD{i tm:Int}(hb:iR i tm=true)(aa:Nat->Nat)(q:Nat)(w:World):Calls prog 38 #[.int .i64 i,.int .i64 tm] w fun e w'=>e=.returned (.pointer (some ⟨w.heap.size,0,none⟩))/\tE (ai aa w.heap.size q) q w' (.pointer (some ⟨w.heap.size,0,none⟩)) ⟨i,tm,[]⟩/\Below w.heap.size w w':=by
 refine(IV hb w).mono ?_;rintro e w' ⟨rfl,hk,gQ⟩;refine⟨rfl,⟨w.heap.size,fun _=>False,none,0,0,[],rfl,⟨hk,b9 _ _,fun z hz=>(by cases hz),rfl,⟨?_,fun i x hx=>(by cases hx),fun x hx=>(by cases hx),fun i x hx=>(by cases hx)⟩,Nat.zero_le _,fun j h=>h.elim⟩,fun j hj=>?_⟩,gQ⟩
 ·unfold iR eC at hb;simp only[Bool.or_eq_true,Bool.and_eq_true,decide_eq_true_eq]at hb;show(i=0/\tm=0)\/(1<=i/\i<=_/\1<=tm/\tm<=_);omega
 ·rcases hj with rfl|⟨_,e,_⟩|h
  ·exact ay zl
  ·cases e
  ·exact h.elim
end
section
open Go.MapKept
section
variable {aa cM:Nat->Nat}{b g p n c c':Nat}{w w3 w7:World}{R R1:Rf}{v v' v3:Rw}{A A':Option Addr}
def ts(R1:Rf)(x:uw):Rf:={R1 with snap:=x,commit:=x.idx,gath:=F2,out:={R1.out with snap:=some x,save:=true}}
theorem Bc{R':Rf}(h:ar w g 107 (bE R v))(h':ar w g 107 (bE R' v')):v.gat=v'.gat:=by
 have a:=h.cell 21;have a':=h'.cell 21;simp only[bE,Zx]at a a';rw[a]at a';exact Option.some.inj a'
theorem vt(i t:Int)(h:ax cM b w3 g R1 v3)(hv:v3.gat=.slice A n c)(hn:n=R1.gath.data.length)(rD:n<=65536)(hS:ar w7 g 107 (bE (ts R1 ⟨i,t,R1.gath.data⟩) {v3 with dat:=.slice A n c,gat:=.slice none 0 0,snp:=.pointer (some ⟨p,0,none⟩)}))
  (hF:Fr (fun j=>j=g) w3 w7) (hp:w3.heap.size<=p) (hk:ar w7 p 26 #[.int .i64 i,.int .i64 t,.slice A' n c']) (ho:w7.ownsRow w3.heap.size 5 1 (.slice A' n c') n (R1.gath.data.map vb)):ao cM b w3 g (ts R1 ⟨i,t,R1.gath.data⟩) w7:=by
 obtain⟨A0,c0,e0,aD,jq⟩:=id h.gd;rw[hv]at e0;injection e0 with e1 e2 e3;subst e1;subst e3;have L:∀j,j<w3.heap.size->(if w3.heap.size<=j then b+13 else if cM j=b+7 then b+6 else if cM j=b+6 then b+7 else cM j)=if cM j=b+7 then b+6 else if cM j=b+6 then b+7 else cM j:=fun j hj=>if_neg (by omega)
 have fi:=bA ho;have jA:=bA aD;refine⟨fun j=>if w3.heap.size<=j then b+13 else if cM j=b+7 then b+6 else if cM j=b+6 then b+7 else cM j,_,h.turn [6,7] hS (fun k j h0 h1 hX hj e=>?_) (by simp) (hF.mono fun j e=>.inl e)
  tI tI tI tI (.inl ?_) (.inl (bQ.nil _ _ _ _ _)) tI tI (.inl ?_) tI tI,fun j hj hm=>?_,fun j hj hm=>?_,hF.mono fun j e=>?_⟩
 ·show(if w3.heap.size<=j then b+13 else if cM j=b+7 then b+6 else if cM j=b+6 then b+7 else cM j)=b+k;rw[L j hj,if_neg fun h=>hX (by simp;omega),if_neg fun h=>hX (by simp;omega)];exact e
 ·have aU:∀j,az A j->j<w3.heap.size:=fun j hj=>(aB aD A c rfl j hj).1
  have eM:=cH aD fun j hj hl=>hF.block j hl fun e=>by
   have a:=jq j hj;rw[e]at a;have:=h.sl;omega
  refine⟨A,c,(show Value.slice A n c=.slice A R1.gath.data.length c by rw[hn]),cn.of_own eM,jA.1,jA.2,fun _ ad e=>?_⟩;show(if w3.heap.size<=ad.block then b+13 else if cM ad.block=b+7 then b+6 else if cM ad.block=b+6 then b+7 else cM ad.block)=b+6;rw[L _ (aU _ ⟨ad,e,rfl⟩),if_pos (jq _ ⟨ad,e,rfl⟩)]
 ·refine⟨p,.slice A' n c',rfl,if_pos hp,hk,?_⟩;subst hn;exact⟨A',c',rfl,cn.of_own ho,fi.1,fi.2,fun _ ad e=>if_pos (aB ho A' c' rfl _ ⟨ad,e,rfl⟩).2.1⟩
 ·show(if w3.heap.size<=j then b+13 else if cM j=b+7 then b+6 else if cM j=b+6 then b+7 else cM j)=cM j;unfold aN at hm;rw[L j hj,if_neg (by omega),if_neg (by omega)]
 ·unfold aN at hm ⊢;simp only;rw[L j hj];split
  ·omega
  ·split
   ·omega
   ·exact hm
 ·rw[e];have:=h.sl;exact⟨by omega,by omega⟩
theorem ny(R:Rf)(x:uw):R.install x=ts (if R.track.termF x.idx=(x.term,0)then {R with track:=(R.track.dropF x.idx).2}else {R with track:=⟨x.idx,x.term,[]⟩,out:={R.out with reset:=true}}) x:=rfl
theorem zx{K M:Nat}(i t:Int)(h:ax aa b w g R v)(hk:Ok K M R)(hK:K<=100000)(iy:1<=i)(rP:i<=1099511627776)(ua:1<=t)(NR:t<=1099511627776)(hn:n=R.gath.data.length)(hv:v.gat=.slice A n c) :
  Calls prog 137 #[.pointer (some ⟨g,0,none⟩),.agg #[.int .i64 i,.int .i64 t,.slice A n c]] w fun e w'=>e=.returned (.tuple #[])/\ao aa b w g (R.install ⟨i,t,R.gath.data⟩) w':=by
 have cQ:=h.s.lt;have aI:Below w.heap.size w (w.alloc (.cells #[.int .i64 i,.int .i64 t,.slice A n c] 26)):=zb.alloc zl _;have bN:=ar.new w 26 #[.int .i64 i,.int .i64 t,.slice A n c];obtain⟨w1,bV⟩:=zN (w.alloc (.cells #[.int .i64 i,.int .i64 t,.slice A n c] 26));rw[bV]at aI bN;have hX:=cJ.start (N:=1) h aI (by have:=bN.lt;omega);obtain⟨ag,v1,h1,rx⟩:=hX.raft;have bH:v1.gat=.slice A n c:=(Bc h1.s (h.below aI).s).trans hv;have hN:R.track.L.length<=1000000:=by have:=hk.trk;omega
 have zf:=hk.gat;rw[<-hn]at zf;obtain⟨y0,y1,y2,-⟩:=bN.cs [0,1,2];simp only[Zx]at y0 y1 y2;have c8:=h1.s.cell 8;simp only[bE,vi,Zx]at c8;obtain⟨k0,k8⟩:=nY [g,w.heap.size] y0 c8;have iQ:g<w1.heap.size:=h1.s.lt;have cT:∀q∈[g,w.heap.size],q<w1.heap.size:=by simp;exact⟨iQ,bN.lt⟩
 have bh:=lT i (h1.below (w':=w1.drew) (zb.drew)).t hN;obtain⟨tt,i7⟩:=zN (R.track.termF i);rw[i7]at bh;have hI:=ny R ⟨i,t,R.gath.data⟩;rw[show R.track.termF (uw.mk i t R.gath.data).idx=tt from i7]at hI;have KI:=kW R.track i;rw[i7]at KI;replace hI:=zH hI;replace hn:=zH hn;replace bV:=zH bV;clear h hX i7;go_enter func137,ntmps137;go_wp2_with fail;rw[bV.out];refine dV [g,w.heap.size] w1 [([0,1,2,3,4,5],6)] [7,8,9,10,11] ?_;refine av fun K1 ct=>?_
 simp only[af,Zx];repeat go_big_quiet_step(fail)
 apply wpQuiet_nil;go_wp2_with fail;refine bh.mono ?_;rintro e w2 ⟨rfl,bJ⟩;clear bh;go_wp2_with fail;have bR:Below w1.heap.size w1 w2:=(zb.drew).trans bJ;refine⟨aq cT bR,ct _ _ ?_⟩;refine aj ?_;simp only[af,Zx];repeat go_big_quiet_step(fail)
 apply wpQuiet_nil;have h2:=h1.below bR;obtain⟨o6,nD⟩:=rx w2 R ⟨ag,v1,h2,fun _ _ _=>rfl,fun _ _ h=>h,Fr.of_below bR⟩;have ui:=bN.kept bR;by_cases hc:tt=(t,0)
 ·have gZ:=zH (hI.out.trans (by rw[if_pos hc]):R.install ⟨i,t,R.gath.data⟩=ts {R with track:=(R.track.dropF i).2} ⟨i,t,R.gath.data⟩);have e1:(tt.2==0)=true:=by simp[hc]
  have e2:(tt.1==t)=true:=by simp[hc]
  have vh:=HL i (h2.below (w':=w2.drew) (zb.drew)) hN;have d8:=h2.s.cell 8;simp only[bE,vi,Zx]at d8;obtain⟨o0,o1,-⟩:=ui.cs [0,1];simp only[Zx]at o0 o1;obtain⟨r8,r0⟩:=nY [g,w.heap.size] d8 o0;replace hc:=zH hc;clear hI;go_wp2_with fail;refine mI [g,w.heap.size] w2 [] ([0,1,2,3,4,5],6) ?_;refine aC ?_;simp only[af,Zx];repeat go_big_quiet_step(fail)
  apply wpQuiet_nil;go_wp2_with fail;refine vh.mono ?_;rintro e w3 ⟨rfl,hT⟩;clear vh d8 o0 o1 r8 r0;obtain⟨UR,_,Gr⟩:=(⟨o6,nD,fun w' R2 (hP:ao ag b w2 g R2 w')=>rx w' R2 (hP.behind bR)⟩:cJ aa b w g R 1 w2/\_/\∀w' R2,ao ag b w2 g R2 w'->cJ aa b w g R2 1 w'/\boxes w.heap.size 1 w1 w');obtain⟨pS,jr⟩:=Gr w3 _ (hT.post.behind (w:=w2) (zb.drew));have RE:=hT.blk;obtain⟨R1,kV⟩:=zN (({R with track:=(R.track.dropF i).2}:Rf));have vY:R1.gath.data=R.gath.data:=by rw[<-kV]
  rw[kV]at pS RE gZ;obtain⟨cM,v3,h3,iu⟩:=pS.raft;have be:v3.gat=.slice A n c:=(Bc h3.s RE).trans bH;have pJ:ar w3 w.heap.size 26 #[.int .i64 i,.int .i64 t,.slice A n c]:=jr.blk zl (by omega) bN;clear hT RE pS o6 UR Gr rx h1 h2 kV nD jr y0 y1 y2 c8 k0 k8 ui bN e1 e2;have M4:g≠w.heap.size:=by omega
  obtain⟨m0,m1,m2,-⟩:=pJ.cs [0,1,2];simp only[Zx]at m0 m1 m2;obtain⟨s9,s10,s11,s12,s17,s18,s19,s20,s21,s22,s28,-⟩:=h3.s.cs [9,10,11,12,17,18,19,20,21,22,28];simp only[bE,vi,Zx]at s9 s10 s11 s12 s17 s18 s19 s20 s21 s22 s28;obtain⟨f9,f10,f11,f12,f17,f18,f19,f20,f21,-⟩:=h3.s.fs [9,10,11,12,17,18,19,20,21];obtain⟨q0,q1,q2⟩:=sD [w.heap.size] m0 m1 m2;have e:∀{a b:World},Fr (fun j=>j=g) w3 a->Fr (fun j=>j=g) a b->Fr (fun j=>j=g) w3 b:=fun h h'=>h.trans h' fun _ h=>.inl h
  have AD:=e (e (Fr.set (w:=w3) g 9 (.int .i64 i)) (Fr.set g 10 (.int .i64 t))) (Fr.set g 11 (.slice A n c));have Au:=e AD (Fr.set g 12 (.int .i64 i));have OE:=e (e (e (e (e Au (Fr.set g 17 (.int .i64 0))) (Fr.set g 18 (.int .i64 0))) (Fr.set g 19 (.int .i64 0))) (Fr.set g 20 (.int .i64 0))) (Fr.set g 21 (.slice none 0 0));have wI:=((((((((h3.s.set_ 9 (.int .i64 i)).set_ 10 (.int .i64 t)).set_ 11 (.slice A n c)).set_ 12 (.int .i64 i)).set_ 17 (.int .i64 0)).set_ 18 (.int .i64 0)).set_ 19 (.int .i64 0)).set_ 20 (.int .i64 0)).set_ 21 (.slice none 0 0);simp only[bE,Zy]at wI;obtain⟨w4,eL⟩:=zN ((((((((((w3.setCell ⟨g,9,none⟩ (.int .i64 i)).setCell ⟨g,10,none⟩ (.int .i64 t)).setCell ⟨g,11,none⟩ (.slice A n c)).setCell ⟨g,12,none⟩ (.int .i64 i)).setCell ⟨g,17,none⟩ (.int .i64 0)).setCell ⟨g,18,none⟩ (.int .i64 0)).setCell ⟨g,19,none⟩ (.int .i64 0)).setCell ⟨g,20,none⟩ (.int .i64 0)).setCell ⟨g,21,none⟩ (.slice none 0 0)).drew);have iK:Fr (fun j=>j=g) w3 w4:=by rw[<-eL];exact e OE (Fr.of_below (zb.drew))
  replace wI:=wI.kept (zb.drew);rw[eL]at wI;replace wI:=(show ar w4 g 107 (bE {R1 with snap:=⟨i,t,R1.gath.data⟩,commit:=i,gath:=F2} {v3 with dat:=.slice A n c,gat:=.slice none 0 0})from wI);have BP:w.heap.size<w3.heap.size:=pJ.lt;have EB:ar w4 w.heap.size 26 #[.int .i64 i,.int .i64 t,.slice A n c]:=(iK.block w.heap.size BP (fun e=>M4 e.symm)).trans pJ;have TU:Rd w4 A n R1.gath.data:=by
   obtain⟨A0,c0,e0,aD,jq⟩:=id h3.gd;rw[be]at e0;injection e0 with e1 e2 e3;subst e1;subst e3;have ah:n=R1.gath.data.length:=e2;have:=cH aD fun j hj hl=>iK.block j hl fun e=>by
    have a:=jq j hj;rw[e]at a;have:=h3.sl;omega
   rw[ah];exact cn.of_own this
  have Ky:=nv i t A n c R1.gath.data w4 TU (by omega);have LH:n=R1.gath.data.length:=by rw[vY];exact hn.out
  obtain⟨x0,x1,x2,-⟩:=EB.cs [0,1,2];simp only[Zx]at x0 x1 x2;replace eL:=zH eL;replace LH:=zH LH;clear e;go_wp2_with fail;refine mI [w.heap.size] w3 [([0,1,2,3,4,5,6,7,8],9),([10,11],12)] ([13,14],15) ?_;refine ap fun K5 wR=>?_
  simp only[af,Zx];repeat go_big_quiet_step(fail)
  apply wpQuiet_nil;go_wp2_with fail;refine⟨br (AD.block w.heap.size BP fun e=>M4 e.symm),wR _ _ ?_⟩;refine ap fun K6 rS=>?_
  simp only[af,Zx];repeat go_big_quiet_step(fail)
  apply wpQuiet_nil;go_wp2_with fail;refine⟨br (Au.block w.heap.size BP fun e=>M4 e.symm),rS _ _ ?_⟩;refine aC ?_;simp only[af,Zx];repeat go_big_quiet_step(fail)
  apply wpQuiet_nil;go_wp2_with fail;rw[eL.out];go_wp2_with fail;refine Ky.mono ?_;rintro e w5 ⟨A',c',rfl,dm,cD⟩;clear Ky m0 m1 m2 q0 q1 q2 f9 f10 f11 f12 f17 f18 f19 f20 f21 s9 s10 s11 s12 s17 s18 s19 s20 s21 s22 s28 x0 x1 x2 AD Au OE;have xo:=wI.kept cD;have jp:g<w5.heap.size:=xo.lt;have kh:Below w5.heap.size w5 (w5.alloc (.cells #[.int .i64 i,.int .i64 t,.slice A' n c'] 26)):=zb.alloc zl _;have fS:=ar.new w5 26 #[.int .i64 i,.int .i64 t,.slice A' n c'];have iS:=xo.kept kh;have ff:=bf dm kh;obtain⟨w6,E6⟩:=zN (w5.alloc (.cells #[.int .i64 i,.int .i64 t,.slice A' n c'] 26));rw[E6]at kh fS iS ff;obtain⟨u22,u28,-⟩:=iS.cs [22,28];simp only[bE,vi,Zx]at u22 u28;obtain⟨n22,n28,-⟩:=iS.fs [22,28];obtain⟨p,hp⟩:=zN (w5.heap.size);have rU:p≠g:=by omega
  have Ex:w3.heap.size<=p:=by have:=iK.size;have:=cD.size;omega
  rw[hp]at fS;have Dp:=(iS.set_ 28 (.pointer (some ⟨p,0,none⟩))).set_ 22 (.bool true);simp only[bE,Zy]at Dp;have CY:Fr (fun j=>j=g) w6 ((w6.setCell ⟨g,28,none⟩ (.pointer (some ⟨p,0,none⟩))).setCell ⟨g,22,none⟩ (.bool true)):=(Fr.set g 28 _).trans (Fr.set g 22 _) fun _ h=>.inl h
  have Cr:=vt i t h3 be LH.out zf Dp (((iK.trans (Fr.of_below (X:=fun j=>j=g) cD) fun _ h=>.inl h).trans (Fr.of_below (X:=fun j=>j=g) kh) fun _ h=>.inl h).trans CY fun _ h=>.inl h) Ex ((CY.block p fS.lt rU).trans fS)
   (ed (cH ff fun j hj hl=>CY.block j hl fun e=>by
    have:=(aB ff A' c' rfl j hj).2.1;have:=wI.lt;omega) iK.size)
  have hQ:=zH (show ao aa b w g (R.install ⟨i,t,R.gath.data⟩) _ from by rw[gZ.out,<-vY];exact(iu _ _ Cr).1.post);clear Cr Dp CY iS ff fS dm wI xo h3 iu;go_wp2_with fail;exact al rfl rfl ⟨rfl,hQ.out⟩
 ·have gZ:=zH (hI.out.trans (by rw[if_neg hc]):R.install ⟨i,t,R.gath.data⟩=ts {R with track:=⟨i,t,[]⟩,out:={R.out with reset:=true}} ⟨i,t,R.gath.data⟩);have cu:(tt.2==0)=false\/((tt.2==0)=true/\(tt.1==t)=false):=by
   by_cases e1:tt.2=0
   ·refine .inr ⟨by simp[e1],?_⟩;have:tt.1≠t:=fun e=>hc (by rw[<-e,<-e1])
    simp[this]
   ·exact .inl (by simp[e1])
  have dH:iR i t=true:=by
   unfold iR eC;simp only[Bool.or_eq_true,Bool.and_eq_true,decide_eq_true_eq];omega
  have nV:=CD dH ag (b+2) w2;obtain⟨o0,o1,-⟩:=ui.cs [0,1];simp only[Zx]at o0 o1;have tX:g<w2.heap.size:=h2.s.lt;obtain⟨R1,kV⟩:=zN (({R with track:=⟨i,t,[]⟩,out:={R.out with reset:=true}}:Rf));have vY:R1.gath.data=R.gath.data:=by rw[<-kV]
  rw[kV]at gZ;have lp:=zH (show ∀w9,tE (ai ag w2.heap.size (b+2)) (b+2) w9 (.pointer (some ⟨w2.heap.size,0,none⟩)) ⟨i,t,[]⟩->Below w2.heap.size w2 w9->
    ∃cM v3,ax cM b ((w9.setCell ⟨g,8,none⟩ (.pointer (some ⟨w2.heap.size,0,none⟩))).setCell ⟨g,23,none⟩ (.bool true)) g R1 v3/\v3.gat=.slice A n c/\(∀w' R2,ao cM b ((w9.setCell ⟨g,8,none⟩ (.pointer (some ⟨w2.heap.size,0,none⟩))).setCell ⟨g,23,none⟩ (.bool true)) g R2 w'->ao aa b w g R2 w')/\ar ((w9.setCell ⟨g,8,none⟩ (.pointer (some ⟨w2.heap.size,0,none⟩))).setCell ⟨g,23,none⟩ (.bool true)) w.heap.size 26 #[.int .i64 i,.int .i64 t,.slice A n c]from fun w9 eI my=>by
   have YS:=h2.s.kept my;have Ir:Fr (fun j=>j=g) w9 ((w9.setCell ⟨g,8,none⟩ (.pointer (some ⟨w2.heap.size,0,none⟩))).setCell ⟨g,23,none⟩ (.bool true)):=(Fr.set g 8 _).trans (Fr.set g 23 _) fun _ h=>.inl h
   have Ri:=(YS.set_ 8 (.pointer (some ⟨w2.heap.size,0,none⟩))).set_ 23 (.bool true);simp only[bE,Zy]at Ri;replace Ri:ar ((w9.setCell ⟨g,8,none⟩ (.pointer (some ⟨w2.heap.size,0,none⟩))).setCell ⟨g,23,none⟩ (.bool true)) g 107 (bE R1 {v1 with trk:=.pointer (some ⟨w2.heap.size,0,none⟩)}):=by rw[<-kV];exact Ri
   have mE:ao ag b w2 g R1 ((w9.setCell ⟨g,8,none⟩ (.pointer (some ⟨w2.heap.size,0,none⟩))).setCell ⟨g,23,none⟩ (.bool true)):=by
    refine ao.turn (ak:=ai ag w2.heap.size (b+2)) [2] h2 Ri (fun j hj=>ac hj) (by simp) (((Fr.of_below (X:=fun j=>j=g) my).trans Ir fun _ h=>.inl h).mono fun j e=>.inl e) (.inl ?_)
     (.inr ⟨by simp,rfl,by rw[<-kV]⟩) (.inr ⟨by simp,rfl,by rw[<-kV]⟩) (.inr ⟨by simp,rfl,by rw[<-kV]⟩) (.inr ⟨by simp,rfl,by rw[<-kV]⟩) (.inr ⟨by simp,rfl,by rw[<-kV]⟩) (.inr ⟨by simp,rfl,by rw[<-kV]⟩) (.inr ⟨by simp,rfl,by rw[<-kV]⟩) (.inr ⟨by simp,rfl,by rw[<-kV]⟩) (.inr ⟨by simp,rfl,by rw[<-kV]⟩) (.inr ⟨by simp,rfl,by rw[<-kV]⟩)
    rw[show R1.track=⟨i,t,[]⟩ by rw[<-kV]];refine eI.keep fun j hj hl=>Ir.block j hl fun e=>?_
    rw[e,ac tX]at hj;have:=h2.sl;omega
   obtain⟨jo,St⟩:=rx _ _ (mE.behind bR);obtain⟨cM,v3,h3,iu⟩:=jo.raft;exact⟨cM,v3,h3,(Bc h3.s Ri).trans bH,fun w' R2 hP=>(iu w' R2 hP).1.post,St.blk zl (by omega) bN⟩)
  obtain⟨Kl,M1,-⟩:=h2.s.cs [8,23];simp only[bE,vi,Zx]at Kl M1;obtain⟨Uv,TH,-⟩:=h2.s.fs [8,23];replace hc:=zH hc;clear hI h2 rx h1 o6 nD ui bN y0 y1 y2 c8 k0 k8 kV KI;rcases cu with e1|⟨e1,e2⟩
  all_goals
   go_wp2_with fail;refine nV.mono ?_;rintro e w9 ⟨rfl,eI,my⟩;obtain⟨cM,v3,h3,be,iu,pJ⟩:=lp.out w9 eI my;have a8:=(my.cell (aw Kl)).trans Kl;have a23:=(my.cell (aw M1)).trans M1;have b8:=(my.frozen (p:=⟨g,8,none⟩) tX).trans Uv;have b23:=(my.frozen (p:=⟨g,23,none⟩) tX).trans TH;clear nV eI lp;obtain⟨w3,iU⟩:=zN ((w9.setCell ⟨g,8,none⟩ (.pointer (some ⟨w2.heap.size,0,none⟩))).setCell ⟨g,23,none⟩ (.bool true));rw[iU]at h3 iu pJ;replace iU:=zH iU;have M4:g≠w.heap.size:=by omega
   obtain⟨m0,m1,m2,-⟩:=pJ.cs [0,1,2];simp only[Zx]at m0 m1 m2;obtain⟨s9,s10,s11,s12,s17,s18,s19,s20,s21,s22,s28,-⟩:=h3.s.cs [9,10,11,12,17,18,19,20,21,22,28];simp only[bE,vi,Zx]at s9 s10 s11 s12 s17 s18 s19 s20 s21 s22 s28;obtain⟨f9,f10,f11,f12,f17,f18,f19,f20,f21,-⟩:=h3.s.fs [9,10,11,12,17,18,19,20,21];obtain⟨q0,q1,q2⟩:=sD [w.heap.size] m0 m1 m2;have e:∀{a b:World},Fr (fun j=>j=g) w3 a->Fr (fun j=>j=g) a b->Fr (fun j=>j=g) w3 b:=fun h h'=>h.trans h' fun _ h=>.inl h
   have AD:=e (e (Fr.set (w:=w3) g 9 (.int .i64 i)) (Fr.set g 10 (.int .i64 t))) (Fr.set g 11 (.slice A n c));have Au:=e AD (Fr.set g 12 (.int .i64 i));have OE:=e (e (e (e (e Au (Fr.set g 17 (.int .i64 0))) (Fr.set g 18 (.int .i64 0))) (Fr.set g 19 (.int .i64 0))) (Fr.set g 20 (.int .i64 0))) (Fr.set g 21 (.slice none 0 0));have wI:=((((((((h3.s.set_ 9 (.int .i64 i)).set_ 10 (.int .i64 t)).set_ 11 (.slice A n c)).set_ 12 (.int .i64 i)).set_ 17 (.int .i64 0)).set_ 18 (.int .i64 0)).set_ 19 (.int .i64 0)).set_ 20 (.int .i64 0)).set_ 21 (.slice none 0 0);simp only[bE,Zy]at wI;obtain⟨w4,eL⟩:=zN ((((((((((w3.setCell ⟨g,9,none⟩ (.int .i64 i)).setCell ⟨g,10,none⟩ (.int .i64 t)).setCell ⟨g,11,none⟩ (.slice A n c)).setCell ⟨g,12,none⟩ (.int .i64 i)).setCell ⟨g,17,none⟩ (.int .i64 0)).setCell ⟨g,18,none⟩ (.int .i64 0)).setCell ⟨g,19,none⟩ (.int .i64 0)).setCell ⟨g,20,none⟩ (.int .i64 0)).setCell ⟨g,21,none⟩ (.slice none 0 0)).drew);have iK:Fr (fun j=>j=g) w3 w4:=by rw[<-eL];exact e OE (Fr.of_below (zb.drew))
   replace wI:=wI.kept (zb.drew);rw[eL]at wI;replace wI:=(show ar w4 g 107 (bE {R1 with snap:=⟨i,t,R1.gath.data⟩,commit:=i,gath:=F2} {v3 with dat:=.slice A n c,gat:=.slice none 0 0})from wI);have BP:w.heap.size<w3.heap.size:=pJ.lt;have EB:ar w4 w.heap.size 26 #[.int .i64 i,.int .i64 t,.slice A n c]:=(iK.block w.heap.size BP (fun e=>M4 e.symm)).trans pJ;have TU:Rd w4 A n R1.gath.data:=by
    obtain⟨A0,c0,e0,aD,jq⟩:=id h3.gd;rw[be]at e0;injection e0 with e1 e2 e3;subst e1;subst e3;have ah:n=R1.gath.data.length:=e2;have:=cH aD fun j hj hl=>iK.block j hl fun e=>by
     have a:=jq j hj;rw[e]at a;have:=h3.sl;omega
    rw[ah];exact cn.of_own this
   have Ky:=nv i t A n c R1.gath.data w4 TU (by omega);have LH:n=R1.gath.data.length:=by rw[vY];exact hn.out
   obtain⟨x0,x1,x2,-⟩:=EB.cs [0,1,2];simp only[Zx]at x0 x1 x2;replace eL:=zH eL;replace LH:=zH LH;clear e;go_wp2_with fail;rw[iU.out];refine mI [w.heap.size] w3 [([0,1,2,3,4,5,6,7,8],9),([10,11],12)] ([13,14],15) ?_;refine ap fun K5 wR=>?_
   simp only[af,Zx];repeat go_big_quiet_step(fail)
   apply wpQuiet_nil;go_wp2_with fail;refine⟨br (AD.block w.heap.size BP fun e=>M4 e.symm),wR _ _ ?_⟩;refine ap fun K6 rS=>?_
   simp only[af,Zx];repeat go_big_quiet_step(fail)
   apply wpQuiet_nil;go_wp2_with fail;refine⟨br (Au.block w.heap.size BP fun e=>M4 e.symm),rS _ _ ?_⟩;refine aC ?_;simp only[af,Zx];repeat go_big_quiet_step(fail)
   apply wpQuiet_nil;go_wp2_with fail;rw[eL.out];go_wp2_with fail;refine Ky.mono ?_;rintro e w5 ⟨A',c',rfl,dm,cD⟩;clear Ky m0 m1 m2 q0 q1 q2 f9 f10 f11 f12 f17 f18 f19 f20 f21 s9 s10 s11 s12 s17 s18 s19 s20 s21 s22 s28 x0 x1 x2 AD Au OE;have xo:=wI.kept cD;have jp:g<w5.heap.size:=xo.lt;have kh:Below w5.heap.size w5 (w5.alloc (.cells #[.int .i64 i,.int .i64 t,.slice A' n c'] 26)):=zb.alloc zl _;have fS:=ar.new w5 26 #[.int .i64 i,.int .i64 t,.slice A' n c'];have iS:=xo.kept kh;have ff:=bf dm kh;obtain⟨w6,E6⟩:=zN (w5.alloc (.cells #[.int .i64 i,.int .i64 t,.slice A' n c'] 26));rw[E6]at kh fS iS ff;obtain⟨u22,u28,-⟩:=iS.cs [22,28];simp only[bE,vi,Zx]at u22 u28;obtain⟨n22,n28,-⟩:=iS.fs [22,28];obtain⟨p,hp⟩:=zN (w5.heap.size);have rU:p≠g:=by omega
   have Ex:w3.heap.size<=p:=by have:=iK.size;have:=cD.size;omega
   rw[hp]at fS;have Dp:=(iS.set_ 28 (.pointer (some ⟨p,0,none⟩))).set_ 22 (.bool true);simp only[bE,Zy]at Dp;have CY:Fr (fun j=>j=g) w6 ((w6.setCell ⟨g,28,none⟩ (.pointer (some ⟨p,0,none⟩))).setCell ⟨g,22,none⟩ (.bool true)):=(Fr.set g 28 _).trans (Fr.set g 22 _) fun _ h=>.inl h
   have Cr:=vt i t h3 be LH.out zf Dp (((iK.trans (Fr.of_below (X:=fun j=>j=g) cD) fun _ h=>.inl h).trans (Fr.of_below (X:=fun j=>j=g) kh) fun _ h=>.inl h).trans CY fun _ h=>.inl h) Ex ((CY.block p fS.lt rU).trans fS)
    (ed (cH ff fun j hj hl=>CY.block j hl fun e=>by
     have:=(aB ff A' c' rfl j hj).2.1;have:=wI.lt;omega) iK.size)
   have hQ:=zH (show ao aa b w g (R.install ⟨i,t,R.gath.data⟩) _ from by rw[gZ.out,<-vY];exact iu _ _ Cr);clear Cr Dp CY iS ff fS dm wI xo h3 iu;go_wp2_with fail;exact al rfl rfl ⟨rfl,hQ.out⟩
end
end
section
open Go.MapKept
theorem g8{w:World}{ops:Array Oper}{rest:List Oper}{o:Oper}{a:Act}{Q:Exit->Act->World->Prop}(kt:o.guard=none)(s x:Operand)
  (ho:o.op=.call {callee:=.builtin .append,args:=#[s,x],argTypes:=#[24,24]})
  (base:Nat) {A:Option Addr} {n c:Nat} {l:List UInt8} (hs:a.eval s=.slice A n c) (aD:w.ownsRow base 5 1 (.slice A n c) n (l.map vb))
  {B:Option Addr} {m d:Nat} {r:List UInt8} (hx:a.eval x=.slice B m d) (hr:Rd w B m r) (hb:n+m<=1000000000) (bl:base<=w.heap.size)
  (h:∀A' c' w',w'.ownsRow base 5 1 (.slice A' (n+m) c') (n+m) ((l++r).map vb)->Fr (az A) w w'->(∀j,az A' j->az A j\/w.heap.size<=j)->wpList prog ops Q rest (a.put o.dst (.slice A' (n+m) c')) w'):wpList prog ops Q (o::rest) a w:=by
 obtain⟨i0,iy,jK,iL,gL⟩:=info_parts mz;refine bb w kt s x 24 ho base 5 i0 _ 1 1 underlying24 iy jK iL gL rfl (by omega) (.slice A n c) n _ hs aD B m d _ hx hr (fun u hu=>Gx u hu) (by unfold maxLen;omega) (by omega) bl fun A' c' w' h3 h4 h5=>?_
 exact h A' c' w' (by rw[List.map_append];exact h3) (Fr.grown h4) (gE h5)
section
variable {aa:Nat->Nat}{b g n m c c':Nat}{w w5:World}{R:Rf}{v:Rw}{A A':Option Addr}{r:List UInt8}
theorem Ec(h:ax aa b w g R v)(hv:v.gat=.slice A n c)(hm:m=r.length)(ho:w5.ownsRow 0 5 1 (.slice A' (n+m) c') (n+m) ((R.gath.data++r).map vb))(hF:Fr (az A) w w5)(hr:∀j,az A' j->az A j\/w.heap.size<=j) :
  ao aa b w g {R with gath:={R.gath with data:=R.gath.data++r}} (w5.setCell ⟨g,21,none⟩ (.slice A' (n+m) c'))/\ar (w5.setCell ⟨g,21,none⟩ (.slice A' (n+m) c')) g 107 (bE R {v with gat:=.slice A' (n+m) c'})/\ar w5 g 107 (bE R v)/\Fr (fun j=>aa j=b+7\/j=g) w w5:=by
 obtain⟨A0,c0,e0,aD,jq⟩:=id h.gd;rw[hv]at e0;injection e0 with e1 e2 e3;subst e1;subst e2;subst e3;have uL:¬az A g:=fun hh=>by have:=jq g hh;have:=h.sl;omega
 have xo:ar w5 g 107 (bE R v):=(hF.block g h.s.lt uL).trans h.s;have eQ:=Fr.set (w:=w5) g 21 (.slice A' (R.gath.data.length+m) c');have iS:=xo.set_ 21 (.slice A' (R.gath.data.length+m) c');simp only[bE,Zy]at iS;have Lq:ar (w5.setCell ⟨g,21,none⟩ (.slice A' (R.gath.data.length+m) c')) g 107 (bE R {v with gat:=.slice A' (R.gath.data.length+m) c'}):=iS;refine⟨?_,Lq,xo,hF.mono fun j hj=>.inl (jq j hj)⟩;refine ao.turn (v':={v with gat:=.slice A' (R.gath.data.length+m) c'}) (ak:=ai aa w.heap.size (b+7)) [7] h Lq (fun j hj=>ac hj) (by simp) ((hF.mono (X':=fun j=>j=g\/∃i,i∈[7]/\aa j=b+i) fun j e=>.inr ⟨7,by simp,jq j e⟩).trans eQ fun j e=>.inl (.inl e))
  tI tI tI tI tI (.inl ?_) tI tI tI tI tI
 show bQ _ _ _ _ _ _ (R.gath.data++r).length _;rw[List.length_append,<-hm];have fG:∀j,az A' j->ai aa w.heap.size (b+7) j=b+7:=fun j hj=>by
  rcases hr j hj with h6|h6
  ·exact(ac (aB aD A c rfl j h6).1).trans (jq j h6)
  ·exact ay h6
 refine bQ.keep (w:=w5) ⟨A',c',rfl,ho,fG⟩ fun j hj hl=>eQ.block j hl fun e=>?_
 rw[e,ac h.s.lt]at hj;have:=h.sl;omega
theorem Hj(f i t k:Int)(h:ax aa b w g R v):ax aa b (((((w.setCell ⟨g,17,none⟩ (.int .i64 f)).setCell ⟨g,18,none⟩ (.int .i64 i)).setCell ⟨g,19,none⟩ (.int .i64 t)).setCell ⟨g,20,none⟩ (.int .i64 k)).setCell ⟨g,21,none⟩ (.slice none 0 0)) g {R with gath:=⟨f,i,t,k,[]⟩} {v with gat:=.slice none 0 0}/\
  Fr (fun j=>j=g) w (((((w.setCell ⟨g,17,none⟩ (.int .i64 f)).setCell ⟨g,18,none⟩ (.int .i64 i)).setCell ⟨g,19,none⟩ (.int .i64 t)).setCell ⟨g,20,none⟩ (.int .i64 k)).setCell ⟨g,21,none⟩ (.slice none 0 0)):=by
 have e:∀{a b:World},Fr (fun j=>j=g) w a->Fr (fun j=>j=g) a b->Fr (fun j=>j=g) w b:=fun h h'=>h.trans h' fun _ h=>.inl h
 have hF:=e (e (e (e (Fr.set (w:=w) g 17 (.int .i64 f)) (Fr.set g 18 (.int .i64 i))) (Fr.set g 19 (.int .i64 t))) (Fr.set g 20 (.int .i64 k))) (Fr.set g 21 (.slice none 0 0));have s:=((((h.s.set_ 17 (.int .i64 f)).set_ 18 (.int .i64 i)).set_ 19 (.int .i64 t)).set_ 20 (.int .i64 k)).set_ 21 (.slice none 0 0);simp only[bE,Zy]at s;exact⟨h.turn [7] s (fun _ _ _ _ _ _ e=>e) (by simp) (hF.mono fun j e=>.inl e)
  tI tI tI tI tI (.inl (bQ.nil _ _ _ _ _)) tI tI tI tI tI,hF⟩
end
end
section
open Go.MapKept
def mh(R:Rf)(m:Mg):Bool:=!(decide (R.gath.frm=m.frm/\R.gath.idx=m.idx/\R.gath.term=m.logTerm/\R.gath.total=m.total/\m.offset≠0))
def gg(R:Rf)(m:Mg):Gt:=if mh R m=true then⟨m.frm,m.idx,m.logTerm,m.total,[]⟩else R.gath
def mF(R:Rf)(m:Mg):Bool:=decide (m.offset=(gg R m).data.length/\(gg R m).data.length+m.data.length<=m.total)
theorem yS(R:Rf)(m:Mg):R.gath1 m=if mF R m=true then {gg R m with data:=(gg R m).data++m.data}else gg R m:=by
 have e:gg R m=if R.gath.frm=m.frm/\R.gath.idx=m.idx/\R.gath.term=m.logTerm/\R.gath.total=m.total/\m.offset≠0 then R.gath else⟨m.frm,m.idx,m.logTerm,m.total,[]⟩:=by
  unfold gg mh;by_cases h:R.gath.frm=m.frm/\R.gath.idx=m.idx/\R.gath.term=m.logTerm/\R.gath.total=m.total/\m.offset≠0
  ·rw[if_pos h,if_neg (by simp[h])]
  ·rw[if_neg h,if_pos (by rw[decide_eq_false h];rfl)]
 unfold Rf.gath1;simp only;rw[<-e];unfold mF;by_cases h:m.offset=(gg R m).data.length/\((gg R m).data.length:Int)+m.data.length<=m.total
 ·rw[if_pos h,if_pos (by simpa using h)]
 ·rw[if_neg h,if_neg (by simpa using h)]
theorem uS{R:Rf}{m:Mg}(h:R.gath.data.length<=65536):(gg R m).data.length<=65536:=by
 unfold gg;split
 ·exact Nat.zero_le _
 ·exact h
theorem pB{R:Rf}{m:Mg}(h:R.gath.data.length<=65536)(ht:m.total<=65536):(R.gath1 m).data.length<=65536:=by
 rw[yS];split
 ·rename_i hp;have:=(of_decide_eq_true (show decide _=true from hp)).2;show((gg R m).data++m.data).length<=_;rw[List.length_append];omega
 ·exact uS h
theorem rr{R:Rf}{m:Mg}{x:Bool}(h:mh R m=x) :
  ((R.gath.frm !=m.frm)=true/\x=true)\/((R.gath.frm !=m.frm)=false/\(R.gath.idx !=m.idx)=true/\x=true)\/((R.gath.frm !=m.frm)=false/\(R.gath.idx !=m.idx)=false/\(R.gath.term !=m.logTerm)=true/\x=true)\/
  ((R.gath.frm !=m.frm)=false/\(R.gath.idx !=m.idx)=false/\(R.gath.term !=m.logTerm)=false/\(R.gath.total !=m.total)=true/\x=true)\/
  ((R.gath.frm !=m.frm)=false/\(R.gath.idx !=m.idx)=false/\(R.gath.term !=m.logTerm)=false/\(R.gath.total !=m.total)=false/\(m.offset==0)=x):=by
 subst h;unfold mh;by_cases h1:R.gath.frm=m.frm
 ·by_cases h2:R.gath.idx=m.idx
  ·by_cases h3:R.gath.term=m.logTerm
   ·by_cases h4:R.gath.total=m.total
    ·refine .inr (.inr (.inr (.inr ⟨by simp[h1],by simp[h2],by simp[h3],by simp[h4],?_⟩)));by_cases h5:m.offset=0 <;> simp[h1,h2,h3,h4,h5]
    ·exact .inr (.inr (.inr (.inl ⟨by simp[h1],by simp[h2],by simp[h3],by simp[h4],by simp[h4]⟩)))
   ·exact .inr (.inr (.inl ⟨by simp[h1],by simp[h2],by simp[h3],by simp[h3]⟩))
  ·exact .inr (.inl ⟨by simp[h1],by simp[h2],by simp[h2]⟩)
 ·exact .inl ⟨by simp[h1],by simp[h1]⟩
section
variable {aa:Nat->Nat}{b g N:Nat}{w wX:World}{R R1:Rf}{v:Rw}
theorem cJ.raft2(h:cJ aa b w g R1 N wX):∃ag v1,ax ag b wX g R1 v1/\(∀w' R2,ao ag b wX g R2 w'->cJ aa b w g R2 N w'/\boxes w.heap.size N wX w')/\∀j,w.heap.size<=j->j<w.heap.size+N->j<wX.heap.size/\ag j=b:=by
 obtain⟨ag,v1,h1,h2,h3,h4,h5⟩:=h;exact⟨ag,v1,h1,fun w' R2 hP=>ip h2 h3 h4 h5 hP,h5⟩
theorem DM{K M:Nat}(m:Mg)(A1 A2:Option Addr)(n1 c1 n2 c2 mi:Nat)(h:ax aa b w g R v)(hk:Ok K M R)(hK:K<=100000)(hM:M<=60000)(uM:mi<=b\/b+13<mi)(hd:bM aa mi w (.slice A2 n2 c2) m.data)(hn:n2=m.data.length)(Fy:n2<=160)
  (Kx:0<=m.idx) (om:m.idx<=1099511627776) (ua:0<=m.logTerm) (NR:m.logTerm<=1099511627776) (jq:0<=m.total) (cy:m.total<=1099511627776) :
  Calls prog 108 #[.pointer (some ⟨g,0,none⟩),eH m (.slice A1 n1 c1) (.slice A2 n2 c2)] w fun e w'=>e=.returned (.tuple #[])/\ao aa b w g (R.piece m) w':=by
 have cQ:=h.s.lt;have eK:=(fC w 39 39 #[.int .i64 m.kind,.int .i64 m.frm,.int .i64 m.tgt,.int .i64 m.term,.int .i64 m.idx,.int .i64 m.logTerm,.int .i64 m.commit,.int .i64 m.round,.bool m.reject,.int .i64 m.offset,.int .i64 m.total,.slice A1 n1 c1,.slice A2 n2 c2] #[.int .i64 8,.int .i64 0,.int .i64 m.frm,.int .i64 0,.int .i64 m.idx,.int .i64 0,.int .i64 0,.int .i64 m.round,.bool false,.int .i64 0,.int .i64 0,.slice none 0 0,.slice none 0 0]);have TM:Below w.heap.size w (w.alloc (.cells #[.int .i64 m.kind,.int .i64 m.frm,.int .i64 m.tgt,.int .i64 m.term,.int .i64 m.idx,.int .i64 m.logTerm,.int .i64 m.commit,.int .i64 m.round,.bool m.reject,.int .i64 m.offset,.int .i64 m.total,.slice A1 n1 c1,.slice A2 n2 c2] 39)):=zb.alloc zl _;have VI:=ar.new w 39 #[.int .i64 m.kind,.int .i64 m.frm,.int .i64 m.tgt,.int .i64 m.term,.int .i64 m.idx,.int .i64 m.logTerm,.int .i64 m.commit,.int .i64 m.round,.bool m.reject,.int .i64 m.offset,.int .i64 m.total,.slice A1 n1 c1,.slice A2 n2 c2];obtain⟨aI,bN,BC⟩:=eK;obtain⟨w1,bV⟩:=zN ((w.alloc (.cells #[.int .i64 m.kind,.int .i64 m.frm,.int .i64 m.tgt,.int .i64 m.term,.int .i64 m.idx,.int .i64 m.logTerm,.int .i64 m.commit,.int .i64 m.round,.bool m.reject,.int .i64 m.offset,.int .i64 m.total,.slice A1 n1 c1,.slice A2 n2 c2] 39)));rw[bV]at aI bN BC TM VI;have nR:w1.heap.size=w.heap.size+1:=by rw[<-bV];simp
 obtain⟨w2,cw⟩:=zN ((w1.alloc (.cells #[.int .i64 8,.int .i64 0,.int .i64 m.frm,.int .i64 0,.int .i64 m.idx,.int .i64 0,.int .i64 0,.int .i64 m.round,.bool false,.int .i64 0,.int .i64 0,.slice none 0 0,.slice none 0 0] 39)));rw[cw]at aI bN BC;have hX:=cJ.start (N:=2) h aI (by have:=BC.lt;omega);obtain⟨y1,y4,y5,y7,y10,-⟩:=VI.cs [1,4,5,7,10];simp only[Zx]at y1 y4 y5 y7 y10;replace hn:=zH hn;replace bV:=zH bV;replace cw:=zH cw;unfold eH;simp only[vi];by_cases fX:m.idx=0\/m.logTerm=0\/¬(1<=m.total/\m.total<=65536)
 ·have hQ:=zH (show ao aa b w g (R.piece m) w1 by
   rw[show R.piece m=R by unfold Rf.piece;rw[if_pos fX]];exact(cJ.start (N:=0) h TM (by have:=TM.size;omega)).post)
  have cu:(m.idx==0)=true\/((m.idx==0)=false/\(m.logTerm==0)=true)\/((m.idx==0)=false/\(m.logTerm==0)=false/\decide (1<=m.total/\m.total<=65536)=false):=by
   by_cases a:m.idx=0
   ·exact .inl (by simp[a])
   ·by_cases c:m.logTerm=0
    ·exact .inr (.inl ⟨by simp[a],by simp[c]⟩)
    ·exact .inr (.inr ⟨by simp[a],by simp[c],decide_eq_false fun hh=>by rcases fX with h|h|h;exact a h;exact c h;exact h hh⟩)
  replace fX:=zH fX;clear h hX hd hk;rcases cu with e1|⟨e1,e2⟩|⟨e1,e2,e3⟩
  ·go_enter func108,ntmps108;go_wp2_with fail;rw[bV.out];go_wp2_with fail;exact aO rfl rfl ⟨rfl,hQ.out⟩
  ·go_enter func108,ntmps108;go_wp2_with fail;rw[bV.out];go_wp2_with fail;exact aO rfl rfl ⟨rfl,hQ.out⟩
  ·have lC:=mP e3 w1;go_enter func108,ntmps108;go_wp2_with fail;rw[bV.out];go_wp2_with fail;refine lC.mono ?_;rintro e w9 ⟨rfl,rfl⟩;go_wp2_with fail;exact aO rfl rfl ⟨rfl,hQ.out⟩
 ·have e1:(m.idx==0)=false:=by simp;exact fun h=>fX (.inl h)
  have e2:(m.logTerm==0)=false:=by simp;exact fun h=>fX (.inr (.inl h))
  have hT:1<=m.total/\m.total<=65536:=by
   by_cases hh:1<=m.total/\m.total<=65536
   ·exact hh
   ·exact absurd (.inr (.inr hh)) fX
  have rP:1<=m.idx:=by
   rcases Int.lt_or_le 0 m.idx with h|h
   ·omega
   ·exact absurd (.inl (by omega)) fX
  have qH:1<=m.logTerm:=by
   rcases Int.lt_or_le 0 m.logTerm with h|h
   ·omega
   ·exact absurd (.inr (.inl (by omega))) fX
  have e3:decide (1<=m.total/\m.total<=65536)=true:=decide_eq_true hT;have lC:=mP e3 w1;obtain⟨RE,ZO⟩:=hT;have Kf:R.piece m=if m.idx<=R.commit then R.send {cZ with kind:=8,tgt:=m.frm,idx:=R.commit,round:=m.round}else
    (if((R.gath1 m).data.length:Int)<m.total then({R with gath:=R.gath1 m}:Rf).send {cZ with kind:=8,tgt:=m.frm,idx:=m.idx,round:=m.round,offset:=(R.gath1 m).data.length,total:=m.total}else(({R with gath:=R.gath1 m}:Rf).install ⟨m.idx,m.logTerm,(R.gath1 m).data⟩).send {cZ with kind:=8,tgt:=m.frm,idx:=m.idx,round:=m.round}):=by
   unfold Rf.piece;rw[if_neg fX]
  obtain⟨XH,vA,OY,NS⟩:=hX.raft;have c12:=OY.s.cell 12;simp only[bE,vi,Zx]at c12;have z4:=bN.cell 4;simp only[Zx]at z4;have tX:g<w2.heap.size:=OY.s.lt;obtain⟨q12,q4⟩:=nY [g,w.heap.size] c12 z4;have xu:=hk.ms;have nK:w.heap.size+1<w2.heap.size:=BC.lt;replace Kf:=zH Kf;replace fX:=zH fX;by_cases fo:m.idx<=R.commit
  ·have hA:=zH (show R.piece m=R.send (BJ 8 m.frm R.commit m.round false 0 0) by rw[Kf.out,if_pos fo];rfl);have PU:=((hX.set (j:=w.heap.size+1) (by omega) (by omega) (Fr.set (w:=w2) (w.heap.size+1) 4 (.int .i64 R.commit))).below (w':=(w2.setCell ⟨w.heap.size+1,4,none⟩ (.int .i64 R.commit)).drew) (zb.drew)).1;have hs:=PU.act (fun ag v1 h=>kx 8 m.frm R.commit m.round false 0 0 h (by omega));unfold xF at hs;obtain⟨a0,a1,a2,a3,a4,a5,a6,a7,a8,a9,a10,a11,a12,-⟩:=BC.cs [0,1,2,3,4,5,6,7,8,9,10,11,12];simp only[Zx]at a0 a1 a2 a3 a4 a5 a6 a7 a8 a9 a10 a11 a12;have u4:=BC.free 4;replace hk:=zH hk;clear h hX PU OY NS;go_enter func108,ntmps108;go_wp2_with fail;rw[bV.out];go_wp2_with fail;refine lC.mono ?_;rintro e w9 ⟨rfl,rfl⟩;go_wp2_with fail;rw[cw.out];refine dV [g,w.heap.size] w2 [] [0,1,2,3,4,5,6] ?_;refine aj ?_;simp only[af,Zx];repeat go_big_quiet_step(fail)
   apply wpQuiet_nil;go_wp2_with fail;refine hs.mono ?_;rintro e w9 ⟨rfl,jo,_⟩;have hQ:=zH (show ao aa b w g (R.piece m) w9 from by rw[hA.out];exact jo.post);clear hs jo;go_wp2_with fail;exact aO rfl rfl ⟨rfl,hQ.out⟩
  ·have UN:=zH (Kf.out.trans (if_neg fo));replace fo:=Int.not_le.1 fo;have tR:=(hX.below (w':=w2.drew) (zb.drew)).1;have tQ:=zH (tR.below (w':=w2.drew.drew) (zb.drew)).1;obtain⟨d17,d18,d19,d20,-⟩:=OY.s.cs [17,18,19,20];simp only[bE,vi,Zx]at d17 d18 d19 d20;obtain⟨x1,x4,x5,x9,x10,-⟩:=bN.cs [1,4,5,9,10];simp only[Zx]at x1 x4 x5 x9 x10;have p17:=ae (w:=w2.drew) (gs:=[g,w.heap.size]) d17 (by simp);have p18:=ae (w:=w2.drew) (gs:=[g,w.heap.size]) d18 (by simp);have p19:=ae (w:=w2.drew) (gs:=[g,w.heap.size]) d19 (by simp);have p20:=ae (w:=w2.drew) (gs:=[g,w.heap.size]) d20 (by simp);have r1:=ae (w:=w2.drew) (gs:=[g,w.heap.size]) x1 (by simp);have r4:=ae (w:=w2.drew) (gs:=[g,w.heap.size]) x4 (by simp);have r5:=ae (w:=w2.drew) (gs:=[g,w.heap.size]) x5 (by simp);have r9:=ae (w:=w2.drew) (gs:=[g,w.heap.size]) x9 (by simp);have r10:=ae (w:=w2.drew) (gs:=[g,w.heap.size]) x10 (by simp);obtain⟨x,hx⟩:=zN (mh R m);have zf:=hk.gat;replace hk:=zH hk;have MX:boxes w.heap.size 2 w2 w2:=fun _ _ _=>rfl
   clear OY NS hX tR h;go_enter func108,ntmps108;go_wp2_with fail;rw[bV.out];go_wp2_with fail;refine lC.mono ?_;rintro e w9 ⟨rfl,rfl⟩;go_wp2_with fail;rw[cw.out];refine dV [g,w.heap.size] w2 [] [0,1,2,3,4,5,6] ?_;refine aj ?_;simp only[af,Zx];repeat go_big_quiet_step(fail)
   apply wpQuiet_nil;go_wp2_with fail
   go_cut [83] (fun s83 wr=>s83=.bool x/\cJ aa b w g R 2 wr/\boxes w.heap.size 2 w2 wr)
   case first=>
    have cu:=rr hx;clear hx;rcases cu with⟨e4,rfl⟩|⟨e4,e5,rfl⟩|⟨e4,e5,e6,rfl⟩|⟨e4,e5,e6,e7,rfl⟩|⟨e4,e5,e6,e7,e8⟩
    all_goals
     refine cF (C:=dP [g,w.heap.size] w2.drew) [] [0,1,2,3,4,5,6,7,8,9,10,11,12,13,14,15,16,17,18,19,20,21,22,23,24,25,26,27,28,29,30,31,32,33,34,35,36,37,38] (by kernel_rfl) (by kernel_rfl) (fun _ _ _ _ e h=>⟨e.symm.trans h.1,h.2⟩) aR ?_;refine aj ?_;simp only[af,Zx];repeat go_big_quiet_step(fail)
     apply wpQuiet_nil;go_wp2_with fail
     go_meet
     exact⟨rfl,tQ.out,MX⟩
   case rest=>
    obtain⟨Su,vJ,oo⟩:=hcut;subst Su
    rename World=>wc
    clear c12 z4 q12 q4 d17 d18 d19 d20 x1 x4 x5 x9 x10 p17 p18 p19 p20 r1 r4 r5 r9 r10 tQ MX y1 y4 y5 y7 y10;have Ao:ar wc w.heap.size 39 #[.int .i64 m.kind,.int .i64 m.frm,.int .i64 m.tgt,.int .i64 m.term,.int .i64 m.idx,.int .i64 m.logTerm,.int .i64 m.commit,.int .i64 m.round,.bool m.reject,.int .i64 m.offset,.int .i64 m.total,.slice A1 n1 c1,.slice A2 n2 c2]:=oo.blk zl (by omega) bN;obtain⟨x1,x4,x5,x10,-⟩:=Ao.cs [1,4,5,10];simp only[Zx]at x1 x4 x5 x10;go_upto_if 83 with fail
    go_cut [] (fun wr=>cJ aa b w g {R with gath:=gg R m} 2 wr/\boxes w.heap.size 2 w2 wr)
    case first=>
     cases x
     ·have Ip:({R with gath:=gg R m}:Rf)=R:=by unfold gg;rw[hx];rfl
      replace Ip:=zH Ip;replace vJ:=zH vJ;go_wp2_with fail
      go_meet
      exact⟨by rw[Ip.out];exact vJ.out,oo⟩
     ·have Ip:gg R m=⟨m.frm,m.idx,m.logTerm,m.total,[]⟩:=by unfold gg;rw[hx];rfl
      replace Ip:=zH Ip;obtain⟨cM,v3,h3,AN⟩:=vJ.raft;obtain⟨d17,d18,d19,d20,d21,-⟩:=h3.s.cs [17,18,19,20,21];simp only[bE,vi,Zx]at d17 d18 d19 d20 d21;obtain⟨f17,f18,f19,f20,f21,-⟩:=h3.s.fs [17,18,19,20,21];have gK:g<wc.heap.size:=h3.s.lt;obtain⟨h4,iK⟩:=Hj m.frm m.idx m.logTerm m.total h3;have yE:ao cM b wc g {R with gath:=⟨m.frm,m.idx,m.logTerm,m.total,[]⟩} _:=⟨cM,_,h4,fun _ _ _=>rfl,fun _ _ h=>h,iK.mono fun j e=>by rw[e];have:=h3.sl;exact⟨by omega,by omega⟩⟩;obtain⟨Ik,cz⟩:=AN _ _ yE;have Ue:=zH Ik;have Up:=oo.trans cz;clear h3 h4 iK yE Ik cz AN vJ;go_wp2_with fail
      go_meet
      exact⟨by rw[Ip.out];exact Ue.out,Up⟩
    case rest=>
     rename World=>wd
     obtain⟨tR,tH⟩:=hcut;clear x1 x4 x5 x10 Ao oo vJ;have Px:=uS (m:=m) zf;obtain⟨y,hy⟩:=zN (mF R m);have iQ:=yS R m;have In:y=decide (m.offset=((gg R m).data.length:Int)/\((gg R m).data.length:Int)+m.data.length<=m.total):=by rw[<-hy];unfold mF;rfl
     rw[hy]at iQ;obtain⟨g0,Ip⟩:=zN (gg R m);rw[Ip]at tR Px iQ In;obtain⟨Ra,v4,h4,Em,SP⟩:=tR.raft2;obtain⟨A4,c4,bW,_⟩:=id h4.gd;have vw:ar wd w.heap.size 39 #[.int .i64 m.kind,.int .i64 m.frm,.int .i64 m.tgt,.int .i64 m.term,.int .i64 m.idx,.int .i64 m.logTerm,.int .i64 m.commit,.int .i64 m.round,.bool m.reject,.int .i64 m.offset,.int .i64 m.total,.slice A1 n1 c1,.slice A2 n2 c2]:=tH.blk zl (by omega) bN;obtain⟨n4,G9⟩:=zN (g0.data.length);have d21:wd.cell? ⟨g,21,none⟩=some (.slice A4 n4 c4):=by
      have:=h4.s.cell 21;simp only[bE,Zx]at this;rw[this,bW,<-G9]
     have kt:g<wd.heap.size:=h4.s.lt;have XE:n4<=65536:=by omega
     obtain⟨x9,x10,x12,-⟩:=vw.cs [9,10,12];simp only[Zx]at x9 x10 x12;obtain⟨q21,q9,q10,q12⟩:=GD [g,w.heap.size] d21 x9 x10 x12;have tQ:=zH (tR.below (w':=wd.drew) (zb.drew)).1;have cu:((m.offset==(n4:Int))=false/\y=false)\/((m.offset==(n4:Int))=true/\m.total-n4<n2/\y=false)\/((m.offset==(n4:Int))=true/\(n2:Int)<=m.total-n4/\y=true):=by
      rw[G9,<-hn.out]at In;by_cases a:m.offset=(n4:Int)
      ·rcases Int.lt_or_le (m.total-n4) n2 with h|h
       ·exact .inr (.inl ⟨by simp[a],h,by rw[In];exact decide_eq_false fun hh=>by have:=hh.2;omega⟩)
       ·exact .inr (.inr ⟨by simp[a],h,by rw[In];exact decide_eq_true ⟨a,by omega⟩⟩)
      ·exact .inl ⟨by simp[a],by rw[In];exact decide_eq_false fun hh=>a hh.1⟩
     replace G9:=zH G9;replace iQ:=zH iQ;clear h4 Em SP bW In hy Ip tR;go_wp2_with fail
     go_cut [116] (fun s116 wr=>s116=.bool y/\cJ aa b w g {R with gath:=g0} 2 wr/\boxes w.heap.size 2 w2 wr)
     case first=>
      rcases cu with⟨e4,rfl⟩|⟨e4,e5,rfl⟩|⟨e4,e5,rfl⟩
      all_goals
       refine dV [g,w.heap.size] wd [] [0,1,2,3,4,5,6,7,8,9,10,11,12,13,14,15,16,17,18,19,20,21] ?_;refine aj ?_;simp only[af,Zx];repeat go_big_quiet_step(fail)
       apply wpQuiet_nil;go_wp2_with fail
       go_meet
       exact⟨by first|rfl|(congr 1;exact decide_eq_false (by omega))|(congr 1;exact decide_eq_true (by omega)),tQ.out,tH⟩
     case rest=>
      obtain⟨hs,Ln,CU⟩:=hcut;subst hs
      rename World=>we
      clear d21 x9 x10 x12 q21 q9 q10 q12 tQ vw tH;go_upto_if 116 with fail
      go_cut [] (fun wr=>cJ aa b w g {R with gath:=R.gath1 m} 2 wr/\boxes w.heap.size 2 w2 wr)
      case first=>
       cases y
       ·have L2:=zH (iQ.out.trans (if_neg (by simp)));replace Ln:=zH Ln;go_wp2_with fail
        go_meet
        exact⟨by rw[L2.out];exact Ln.out,CU⟩
       ·have L2:=zH (iQ.out.trans (if_pos rfl));obtain⟨_,_,_,⟨A2',c2',e9,dx,_⟩⟩:=Ln.byt uM hd;injection e9 with e90 e91 e92;subst e90;subst e92;have Jp:Rd we A2 n2 m.data:=by rw[e91];exact dx
        replace e91:=zH e91;obtain⟨cV,v5,h5,Gy,PF⟩:=Ln.raft2;obtain⟨A5,c5,cA,dm,oA⟩:=id (h5.below (w':=we.drew) (zb.drew)).gd;have WR:ar we w.heap.size 39 #[.int .i64 m.kind,.int .i64 m.frm,.int .i64 m.tgt,.int .i64 m.term,.int .i64 m.idx,.int .i64 m.logTerm,.int .i64 m.commit,.int .i64 m.round,.bool m.reject,.int .i64 m.offset,.int .i64 m.total,.slice A1 n1 c1,.slice A2 n2 c2]:=CU.blk zl (by omega) bN;have tq:g<we.heap.size:=h5.s.lt;rw[G9.out]at cA dm;have d21:we.cell? ⟨g,21,none⟩=some (.slice A5 n4 c5):=by
         have:=h5.s.cell 21;simp only[bE,Zx]at this;rw[this,cA]
        have x12:=WR.cell 12;simp only[Zx]at x12;obtain⟨q21,q12⟩:=nY [g,w.heap.size] d21 x12;have fi:n4+n2<=1000000000:=by omega
        have aF:∀(A6:Option Addr) (c6:Nat) (w6:World),w6.ownsRow 0 5 1 (.slice A6 (n4+n2) c6) (n4+n2) ((g0.data++m.data).map vb)->Fr (az A5) we.drew w6->(∀j,az A6 j->az A5 j\/we.drew.heap.size<=j)->
          w6.heap[g]?=we.heap[g]?/\w6.heap[w.heap.size]?=we.heap[w.heap.size]?/\ar w6 g 107 (bE {R with gath:=g0} v5)/\cJ aa b w g {R with gath:=R.gath1 m} 2 (w6.setCell ⟨g,21,none⟩ (.slice A6 (n4+n2) c6))/\boxes w.heap.size 2 w2 (w6.setCell ⟨g,21,none⟩ (.slice A6 (n4+n2) c6)):=fun A6 c6 w6 oP jb nT=>by
         obtain⟨qp,Lq,iS,ZF⟩:=Ec (h5.below (w':=we.drew) (zb.drew)) cA hn.out oP jb nT;obtain⟨tY,gz⟩:=Gy _ _ (qp.behind (w:=we) (zb.drew));have Jh:=PF w.heap.size zl (by omega);refine⟨iS.trans h5.s.symm,ZF.block w.heap.size Jh.1 fun hh=>?_,iS,by rw[L2.out];exact tY,CU.trans gz⟩;rcases hh with hh|hh
         ·rw[Jh.2]at hh;omega
         ·omega
        clear h5 Gy PF Ln dx oA WR;have Uf:Rd we.drew A2 n2 m.data:=Jp;go_wp2_with fail;refine mI [g,w.heap.size] we [([0,1,2,3,4,5,6],7)] ([8,9],10) ?_;refine ap fun K3 jx=>?_
        simp only[af,Zx];repeat go_big_quiet_step(fail)
        apply wpQuiet_nil;go_wp2_with (at_builtin;refine g8 rfl (.tmp 121) (.tmp 123) rfl 0 rfl dm rfl Uf fi zz ?_;intro A6 c6 w6 oP jb nT;obtain⟨cl,eb,iS,tY,gz⟩:=aF A6 c6 w6 oP jb nT;replace tY:=zH tY;clear aF oP jb nT);refine⟨bO cl eb,jx _ _ ?_⟩;have f21:=iS.free 21;have e21:=iS.cell 21;simp only[bE,Zx]at e21;refine aC ?_;simp only[af,Zx];repeat go_big_quiet_step(fail)
        apply wpQuiet_nil;go_wp2_with fail
        go_meet
        exact⟨tY.out,gz⟩
      case rest=>
       rename World=>wf
       obtain⟨NN,NI⟩:=hcut;clear Ln CU;have GZ:=pB (m:=m) zf ZO;obtain⟨g1,vY⟩:=zN (R.gath1 m);have DK:=UN.out;rw[vY]at NN GZ DK;obtain⟨Ei,v6,h6,Kj,PL⟩:=NN.raft2;obtain⟨A6,c6,fP,_⟩:=id h6.gd;obtain⟨n6,Do⟩:=zN (g1.data.length);have vC:ar wf w.heap.size 39 #[.int .i64 m.kind,.int .i64 m.frm,.int .i64 m.tgt,.int .i64 m.term,.int .i64 m.idx,.int .i64 m.logTerm,.int .i64 m.commit,.int .i64 m.round,.bool m.reject,.int .i64 m.offset,.int .i64 m.total,.slice A1 n1 c1,.slice A2 n2 c2]:=NI.blk zl (by omega) bN;have Ru:ar wf (w.heap.size+1) 39 #[.int .i64 8,.int .i64 0,.int .i64 m.frm,.int .i64 0,.int .i64 m.idx,.int .i64 0,.int .i64 0,.int .i64 m.round,.bool false,.int .i64 0,.int .i64 0,.slice none 0 0,.slice none 0 0]:=NI.blk (by omega) (by omega) BC;have XQ:g<wf.heap.size:=h6.s.lt;rw[Do]at GZ DK;have IU:v6.gat=.slice A6 n6 c6:=by rw[fP,<-Do]
       have d21:wf.cell? ⟨g,21,none⟩=some (.slice A6 n6 c6):=by
        have:=h6.s.cell 21;simp only[bE,Zx]at this;rw[this,IU]
       obtain⟨x4,x5,x10,-⟩:=vC.cs [4,5,10];simp only[Zx]at x4 x5 x10;obtain⟨a0,a1,a2,a3,a4,a5,a6,a7,a8,a9,a10,a11,a12,-⟩:=Ru.cs [0,1,2,3,4,5,6,7,8,9,10,11,12];simp only[Zx]at a0 a1 a2 a3 a4 a5 a6 a7 a8 a9 a10 a11 a12;obtain⟨u9,u10,-⟩:=Ru.fs [9,10];obtain⟨q21,q10⟩:=nY [g,w.heap.size] d21 x10;have p21:=ae (w:=wf.drew) (gs:=[g,w.heap.size]) d21 (by simp);have p10:=ae (w:=wf.drew) (gs:=[g,w.heap.size]) x10 (by simp);have p4:=ae (w:=wf.drew) (gs:=[g,w.heap.size]) x4 (by simp);have p5:=ae (w:=wf.drew) (gs:=[g,w.heap.size]) x5 (by simp);have VZ:w.heap.size+1<wf.heap.size:=Ru.lt;have Lo:=(NN.below (w':=wf.drew) (zb.drew)).1;have Kg:=(Lo.below (w':=wf.drew.drew) (zb.drew)).1;have cT:∀q∈[g,w.heap.size],q<wf.heap.size:=by simp;exact⟨XQ,by omega⟩
       have fV:∀q∈[g,w.heap.size],q≠w.heap.size+1:=by simp;omega
       by_cases aU:(n6:Int)<m.total
       ·have hA:=zH (show R.piece m=({R with gath:=g1}:Rf).send (BJ 8 m.frm m.idx m.round false n6 m.total) by rw[DK,if_pos aU];rfl);have Vz:=((((NN.set (j:=w.heap.size+1) (by omega) (by omega) ((Fr.set (w:=wf) (w.heap.size+1) 9 (.int .i64 n6)).trans (Fr.set (w.heap.size+1) 10 (.int .i64 m.total)) fun _ h=>.inl h))).below (w':=((wf.setCell ⟨w.heap.size+1,9,none⟩ (.int .i64 n6)).setCell ⟨w.heap.size+1,10,none⟩ (.int .i64 m.total)).drew) (zb.drew)).1.below (w':=(((wf.setCell ⟨w.heap.size+1,9,none⟩ (.int .i64 n6)).setCell ⟨w.heap.size+1,10,none⟩ (.int .i64 m.total)).drew).drew) (zb.drew)).1;have hs:=Vz.act (fun ag v1 h=>kx 8 m.frm m.idx m.round false n6 m.total h (by show R.out.msgs.length<=_;omega));unfold xF at hs;clear h6 Kj PL NN Lo Kg Vz DK Do IU fP vY;go_wp2_with fail;refine dV [g,w.heap.size] wf [] [0,1,2,3,4,5,6,7] ?_;refine aj ?_;simp only[af,Zx];repeat go_big_quiet_step(fail)
        apply wpQuiet_nil;go_wp2_with fail;refine bT (C:=dP [g,w.heap.size] wf.drew) [([0,1,2,3,4,5,6,7],8)] ([9],10) (by kernel_rfl) (by kernel_rfl) (fun _ _ _ _ e h=>⟨e.symm.trans h.1,h.2⟩) aR ?_;refine ap fun K4 tj=>?_
        simp only[af,Zx];repeat go_big_quiet_step(fail)
        apply wpQuiet_nil;go_wp2_with fail;refine⟨ic aR fV cT,tj _ _ ?_⟩;refine aC ?_;simp only[af,Zx];repeat go_big_quiet_step(fail)
        apply wpQuiet_nil;go_wp2_with fail;refine hs.mono ?_;rintro e w9 ⟨rfl,jo,_⟩;have hQ:=zH (show ao aa b w g (R.piece m) w9 from by rw[hA.out];exact jo.post);clear hs jo;go_wp2_with fail;exact aO rfl rfl ⟨rfl,hQ.out⟩
       ·have hA:=zH (show R.piece m=(({R with gath:=g1}:Rf).install ⟨m.idx,m.logTerm,g1.data⟩).send (BJ 8 m.frm m.idx m.round false 0 0) by rw[DK,if_neg aU];rfl);replace aU:=Int.not_lt.1 aU;have RL:Ok K M ({R with gath:=g1}:Rf):={hk.out with gat:=by show g1.data.length<=_;rw[Do];exact GZ};have ON:=zx m.idx m.logTerm ((h6.below (w':=wf.drew) (zb.drew)).below (w':=wf.drew.drew) (zb.drew)) RL hK rP om qH NR Do.symm IU;have ci:=zH (show ∀w7,ao Ei b wf.drew.drew g (({R with gath:=g1}:Rf).install ⟨m.idx,m.logTerm,g1.data⟩) w7->cJ aa b w g (({R with gath:=g1}:Rf).install ⟨m.idx,m.logTerm,g1.data⟩) 2 w7/\boxes w.heap.size 2 wf w7 from fun w7 hP=>Kj _ _ ((hP.behind (w:=wf.drew) (zb.drew)).behind (w:=wf) (zb.drew)));have UM:(({R with gath:=g1}:Rf).install ⟨m.idx,m.logTerm,g1.data⟩).out.msgs.length<=100000:=by
         rw[ny];unfold ts;split <;> (show R.out.msgs.length<=_;omega)
        clear h6 Kj PL NN Lo Kg DK Do IU fP vY RL;go_wp2_with fail;refine dV [g,w.heap.size] wf [] [0,1,2,3,4,5,6,7] ?_;refine aj ?_;simp only[af,Zx];repeat go_big_quiet_step(fail)
        apply wpQuiet_nil;go_wp2_with fail;refine bT (C:=dP [g,w.heap.size] wf.drew) [] ([0,1,2,3,4,5,6,7,8,9],10) (by kernel_rfl) (by kernel_rfl) (fun _ _ _ _ e h=>⟨e.symm.trans h.1,h.2⟩) aR ?_;refine aC ?_;simp only[af,Zx];repeat go_big_quiet_step(fail)
        apply wpQuiet_nil;go_wp2_with fail;refine ON.mono ?_;rintro e w7 ⟨rfl,AU⟩;obtain⟨C5,io⟩:=ci.out _ AU;have V7:ar w7 (w.heap.size+1) 39 #[.int .i64 8,.int .i64 0,.int .i64 m.frm,.int .i64 0,.int .i64 m.idx,.int .i64 0,.int .i64 0,.int .i64 m.round,.bool false,.int .i64 0,.int .i64 0,.slice none 0 0,.slice none 0 0]:=io.blk (by omega) (by omega) Ru;clear ON AU ci a0 a1 a2 a3 a4 a5 a6 a7 a8 a9 a10 a11 a12 u9 u10;obtain⟨a0,a1,a2,a3,a4,a5,a6,a7,a8,a9,a10,a11,a12,-⟩:=V7.cs [0,1,2,3,4,5,6,7,8,9,10,11,12];simp only[Zx]at a0 a1 a2 a3 a4 a5 a6 a7 a8 a9 a10 a11 a12;have hs:=C5.act (fun ag v1 h=>kx 8 m.frm m.idx m.round false 0 0 h UM);unfold xF at hs;clear C5 V7;go_wp2_with fail;refine hs.mono ?_;rintro e w9 ⟨rfl,jo,_⟩;have hQ:=zH (show ao aa b w g (R.piece m) w9 from by rw[hA.out];exact jo.post);clear hs jo;go_wp2_with fail;exact al rfl rfl ⟨rfl,hQ.out⟩
end
end
section
open Go.Maps Go.MapKept Go.WideMaps
open Go.ChangeMaps (setBlock)
structure xP(R:Rf)(m:Mg):Prop where
 kind:1<=m.kind/\m.kind<=8
 frm:1<=m.frm/\m.frm<=R.n
 term:1<=m.term/\m.term<=1099511627776
 idx:0<=m.idx/\m.idx<=1099511627776
 lgt:0<=m.logTerm/\m.logTerm<=1099511627776
 cmt:0<=m.commit/\m.commit<=1099511627776
 rnd:0<=m.round/\m.round<=1099511627776
 off:0<=m.offset/\m.offset<=1099511627776
 tot:0<=m.total/\m.total<=1099511627776
 el:m.entries.length<=6
 dl:m.data.length<=160
theorem tp{R:Rf}{m:Mg}(h:R.right m=true):xP R m:=by
 unfold Rf.right Rf.numOk i9 at h;simp only[Bool.and_eq_true,decide_eq_true_eq]at h;obtain⟨⟨⟨⟨⟨⟨a,c⟩,d⟩,e⟩,f⟩,k⟩,h1,h2,h3,h4,h5,h6,h7⟩:=h;exact⟨h1,h3,h5,a,c,d,e,f,k,h6,h7⟩
theorem Jw{k:Int}(h:1<=k/\k<=8):k=1\/k=2\/k=3\/k=4\/k=5\/k=6\/k=7\/k=8:=by omega
theorem Ok.hears{K M:Nat}{R:Rf}(h:Ok K M R)(m:Mg):Ok K M (R.hears m):=
 {h with
  ck:=⟨Int.le_refl 0,Int.natCast_nonneg _,h.ck.2.2.1,h.ck.2.2.2⟩
  ys:=fun e=>by rcases e with e|e <;> cases e
  ld:=fun e=>by cases e}
section
variable {aa:Nat->Nat}{b g:Nat}{w:World}{R:Rf}{v:Rw}
theorem Nq(s:Int)(h:ax aa b w g R v)(h0:0<=s)(sN:s<=1000)(gB:R.yes≠[])(ah:R.yes.length<=100000) :
  Calls prog 98 #[.pointer (some ⟨g,0,none⟩),.int .i64 s] w fun e w'=>e=.returned (.bool (R.says s).won)/\ao aa b w g (R.says s) w'/\w'.heap[g]?=w.heap[g]?:=by
 have cQ:=h.s.lt;obtain⟨bm,hv,fG,hk⟩:∃bm,v.yes=.map (some bm)/\aa bm=b+5/\fw w bm R.yes:=by
  rcases h.y with⟨_,hn⟩|⟨bm,es,clock,h1,h2,h3,h4,h5,h6⟩
  ·exact absurd hn gB
  ·exact⟨bm,h1,h2,es,clock,h3,h4,h5,h6⟩
 obtain⟨c3,c5,-⟩:=h.s.cs [3,5];simp only[bE,vi,Zx]at c3 c5;rw[hv]at c3;have KR:g≠bm:=fun e=>by
  have:=h.sl;rw[e,fG]at this;omega
 obtain⟨w1,QH,cl,iQ⟩:=rK hk underlying101 h0 sN (.bool true);have gR:=Fr.map iQ;have AE:ar w1 g 107 (bE R v):=(gR.block g cQ KR).trans h.s;obtain⟨d3,d5,-⟩:=AE.cs [3,5];simp only[bE,vi,Zx]at d3 d5;rw[hv]at d3;have qz:ao aa b w g (R.says s) w1:=by
  obtain⟨es,clock,q1,q2,q3,q4⟩:=cl;refine ao.turn (v':=v) (ak:=aa) [5] h AE (fun j _=>rfl) (by simp) (gR.mono fun j e=>.inr ⟨5,by simp,by rw[e];exact fG⟩)
   tI tI tI (.inl ?_) tI tI tI tI tI tI tI
  rw[hv];exact .inr ⟨bm,es,clock,rfl,fG,q1,q2,q3,q4⟩
 have cy:(R.yes++[s]).length<=100001:=by simp;exact ah
 have nm:(R.says s).won=lz R.n (R.yes++[s]):=rfl;obtain⟨l,hl⟩:=zN (R.yes++[s]);rw[hl]at cl cy nm;obtain⟨w2,nn,lv,Av,hR,o,cw⟩:=xI cl underlying101;have bR:Below w1.heap.size w1 w2:=by rw[cw];exact zb.alloc zl o
 have E5:w1.heap.size≠bm:=by have:=cl.lt;omega
 have tW:g<w1.heap.size:=AE.lt;have NL:w1.heap[g]?=w.heap[g]?:=gR.block g cQ KR;replace NL:=zH NL;replace qz:=zH qz;replace nm:=zH nm;clear h hk cl gR hl cw fG gB;obtain⟨r,hr⟩:=zN (w1.heap.size);rw[hr]at hR bR E5 lv;go_enter func98,ntmps98;go_wp2_with fail
 go_loopw [5] (fun v wr=>∃(left:Int->Prop) (q:Nat) (last:Option Int) (K:List Int) (A:Option Addr) (m cc:Nat),v=.slice A m cc/\wr.ownsRow r 3 1 (.slice A m cc) m (K.map vi)/\(∀s,s∈K↔(s∈l/\¬left s))/\lX wr r bm l left q last/\m+q<=l.length/\Below r w1 wr) (fun _ wr=>vv wr r bm)
 case atStart=>exact⟨_,nn,_,[],none,0,0,rfl,b9 _ _,fun s=>⟨fun h=>(by cases h),fun h=>absurd h.1 h.2⟩,hR,by omega,bR⟩
 case round=>
  clear hR bR;obtain⟨left,q,last,K,A,m,cc,rfl,aD,hK,hR,Tz,bs⟩:=hrel;have Ud:K.length=m:=by have:=aD.1;simpa using this
  have EH:g<r:=by omega
  have d5w:=(bs.cell (p:=⟨g,5,none⟩) EH).trans d5;rcases mU hR E5 0 with⟨h0,hl,ci⟩|⟨s',v',w2',o2,q',PZ,YZ,cw,ci,jR⟩
  ·have aF:∀s,s∈K↔s∈l:=fun s=>by
    rw[hK];exact⟨fun h=>h.1,fun h=>⟨h,hl s⟩⟩
   have zd:=bA aD;have aH:=CS R.n A m cc K wr (fB.of_own aD) zd.2 zd.1;rw[mG aF]at aH;have hQ:=zH (show ao aa b w g (R.says s) wr/\wr.heap[g]?=w.heap[g]? from⟨qz.out.below (by rw[hr];exact bs),(bs.block g EH).trans NL.out⟩);clear aF hK hR aD Tz Ud h0 hl;go_wp2_with fail;refine aH.mono ?_;rintro e w9 ⟨rfl,rfl⟩;go_wp2_with fail;go_ret;exact⟨by rw[nm.out];rfl,hQ.out⟩
  ·have Hx:=lV jR;obtain⟨ve,Hx⟩:=Hx;have Na:r<wr.heap.size:=by
    obtain⟨x,y,z,t,h1⟩:=hR.iter;exact aV h1
   have AO:wr.grownBy (setBlock w2' r o2) (some r):=by
    rcases cw with rfl|rfl
    ·exact⟨rfl,rfl,rfl,by simp[setBlock],fun j _ fV=>by simp only[setBlock];rw[Array.getElem?_setIfInBounds_ne (fun e=>fV (by rw[e]))]⟩
    ·exact⟨rfl,rfl,rfl,by show wr.heap.size<=(wr.heap.setIfInBounds r o2).size;simp,fun j _ fV=>by show(wr.heap.setIfInBounds r o2)[j]?=_;rw[Array.getElem?_setIfInBounds_ne (fun e=>fV (by rw[e]))]⟩
   have bF:(setBlock w2' r o2).ownsRow r 3 1 (.slice A m cc) m (K.map vi):=zX aD fun j cs hj=>(AO.block j (aV hj) (fun e=>by
    injection e with e;obtain⟨x,y,z,t,h1⟩:=hR.iter;rw[e,h1]at hj;cases hj)).trans hj
   have bS:=bs.trans (qi AO (by have:=bs.size;omega) (fun x hx=>by cases hx;exact Nat.le_refl _));have rD:vv wr r bm=q:=hR.n_eq;clear AO hR bs cw Na aD;generalize iU:setBlock w2' r o2=w3 at *;clear iU;have cz:Below w3.heap.size w3 (w3.alloc (.cells #[.int .i64 s'] 3)):=zb.alloc zl _;have jX:=fB.one w3 s';have fR:=bf bF cz;have tA:lX (w3.alloc (.cells #[.int .i64 s'] 3)) r bm l (fun t=>left t/\t≠s') q' (some s'):=jR.keep (cz.block r (by
    obtain⟨x,y,z,t,h1⟩:=jR.iter;exact aV h1)) (cz.block bm jR.m.lt)
   have gV:=ab bS cz (by have:=bS.size;omega);have bl:r<=(w3.alloc (.cells #[.int .i64 s'] 3)).heap.size:=by have:=gV.size;omega
   have fi:m+1<=1000000000:=by omega
   go_wp2_with (at_builtin;refine bi rfl (.tmp 23) (.tmp 25) rfl r rfl fR rfl jX fi bl ?_;intro A5 c5 w5 dm jp cD);have oZ:lX w5 r bm l (fun t=>left t/\t≠s') q' (some s'):=by
    refine tA.keep ?_ ?_
    ·obtain⟨x,y,z,t,h1⟩:=tA.iter;rw[h1];exact oS fR jp h1 (fun cs e=>by cases e)
    ·obtain⟨es,clock,h1,_⟩:=tA.m;rw[h1];exact oS fR jp h1 (fun cs e=>by cases e)
   have Gy:=oZ.n_eq;have dL:s'∈l:=by
    obtain⟨es,clock,h1,h2,h3,h4⟩:=jR.m;obtain⟨es',clock',since,c0,seen,k1,k2,k3,k4,k5,k6,k7,k8,k9,k10⟩:=jR.it;obtain⟨e,seen0,q1,q2,_⟩:=k10 s' rfl;rw[h1]at k2;cases k2;exact(h4 s').2 ⟨e,q1,q2⟩
   refine⟨⟨_,q',_,K++[s'],A5,m+1,c5,rfl,dm,fun t=>?_,oZ,by omega,gV.trans cD⟩,by rw[Gy,rD];exact PZ⟩;rw[List.mem_append,List.mem_singleton,hK];constructor
   ·rintro(h|rfl)
    ·exact⟨h.1,fun h2=>h.2 h2.1⟩
    ·exact⟨dL,fun h2=>h2.2 rfl⟩
   ·rintro⟨h1,h2⟩;by_cases e:t=s'
    ·exact .inr e
    ·exact .inl ⟨h1,fun h3=>h2 ⟨h3,e⟩⟩
theorem cJ.byt2{N mi:Nat}{wX:World}{R1:Rf}{x:Value}{l:List UInt8}(h:cJ aa b w g R1 N wX)(hm:mi<=b\/b+13<mi)(he:bM aa mi w x l) :
  ∃ag v1,ax ag b wX g R1 v1/\bM ag mi wX x l/\∀w' R2,ao ag b wX g R2 w'->cJ aa b w g R2 N w'/\boxes w.heap.size N wX w':=by
 obtain⟨ag,v1,h1,h2,h3,h4,h5⟩:=h;have hn:∀j,aa j=mi->¬aN aa b j:=fun j e hx=>by unfold aN at hx;omega
 refine⟨ag,v1,h1,?_,fun w' R2 hP=>ip h2 h3 h4 h5 hP⟩;refine(he.relabel (ak:=ag) (k:=mi) fun j hl e=>(h2 j hl (hn j e)).trans e).keep fun j hj nj=>h4.block j nj fun hx=>?_
 have h6:=h3 j nj hx;have hj:ag j=mi:=hj;unfold aN at h6;omega
theorem Fk{K M:Nat}(m:Mg)(A1 A2:Option Addr)(n1 c1 n2 c2 mi:Nat)(h:ax aa b w g R v)(hk:Ok K M R)(hK:K<=9000)(hM:M<=20000)(uM:mi<=b\/b+13<mi)(he:cN aa mi w (.slice A1 n1 c1) m.entries)(hd:bM aa mi w (.slice A2 n2 c2) m.data)
  (iI:n1=m.entries.length) (lB:n2=m.data.length) (hm:xP R m) :
  Calls prog 60 #[.pointer (some ⟨g,0,none⟩),eH m (.slice A1 n1 c1) (.slice A2 n2 c2)] w fun e w'=>e=.returned (.tuple #[])/\ao aa b w g (R.does m) w':=by
 have cQ:=h.s.lt;have aI:Below w.heap.size w (w.alloc (.cells #[.int .i64 m.kind,.int .i64 m.frm,.int .i64 m.tgt,.int .i64 m.term,.int .i64 m.idx,.int .i64 m.logTerm,.int .i64 m.commit,.int .i64 m.round,.bool m.reject,.int .i64 m.offset,.int .i64 m.total,.slice A1 n1 c1,.slice A2 n2 c2] 39)):=zb.alloc zl _;have bN:=ar.new w 39 #[.int .i64 m.kind,.int .i64 m.frm,.int .i64 m.tgt,.int .i64 m.term,.int .i64 m.idx,.int .i64 m.logTerm,.int .i64 m.commit,.int .i64 m.round,.bool m.reject,.int .i64 m.offset,.int .i64 m.total,.slice A1 n1 c1,.slice A2 n2 c2];obtain⟨w1,bV⟩:=zN (w.alloc (.cells #[.int .i64 m.kind,.int .i64 m.frm,.int .i64 m.tgt,.int .i64 m.term,.int .i64 m.idx,.int .i64 m.logTerm,.int .i64 m.commit,.int .i64 m.round,.bool m.reject,.int .i64 m.offset,.int .i64 m.total,.slice A1 n1 c1,.slice A2 n2 c2] 39));rw[bV]at aI bN;have hX:=cJ.start (N:=1) h aI (by have:=bN.lt;omega);obtain⟨y0,y1,y2,y3,y4,y5,y6,y7,y8,y9,y10,y11,y12,-⟩:=bN.cs [0,1,2,3,4,5,6,7,8,9,10,11,12];simp only[Zx]at y0 y1 y2 y3 y4 y5 y6 y7 y8 y9 y10 y11 y12;obtain⟨c6,c13,-⟩:=h.s.cs [6,13];simp only[bE,vi,Zx]at c6 c13;have c6':=(aI.cell (aw c6)).trans c6;have c13':=(aI.cell (aw c13)).trans c13;have xu:=hk.ms;have hN:R.track.L.length<=1000000:=by have:=hk.trk;omega
 obtain⟨uH,am,qX,tG,JA,oX,AJ,Lm,Il,Ob,PT⟩:=hm;have CW:=Jw uH;clear h;replace iI:=zH iI;replace lB:=zH lB;replace bV:=zH bV;unfold eH;simp only[vi];rcases CW with cl|cl|cl|cl|cl|cl|cl|cl
 ·have e1:(m.kind==1)=true:=by simp[cl]
  have hD:=zH (show R.does m=R.asked m by unfold Rf.does;rw[if_pos cl]);have hs:=hX.act (fun ag v1 h=>EP m (.slice A1 n1 c1) (.slice A2 n2 c2) h (by omega) hN);unfold eH at hs;simp only[vi]at hs;replace cl:=zH cl;replace hk:=zH hk;clear hX;go_enter func60,ntmps60;go_wp2_with fail;rw[bV.out];try go_wp2_with fail
  refine hs.mono ?_;rintro e w9 ⟨rfl,jo,_⟩;have hQ:=zH (show ao aa b w g (R.does m) w9 from by rw[hD.out];exact jo.post);clear hs jo;go_wp2_with fail;exact al rfl rfl ⟨rfl,hQ.out⟩
 ·have e1:(m.kind==1)=false:=by simp[cl]
  have e2:(m.kind==2)=true:=by simp[cl]
  have hD:R.does m=if m.reject=false/\m.term=R.hard.term+1/\R.role=1 then(if(R.says m.frm).won then(R.says m.frm).stands else R.says m.frm)else R:=by unfold Rf.does;rw[if_neg (by omega),if_pos cl]
  obtain⟨q1,q3,q8,q6,q13⟩:=MZ [g,w.heap.size] y1 y3 y8 c6' c13';have iQ:g<w1.heap.size:=by have:=aI.size;omega
  have V5:=hk.tm;replace cl:=zH cl;by_cases hC:m.reject=false/\m.term=R.hard.term+1/\R.role=1
  ·have f1:=hC.1;have f2:(m.term==R.hard.term+1)=true:=by simp[hC.2.1]
   have f3:(R.role==1)=true:=by simp[hC.2.2]
   have aU:R.hard.term<1099511627776:=by have:=hC.2.1;omega
   rw[if_pos hC]at hD;obtain⟨bu,v2,h2,MS⟩:=(hX.below (w':=w1.drew) (zb.drew)).1.raft;have EK:=Nq m.frm h2 (by omega) (by have:=hk.id;omega) (hk.ys (.inl hC.2.2)) (by have:=hk.yl;omega);have cB:=hk.says m.frm;obtain⟨x,hx⟩:=zN ((R.says m.frm).won);rw[hx]at EK hD;replace hD:=zH hD;replace hC:=zH hC;replace cB:=zH cB;replace hk:=zH hk;clear h2 hX hx;have j3:=bV.out;rw[f1]at j3 y8;go_enter func60,ntmps60;go_wp2_with fail;try rw[j3]
   try go_wp2_with fail
   refine dV [g,w.heap.size] w1 [([0,1,2,3,4,5,6,7,8,9,10,11,12,13,14,15,16,17,18,19,20,21,22,23,24],25)] [26] ?_;refine av fun K1 ct=>?_
   simp only[af,Zx];repeat go_big_quiet_step(fail)
   apply wpQuiet_nil;go_wp2_with fail;refine EK.mono ?_;rintro e w5 ⟨rfl,nu,jp⟩;obtain⟨nP,cD⟩:=MS _ _ nu;clear EK nu;go_wp2_with fail;refine⟨bO jp (cD _ zl (by omega)),ct _ _ ?_⟩;refine aj ?_;simp only[af,Zx];repeat go_big_quiet_step(fail)
   apply wpQuiet_nil;cases x
   ·have hQ:=zH (show ao aa b w g (R.does m) w5 from by rw[hD.out];exact nP.post);clear nP;go_wp2_with fail;exact al rfl rfl ⟨rfl,hQ.out⟩
   ·have hs:=nP.act (fun ag v1 h=>sR h cB.out (by omega) (by omega) aU);clear nP;go_wp2_with fail;refine hs.mono ?_;rintro e w9 ⟨rfl,jo,_⟩;have hQ:=zH (show ao aa b w g (R.does m) w9 from by rw[hD.out];exact jo.post);clear hs jo;go_wp2_with fail;exact al rfl rfl ⟨rfl,hQ.out⟩
  ·rw[if_neg hC]at hD;have hQ:=zH (show ao aa b w g (R.does m) w1.drew from by rw[hD];exact(hX.below (w':=w1.drew) (zb.drew)).1.post);have cu:m.reject=true\/(m.reject=false/\(m.term==R.hard.term+1)=false)\/(m.reject=false/\(m.term==R.hard.term+1)=true/\(R.role==1)=false):=by
    rcases Bool.eq_false_or_eq_true m.reject with lh|lh
    ·exact .inl lh
    ·by_cases a:m.term=R.hard.term+1
     ·exact .inr (.inr ⟨lh,by simp[a],by simp;exact fun hh=>hC ⟨lh,a,hh⟩⟩)
     ·exact .inr (.inl ⟨lh,by simp[a]⟩)
   replace hC:=zH hC;replace hk:=zH hk;clear hX hD;rcases cu with f1|⟨f1,f2⟩|⟨f1,f2,f3⟩
   all_goals
    have j3:=bV.out;rw[f1]at j3 y8;go_enter func60,ntmps60;go_wp2_with fail;try rw[j3]
    try go_wp2_with fail
    refine dV [g,w.heap.size] w1 [([0,1,2,3,4,5,6,7,8,9,10,11,12,13,14,15,16,17,18,19,20,21,22,23,24],25)] [26] ?_;refine av fun K1 ct=>?_
    simp only[af,Zx];repeat go_big_quiet_step(fail)
    apply wpQuiet_nil;go_wp2_with fail;refine⟨aR,ct _ _ ?_⟩;refine aj ?_;simp only[af,Zx];repeat go_big_quiet_step(fail)
    apply wpQuiet_nil;go_wp2_with fail;exact al rfl rfl ⟨rfl,hQ.out⟩
 ·have e1:(m.kind==1)=false:=by simp[cl]
  have e2:(m.kind==2)=false:=by simp[cl]
  have e3:(m.kind==3)=true:=by simp[cl]
  have hD:=zH (show R.does m=R.votes m by unfold Rf.does;rw[if_neg (by omega),if_neg (by omega),if_pos cl]);have hs:=hX.act (fun ag v1 h=>Dt m (.slice A1 n1 c1) (.slice A2 n2 c2) h (by omega) hN);unfold eH at hs;simp only[vi]at hs;replace cl:=zH cl;replace hk:=zH hk;clear hX;go_enter func60,ntmps60;go_wp2_with fail;rw[bV.out];try go_wp2_with fail
  refine hs.mono ?_;rintro e w9 ⟨rfl,jo,_⟩;have hQ:=zH (show ao aa b w g (R.does m) w9 from by rw[hD.out];exact jo.post);clear hs jo;go_wp2_with fail;exact al rfl rfl ⟨rfl,hQ.out⟩
 ·have e1:(m.kind==1)=false:=by simp[cl]
  have e2:(m.kind==2)=false:=by simp[cl]
  have e3:(m.kind==3)=false:=by simp[cl]
  have e4:(m.kind==4)=true:=by simp[cl]
  have hD:R.does m=if m.reject=false/\R.role=2 then(if(R.says m.frm).won then(R.says m.frm).leads else R.says m.frm)else R:=by unfold Rf.does;rw[if_neg (by omega),if_neg (by omega),if_neg (by omega),if_pos cl]
  replace cl:=zH cl;by_cases hC:m.reject=false/\R.role=2
  ·have f1:=hC.1;have f3:(R.role==2)=true:=by simp[hC.2]
   rw[if_pos hC]at hD;have EK:=hX.act (fun ag v1 h=>ta m.frm h (by omega) (by have:=hk.id;omega) (hk.ys (.inr hC.2)) (by have:=hk.yl;omega));have cB:=hk.says m.frm;obtain⟨x,hx⟩:=zN ((R.says m.frm).won);rw[hx]at EK hD;replace hD:=zH hD;replace hC:=zH hC;replace cB:=zH cB;replace hk:=zH hk;clear hX hx;have j3:=bV.out;rw[f1]at j3 y8;go_enter func60,ntmps60;go_wp2_with fail;try rw[j3]
   try go_wp2_with fail
   refine EK.mono ?_;rintro e w5 ⟨rfl,nP,cD⟩;clear EK;cases x
   ·have hQ:=zH (show ao aa b w g (R.does m) w5 from by rw[hD.out];exact nP.post);clear nP;go_wp2_with fail;exact al rfl rfl ⟨rfl,hQ.out⟩
   ·have hs:=nP.act (fun ag v1 h=>Aj h cB.out (by omega) (by omega));clear nP;go_wp2_with fail;refine hs.mono ?_;rintro e w9 ⟨rfl,jo,_⟩;have hQ:=zH (show ao aa b w g (R.does m) w9 from by rw[hD.out];exact jo.post);clear hs jo;go_wp2_with fail;exact al rfl rfl ⟨rfl,hQ.out⟩
  ·rw[if_neg hC]at hD;have hQ:=zH (show ao aa b w g (R.does m) w1 from by rw[hD];exact hX.post);have cu:m.reject=true\/(m.reject=false/\(R.role==2)=false):=by
    rcases Bool.eq_false_or_eq_true m.reject with lh|lh
    ·exact .inl lh
    ·exact .inr ⟨lh,by simp;exact fun hh=>hC ⟨lh,hh⟩⟩
   replace hC:=zH hC;replace hk:=zH hk;clear hX hD;rcases cu with f1|⟨f1,f2⟩
   all_goals
    have j3:=bV.out;rw[f1]at j3 y8;go_enter func60,ntmps60;go_wp2_with fail;try rw[j3]
    try go_wp2_with fail
    exact al rfl rfl ⟨rfl,hQ.out⟩
 ·have e1:(m.kind==1)=false:=by simp[cl]
  have e2:(m.kind==2)=false:=by simp[cl]
  have e3:(m.kind==3)=false:=by simp[cl]
  have e4:(m.kind==4)=false:=by simp[cl]
  have e5:(m.kind==5)=true:=by simp[cl]
  have hD:R.does m=if R.role≠3 then(R.hears m).appends m else R:=by unfold Rf.does;rw[if_neg (by omega),if_neg (by omega),if_neg (by omega),if_neg (by omega),if_pos cl]
  replace cl:=zH cl;by_cases hC:R.role=3
  ·have f1:(R.role !=3)=false:=by simp[hC]
   rw[if_neg (by simpa using hC)]at hD;have hQ:=zH (show ao aa b w g (R.does m) w1 from by rw[hD];exact hX.post);replace hC:=zH hC;replace hk:=zH hk;clear hX hD;go_enter func60,ntmps60;go_wp2_with fail;rw[bV.out];try go_wp2_with fail
   exact al rfl rfl ⟨rfl,hQ.out⟩
  ·have f1:(R.role !=3)=true:=by simp[hC]
   rw[if_pos hC]at hD;have IZ:=hX.act (fun ag v1 h=>uR m (.slice A1 n1 c1) (.slice A2 n2 c2) h);unfold eH at IZ;simp only[vi]at IZ;have cB:=hk.hears m;replace hD:=zH hD;replace hC:=zH hC;replace cB:=zH cB;replace hk:=zH hk;clear hX;go_enter func60,ntmps60;go_wp2_with fail;rw[bV.out];try go_wp2_with fail
   refine IZ.mono ?_;rintro e w5 ⟨rfl,nP,cD⟩;have MF:ar w5 w.heap.size 39 #[.int .i64 m.kind,.int .i64 m.frm,.int .i64 m.tgt,.int .i64 m.term,.int .i64 m.idx,.int .i64 m.logTerm,.int .i64 m.commit,.int .i64 m.round,.bool m.reject,.int .i64 m.offset,.int .i64 m.total,.slice A1 n1 c1,.slice A2 n2 c2]:=cD.blk zl (by omega) bN;clear IZ y0 y1 y2 y3 y4 y5 y6 y7 y8 y9 y10 y11 y12 c6' c13' c6 c13;obtain⟨y0,y1,y2,y3,y4,y5,y6,y7,y8,y9,y10,y11,y12,-⟩:=MF.cs [0,1,2,3,4,5,6,7,8,9,10,11,12];simp only[Zx]at y0 y1 y2 y3 y4 y5 y6 y7 y8 y9 y10 y11 y12;obtain⟨S5,v7,h7,PO,qk⟩:=nP.ens2 uM he;have hs:=(xN m A1 A2 n1 c1 n2 c2 mi h7 cB.out (by omega) (by omega) uM PO iI.out (by rw[iI.out];exact Ob) tG.1 tG.2 oX.1 oX.2).mono (fun e w' hh=>(⟨hh.1,(qk _ _ hh.2).1.post⟩:e=.returned (.tuple #[])/\ao aa b w g ((R.hears m).appends m) w'));clear h7 PO qk;unfold eH at hs;simp only[vi]at hs;clear nP;go_wp2_with fail;refine hs.mono ?_;rintro e w9 ⟨rfl,jo⟩;have hQ:=zH (show ao aa b w g (R.does m) w9 from by rw[hD.out];exact jo);clear hs jo;go_wp2_with fail;exact al rfl rfl ⟨rfl,hQ.out⟩
 ·have e1:(m.kind==1)=false:=by simp[cl]
  have e2:(m.kind==2)=false:=by simp[cl]
  have e3:(m.kind==3)=false:=by simp[cl]
  have e4:(m.kind==4)=false:=by simp[cl]
  have e5:(m.kind==5)=false:=by simp[cl]
  have e7:(m.kind==7)=false:=by simp[cl]
  have e8:(m.kind==8)=false:=by simp[cl]
  have e6:(m.kind==6)=true:=by simp[cl]
  ·have hD:R.does m=if R.role=3 then R.answered m else R:=by unfold Rf.does;rw[if_neg (by omega),if_neg (by omega),if_neg (by omega),if_neg (by omega),if_neg (by omega),if_neg (by omega),if_neg (by omega)]
   replace cl:=zH cl;by_cases hC:R.role=3
   ·have f1:(R.role==3)=true:=by simp[hC]
    rw[if_pos hC]at hD;obtain⟨s,Nl⟩:∃s:Nat,m.frm=(s:Int):=⟨m.frm.toNat,by omega⟩;have hs:=hX.act (fun ag v1 h=>oz m (.slice A1 n1 c1) (.slice A2 n2 c2) s h hk hC Nl (by omega) (by omega) (by omega) tG.1 tG.2 Lm.1);unfold eH at hs;simp only[vi]at hs;replace hD:=zH hD;replace hC:=zH hC;replace Nl:=zH Nl;replace hk:=zH hk;clear hX;go_enter func60,ntmps60;go_wp2_with fail;rw[bV.out];try go_wp2_with fail
    refine hs.mono ?_;rintro e w9 ⟨rfl,jo,_⟩;have hQ:=zH (show ao aa b w g (R.does m) w9 from by rw[hD.out];exact jo.post);clear hs jo;go_wp2_with fail;exact al rfl rfl ⟨rfl,hQ.out⟩
   ·have f1:(R.role==3)=false:=by simp[hC]
    rw[if_neg hC]at hD;have hQ:=zH (show ao aa b w g (R.does m) w1 from by rw[hD];exact hX.post);replace hC:=zH hC;replace hk:=zH hk;clear hX hD;go_enter func60,ntmps60;go_wp2_with fail;rw[bV.out];try go_wp2_with fail
    exact al rfl rfl ⟨rfl,hQ.out⟩
 ·have e1:(m.kind==1)=false:=by simp[cl]
  have e2:(m.kind==2)=false:=by simp[cl]
  have e3:(m.kind==3)=false:=by simp[cl]
  have e4:(m.kind==4)=false:=by simp[cl]
  have e5:(m.kind==5)=false:=by simp[cl]
  have e7:(m.kind==7)=true:=by simp[cl]
  have hD:R.does m=if R.role≠3 then(R.hears m).piece m else R:=by unfold Rf.does;rw[if_neg (by omega),if_neg (by omega),if_neg (by omega),if_neg (by omega),if_neg (by omega),if_pos cl]
  replace cl:=zH cl;by_cases hC:R.role=3
  ·have f1:(R.role !=3)=false:=by simp[hC]
   rw[if_neg (by simpa using hC)]at hD;have hQ:=zH (show ao aa b w g (R.does m) w1 from by rw[hD];exact hX.post);replace hC:=zH hC;replace hk:=zH hk;clear hX hD;go_enter func60,ntmps60;go_wp2_with fail;rw[bV.out];try go_wp2_with fail
   exact al rfl rfl ⟨rfl,hQ.out⟩
  ·have f1:(R.role !=3)=true:=by simp[hC]
   rw[if_pos hC]at hD;have IZ:=hX.act (fun ag v1 h=>uR m (.slice A1 n1 c1) (.slice A2 n2 c2) h);unfold eH at IZ;simp only[vi]at IZ;have cB:=hk.hears m;replace hD:=zH hD;replace hC:=zH hC;replace cB:=zH cB;replace hk:=zH hk;clear hX;go_enter func60,ntmps60;go_wp2_with fail;rw[bV.out];try go_wp2_with fail
   refine IZ.mono ?_;rintro e w5 ⟨rfl,nP,cD⟩;have MF:ar w5 w.heap.size 39 #[.int .i64 m.kind,.int .i64 m.frm,.int .i64 m.tgt,.int .i64 m.term,.int .i64 m.idx,.int .i64 m.logTerm,.int .i64 m.commit,.int .i64 m.round,.bool m.reject,.int .i64 m.offset,.int .i64 m.total,.slice A1 n1 c1,.slice A2 n2 c2]:=cD.blk zl (by omega) bN;clear IZ y0 y1 y2 y3 y4 y5 y6 y7 y8 y9 y10 y11 y12 c6' c13' c6 c13;obtain⟨y0,y1,y2,y3,y4,y5,y6,y7,y8,y9,y10,y11,y12,-⟩:=MF.cs [0,1,2,3,4,5,6,7,8,9,10,11,12];simp only[Zx]at y0 y1 y2 y3 y4 y5 y6 y7 y8 y9 y10 y11 y12;obtain⟨S5,v7,h7,PO,qk⟩:=nP.byt2 uM hd;have hs:=(DM m A1 A2 n1 c1 n2 c2 mi h7 cB.out (by omega) (by omega) uM PO lB.out (by rw[lB.out];exact PT) tG.1 tG.2 JA.1 JA.2 Il.1 Il.2).mono (fun e w' hh=>(⟨hh.1,(qk _ _ hh.2).1.post⟩:e=.returned (.tuple #[])/\ao aa b w g ((R.hears m).piece m) w'));clear h7 PO qk;unfold eH at hs;simp only[vi]at hs;clear nP;go_wp2_with fail;refine hs.mono ?_;rintro e w9 ⟨rfl,jo⟩;have hQ:=zH (show ao aa b w g (R.does m) w9 from by rw[hD.out];exact jo);clear hs jo;go_wp2_with fail;exact al rfl rfl ⟨rfl,hQ.out⟩
 ·have e1:(m.kind==1)=false:=by simp[cl]
  have e2:(m.kind==2)=false:=by simp[cl]
  have e3:(m.kind==3)=false:=by simp[cl]
  have e4:(m.kind==4)=false:=by simp[cl]
  have e5:(m.kind==5)=false:=by simp[cl]
  have e7:(m.kind==7)=false:=by simp[cl]
  have e8:(m.kind==8)=true:=by simp[cl]
  rcases Bool.eq_false_or_eq_true m.reject with lh|lh
  ·have hD:R.does m=R:=by unfold Rf.does;rw[if_neg (by omega),if_neg (by omega),if_neg (by omega),if_neg (by omega),if_neg (by omega),if_neg (by omega),if_pos ⟨cl,lh⟩]
   have hQ:=zH (show ao aa b w g (R.does m) w1 from by rw[hD];exact hX.post);replace cl:=zH cl;replace hk:=zH hk;clear hX hD;have j3:=bV.out;rw[lh]at j3 y8;go_enter func60,ntmps60;go_wp2_with fail;try rw[j3]
   try go_wp2_with fail
   exact aO rfl rfl ⟨rfl,hQ.out⟩
  ·have hD:R.does m=if R.role=3 then R.answered m else R:=by unfold Rf.does;rw[if_neg (by omega),if_neg (by omega),if_neg (by omega),if_neg (by omega),if_neg (by omega),if_neg (by omega),if_neg (by rw[lh];simp)]
   replace cl:=zH cl;by_cases hC:R.role=3
   ·have f1:(R.role==3)=true:=by simp[hC]
    rw[if_pos hC]at hD;obtain⟨s,Nl⟩:∃s:Nat,m.frm=(s:Int):=⟨m.frm.toNat,by omega⟩;have hs:=hX.act (fun ag v1 h=>oz m (.slice A1 n1 c1) (.slice A2 n2 c2) s h hk hC Nl (by omega) (by omega) (by omega) tG.1 tG.2 Lm.1);unfold eH at hs;simp only[vi]at hs;replace hD:=zH hD;replace hC:=zH hC;replace Nl:=zH Nl;replace hk:=zH hk;clear hX;have j3:=bV.out;rw[lh]at j3 y8;rw[lh]at hs;go_enter func60,ntmps60;go_wp2_with fail;try rw[j3]
    try go_wp2_with fail
    refine hs.mono ?_;rintro e w9 ⟨rfl,jo,_⟩;have hQ:=zH (show ao aa b w g (R.does m) w9 from by rw[hD.out];exact jo.post);clear hs jo;go_wp2_with fail;exact al rfl rfl ⟨rfl,hQ.out⟩
   ·have f1:(R.role==3)=false:=by simp[hC]
    rw[if_neg hC]at hD;have hQ:=zH (show ao aa b w g (R.does m) w1 from by rw[hD];exact hX.post);replace hC:=zH hC;replace hk:=zH hk;clear hX hD;have j3:=bV.out;rw[lh]at j3 y8;go_enter func60,ntmps60;go_wp2_with fail;try rw[j3]
    try go_wp2_with fail
    exact al rfl rfl ⟨rfl,hQ.out⟩
end
end
end Go.Proofs.YtjcninheccmpoaaGreat
