import Derived.Test.YtjcninheccmpoaaGreatV5
import Derived.Deep.DeepCutAuto
set_option maxRecDepth 100000
set_option maxHeartbeats 8000000
set_option linter.all false
namespace Go.Proofs.YtjcninheccmpoaaGreat
open Go.RowKit Go.Proofs.Tryz
section
open Go.MapKept
section
variable {aa:Nat->Nat}{b g:Nat}{w w':World}{R:Rf}{v:Rw}
theorem IZ(h:ax aa b w g R v)(ht:1099511627776<=R.hard.term) :
  Calls prog 51 #[.pointer (some ⟨g,0,none⟩)] w fun e w'=>e=.returned (.tuple #[])/\ap aa b w g R w':=by
 have cW:=h.s.lt;have c6:=h.s.cell 6;simp only[bV,vi,Zx]at c6;have hP:=zH (show ap aa b w g R w from⟨aa,v,h,fun _ _ _=>rfl,fun _ _ h=>h,Fr.refl _ _⟩);clear h;go_enter func51,ntmps51;go_wp2_with fail;exact aP rfl rfl ⟨rfl,hP.out⟩
theorem Aj{K M:Nat}(i:Nat)(draw:Int)(h:ax aa b w g R v)(hk:Ok K M R)(hK:K<=70000)(hM:M<=40000)(lS:i≠b)(yq:-9223372036854775808<=draw)(Bv:draw<=9223372036854775807) :
  Calls prog 17 #[.pointer (some ⟨g,0,none⟩),.int .i64 draw] w fun e w'=>∃X,e=.returned (.agg (be (R.tick draw).1 X))/\dI aa b i w g (R.tick draw).1 (R.tick draw).2 X w':=by
 have cW:=h.s.lt;have aI:Below w.heap.size w (w.alloc (.cells bL 49)):=zb.alloc zl _;have bM:=ao.new w 49 bL;have h1:=h.fresh aI;have AE:=hk.ck;obtain⟨w1,ct⟩:=zN (w.alloc (.cells #[.bool false,.bool false,.int .i64 0,.int .i64 0,.slice none 0 0,.slice none 0 0,.pointer none,.slice none 0 0,.slice none 0 0] 49));rw[show w.alloc (.cells bL 49)=w1 from ct]at aI bM h1;have iM:g<w1.heap.size:=h1.s.lt;obtain⟨c1,c13,c15,c16,-⟩:=h1.s.cs [1,13,15,16];simp only[bV,vi,Zx]at c1 c13 c15 c16;obtain⟨f1,f15,f16,-⟩:=h1.s.fs [1,15,16];have Gl:(R.role=3/\2<=R.clock+1)\/(R.role=3/\¬2<=R.clock+1)\/R.role≠3:=by omega
 rcases Gl with⟨hr,hc⟩|⟨hr,hc⟩|hr
 ·have yh:=zH (show R.tick draw=Rf.tell (Rf.all {R with clock:=0,round:=R.round+1}) by unfold Rf.tick Rf.beats;simp only;rw[if_pos hr,if_pos hc]);have cR:Ok (K+1) M {R with clock:=0,round:=R.round+1}:={hk.mono (Nat.le_succ K) (Nat.le_refl M)with ck:=⟨Int.le_refl 0,Int.natCast_nonneg _,by show 0<=R.round+1;omega,by show R.round+1<=_;omega⟩};obtain⟨w3,jm⟩:=zN (((w1.setCell ⟨g,15,none⟩ (.int .i64 (R.clock+1))).setCell ⟨g,15,none⟩ (.int .i64 0)).setCell ⟨g,1,none⟩ (.int .i64 (R.round+1)));have mz:Fr (fun j=>j=g) w1 w3:=by rw[<-jm];exact((Fr.set g 15 _).trans (Fr.set g 15 _) fun _ h=>.inl h).trans (Fr.set g 1 _) fun _ h=>.inl h
  have iE:ao w3 g 107 (bV {R with clock:=0,round:=R.round+1} v):=by
   rw[<-jm];have s:=((h1.s.set_ 15 (.int .i64 (R.clock+1))).set_ 15 (.int .i64 0)).set_ 1 (.int .i64 (R.round+1));simp only[bV,Zy]at s;exact s
  have hP:=ap.nums (R':={R with clock:=0,round:=R.round+1}) h1 iE mz rfl rfl rfl rfl rfl rfl rfl rfl rfl rfl rfl;have fl:=hP.call (fun ag v1 h=>mr h (cR.peers hr (by omega)) (by have:=cR.ms;omega));replace cR:=zH cR;rw[hr]at c13;clear h h1 iE mz hP;go_enter func17,ntmps17;go_wp2_with fail;refine fl.mono ?_;rintro e w4 ⟨rfl,hP⟩;clear fl;obtain⟨O,hO⟩:=zN (Rf.tell (Rf.all {R with clock:=0,round:=R.round+1}));have cx:=hP.take i;rw[show(Rf.tell (Rf.all {R with clock:=0,round:=R.round+1}))=O from hO]at cx;replace hO:=zH hO;unfold be at cx;go_wp2_with fail;refine cx.mono ?_;rintro e w8 ⟨X,rfl,hT⟩;have fu:=hT.kept zl bM;obtain⟨z0,z1,z2,z3,z4,z5,z6,z7,z8,-⟩:=fu.cs [0,1,2,3,4,5,6,7,8];simp only[bL,Zx]at z0 z1 z2 z3 z4 z5 z6 z7 z8;obtain⟨y0,y1,y2,y3,y4,y5,y6,y7,y8,-⟩:=fu.fs [0,1,2,3,4,5,6,7,8];obtain⟨td,jx⟩:=hT.put9 aI zl bM lS;replace jx:=zH jx;clear hT cx fu;go_wp2_with fail;show bodyPost _ _ _ _ _ (cE w8 w.heap.size O.1 X);generalize cE w8 w.heap.size O.1 X=w9 at *;obtain⟨r0,r1,r2,r3,r4,r5,r6,r7,r8,-⟩:=td.cs [0,1,2,3,4,5,6,7,8];simp only[be,Zx]at r0 r1 r2 r3 r4 r5 r6 r7 r8;exact bodyPost_ret (v:=.agg (be O.1 X)) (by simp[results,results17,go_sem,be,r0,r1,r2,r3,r4,r5,r6,r7,r8]) rfl ⟨X,by rw[yh.out,hO.out],by rw[yh.out,hO.out];exact jx.out⟩
 ·have yh:=zH (show R.tick draw=Rf.tell {R with clock:=R.clock+1} by unfold Rf.tick Rf.beats;simp only;rw[if_pos hr,if_neg hc]);obtain⟨w3,jm⟩:=zN (w1.setCell ⟨g,15,none⟩ (.int .i64 (R.clock+1)));have mz:Fr (fun j=>j=g) w1 w3:=by rw[<-jm];exact Fr.set g 15 _
  have iE:ao w3 g 107 (bV {R with clock:=R.clock+1} v):=by
   rw[<-jm];have s:=h1.s.set_ 15 (.int .i64 (R.clock+1));simp only[bV,Zy]at s;exact s
  have hP:=ap.nums (R':={R with clock:=R.clock+1}) h1 iE mz rfl rfl rfl rfl rfl rfl rfl rfl rfl rfl rfl;obtain⟨d13,d15,-⟩:=iE.cs [13,15];simp only[bV,vi,Zx]at d13 d15;rw[hr]at c13;have d13':w3.cell? ⟨g,13,none⟩=some (.int .i64 3):=by rw[d13,hr]
  clear h h1 iE mz d13;go_enter func17,ntmps17;go_wp2_with fail;obtain⟨O,hO⟩:=zN (Rf.tell {R with clock:=R.clock+1});have cx:=hP.take i;rw[show(Rf.tell {R with clock:=R.clock+1})=O from hO]at cx;replace hO:=zH hO;unfold be at cx;go_wp2_with fail;refine cx.mono ?_;rintro e w8 ⟨X,rfl,hT⟩;have fu:=hT.kept zl bM;obtain⟨z0,z1,z2,z3,z4,z5,z6,z7,z8,-⟩:=fu.cs [0,1,2,3,4,5,6,7,8];simp only[bL,Zx]at z0 z1 z2 z3 z4 z5 z6 z7 z8;obtain⟨y0,y1,y2,y3,y4,y5,y6,y7,y8,-⟩:=fu.fs [0,1,2,3,4,5,6,7,8];obtain⟨td,jx⟩:=hT.put9 aI zl bM lS;replace jx:=zH jx;clear hT cx fu;go_wp2_with fail;show bodyPost _ _ _ _ _ (cE w8 w.heap.size O.1 X);generalize cE w8 w.heap.size O.1 X=w9 at *;obtain⟨r0,r1,r2,r3,r4,r5,r6,r7,r8,-⟩:=td.cs [0,1,2,3,4,5,6,7,8];simp only[be,Zx]at r0 r1 r2 r3 r4 r5 r6 r7 r8;exact bodyPost_ret (v:=.agg (be O.1 X)) (by simp[results,results17,go_sem,be,r0,r1,r2,r3,r4,r5,r6,r7,r8]) rfl ⟨X,by rw[yh.out,hO.out],by rw[yh.out,hO.out];exact jx.out⟩
 ·obtain⟨wt,G6⟩:=zN ((if R.wait=0 then gF draw else R.wait));have hb:R.beats draw=if wt<=R.clock+1 then if R.hard.term<iQ then(Rf.rest {R with clock:=R.clock+1,wait:=wt}).asks else Rf.rest {R with clock:=R.clock+1,wait:=wt}else {R with clock:=R.clock+1,wait:=wt}:=by
   unfold Rf.beats;simp only;rw[if_neg hr];by_cases h0:R.wait=0
   ·rw[if_pos h0]at G6 ⊢;rw[G6]
   ·rw[if_neg h0]at G6 ⊢;rw[<-G6]
  have O2:(R.role==3)=false:=by simp;exact hr
  have cR:Ok (K+1) M (Rf.rest {R with clock:=R.clock+1,wait:=wt}):={hk.mono (Nat.le_succ K) (Nat.le_refl M)with ck:=⟨Int.le_refl 0,Int.natCast_nonneg _,AE.2.2.1,by show R.round<=_;omega⟩};have eP:=Iy draw;have lg:∃ws,ap (aj aa w.heap.size b) b w1 g {R with clock:=R.clock+1,wait:=wt} ws/\ao ws g 107 (bV {R with clock:=R.clock+1,wait:=wt} v)/\
    ((R.wait=0/\wt=gF draw/\(w1.setCell ⟨g,15,none⟩ (.int .i64 (R.clock+1))).setCell ⟨g,16,none⟩ (.int .i64 wt)=ws)\/((wt==0)=false/\w1.setCell ⟨g,15,none⟩ (.int .i64 (R.clock+1))=ws)):=by
   by_cases h0:R.wait=0
   ·rw[if_pos h0]at G6;have s:=(h1.s.set_ 15 (.int .i64 (R.clock+1))).set_ 16 (.int .i64 wt);simp only[bV,Zy]at s;exact⟨_,ap.nums (R':={R with clock:=R.clock+1,wait:=wt}) h1 s ((Fr.set g 15 _).trans (Fr.set g 16 _) fun _ h=>.inl h) rfl rfl rfl rfl rfl rfl rfl rfl rfl rfl rfl,s,.inl ⟨h0,G6.symm,rfl⟩⟩
   ·rw[if_neg h0]at G6;have s:=h1.s.set_ 15 (.int .i64 (R.clock+1));simp only[bV,Zy]at s;rw[G6]at s;exact⟨_,ap.nums (R':={R with clock:=R.clock+1,wait:=wt}) h1 s (Fr.set g 15 _) rfl rfl rfl rfl rfl rfl rfl rfl rfl rfl rfl,s,.inr ⟨by rw[<-G6];simp;exact h0,rfl⟩⟩
  obtain⟨ws,SF,T4,X3⟩:=lg;have dA:=T4.lt;obtain⟨d13,d15,d16,-⟩:=T4.cs [13,15,16];simp only[bV,vi,Zx]at d13 d15 d16;have Jv:=d13;have Jw:=d16;obtain⟨k15,k16⟩:=pU [g] d15 d16;replace SF:=zH SF;replace cR:=zH cR;clear h h1 T4 d15 d16 d13;replace Jv:=zH Jv;replace Jw:=zH Jw;by_cases fd:wt<=R.clock+1
  ·rw[if_pos fd]at hb;have Bm:=(SF.out.below (w2:=ws.drew) (zb.drew)).call (fun ag v1 h=>st h);have aE:∃RB,R.tick draw=Rf.tell RB/\∀wr,ap (aj aa w.heap.size b) b w1 g (Rf.rest {R with clock:=R.clock+1,wait:=wt}) wr->Calls prog 51 #[.pointer (some ⟨g,0,none⟩)] wr fun e w'=>e=.returned (.tuple #[])/\ap (aj aa w.heap.size b) b w1 g RB w':=by
    by_cases ht:R.hard.term<iQ
    ·rw[if_pos ht]at hb;exact⟨_,by unfold Rf.tick;rw[hb],fun wr hP=>hP.call fun ag v1 h=>Fz h cR.out (by omega) (by omega) ht⟩
    ·rw[if_neg ht]at hb;exact⟨_,by unfold Rf.tick;rw[hb],fun wr hP=>hP.call fun ag v1 h=>IZ h (Int.not_lt.1 ht)⟩
   obtain⟨RB,yh,aH⟩:=aE;replace yh:=zH yh;replace aH:=zH aH;clear hb;obtain⟨Ur,Us,_,_⟩:=AE;rcases X3 with⟨h0,RV,fL⟩|⟨h0,fL⟩
   ·have eP:=eP (w1.setCell ⟨g,15,none⟩ (.int .i64 (R.clock+1))) yq Bv;rw[<-RV]at eP;rw[h0]at c16;clear RV G6 h0;go_enter func17,ntmps17;go_wp2_with fail;refine eP.mono ?_;rintro e w2 ⟨rfl,rfl⟩;clear eP;go_wp2_with fail;try rw[fL]
    refine eE [g] ws [] [0,1,2,3,4,5,6,7,8] ?_;refine al ?_;simp only[ah,Zx];repeat go_big_quiet_step(fail)
    apply wpQuiet_nil;go_wp2_with fail;refine Bm.mono ?_;rintro e w4 ⟨rfl,Bo⟩;have Gk:=aH.out _ Bo;clear Bo;go_wp2_with fail;refine Gk.mono ?_;rintro e w5 ⟨rfl,hP⟩;clear Gk;obtain⟨O,hO⟩:=zN (Rf.tell RB);have cx:=hP.take i;rw[show(Rf.tell RB)=O from hO]at cx;replace hO:=zH hO;unfold be at cx;go_wp2_with fail;refine cx.mono ?_;rintro e w8 ⟨X,rfl,hT⟩;have fu:=hT.kept zl bM;obtain⟨z0,z1,z2,z3,z4,z5,z6,z7,z8,-⟩:=fu.cs [0,1,2,3,4,5,6,7,8];simp only[bL,Zx]at z0 z1 z2 z3 z4 z5 z6 z7 z8;obtain⟨y0,y1,y2,y3,y4,y5,y6,y7,y8,-⟩:=fu.fs [0,1,2,3,4,5,6,7,8];obtain⟨td,jx⟩:=hT.put9 aI zl bM lS;replace jx:=zH jx;clear hT cx fu;go_wp2_with fail;show bodyPost _ _ _ _ _ (cE w8 w.heap.size O.1 X);generalize cE w8 w.heap.size O.1 X=w9 at *;obtain⟨r0,r1,r2,r3,r4,r5,r6,r7,r8,-⟩:=td.cs [0,1,2,3,4,5,6,7,8];simp only[be,Zx]at r0 r1 r2 r3 r4 r5 r6 r7 r8;exact bodyPost_ret (v:=.agg (be O.1 X)) (by simp[results,results17,go_sem,be,r0,r1,r2,r3,r4,r5,r6,r7,r8]) rfl ⟨X,by rw[yh.out,hO.out],by rw[yh.out,hO.out];exact jx.out⟩
   ·have d13:=Jv.out;have d16:=Jw.out;clear eP;go_enter func17,ntmps17;go_wp2_with fail;try rw[fL]
    refine eE [g] ws [] [0,1,2,3,4,5,6,7,8] ?_;refine al ?_;simp only[ah,Zx];repeat go_big_quiet_step(fail)
    apply wpQuiet_nil;go_wp2_with fail;refine Bm.mono ?_;rintro e w4 ⟨rfl,Bo⟩;have Gk:=aH.out _ Bo;clear Bo;go_wp2_with fail;refine Gk.mono ?_;rintro e w5 ⟨rfl,hP⟩;clear Gk;obtain⟨O,hO⟩:=zN (Rf.tell RB);have cx:=hP.take i;rw[show(Rf.tell RB)=O from hO]at cx;replace hO:=zH hO;unfold be at cx;go_wp2_with fail;refine cx.mono ?_;rintro e w8 ⟨X,rfl,hT⟩;have fu:=hT.kept zl bM;obtain⟨z0,z1,z2,z3,z4,z5,z6,z7,z8,-⟩:=fu.cs [0,1,2,3,4,5,6,7,8];simp only[bL,Zx]at z0 z1 z2 z3 z4 z5 z6 z7 z8;obtain⟨y0,y1,y2,y3,y4,y5,y6,y7,y8,-⟩:=fu.fs [0,1,2,3,4,5,6,7,8];obtain⟨td,jx⟩:=hT.put9 aI zl bM lS;replace jx:=zH jx;clear hT cx fu;go_wp2_with fail;show bodyPost _ _ _ _ _ (cE w8 w.heap.size O.1 X);generalize cE w8 w.heap.size O.1 X=w9 at *;obtain⟨r0,r1,r2,r3,r4,r5,r6,r7,r8,-⟩:=td.cs [0,1,2,3,4,5,6,7,8];simp only[be,Zx]at r0 r1 r2 r3 r4 r5 r6 r7 r8;exact bodyPost_ret (v:=.agg (be O.1 X)) (by simp[results,results17,go_sem,be,r0,r1,r2,r3,r4,r5,r6,r7,r8]) rfl ⟨X,by rw[yh.out,hO.out],by rw[yh.out,hO.out];exact jx.out⟩
  ·rw[if_neg fd]at hb;have Bm:=SF.out.below (w2:=ws.drew) (zb.drew);have yh:=zH (show R.tick draw=Rf.tell {R with clock:=R.clock+1,wait:=wt} by unfold Rf.tick;rw[hb]);clear hb;obtain⟨Ur,Us,_,_⟩:=AE;rcases X3 with⟨h0,RV,fL⟩|⟨h0,fL⟩
   ·have eP:=eP (w1.setCell ⟨g,15,none⟩ (.int .i64 (R.clock+1))) yq Bv;rw[<-RV]at eP;rw[h0]at c16;clear RV G6 h0;go_enter func17,ntmps17;go_wp2_with fail;refine eP.mono ?_;rintro e w2 ⟨rfl,rfl⟩;clear eP;go_wp2_with fail;try rw[fL]
    refine eE [g] ws [] [0,1,2,3,4,5,6,7,8] ?_;refine al ?_;simp only[ah,Zx];repeat go_big_quiet_step(fail)
    apply wpQuiet_nil;go_wp2_with fail;obtain⟨O,hO⟩:=zN (Rf.tell {R with clock:=R.clock+1,wait:=wt});have cx:=Bm.take i;rw[show(Rf.tell {R with clock:=R.clock+1,wait:=wt})=O from hO]at cx;replace hO:=zH hO;unfold be at cx;go_wp2_with fail;refine cx.mono ?_;rintro e w8 ⟨X,rfl,hT⟩;have fu:=hT.kept zl bM;obtain⟨z0,z1,z2,z3,z4,z5,z6,z7,z8,-⟩:=fu.cs [0,1,2,3,4,5,6,7,8];simp only[bL,Zx]at z0 z1 z2 z3 z4 z5 z6 z7 z8;obtain⟨y0,y1,y2,y3,y4,y5,y6,y7,y8,-⟩:=fu.fs [0,1,2,3,4,5,6,7,8];obtain⟨td,jx⟩:=hT.put9 aI zl bM lS;replace jx:=zH jx;clear hT cx fu;go_wp2_with fail;show bodyPost _ _ _ _ _ (cE w8 w.heap.size O.1 X);generalize cE w8 w.heap.size O.1 X=w9 at *;obtain⟨r0,r1,r2,r3,r4,r5,r6,r7,r8,-⟩:=td.cs [0,1,2,3,4,5,6,7,8];simp only[be,Zx]at r0 r1 r2 r3 r4 r5 r6 r7 r8;exact bodyPost_ret (v:=.agg (be O.1 X)) (by simp[results,results17,go_sem,be,r0,r1,r2,r3,r4,r5,r6,r7,r8]) rfl ⟨X,by rw[yh.out,hO.out],by rw[yh.out,hO.out];exact jx.out⟩
   ·have d13:=Jv.out;have d16:=Jw.out;clear eP;go_enter func17,ntmps17;go_wp2_with fail;try rw[fL]
    refine eE [g] ws [] [0,1,2,3,4,5,6,7,8] ?_;refine al ?_;simp only[ah,Zx];repeat go_big_quiet_step(fail)
    apply wpQuiet_nil;go_wp2_with fail;obtain⟨O,hO⟩:=zN (Rf.tell {R with clock:=R.clock+1,wait:=wt});have cx:=Bm.take i;rw[show(Rf.tell {R with clock:=R.clock+1,wait:=wt})=O from hO]at cx;replace hO:=zH hO;unfold be at cx;go_wp2_with fail;refine cx.mono ?_;rintro e w8 ⟨X,rfl,hT⟩;have fu:=hT.kept zl bM;obtain⟨z0,z1,z2,z3,z4,z5,z6,z7,z8,-⟩:=fu.cs [0,1,2,3,4,5,6,7,8];simp only[bL,Zx]at z0 z1 z2 z3 z4 z5 z6 z7 z8;obtain⟨y0,y1,y2,y3,y4,y5,y6,y7,y8,-⟩:=fu.fs [0,1,2,3,4,5,6,7,8];obtain⟨td,jx⟩:=hT.put9 aI zl bM lS;replace jx:=zH jx;clear hT cx fu;go_wp2_with fail;show bodyPost _ _ _ _ _ (cE w8 w.heap.size O.1 X);generalize cE w8 w.heap.size O.1 X=w9 at *;obtain⟨r0,r1,r2,r3,r4,r5,r6,r7,r8,-⟩:=td.cs [0,1,2,3,4,5,6,7,8];simp only[be,Zx]at r0 r1 r2 r3 r4 r5 r6 r7 r8;exact bodyPost_ret (v:=.agg (be O.1 X)) (by simp[results,results17,go_sem,be,r0,r1,r2,r3,r4,r5,r6,r7,r8]) rfl ⟨X,by rw[yh.out,hO.out],by rw[yh.out,hO.out];exact jx.out⟩
end
end
section
open Go.MapKept
def oP(aa:Nat->Nat)(b:Nat)(w:World)(g:Nat)(R':Rf)(v:Rw)(w':World):Prop:=
 ∃ak:Nat->Nat,ax ak b w' g R' v/\(∀j,j<w.heap.size->ak j=aa j)/\Fr (aS aa b) w w'
def cT(aa:Nat->Nat)(b:Nat)(w:World)(g:Nat)(R1:Rf)(N:Nat)(wX:World):Prop:=
 ∃(ak:Nat->Nat) (v':Rw),ax ak b wX g R1 v'/\(∀j,j<w.heap.size->¬aS aa b j->ak j=aa j)/\(∀j,j<w.heap.size->aS aa b j->aS ak b j)/\Fr (aS aa b) w wX/\
  ∀j,w.heap.size<=j->j<w.heap.size+N->j<wX.heap.size/\ak j=b
def boxes(B N:Nat)(w w':World):Prop:=∀j,B<=j->j<B+N->w'.heap[j]?=w.heap[j]?
section
variable {aa ag:Nat->Nat}{b g i q N:Nat}{w w' w1 w2 wX:World}{R R' R1 R2:Rf}{v:Rw}
theorem oP.post(h:oP aa b w g R' v w'):ap aa b w g R' w':=by
 obtain⟨ak,h1,h2,h3⟩:=h;exact⟨ak,v,h1,fun j hj _=>h2 j hj,fun j hj hm=>by unfold aS at hm ⊢;rw[h2 j hj];exact hm,h3⟩
theorem oP.blk(h:oP aa b w g R' v w'):ao w' g 107 (bV R' v):=by
 obtain⟨ak,h1,h2,h3⟩:=h;exact h1.s
theorem cT.start(h:ax aa b w g R v)(hb:Below w.heap.size w w1)(hN:w.heap.size+N<=w1.heap.size):cT aa b w g R N w1:=
 ⟨_,v,h.fresh hb,fun j hj _=>ac hj,fun j hj hm=>by unfold aS at hm ⊢;rw[ac hj];exact hm,Fr.of_below hb,fun j h1 h2=>⟨by omega,az h1⟩⟩
theorem cT.post(h:cT aa b w g R1 N wX):ap aa b w g R1 wX:=by
 obtain⟨ak,v',h1,h2,h3,h4,_⟩:=h;exact⟨ak,v',h1,h2,h3,h4⟩
theorem g9(h2:∀j,j<w.heap.size->¬aS aa b j->ag j=aa j)(h3:∀j,j<w.heap.size->aS aa b j->aS ag b j)(h4:Fr (aS aa b) w wX)(h5:∀j,w.heap.size<=j->j<w.heap.size+N->j<wX.heap.size/\ag j=b)
  (hP:ap ag b wX g R2 w'):cT aa b w g R2 N w'/\boxes w.heap.size N wX w':=by
 obtain⟨bs,v2,q1,q2,q3,q4⟩:=hP;have fU:=h4.size;have qo:∀j,w.heap.size<=j->j<w.heap.size+N->¬aS ag b j:=fun j ha hb hm=>by
  unfold aS at hm;rw[(h5 j ha hb).2]at hm;omega
 refine⟨⟨bs,v2,q1,fun j hj hm=>?_,fun j hj hm=>q3 j (by omega) (h3 j hj hm),h4.trans q4 fun j hj=>?_,fun j ha hb=>?_⟩,fun j ha hb=>q4.block j (h5 j ha hb).1 (qo j ha hb)⟩
 ·rw[q2 j (by omega) fun h=>hm (gX h2 hj h)];exact h2 j hj hm
 ·rcases Nat.lt_or_ge j w.heap.size with hl|hl
  ·exact .inl (gX h2 hl hj)
  ·exact .inr hl
 ·have:=h5 j ha hb;have hq:=q4.size;exact⟨by omega,(q2 j this.1 (qo j ha hb)).trans this.2⟩
theorem cT.act{f:Nat}{args:Array Value}{E:Ending}(h:cT aa b w g R1 N wX)(hs:∀ag v1,ax ag b wX g R1 v1->Calls prog f args wX fun e w'=>e=E/\ap ag b wX g R2 w') :
  Calls prog f args wX fun e w'=>e=E/\cT aa b w g R2 N w'/\boxes w.heap.size N wX w':=by
 obtain⟨ag,v1,h1,h2,h3,h4,h5⟩:=h;refine(hs ag v1 h1).mono ?_;rintro e w' ⟨rfl,hP⟩;exact⟨rfl,g9 h2 h3 h4 h5 hP⟩
theorem cT.below(h:cT aa b w g R1 N wX)(hb:Below wX.heap.size wX w'):cT aa b w g R1 N w'/\boxes w.heap.size N wX w':=by
 obtain⟨ag,v1,h1,h2,h3,h4,h5⟩:=h;exact g9 h2 h3 h4 h5 ((ap.below (w1:=wX) ⟨ag,v1,h1,fun _ _ _=>rfl,fun _ _ h=>h,Fr.refl _ _⟩ hb))
theorem cT.set(h:cT aa b w g R1 N wX){j:Nat}(ha:w.heap.size<=j)(hb:j<w.heap.size+N)(hF:Fr (fun k=>k=j) wX w'):cT aa b w g R1 N w':=by
 obtain⟨ag,v1,h1,h2,h3,h4,h5⟩:=h;have hs:=hF.size;refine⟨ag,v1,h1.keep fun k hk hl=>hF.block k hl fun e=>?_,h2,h3,h4.trans hF fun k e=>.inr (by omega),fun k ka kb=>⟨by have:=(h5 k ka kb).1;omega,(h5 k ka kb).2⟩⟩;unfold bw at hk;rw[e,(h5 j ha hb).2]at hk;omega
theorem cT.byt{mi:Nat}{x:Value}{l:List UInt8}(h:cT aa b w g R1 N wX)(hm:mi<=b\/b+13<mi)(he:bP aa mi w x l):∃ag v1,ax ag b wX g R1 v1/\bP ag mi wX x l:=by
 obtain⟨ag,v1,h1,h2,h3,h4,h5⟩:=h;have hn:∀j,aa j=mi->¬aS aa b j:=fun j e hx=>by unfold aS at hx;omega
 refine⟨ag,v1,h1,(he.relabel (ak:=ag) (k:=mi) fun j hl e=>(h2 j hl (hn j e)).trans e).keep fun j hj ny=>h4.block j ny fun hx=>?_⟩;have h6:=h3 j ny hx;have hj:ag j=mi:=hj;unfold aS at h6;omega
theorem cT.ens2{mi:Nat}{x:Value}{L:List En}(h:cT aa b w g R1 N wX)(hm:mi<=b\/b+13<mi)(he:cP aa mi w x L) :
  ∃ag v1,ax ag b wX g R1 v1/\cP ag mi wX x L/\∀w' R2,ap ag b wX g R2 w'->cT aa b w g R2 N w'/\boxes w.heap.size N wX w':=by
 obtain⟨ag,v1,h1,h2,h3,h4,h5⟩:=h;have hn:∀j,aa j=mi->¬aS aa b j:=fun j e hx=>by unfold aS at hx;omega
 refine⟨ag,v1,h1,?_,fun w' R2 hP=>g9 h2 h3 h4 h5 hP⟩;refine(he.relabel (ak:=ag) (k:=mi) fun j hl e=>(h2 j hl (hn j e)).trans e).keep fun j hj ny=>h4.block j ny fun hx=>?_
 have h6:=h3 j ny hx;have hj:ag j=mi:=hj;unfold aS at h6;omega
theorem cT.raft(h:cT aa b w g R1 N wX):∃ag v1,ax ag b wX g R1 v1/\∀w' R2,ap ag b wX g R2 w'->cT aa b w g R2 N w'/\boxes w.heap.size N wX w':=by
 obtain⟨ag,v1,h1,h2,h3,h4,h5⟩:=h;exact⟨ag,v1,h1,fun w' R2 hP=>g9 h2 h3 h4 h5 hP⟩
theorem boxes.trans(h:boxes q N w w1)(h':boxes q N w1 w2):boxes q N w w2:=fun j ha hb=>(h' j ha hb).trans (h j ha hb)
theorem boxes.blk{T:TypeId}{cs:Array Value}{k:Nat}(h:boxes q N w w1)(ha:q<=k)(hb:k<q+N)(hk:ao w k T cs):ao w1 k T cs:=(h k ha hb).trans hk
theorem It(i:Int)(h:ax aa b w g R v)(hN:R.track.L.length<=1000000) :
  Calls prog 127 #[v.trk,.int .i64 i] w fun e w'=>e=.returned (.int .i64 (R.track.dropF i).1)/\oP aa b w g {R with track:=(R.track.dropF i).2} v w':=by
 obtain⟨gt,S,A,n,c,zs,hv,hT,hl⟩:=id h.t;rw[hv];refine(EL i hT (by have:=hT.len.1;omega) zz).mono ?_;rintro e w' ⟨rfl,hP⟩;obtain⟨ak,q1,q2,q3,q4⟩:=sT (q:=b) hT hl hP (by obtain⟨_,_,_,_,_,_,_,_,_,hF⟩:=hP;exact hF.size);rw[<-hv]at q3;obtain⟨h1,h2⟩:=h.track q1 q3 q4;exact⟨rfl,ak,h1,q1,h2⟩
theorem Al(S2:Nat->Prop)(idx tm:Int)(A2:Option Addr)(m c2:Nat)(ys:List (Value×En))(h:ax aa b w g R v)(hN:R.track.L.length<=1000000)(hr:ff w A2 m ys)(hd:bo S2 w ys)
  (hm:m<=100000) (yH:m<=c2) (Qi:c2<=maxLen) (ki:∀j,S2 j->aa j≠b+2) (xe:0<m->∀j,aA A2 j->aa j≠b+2) :
  Calls prog 43 #[v.trk,.int .i64 idx,.int .i64 tm,.slice A2 m c2] w fun e w'=>
   e=.returned (.tuple #[.int .i64 (R.track.takeF idx tm (ys.map (·.2))).1.1,.bool (R.track.takeF idx tm (ys.map (·.2))).1.2])/\oP aa b w g {R with track:=(R.track.takeF idx tm (ys.map (·.2))).2} v w':=by
 obtain⟨gt,S,A,n,c,zs,hv,hT,hl⟩:=id h.t;rw[hv];refine(ET S2 idx tm A2 m c2 ys hT (by have:=hT.len.1;omega) zz hr hd hm yH Qi (fun j hj e=>ki j hj (hl j (.inl e))) fun h0 j hj e=>xe h0 j hj (hl j (.inl e))).mono ?_;rintro e w' ⟨rfl,hP⟩;obtain⟨ak,q1,q2,q3,q4⟩:=sT (q:=b) hT hl hP (by obtain⟨_,_,_,_,_,_,_,_,_,hF⟩:=hP;exact hF.size);rw[<-hv]at q3;obtain⟨h1,h2⟩:=h.track q1 q3 q4;exact⟨rfl,ak,h1,q1,h2⟩
end
end
section
open Go.MapKept
theorem nX(t:bD):∀{l r:List En} {x:En},t.findDiff l=some (x,r)->r.length+1<=l.length:=by
 intro l;induction l with
 | nil=>intro r x h;cases h
 | cons y l ih=>
  intro r x h;unfold bD.findDiff at h;split at h
  ·have:=ih h;simp;omega
  ·injection h with h;injection h with h1 h2;subst h2;simp
theorem eJ(t:bD)(i tm:Int)(l:List En):(t.takeF i tm l).2.index=t.index/\(t.takeF i tm l).2.L.length<=t.L.length+l.length/\((t.takeF i tm l).1.2=false->(t.takeF i tm l).2=t):=by
 unfold bD.takeF;split
 ·cases hd:t.findDiff l with
  | none=>exact⟨rfl,Nat.le_add_right _ _,fun h=>by cases h⟩
  | some p=>
   obtain⟨x,r⟩:=p;have:=nX t hd;refine⟨rfl,?_,fun h=>by cases h⟩;show(t.L.take _++x::r).length<=_;rw[List.length_append,List.length_take,List.length_cons];omega
 ·exact⟨rfl,Nat.le_add_right _ _,fun _=>rfl⟩
theorem gV{gs:List Nat}{w w':World}{j k:Nat}{u:Value}(h:dS gs w w')(hj:∀q∈gs,q≠j)(hl:∀q∈gs,q<w'.heap.size):dS gs w (w'.setCell ⟨j,k,none⟩ u):=by
 obtain⟨⟨w',hx⟩,rfl⟩:=h;exact dT fun q hq=>((Fr.set j k u).block q (hl q hq) (hj q hq)).trans (hx q hq)
section
variable {aa:Nat->Nat}{b g:Nat}{w w2:World}{R:Rf}{v:Rw}
theorem zQ{A:Option Addr}{n c:Nat}{zs:List (Value×En)}{L:List En}(h:ax aa b w g R v)(hE:ge w.heap.size w2 A n c zs L)(hb:Below w.heap.size w w2)(hn:n<=100000)(hN:R.out.entries.length<=100000) :
  Calls prog 67 #[.pointer (some ⟨g,0,none⟩),.slice A n c] w2 fun e w'=>e=.returned (.tuple #[])/\ap aa b w g (R.save L) w':=by
 have cW:=h.s.lt;have h2:=h.fresh' (b+13) hb;refine(pk A n c zs h2 (cn.of_own hE.1) (hE.2.1.mono fun j hj e=>az e.1) (fun _ j hj e=>?_) hn hN).mono ?_
 ·have:=(aw hE.1 A c rfl j hj).2.1;omega
 ·rintro e w' ⟨rfl,hP⟩;rw[hE.2.2]at hP;exact⟨rfl,hP.fresh' hb⟩
def xH(k dst idx round:Int)(rej:Bool)(off tot:Int):Array Value:=#[.int .i64 k,.int .i64 0,.int .i64 dst,.int .i64 0,.int .i64 idx,.int .i64 0,.int .i64 0,.int .i64 round,.bool rej,.int .i64 off,.int .i64 tot,.slice none 0 0,.slice none 0 0]
def AO(k dst idx round:Int)(rej:Bool)(off tot:Int):Mg:={dh with kind:=k,tgt:=dst,idx:=idx,round:=round,reject:=rej,offset:=off,total:=tot}
theorem km(k dst idx round:Int)(rej:Bool)(off tot:Int)(h:ax aa b w g R v)(hn:R.out.msgs.length<=100000) :
  Calls prog 97 #[.pointer (some ⟨g,0,none⟩),.agg (xH k dst idx round rej off tot)] w fun e w'=>e=.returned (.tuple #[])/\ap aa b w g (R.send (AO k dst idx round rej off tot)) w':=
 gi (AO k dst idx round rej off tot) rfl rfl h hn
theorem xJ{K M:Nat}(m:Mg)(A1 A2:Option Addr)(n c n2 c2 mi:Nat)(h:ax aa b w g R v)(hk:Ok K M R)(hK:K<=100000)(hM:M<=60000)(ut:mi<=b\/b+13<mi)(he:cP aa mi w (.slice A1 n c) m.entries)(hn:n=m.entries.length)(Nh:n<=6)
  (LI:0<=m.idx) (tL:m.idx<=1099511627776) (fO:0<=m.commit) (lw:m.commit<=1099511627776) :
  Calls prog 107 #[.pointer (some ⟨g,0,none⟩),eI m (.slice A1 n c) (.slice A2 n2 c2)] w fun e w'=>e=.returned (.tuple #[])/\ap aa b w g (R.appends m) w':=by
 have cW:=h.s.lt;have aI:=(gE w 39 39 #[.int .i64 m.kind,.int .i64 m.frm,.int .i64 m.tgt,.int .i64 m.term,.int .i64 m.idx,.int .i64 m.logTerm,.int .i64 m.commit,.int .i64 m.round,.bool m.reject,.int .i64 m.offset,.int .i64 m.total,.slice A1 n c,.slice A2 n2 c2] #[.int .i64 6,.int .i64 0,.int .i64 m.frm,.int .i64 0,.int .i64 0,.int .i64 0,.int .i64 0,.int .i64 m.round,.bool false,.int .i64 0,.int .i64 0,.slice none 0 0,.slice none 0 0]);obtain⟨aI,bM,Bt⟩:=aI;obtain⟨w2,cZ⟩:=zN (((w.alloc (.cells #[.int .i64 m.kind,.int .i64 m.frm,.int .i64 m.tgt,.int .i64 m.term,.int .i64 m.idx,.int .i64 m.logTerm,.int .i64 m.commit,.int .i64 m.round,.bool m.reject,.int .i64 m.offset,.int .i64 m.total,.slice A1 n c,.slice A2 n2 c2] 39)).alloc (.cells #[.int .i64 6,.int .i64 0,.int .i64 m.frm,.int .i64 0,.int .i64 0,.int .i64 0,.int .i64 0,.int .i64 m.round,.bool false,.int .i64 0,.int .i64 0,.slice none 0 0,.slice none 0 0] 39)));rw[cZ]at aI bM Bt;have hX:=cT.start (N:=2) h aI (by have:=Bt.lt;omega);obtain⟨y1,y4,y5,y6,y7,y11,-⟩:=bM.cs [1,4,5,6,7,11];simp only[Zx]at y1 y4 y5 y6 y7 y11;obtain⟨c8,c12,-⟩:=h.s.cs [8,12];simp only[bV,vi,Zx]at c8 c12;have c12':=(aI.cell (ar c12)).trans c12;have c8':=(aI.cell (ar c8)).trans c8;have qA:g<w2.heap.size:=by have:=aI.size;omega
 have dA:∀q∈[g,w.heap.size],q<w2.heap.size:=by simp;exact⟨qA,bM.lt⟩
 obtain⟨q12,q4,q5,q11⟩:=IA [g,w.heap.size] c12' y4 y5 y11;obtain⟨a0,a1,a2,a3,a4,a5,a6,a7,a8,a9,a10,a11,a12,-⟩:=Bt.cs [0,1,2,3,4,5,6,7,8,9,10,11,12];simp only[Zx]at a0 a1 a2 a3 a4 a5 a6 a7 a8 a9 a10 a11 a12;obtain⟨u4,u8,-⟩:=Bt.fs [4,8];have Xz:=hk.cm;have xq:=hk.ms;have nB:w.heap.size+1<w2.heap.size:=Bt.lt;replace hn:=zH hn;replace cZ:=zH cZ;unfold eI;simp only[vi];by_cases aU:m.idx<R.commit
 ·have hA:=zH (show R.appends m=R.send (AO 6 m.frm R.commit m.round false 0 0) by unfold Rf.appends;rw[if_pos aU];rfl);have PR:=((hX.set (j:=w.heap.size+1) (by omega) (by omega) (Fr.set (w:=w2) (w.heap.size+1) 4 (.int .i64 R.commit))).below (w':=(w2.setCell ⟨w.heap.size+1,4,none⟩ (.int .i64 R.commit)).drew) (zb.drew)).1;have hs:=PR.act (fun ag v1 h=>km 6 m.frm R.commit m.round false 0 0 h (by omega));unfold xH at hs;replace hk:=zH hk;clear h hX PR he;go_enter func107,ntmps107;go_wp2_with fail;rw[cZ.out];refine eE [g,w.heap.size] w2 [] [0,1,2,3,4,5,6] ?_;refine al ?_;simp only[ah,Zx];repeat go_big_quiet_step(fail)
  apply wpQuiet_nil;go_wp2_with fail;refine hs.mono ?_;rintro e w9 ⟨rfl,jk,_⟩;have hQ:=zH (show ap aa b w g (R.appends m) w9 from by rw[hA.out];exact jk.post);clear hs jk;go_wp2_with fail;exact aP rfl rfl ⟨rfl,hQ.out⟩
 ·have tB:=(hX.below (w':=w2.drew) (zb.drew)).1;have PS:=(tB.below (w':=w2.drew.drew) (zb.drew)).1;obtain⟨ag,v1,h1,OO,du⟩:=PS.ens2 ut he;obtain⟨A,n',c',zs,e0,e1,e2,e3,e4,e5,e6⟩:=OO;injection e0 with e00 e01 e02;subst e00;subst e01;subst e02;have SE:=Al (aM ag mi) m.idx m.logTerm A1 n c zs h1 (by have:=hk.trk;omega) e1 e2 (by omega) e4 e5 (fun j e=>by have e:ag j=mi:=e;omega) (fun h0 j hj=>by have:=e6 h0 j hj;omega);rw[e3]at SE;have jq:=eJ R.track m.idx m.logTerm m.entries;obtain⟨pf,Ru⟩:=zN (R.track.takeF m.idx m.logTerm m.entries);rw[Ru]at SE jq;have hA:R.appends m=if pf.1.2=false then R.send {dh with kind:=6,tgt:=m.frm,reject:=true,idx:=R.track.hintF m.idx m.logTerm,round:=m.round}else
    ((if 0<pf.1.1 then({R with track:=pf.2}:Rf).save (pf.2.sliceF pf.1.1 m.entries.length)else {R with track:=pf.2}).commits (min m.commit (m.idx+m.entries.length))).send {dh with kind:=6,tgt:=m.frm,idx:=m.idx+m.entries.length,round:=m.round}:=by
   unfold Rf.appends;rw[if_neg aU,<-Ru]
  have d8:=h1.s.cell 8;simp only[bV,vi,Zx]at d8;have d8':w2.cell? ⟨g,8,none⟩=some v1.trk:=d8;have q8:=ae (w:=w2.drew) (gs:=[g,w.heap.size]) d8' (by simp);have p4:=ae (w:=w2.drew) (gs:=[g,w.heap.size]) y4 (by simp);have p5:=ae (w:=w2.drew) (gs:=[g,w.heap.size]) y5 (by simp);have p11:=ae (w:=w2.drew) (gs:=[g,w.heap.size]) y11 (by simp);replace hk:=zH hk;have fd:=Int.not_lt.1 aU;have pK:=h1.s;clear h hX tB PS he h1 e1 e2 e3 d8 c8 c8' c12;go_enter func107,ntmps107;go_wp2_with fail;rw[cZ.out];refine eE [g,w.heap.size] w2 [] [0,1,2,3,4,5,6] ?_;refine al ?_;simp only[ah,Zx];repeat go_big_quiet_step(fail)
  apply wpQuiet_nil;go_wp2_with fail;refine cK (C:=dS [g,w.heap.size] w2.drew) [([0,1,2,3,4,5,6,7,8,9],10)] [11,12,13,14,15] (by kernel_rfl) (by kernel_rfl) (fun _ _ _ _ e h=>⟨e.symm.trans h.1,h.2⟩) aQ ?_;refine aF fun K1 cQ=>?_
  simp only[ah,Zx];repeat go_big_quiet_step(fail)
  apply wpQuiet_nil;go_wp2_with fail;refine SE.mono ?_;rintro e w3 ⟨rfl,hT⟩;clear SE;go_wp2_with fail;have iy:w3.heap[g]?=w2.heap[g]?:=hT.blk.trans pK.symm;obtain⟨rq,bN⟩:=du w3 _ hT.post;refine⟨bO iy (bN _ zl (by omega)),cQ _ _ ?_⟩;refine al ?_;simp only[ah,Zx];repeat go_big_quiet_step(fail)
  apply wpQuiet_nil;have Jm:ao w3 w.heap.size 39 _:=bN.blk zl (by omega) bM;have MA:ao w3 (w.heap.size+1) 39 _:=bN.blk (by omega) (by omega) Bt;clear y1 y4 y5 y6 y7 y11 c12' q12 q4 q5 q11 q8 p4 p5 p11 a0 a1 a2 a3 a4 a5 a6 a7 a8 a9 a10 a11 a12 u4 u8 hT d8' bM Bt qA dA nB pK;obtain⟨cJ,v3,h3,gU⟩:=(rq.below (w':=w3.drew) (zb.drew)).1.raft;have UH:g<w3.heap.size:=h3.s.lt;have d8:=h3.s.cell 8;simp only[bV,vi,Zx]at d8;have d8':w3.cell? ⟨g,8,none⟩=some v3.trk:=d8;obtain⟨y4,y5,y6,y11,-⟩:=Jm.cs [4,5,6,11];simp only[Zx]at y4 y5 y6 y11;obtain⟨q4,q5,q11,q8⟩:=IA [g,w.heap.size] y4 y5 y11 d8';have dA:∀q∈[g,w.heap.size],q<w3.heap.size:=by simp;exact⟨UH,Jm.lt⟩
  cases cR:pf.1.2
  ·have pG:=zH (show R.appends m=R.send (AO 6 m.frm (R.track.hintF m.idx m.logTerm) m.round true 0 0) by rw[hA,if_pos cR];rfl);have ht:=jq.2.2 cR;have uk:=Iu m.idx m.logTerm h3.t (by show pf.2.L.length<=_;rw[ht];have:=hk.out.trk;omega);rw[show({R with track:=pf.2}:Rf).track=pf.2 from rfl,ht]at uk;obtain⟨hi,UR⟩:=zN (R.track.hintF m.idx m.logTerm);rw[UR]at uk pG;replace rq:cT aa b w g R 2 w3:=by rw[ht]at rq;exact rq
   clear hA h3 jq ht UR gU du d8;go_wp2_with fail;refine eE [g,w.heap.size] w3 [([0,1,2,3,4,5,6,7,9],8),([],10),([11],12)] [] ?_;refine aF fun K4 ro=>?_
   simp only[ah,Zx];repeat go_big_quiet_step(fail)
   apply wpQuiet_nil;go_wp2_with fail;refine uk.mono ?_;rintro e w4 ⟨rfl,cO⟩;go_wp2_with fail;have qh:Below w3.heap.size w3 w4:=(zb.drew).trans cO;refine⟨av dA qh,ro _ _ ?_⟩;have PY:=MA.kept qh;obtain⟨a0,a1,a2,a3,a4,a5,a6,a7,a8,a9,a10,a11,a12,-⟩:=PY.cs [0,1,2,3,4,5,6,7,8,9,10,11,12];simp only[Zx]at a0 a1 a2 a3 a4 a5 a6 a7 a8 a9 a10 a11 a12;obtain⟨u4,u8,-⟩:=PY.fs [4,8];refine aF fun K5 vE=>?_
   simp only[ah,Zx];apply wpQuiet_nil;go_wp2_with fail;have fe:∀q∈[g,w.heap.size],q≠w.heap.size+1:=by simp;omega
   have MY:∀q∈[g,w.heap.size],q<w4.heap.size:=fun q hq=>Nat.lt_of_lt_of_le (dA q hq) qh.size
   refine⟨gV (av dA qh) fe MY,vE _ _ ?_⟩;refine aF fun K6 vF=>?_
   simp only[ah,Zx];repeat go_big_quiet_step(fail)
   apply wpQuiet_nil;go_wp2_with fail;refine⟨gV (gV (av dA qh) fe MY) fe (by simpa[World.setCell]using MY),vF _ _ ?_⟩;refine al ?_;simp only[ah];apply wpQuiet_nil;have KK:=(rq.below qh).1;have mO:=(KK.set (j:=w.heap.size+1) (by omega) (by omega) ((Fr.set (w:=w4) (w.heap.size+1) 8 (.bool true)).trans (Fr.set (w.heap.size+1) 4 (.int .i64 hi)) fun _ h=>.inl h));have hs:=mO.act (fun ag v1 h=>km 6 m.frm hi m.round true 0 0 h (by omega));unfold xH at hs;go_wp2_with fail;refine hs.mono ?_;rintro e w9 ⟨rfl,jk,_⟩;have hQ:=zH (show ap aa b w g (R.appends m) w9 from by rw[pG.out];exact jk.post);clear hs jk;go_wp2_with fail;exact aP rfl rfl ⟨rfl,hQ.out⟩
  ·have Xr:=hA;rw[cR,if_neg (by simp)]at hA;have XF:=hn.out;have hLt:pf.2.L.length<=200000:=by have:=jq.2.1;have:=hk.out.trk;omega
   rw[<-XF]at hA;clear XF;rcases Int.lt_or_le 0 pf.1.1 with hf|hf
   ·rw[if_pos hf]at hA;have DI:0<=R.commit/\R.commit<=4000000000000:=by omega
    have dP:=pp pf.1.1 n h3.t (by show pf.2.L.length<=_;omega);obtain⟨R4,te⟩:=zN (({R with track:=pf.2}:Rf).save (pf.2.sliceF pf.1.1 n));have TS:R4.track.L.length<=1000000:=by rw[<-te];show pf.2.L.length<=_;omega
    have TK:R4.out.commits.length<=1000000:=by rw[<-te];have:=hk.out.cs;show R.out.commits.length<=_;omega
    have YD:R4.out.msgs.length<=60000:=by rw[<-te];show R.out.msgs.length<=_;omega
    rw[show R.commit=R4.commit by rw[<-te];rfl]at DI;have pc:=zH (show ∀w4 A4 n4 c4 z4,ge w3.heap.size w4 A4 n4 c4 z4 (pf.2.sliceF pf.1.1 n)->Below w3.drew.heap.size w3.drew w4->Calls prog 67 #[.pointer (some ⟨g,0,none⟩),.slice A4 n4 c4] w4 fun e w'=>e=.returned (.tuple #[])/\cT aa b w g R4 2 w'/\boxes w.heap.size 2 w3.drew w' from fun w4 A4 n4 c4 z4 hE hb=>by
     have od:n4<=100000:=by
      have e1:=hE.len.1;have e2:=congrArg List.length hE.2.2;rw[List.length_map,e1]at e2;have e3:(pf.2.sliceF pf.1.1 n).length<=n:=by unfold bD.sliceF;split <;> simp;omega
      omega
     refine(zQ h3 hE hb od (by show R.out.entries.length<=_;have:=hk.out.es;omega)).mono ?_;rintro e w' ⟨rfl,hP⟩;rw[te]at hP;exact⟨rfl,gU _ _ hP⟩)
    rw[te]at hA;replace pG:=zH hA;replace Ff:=hf;clear hA Xr h3 jq gU du d8 te;go_wp2_with fail;refine nj [g,w.heap.size] w3 [([0,1,2,3,4,5,6,7,8],9)] ([],10) ?_;refine aq fun K4 ro=>?_
    simp only[ah,Zx];repeat go_big_quiet_step(fail)
    apply wpQuiet_nil;go_wp2_with fail;refine dP.mono ?_;rintro e w4 ⟨A4,n4,c4,z4,rfl,Py,cO⟩;go_wp2_with fail;have qh:Below w3.heap.size w3 w4:=(zb.drew).trans cO;have RK:=pc.out _ _ _ _ _ Py cO;refine⟨av dA qh,ro _ _ ?_⟩;refine aC ?_;simp only[ah,Zx];repeat go_big_quiet_step(fail)
    apply wpQuiet_nil;clear dP Py pc;go_wp2_with fail;refine RK.mono ?_;rintro e w5 ⟨rfl,mO,cM⟩;clear RK;have fu:ao w5 w.heap.size 39 _:=cM.blk zl (by omega) Jm;have Jl:ao w5 (w.heap.size+1) 39 _:=cM.blk (by omega) (by omega) MA;obtain⟨m4,m6,m11,-⟩:=fu.cs [4,6,11];simp only[Zx]at m4 m6 m11;obtain⟨z0,z1,z2,z3,z4,z5,z6,z7,z8,z9,z10,z11,z12,-⟩:=Jl.cs [0,1,2,3,4,5,6,7,8,9,10,11,12];simp only[Zx]at z0 z1 z2 z3 z4 z5 z6 z7 z8 z9 z10 z11 z12;have u4:=Jl.free 4;have PT:=(mO.set (j:=w.heap.size+1) (by omega) (by omega) (Fr.set (w:=w5) (w.heap.size+1) 4 (.int .i64 (m.idx+n))));have vJ:=PT.act (fun ag v1 h=>(lM (min m.commit (m.idx+n)) h (by omega) (by omega) DI.1 DI.2 TS TK).mono (fun e w' hh=>⟨hh.1,hh.2.1⟩));clear rq;go_wp2_with fail;refine vJ.mono ?_;rintro e w7 ⟨rfl,KL,iw⟩;have mS:=Jl.set_ 4 (.int .i64 (m.idx+n));simp only[Zy]at mS;have Ge:ao w7 (w.heap.size+1) 39 _:=iw.blk (by omega) (by omega) mS;clear vJ PT fu Jl mS m4 m6 m11 z0 z1 z2 z3 z4 z5 z6 z7 z8 z9 z10 z11 z12 u4;obtain⟨z0,z1,z2,z3,z4,z5,z6,z7,z8,z9,z10,z11,z12,-⟩:=Ge.cs [0,1,2,3,4,5,6,7,8,9,10,11,12];simp only[Zx]at z0 z1 z2 z3 z4 z5 z6 z7 z8 z9 z10 z11 z12;have hs:=KL.act (fun ag v1 h=>km 6 m.frm (m.idx+n) m.round false 0 0 h (by unfold Rf.commits;split <;> (show R4.out.msgs.length<=_;omega)));unfold xH at hs;clear KL Ge;go_wp2_with fail;refine hs.mono ?_;rintro e w9 ⟨rfl,jk,_⟩;have hQ:=zH (show ap aa b w g (R.appends m) w9 from by rw[pG.out];exact jk.post);clear hs jk;go_wp2_with fail;exact am rfl rfl ⟨rfl,hQ.out⟩
   ·rw[if_neg (Int.not_lt.2 hf)]at hA;obtain⟨R4,te⟩:=zN (({R with track:=pf.2}:Rf));have DI:0<=R4.commit/\R4.commit<=4000000000000:=by rw[<-te];show 0<=R.commit/\R.commit<=_;omega
    have TS:R4.track.L.length<=1000000:=by rw[<-te];show pf.2.L.length<=_;omega
    have TK:R4.out.commits.length<=1000000:=by rw[<-te];have:=hk.out.cs;show R.out.commits.length<=_;omega
    have YD:R4.out.msgs.length<=60000:=by rw[<-te];show R.out.msgs.length<=_;omega
    rw[te]at hA rq;replace pG:=zH hA;have jo:boxes w.heap.size 2 w3 w3:=fun _ _ _=>rfl
    have KK:=rq;clear hA Xr h3 jq gU du d8 te;have fu:ao w3 w.heap.size 39 _:=jo.blk zl (by omega) Jm;have Jl:ao w3 (w.heap.size+1) 39 _:=jo.blk (by omega) (by omega) MA;obtain⟨m4,m6,m11,-⟩:=fu.cs [4,6,11];simp only[Zx]at m4 m6 m11;obtain⟨z0,z1,z2,z3,z4,z5,z6,z7,z8,z9,z10,z11,z12,-⟩:=Jl.cs [0,1,2,3,4,5,6,7,8,9,10,11,12];simp only[Zx]at z0 z1 z2 z3 z4 z5 z6 z7 z8 z9 z10 z11 z12;have u4:=Jl.free 4;have PT:=(KK.set (j:=w.heap.size+1) (by omega) (by omega) (Fr.set (w:=w3) (w.heap.size+1) 4 (.int .i64 (m.idx+n))));have vJ:=PT.act (fun ag v1 h=>(lM (min m.commit (m.idx+n)) h (by omega) (by omega) DI.1 DI.2 TS TK).mono (fun e w' hh=>⟨hh.1,hh.2.1⟩));clear rq;go_wp2_with fail;refine vJ.mono ?_;rintro e w7 ⟨rfl,KL,iw⟩;have mS:=Jl.set_ 4 (.int .i64 (m.idx+n));simp only[Zy]at mS;have Ge:ao w7 (w.heap.size+1) 39 _:=iw.blk (by omega) (by omega) mS;clear vJ PT fu Jl mS m4 m6 m11 z0 z1 z2 z3 z4 z5 z6 z7 z8 z9 z10 z11 z12 u4;obtain⟨z0,z1,z2,z3,z4,z5,z6,z7,z8,z9,z10,z11,z12,-⟩:=Ge.cs [0,1,2,3,4,5,6,7,8,9,10,11,12];simp only[Zx]at z0 z1 z2 z3 z4 z5 z6 z7 z8 z9 z10 z11 z12;have hs:=KL.act (fun ag v1 h=>km 6 m.frm (m.idx+n) m.round false 0 0 h (by unfold Rf.commits;split <;> (show R4.out.msgs.length<=_;omega)));unfold xH at hs;clear KL Ge;go_wp2_with fail;refine hs.mono ?_;rintro e w9 ⟨rfl,jk,_⟩;have hQ:=zH (show ap aa b w g (R.appends m) w9 from by rw[pG.out];exact jk.post);clear hs jk;go_wp2_with fail;exact am rfl rfl ⟨rfl,hQ.out⟩
end
end
section
open Go.MapKept
theorem jv(R:Rf):∃(k:Int) (cs:List En),R.agrees={R with commit:=k,out:={R.out with commits:=cs}}:=by
 unfold Rf.agrees;split
 ·unfold Rf.commits;split
  ·exact⟨_,_,rfl⟩
  ·exact⟨R.commit,R.out.commits,rfl⟩
 ·exact⟨R.commit,R.out.commits,rfl⟩
theorem lH(R:Rf):R.agrees.role=R.role:=by
 obtain⟨k,cs,e⟩:=jv R;rw[e]
theorem fp(R:Rf)(s:Nat)(p p':Pr):(R.setPeer s p).setPeer s p'=R.setPeer s p':=by
 unfold Rf.setPeer;simp only[List.set_set]
theorem bK(R:Rf)(s:Nat)(p:Pr)(hs:s<R.peers.length):(R.setPeer s p).peer s=p:=by
 unfold Rf.setPeer Rf.peer;simp only;rw[List.getElem?_set_self hs];rfl
def zr(R:Rf)(p:Pr):Prop:=(0<=p.mat/\p.mat<=1099511627776)/\(1<=p.next/\p.next<=1099511627777)/\0<=p.offset/\p.offset<=R.snap.data.length
theorem Ok.setPeer{K M:Nat}{R:Rf}(h:Ok K M R)(s:Nat){p:Pr}(hp:zr R p):Ok K M (R.setPeer s p):=
 {h with ld:=fun hr=>⟨by show(R.peers.set s p).length=_;rw[List.length_set];exact(h.ld hr).1,fun x hx=>by
   rcases List.mem_or_eq_of_mem_set (show x∈R.peers.set s p from hx)with hx|rfl
   ·exact(h.ld hr).2 x hx
   ·exact hp⟩}
theorem Ok.peer{K M:Nat}{R:Rf}(h:Ok K M R)(hr:R.role=3){s:Nat}(hs:s<=R.n):s<R.peers.length/\zr R (R.peer s):=by
 obtain⟨h1,h2⟩:=h.ld hr;refine⟨by omega,h2 _ ?_⟩;unfold Rf.peer;rw[List.getElem?_eq_getElem (by omega)];exact List.getElem_mem _
def nZ(R:Rf)(s:Nat)(index:Int):Pr:=
 ⟨max (R.peer s).next (max (R.peer s).mat (min index R.track.lastF.1)+1),max (R.peer s).mat (min index R.track.lastF.1),if R.track.index<=max (R.peer s).mat (min index R.track.lastF.1)then 0 else(R.peer s).offset,(R.peer s).round⟩
theorem Br(R:Rf)(s:Nat)(index:Int):R.has s index=if(nZ R s index).next<=R.track.lastF.1 then(R.setPeer s (nZ R s index)).agrees.lacks s else(R.setPeer s (nZ R s index)).agrees:=rfl
theorem vK{K M:Nat}{R:Rf}(h:Ok K M R){s:Nat}(index:Int)(hp:zr R (R.peer s)):zr R (nZ R s index):=by
 obtain⟨h1,h2,h3⟩:=hp;have h4:=h.tr.last;have h5:=h.tr.room;have h6:=h.tr.b;have hx:max (R.peer s).mat (min index R.track.lastF.1)<=1099511627776:=by omega
 refine⟨⟨by show 0<=max _ _;omega,hx⟩,⟨by show 1<=max _ _;omega,by show max _ _<=_;omega⟩,?_⟩;show 0<=(if _ then _ else _:Int)/\(if _ then _ else _:Int)<=_;split
 ·exact⟨Int.le_refl 0,Int.natCast_nonneg _⟩
 ·exact h3
theorem Ok.has{K M:Nat}{R:Rf}(h:Ok K M R)(hr:R.role=3){s:Nat}(hs:s<=R.n)(index:Int):Ok K (M+K+1) (R.has s index):=by
 rw[Br];have h1:=(h.setPeer s (vK h index (h.peer hr hs).2)).agrees;split
 ·exact h1.lacks s
 ·exact h1.mono zl (Nat.le_succ _)
section
variable {aa:Nat->Nat}{b g:Nat}{w:World}{R:Rf}{v:Rw}
theorem ou{K M:Nat}(s:Nat)(h:ax aa b w g R v)(hk:Ok K M R)(hr:R.role=3)(hs:s<=R.n)(hK:K<=100000)(hM:M<=90000) :
  Calls prog 95 #[.pointer (some ⟨g,0,none⟩),.int .i64 s] w fun e w'=>e=.returned (.tuple #[])/\ap aa b w g (R.lacks s) w':=by
 obtain⟨h1,h2,h3,h4⟩:=hk.peer hr hs;exact uE s h h1 (by have:=hk.ms;omega) (by have:=hk.trk;omega) h3.1 (by omega) h4.1 h4.2 hk.dat hk.dat0
theorem ax.setPeer{s j q c:Nat}{u:Value}{p':Pr}(h:ax aa b w g R v)(hs:s<R.peers.length)(hq:v.peers=.slice (some ⟨q,0,none⟩) R.peers.length c)(hj:j<4)(hp:mW p'=(mW (R.peer s)).set j u) :
  ax aa b (w.setCell ⟨q,s*4+j,none⟩ u) g (R.setPeer s p') v/\Fr (fun k=>k=q) w (w.setCell ⟨q,s*4+j,none⟩ u)/\aa q=b+3:=by
 obtain⟨A,c',e,aB,hl⟩:=id h.p;rw[hq]at e;injection e with e1 e2 e3;subst e1;subst e3;have na:=hl q ⟨_,rfl,rfl⟩;have hF:=Fr.set (w:=w) q (s*4+j) u;have JF:g≠q:=fun e=>by have:=h.sl;rw[e,na]at this;omega
 have RG:ao (w.setCell ⟨q,s*4+j,none⟩ u) g 107 (bV (R.setPeer s p') v):=(hF.block g h.s.lt JF).trans h.s;have aD:=(aB.stored (s*4+j) u).1;have MW:R.peers[s]?=some (R.peer s):=by unfold Rf.peer;rw[List.getElem?_eq_getElem hs];rfl
 rw[je jC hj hp MW]at aD;refine⟨h.turn [3] RG (fun _ _ _ _ _ _ e=>e) (by simp) (hF.mono fun k e=>.inr ⟨3,by simp,by rw[e];exact na⟩) tI (.inl ?_) tI tI tI tI tI tI tI tI tI,hF,na⟩;rw[hq];have e:(R.setPeer s p').peers.length=R.peers.length:=List.length_set;rw[e];exact⟨_,_,rfl,aD,hl⟩
theorem ax.peer_cells{s q c n:Nat}{P:Pr}(h:ax aa b w g R v)(hs:s<R.peers.length)(hv:v.peers=.slice (some ⟨q,0,none⟩) n c)(hP:R.peer s=P) :
  (w.cell? ⟨q,s*4,none⟩=some (.int .i64 P.next)/\w.cell? ⟨q,s*4+1,none⟩=some (.int .i64 P.mat)/\w.cell? ⟨q,s*4+2,none⟩=some (.int .i64 P.offset)/\w.cell? ⟨q,s*4+3,none⟩=some (.int .i64 P.round))/\
  (w.frozen? ⟨q,s*4,none⟩=false/\w.frozen? ⟨q,s*4+1,none⟩=false/\w.frozen? ⟨q,s*4+2,none⟩=false/\w.frozen? ⟨q,s*4+3,none⟩=false)/\q<w.heap.size:=by
 obtain⟨q',c',e,h1,h2,p0,p1,p2,p3,pf⟩:=h.peer_at hs;rw[hv]at e;injection e with e1 _ _;injection e1 with e1;injection e1 with e1;subst e1;rw[hP]at p0 p1 p2 p3;exact⟨⟨p0,p1,p2,p3⟩,⟨pf _,pf _,pf _,pf _⟩,h2⟩
theorem bj(R:Rf)(s:Nat)(p:Pr):(R.setPeer s p).peers.length=R.peers.length:=List.length_set
theorem Jk{K M:Nat}(s:Nat)(index:Int)(h:ax aa b w g R v)(hk:Ok K M R)(hr:R.role=3)(hs:s<=R.n)(hK:K<=10000)(hM:M<=60000) :
  Calls prog 138 #[.pointer (some ⟨g,0,none⟩),.int .i64 s,.int .i64 index] w fun e w'=>e=.returned (.tuple #[])/\ap aa b w g (R.has s index) w':=by
 have cW:=h.s.lt;obtain⟨dP,kZ⟩:=hk.peer hr hs;obtain⟨q,c,hv,na,qp,p0,p1,p2,p3,pf⟩:=h.peer_at dP;have cR:=vK hk index kZ;have hN:R.track.L.length<=1000000:=by have:=hk.trk;omega
 have bH:=i7 h.t hN;have bE:=sS h.t;obtain⟨c0,c8,-⟩:=h.s.cs [0,8];simp only[bV,vi,Zx]at c0 c8;rw[hv]at c0;obtain⟨l1,cD⟩:∃l,R.track.lastF.1=l:=⟨_,rfl⟩;obtain⟨P,hP⟩:=zN (R.peer s);obtain⟨i1,oN⟩:∃i,R.track.index=i:=⟨_,rfl⟩;rw[hP]at p0 p1 p2 p3 kZ;have DW:nZ R s index=⟨max P.next (max P.mat (min index l1)+1),max P.mat (min index l1),if i1<=max P.mat (min index l1)then 0 else P.offset,P.round⟩:=by unfold nZ;rw[hP,cD,oN]
 have he:=Br R s index;rw[cD]at he;have oe:=hk.tr.last;have uy:=hk.tr.room;have lS:=hk.tr.b;rw[cD]at oe;have DP:0<=l1/\l1<=1099511627776:=by omega
 rw[oN]at bE;obtain⟨mt,CL⟩:∃x,max P.mat (min index l1)=x:=⟨_,rfl⟩;have ZB:0<=mt/\mt<=1099511627776:=by have:=kZ.1;omega
 have Rl:=kZ.2.1;rw[CL]at DW;obtain⟨nx,cu⟩:∃x,max P.next (mt+1)=x:=⟨_,rfl⟩;rw[cu]at DW;have hH:=zH h;have yy:=zH hk;replace CL:=zH CL;replace cu:=zH cu;replace DW:=zH DW;replace he:=zH he;replace cD:=zH cD;replace oN:=zH oN;replace hP:=zH hP;clear h hk oe uy lS;go_enter func138,ntmps138;go_wp2_with fail;refine bE.mono ?_;rintro e w1 ⟨rfl,br⟩;have c8':=(br.cell cW).trans c8;have Gv:=i7 (hH.out.below br).t hN;rw[cD.out]at Gv;clear bE bH;go_wp2_with fail;refine Gv.mono ?_;rintro e w2 ⟨rfl,bQ⟩;clear Gv;have dF:=ab br bQ zl;have h2:=hH.out.fresh dF;have p0':=(dF.cell qp).trans p0;have p1':=(dF.cell qp).trans p1;have p2':=(dF.cell qp).trans p2;have ZW:q<w2.heap.size:=Nat.lt_of_lt_of_le qp dF.size;have f2:∀j,w2.frozen? ⟨q,j,none⟩=false:=fun j=>(dF.frozen qp).trans (pf j)
 have f2a:=f2 (s*4);have f2b:=f2 (s*4+1);have f2c:=f2 (s*4+2);clear c8 c8' f2;go_wp2_with fail;rw[CL.out];have XI:mW (R.peer s)=[vi P.next,vi P.mat,vi P.offset,vi P.round]:=by rw[hP.out];rfl
 obtain⟨h3,mz,_⟩:=h2.setPeer (s:=s) (j:=1) (u:=.int .i64 mt) (p':={P with mat:=mt}) dP hv (by omega) (by rw[XI];rfl);obtain⟨w3,jm⟩:=zN (w2.setCell ⟨q,s*4+1,none⟩ (.int .i64 mt));rw[jm]at h3 mz ⊢;have e3:=bK R s {P with mat:=mt} dP;obtain⟨⟨x0,x1,x2,_⟩,⟨y0,y1,y2,_⟩,CM⟩:=h3.peer_cells (by rw[bj];exact dP) hv e3;obtain⟨k0,k1⟩:=pU [q] x0 x1;obtain⟨h4,jw,_⟩:=h3.setPeer (s:=s) (j:=0) (u:=.int .i64 nx) (p':={P with mat:=mt,next:=nx}) (by rw[bj];exact dP) (by rw[bj];exact hv) (by omega) (by rw[e3];rfl);rw[fp,Nat.add_zero]at h4;rw[Nat.add_zero]at jw;obtain⟨w4,fV⟩:=zN (w3.setCell ⟨q,s*4,none⟩ (.int .i64 nx));rw[fV]at h4 jw;have e4:=bK R s {P with mat:=mt,next:=nx} dP;obtain⟨⟨z0,z1,z2,_⟩,⟨_,_,v2,_⟩,GW⟩:=h4.peer_cells (by rw[bj];exact dP) hv e4;obtain⟨h5,TM,_⟩:=h4.setPeer (s:=s) (j:=2) (u:=.int .i64 0) (p':={P with mat:=mt,next:=nx,offset:=0}) (by rw[bj];exact dP) (by rw[bj];exact hv) (by omega) (by rw[e4];rfl);rw[fp]at h5;have yF:aj aa w.heap.size b q=b+3:=(ac qp).trans na;have TN:Fr (fun k=>k=q) w2 (w4.setCell ⟨q,s*4+2,none⟩ (.int .i64 0)):=(mz.trans jw fun _ h=>.inl h).trans TM fun _ h=>.inl h
 have F2:Fr (fun k=>k=q) w2 w4:=mz.trans jw fun _ h=>.inl h
 replace jm:=zH jm;replace fV:=zH fV;clear h2 h3 p0' p1' p2' f2a f2b f2c XI;replace h4:=zH h4;replace h5:=zH h5;refine nj [q] w3 [([0,1,2,3,4,5,6,7,8,9],10)] ([11,12],13) ?_;refine aq fun K1 cQ=>?_
 simp only[ah,Zx];repeat go_big_quiet_step(fail)
 apply wpQuiet_nil;go_wp2_with fail;rw[cu.out];refine⟨aQ,cQ _ _ ?_⟩;refine aC ?_;simp only[ah,Zx];repeat go_big_quiet_step(fail)
 apply wpQuiet_nil;by_cases hc:i1<=mt
 ·obtain⟨W,Ga⟩:=zN (((w3.setCell ⟨q,s*4,none⟩ (.int .i64 nx)).setCell ⟨q,s*4+2,none⟩ (.int .i64 0)).drew);have hW:ax (aj aa w.heap.size b) b W g (R.setPeer s (nZ R s index)) v:=by
   rw[<-Ga,fV.out,DW.out,if_pos hc];have:=h5.out.below (w':=(w4.setCell ⟨q,s*4+2,none⟩ (.int .i64 0)).drew) (zb.drew);exact this
  have IC:Fr (fun k=>k=q) w2 W:=by
   rw[<-Ga,fV.out];exact TN.trans (Fr.of_below (X:=fun k=>k=q) (zb.drew)) fun _ h=>.inl h
  have zW:W.cell? ⟨q,s*4,none⟩=some (.int .i64 nx):=(hW.peer_cells (by rw[bj];exact dP) hv (bK R s _ dP)).1.1.trans (by rw[DW.out]);replace Ga:=zH Ga;have F3:Fr (aS (aj aa w.heap.size b) b) w2 W:=IC.mono fun k e=>by rw[e];exact⟨by omega,by omega⟩
  obtain⟨RA,AB⟩:=zN ((R.setPeer s (nZ R s index)).agrees);have lT:=(yy.out.setPeer s cR);have BJ:Ok K (M+K) RA:=by rw[<-AB];exact lT.agrees
  have Lo:RA.role=3:=by rw[<-AB,lH];exact hr
  have OV:RA.n=R.n:=by obtain⟨k,cs,e⟩:=jv (R.setPeer s (nZ R s index));rw[<-AB,e];rfl
  have gw:=kp hW ((lT.ld hr).1) lT.id.2.2 lT.cm.1 (by have:=lT.cm.2;omega) (by have:=lT.trk;omega) (by have:=lT.cs;omega);rw[AB]at gw;have Jy:R.has s index=if nx<=l1 then RA.lacks s else RA:=by rw[he.out,AB];rw[DW.out]
  have UK:g≠q:=fun e=>by have:=hW.sl;rw[e,yF]at this;omega
  have Vp:q<W.heap.size:=ar zW;replace Jy:=zH Jy;replace BJ:=zH BJ;replace yF:=zH yF;clear hW lT AB cR kZ DW;go_wp2_with fail;rw[Ga.out];refine gw.mono ?_;rintro e w6 ⟨rfl,vG,kV⟩;have z6:w6.cell? ⟨q,s*4,none⟩=some (.int .i64 nx):=(World.cell?_of_block (kV.block q Vp fun hx=>by rcases hx with hx|hx;exact UK hx.symm;rw[yF.out]at hx;omega)).trans zW;clear gw kV;by_cases fd:nx<=l1
  ·have kH:=vG.call (fun ag v1 h=>ou s h BJ.out Lo (by rw[OV];exact hs) (by omega) (by omega));have MP:=zH (show R.has s index=RA.lacks s by rw[Jy.out,if_pos fd]);clear vG;go_wp2_with fail;refine kH.mono ?_;rintro e w7 ⟨rfl,Bp⟩;have hQ:=zH (show ap aa b w g (R.has s index) w7 by rw[MP.out];exact(Bp.next (fun _ _ _=>rfl) (fun _ _ h=>h) F3).fresh dF);clear kH Bp;go_wp2_with fail;exact am rfl rfl ⟨rfl,hQ.out⟩
  ·have hQ:=zH (show ap aa b w g (R.has s index) w6 by rw[Jy.out,if_neg fd];exact(vG.next (fun _ _ _=>rfl) (fun _ _ h=>h) F3).fresh dF);replace fd:=Int.not_le.1 fd;clear vG;go_wp2_with fail;exact am rfl rfl ⟨rfl,hQ.out⟩
 ·obtain⟨W,Ga⟩:=zN ((w3.setCell ⟨q,s*4,none⟩ (.int .i64 nx)).drew);have hW:ax (aj aa w.heap.size b) b W g (R.setPeer s (nZ R s index)) v:=by
   rw[<-Ga,fV.out,DW.out,if_neg hc];exact h4.out.below (w':=w4.drew) (zb.drew)
  have IC:Fr (fun k=>k=q) w2 W:=by
   rw[<-Ga,fV.out];exact F2.trans (Fr.of_below (X:=fun k=>k=q) (zb.drew)) fun _ h=>.inl h
  have zW:W.cell? ⟨q,s*4,none⟩=some (.int .i64 nx):=(hW.peer_cells (by rw[bj];exact dP) hv (bK R s _ dP)).1.1.trans (by rw[DW.out]);replace Ga:=zH Ga;replace hc:=Int.not_le.1 hc;have F3:Fr (aS (aj aa w.heap.size b) b) w2 W:=IC.mono fun k e=>by rw[e];exact⟨by omega,by omega⟩
  obtain⟨RA,AB⟩:=zN ((R.setPeer s (nZ R s index)).agrees);have lT:=(yy.out.setPeer s cR);have BJ:Ok K (M+K) RA:=by rw[<-AB];exact lT.agrees
  have Lo:RA.role=3:=by rw[<-AB,lH];exact hr
  have OV:RA.n=R.n:=by obtain⟨k,cs,e⟩:=jv (R.setPeer s (nZ R s index));rw[<-AB,e];rfl
  have gw:=kp hW ((lT.ld hr).1) lT.id.2.2 lT.cm.1 (by have:=lT.cm.2;omega) (by have:=lT.trk;omega) (by have:=lT.cs;omega);rw[AB]at gw;have Jy:R.has s index=if nx<=l1 then RA.lacks s else RA:=by rw[he.out,AB];rw[DW.out]
  have UK:g≠q:=fun e=>by have:=hW.sl;rw[e,yF]at this;omega
  have Vp:q<W.heap.size:=ar zW;replace Jy:=zH Jy;replace BJ:=zH BJ;replace yF:=zH yF;clear hW lT AB cR kZ DW;go_wp2_with fail;rw[Ga.out];refine gw.mono ?_;rintro e w6 ⟨rfl,vG,kV⟩;have z6:w6.cell? ⟨q,s*4,none⟩=some (.int .i64 nx):=(World.cell?_of_block (kV.block q Vp fun hx=>by rcases hx with hx|hx;exact UK hx.symm;rw[yF.out]at hx;omega)).trans zW;clear gw kV;by_cases fd:nx<=l1
  ·have kH:=vG.call (fun ag v1 h=>ou s h BJ.out Lo (by rw[OV];exact hs) (by omega) (by omega));have MP:=zH (show R.has s index=RA.lacks s by rw[Jy.out,if_pos fd]);clear vG;go_wp2_with fail;refine kH.mono ?_;rintro e w7 ⟨rfl,Bp⟩;have hQ:=zH (show ap aa b w g (R.has s index) w7 by rw[MP.out];exact(Bp.next (fun _ _ _=>rfl) (fun _ _ h=>h) F3).fresh dF);clear kH Bp;go_wp2_with fail;exact am rfl rfl ⟨rfl,hQ.out⟩
  ·have hQ:=zH (show ap aa b w g (R.has s index) w6 by rw[Jy.out,if_neg fd];exact(vG.next (fun _ _ _=>rfl) (fun _ _ h=>h) F3).fresh dF);replace fd:=Int.not_le.1 fd;clear vG;go_wp2_with fail;exact am rfl rfl ⟨rfl,hQ.out⟩
end
end
section
open Go.MapKept
def oR(R:Rf)(s:Nat)(m:Mg):Pr:={R.peer s with round:=max (R.peer s).round (min m.round R.round)}
theorem lI{R:Rf}{s:Nat}{m:Mg}(hs:s<R.peers.length)(hf:m.frm=(s:Int)):R.answered m=
  if m.kind=8/\0<m.total then(if m.idx=R.snap.idx/\(R.peer s).next-1<R.snap.idx then(R.setPeer s {oR R s m with offset:=min m.offset R.snap.data.length}).lacks s else R.setPeer s (oR R s m))
  else if m.kind=6/\m.reject=true then(R.setPeer s {oR R s m with next:=max ((R.peer s).mat+1) (min ((R.peer s).next-1) (m.idx+1))}).lacks s else(R.setPeer s (oR R s m)).has s m.idx:=by
 have e:m.frm.toNat=s:=by rw[hf];rfl
 unfold Rf.answered;simp only;rw[e];have e2:(R.setPeer s {R.peer s with round:=max (R.peer s).round (min m.round R.round)}).peer s=oR R s m:=bK R s _ hs;rw[e2];unfold oR;simp only[fp]
section
variable {aa:Nat->Nat}{b g:Nat}{w:World}{R:Rf}{v:Rw}
theorem nV{K M:Nat}(m:Mg)(ve vd:Value)(s:Nat)(h:ax aa b w g R v)(hk:Ok K M R)(hr:R.role=3)(hf:m.frm=(s:Int))(hs:s<=R.n)(hK:K<=10000)(hM:M<=50000)
  (iF:0<=m.idx) (oN:m.idx<=1099511627776) (Nn:0<=m.offset) :
  Calls prog 109 #[.pointer (some ⟨g,0,none⟩),eI m ve vd] w fun e w'=>e=.returned (.tuple #[])/\ap aa b w g (R.answered m) w':=by
 have cW:=h.s.lt;obtain⟨dP,kZ⟩:=hk.peer hr hs;have qd:=lI dP hf;have aI:Below w.heap.size w (w.alloc (.cells #[.int .i64 m.kind,.int .i64 m.frm,.int .i64 m.tgt,.int .i64 m.term,.int .i64 m.idx,.int .i64 m.logTerm,.int .i64 m.commit,.int .i64 m.round,.bool m.reject,.int .i64 m.offset,.int .i64 m.total,ve,vd] 39)):=zb.alloc zl _;have bM:=ao.new w 39 #[.int .i64 m.kind,.int .i64 m.frm,.int .i64 m.tgt,.int .i64 m.term,.int .i64 m.idx,.int .i64 m.logTerm,.int .i64 m.commit,.int .i64 m.round,.bool m.reject,.int .i64 m.offset,.int .i64 m.total,ve,vd];obtain⟨w1,ct⟩:=zN (w.alloc (.cells #[.int .i64 m.kind,.int .i64 m.frm,.int .i64 m.tgt,.int .i64 m.term,.int .i64 m.idx,.int .i64 m.logTerm,.int .i64 m.commit,.int .i64 m.round,.bool m.reject,.int .i64 m.offset,.int .i64 m.total,ve,vd] 39));rw[ct]at aI bM;obtain⟨y0,y1,y2,y3,y4,y5,y6,y7,y8,y9,yA,yB,yC,-⟩:=bM.cs [0,1,2,3,4,5,6,7,8,9,10,11,12];simp only[Zx]at y0 y1 y2 y3 y4 y5 y6 y7 y8 y9 yA yB yC;obtain⟨k0,k1,k2,k3,k4,k5,k6,k7,k8,k9,kA,kB,kC⟩:=Ap [w.heap.size,g] y0 y1 y2 y3 y4 y5 y6 y7 y8 y9 yA yB yC;rw[hf]at bM ct;have h1:=h.fresh aI;obtain⟨q,c,hv,na,qp,p0,p1,p2,p3,pf⟩:=h1.peer_at dP;obtain⟨P,hP⟩:=zN (R.peer s);rw[hP]at p0 p1 p2 p3 kZ;obtain⟨c0,c1,c9,c11,-⟩:=h1.s.cs [0,1,9,11];simp only[bV,vi,Zx]at c0 c1 c9 c11;rw[hv]at c0;rw[hf]at k1;have DX:q≠g:=fun e=>by have:=h1.sl;rw[e]at na;omega
 have OZ:q≠w.heap.size:=fun e=>by rw[e,az zl]at na;omega
 have j0:=EY [w.heap.size,g] c0;have l1:=ae (w:=w1.drew) (gs:=[w.heap.size,g,q]) c1 (by simp);have l7:=ae (w:=w1.drew) (gs:=[w.heap.size,g,q]) y7 (by simp);have l3:=ae (w:=w1.drew) (gs:=[w.heap.size,g,q]) p3 (by simp);obtain⟨rd,gp⟩:∃x,max P.round (min m.round R.round)=x:=⟨_,rfl⟩;have OF:oR R s m={P with round:=rd}:=by unfold oR;rw[hP,gp]
 obtain⟨h2,dC,_⟩:=h1.setPeer (s:=s) (j:=3) (u:=.int .i64 rd) (p':={P with round:=rd}) dP hv (by omega) (by rw[hP];rfl);obtain⟨w2,cZ⟩:=zN (((w1.setCell ⟨q,s*4+3,none⟩ (.int .i64 rd)).drew).drew);have tG:ao w2 w.heap.size 39 #[.int .i64 m.kind,.int .i64 (s:Int),.int .i64 m.tgt,.int .i64 m.term,.int .i64 m.idx,.int .i64 m.logTerm,.int .i64 m.commit,.int .i64 m.round,.bool m.reject,.int .i64 m.offset,.int .i64 m.total,ve,vd]:=by
  rw[<-cZ];exact(dC.block w.heap.size bM.lt fun e=>OZ e.symm).trans bM
 have Cy:ax (aj aa w.heap.size b) b w2 g (R.setPeer s {P with round:=rd}) v:=by
  rw[<-cZ];exact(h2.below (w':=(w1.setCell ⟨q,s*4+3,none⟩ (.int .i64 rd)).drew) (zb.drew)).below (w':=((w1.setCell ⟨q,s*4+3,none⟩ (.int .i64 rd)).drew).drew) (zb.drew)
 have F3:Fr (aS (aj aa w.heap.size b) b) w1 w2:=by
  rw[<-cZ];refine Fr.mono (X:=fun k=>k=q) ?_ fun k e=>by rw[e];exact⟨by omega,by omega⟩
  exact(dC.trans (Fr.of_below (X:=fun k=>k=q) (zb.drew)) fun _ h=>.inl h).trans (Fr.of_below (X:=fun k=>k=q) (zb.drew)) fun _ h=>.inl h
 replace gp:=zH gp;replace cZ:=zH cZ;replace OF:=zH OF;replace qd:=zH qd;have yy:=zH hk;clear h h1 h2 dC hk;unfold eI;simp only[vi];rw[hf];go_enter func109,ntmps109;go_wp2_with fail;refine eE [w.heap.size,g] w1 [] [0,1,2,3,4,5,6,7,8] ?_;refine al ?_;simp only[ah,Zx];repeat go_big_quiet_step(fail)
 apply wpQuiet_nil;go_wp2_with fail;refine bU (C:=dS [w.heap.size,g,q] w1.drew) [([0,1,2,3,4,5,6,7,8,9,10,11],12),([],13)] ([14,15],16) (by kernel_rfl) (by kernel_rfl) (fun _ _ _ _ e h=>⟨e.symm.trans h.1,h.2⟩) aQ ?_;refine aq fun K1 cQ=>?_
 simp only[ah,Zx];repeat go_big_quiet_step(fail)
 apply wpQuiet_nil;go_wp2_with fail;refine⟨aQ,cQ _ _ ?_⟩;refine aq fun K2 iu=>?_
 simp only[ah,Zx];apply wpQuiet_nil;go_wp2_with fail;rw[gp.out];refine⟨aQ,iu _ _ ?_⟩;refine aC ?_;simp only[ah,Zx];repeat go_big_quiet_step(fail)
 apply wpQuiet_nil;obtain⟨pf0,pf1,pf2,pf3⟩:=(⟨pf (s*4),pf (s*4+1),pf (s*4+2),pf (s*4+3)⟩:_/\_/\_/\_);obtain⟨m0,m1,m4,m8,m9,m10,-⟩:=tG.cs [0,1,4,8,9,10];simp only[Zx]at m0 m1 m4 m8 m9 m10;obtain⟨d9,d11,-⟩:=Cy.s.cs [9,11];simp only[bV,vi,Zx]at d9 d11;have e2:=bK R s {P with round:=rd} dP;obtain⟨⟨z0,z1,z2,_⟩,⟨u0,u1,u2,_⟩,jM⟩:=Cy.peer_cells (by rw[bj];exact dP) hv e2;have Cz:w.heap.size<w2.heap.size:=tG.lt;have qA:g<w2.heap.size:=Cy.s.lt;obtain⟨Ad,cd,tK,_⟩:=id Cy.d;have d11':w2.cell? ⟨g,11,none⟩=some (.slice Ad R.snap.data.length cd):=by rw[d11,tK];rfl
 replace d9:w2.cell? ⟨g,9,none⟩=some (.int .i64 R.snap.idx):=d9;clear d11 tK;obtain⟨ZR,ZS⟩:=kZ.2.1;obtain⟨ZO,ZP⟩:=kZ.1;by_cases h8:m.kind=8/\0<m.total
 ·have e8:(m.kind==8)=true:=by simp[h8.1]
  have e10:=h8.2;by_cases hi:m.idx=R.snap.idx/\P.next-1<R.snap.idx
  ·have QK:=hi.1;have IH:=hi.2;rw[<-QK]at d9 IH c9;clear QK;replace hi:=zH hi;replace h8:=zH h8;obtain⟨of,No⟩:∃x,min m.offset (R.snap.data.length:Int)=x:=⟨_,rfl⟩;have Vg:0<=of/\of<=R.snap.data.length:=by omega
   obtain⟨h3,mz,_⟩:=Cy.setPeer (s:=s) (j:=2) (u:=.int .i64 of) (p':={P with round:=rd,offset:=of}) (by rw[bj];exact dP) (by rw[bj];exact hv) (by omega) (by rw[e2];rfl);rw[fp]at h3;obtain⟨W,hW⟩:=zN (((w2.setCell ⟨q,s*4+2,none⟩ (.int .i64 of)).drew).drew);have Ma:ax (aj aa w.heap.size b) b W g (R.setPeer s {P with round:=rd,offset:=of}) v:=by
    rw[<-hW];exact(h3.below (w':=(w2.setCell ⟨q,s*4+2,none⟩ (.int .i64 of)).drew) (zb.drew)).below (w':=((w2.setCell ⟨q,s*4+2,none⟩ (.int .i64 of)).drew).drew) (zb.drew)
   have Bj:Fr (fun k=>k=q) w2 W:=by
    rw[<-hW];exact(mz.trans (Fr.of_below (X:=fun k=>k=q) (zb.drew)) fun _ h=>.inl h).trans (Fr.of_below (X:=fun k=>k=q) (zb.drew)) fun _ h=>.inl h
   have IC:Fr (aS (aj aa w.heap.size b) b) w1 W:=F3.trans (Bj.mono (X':=aS (aj aa w.heap.size b) b) fun k e=>by rw[e];exact⟨by omega,by omega⟩) fun k h=>.inl h
   have ZA:W.cell? ⟨w.heap.size,1,none⟩=some (.int .i64 s):=(World.cell?_of_block (Bj.block w.heap.size Cz fun e=>OZ e.symm)).trans m1;have aH:=ou s Ma (yy.out.setPeer s (p:={P with round:=rd,offset:=of}) ⟨kZ.1,kZ.2.1,Vg⟩) hr hs (by omega) (by omega);obtain⟨r4,r9,r0⟩:=tT [w.heap.size,g,q] m4 d9 z0;have s9:=ae (w:=w2.drew) (gs:=[w.heap.size,g]) m9 (by simp);have s11:=ae (w:=w2.drew) (gs:=[w.heap.size,g]) d11' (by simp);replace No:=zH No;replace hW:=zH hW;clear h3 Ma mz Bj Cy;go_wp2_with fail;rw[cZ.out];refine eE [w.heap.size,g,q] w2 [] [0,1,2,3,4,5,6,7,8,9,10,11,12,13,14,15,16,17,18,19,20] ?_;refine al ?_;simp only[ah,Zx];repeat go_big_quiet_step(fail)
   apply wpQuiet_nil;go_wp2_with fail;refine bU (C:=dS [w.heap.size,g] w2.drew) [([0,1,2,3,4,5,6,7,8],9)] ([10,11],12) (by kernel_rfl) (by kernel_rfl) (fun _ _ _ _ e h=>⟨e.symm.trans h.1,h.2⟩) aQ ?_;refine aq fun K3 jY=>?_
   simp only[ah,Zx];repeat go_big_quiet_step(fail)
   apply wpQuiet_nil;go_wp2_with fail;rw[No.out];refine⟨aQ,jY _ _ ?_⟩;refine aC ?_;simp only[ah,Zx];repeat go_big_quiet_step(fail)
   apply wpQuiet_nil;go_wp2_with fail;rw[hW.out];refine aH.mono ?_;rintro e w9 ⟨rfl,mA⟩;have hQ:=zH (show ap aa b w g (R.answered m) w9 by rw[qd.out,if_pos h8.out,hP,if_pos hi.out,OF.out,No.out];exact(mA.next (fun _ _ _=>rfl) (fun _ _ h=>h) IC).fresh aI);clear aH mA;go_wp2_with fail;exact am rfl rfl ⟨rfl,hQ.out⟩
  ·have IC:=F3;have uA:ap (aj aa w.heap.size b) b w2 g (R.setPeer s {P with round:=rd}) w2:=⟨_,v,Cy,fun _ _ _=>rfl,fun _ _ h=>h,Fr.refl _ _⟩;have hQ:=zH (show ap aa b w g (R.answered m) w2 by rw[qd.out,if_pos h8,hP,if_neg hi,OF.out];exact(uA.next (fun _ _ _=>rfl) (fun _ _ h=>h) F3).fresh aI);have W3:=zH (show ap aa b w g (R.answered m) w2.drew from hQ.out.below (zb.drew));obtain⟨r4,r9,r0⟩:=tT [w.heap.size,g,q] m4 d9 z0;replace h8:=zH h8;clear Cy uA;by_cases hx:m.idx=R.snap.idx
   ·have xy:R.snap.idx<=P.next-1:=by
     rcases Int.lt_or_le (P.next-1) R.snap.idx with h|h
     ·exact absurd ⟨hx,h⟩ hi
     ·exact h
    have RW:(m.idx==R.snap.idx)=true:=by simp[hx]
    replace hx:=zH hx;replace hi:=zH hi;go_wp2_with fail;rw[cZ.out];refine eE [w.heap.size,g,q] w2 [] [0,1,2,3,4,5,6,7,8,9,10,11,12,13,14,15,16,17,18,19,20] ?_;refine al ?_;simp only[ah,Zx];repeat go_big_quiet_step(fail)
    apply wpQuiet_nil;go_wp2_with fail;exact am rfl rfl ⟨rfl,W3.out⟩
   ·have RW:(m.idx==R.snap.idx)=false:=by simp[hx]
    replace hx:=zH hx;replace hi:=zH hi;go_wp2_with fail;rw[cZ.out];refine eE [w.heap.size,g,q] w2 [] [0,1,2,3,4,5,6,7,8,9,10,11,12,13,14,15,16,17,18,19,20] ?_;refine al ?_;simp only[ah,Zx];repeat go_big_quiet_step(fail)
    apply wpQuiet_nil;go_wp2_with fail;exact am rfl rfl ⟨rfl,W3.out⟩
 ·by_cases h6:m.kind=6/\m.reject=true
  ·have e8:(m.kind==8)=false:=by simp[h6.1]
   have e6:(m.kind==6)=true:=by simp[h6.1]
   have er:=h6.2;obtain⟨nx,cu⟩:∃x,max (P.mat+1) (min (P.next-1) (m.idx+1))=x:=⟨_,rfl⟩;have hpm:=kZ.1;have ZQ:=kZ.2.1;have Rl:1<=nx/\nx<=1099511627777:=by omega
   obtain⟨h3,mz,_⟩:=Cy.setPeer (s:=s) (j:=0) (u:=.int .i64 nx) (p':={P with round:=rd,next:=nx}) (by rw[bj];exact dP) (by rw[bj];exact hv) (by omega) (by rw[e2];rfl);rw[fp,Nat.add_zero]at h3;rw[Nat.add_zero]at mz;obtain⟨W,hW⟩:=zN ((w2.setCell ⟨q,s*4,none⟩ (.int .i64 nx)).drew);have Ma:ax (aj aa w.heap.size b) b W g (R.setPeer s {P with round:=rd,next:=nx}) v:=by
    rw[<-hW];exact h3.below (w':=(w2.setCell ⟨q,s*4,none⟩ (.int .i64 nx)).drew) (zb.drew)
   have Bj:Fr (fun k=>k=q) w2 W:=by
    rw[<-hW];exact mz.trans (Fr.of_below (X:=fun k=>k=q) (zb.drew)) fun _ h=>.inl h
   have IC:Fr (aS (aj aa w.heap.size b) b) w1 W:=F3.trans (Bj.mono (X':=aS (aj aa w.heap.size b) b) fun k e=>by rw[e];exact⟨by omega,by omega⟩) fun k h=>.inl h
   have ZA:W.cell? ⟨w.heap.size,1,none⟩=some (.int .i64 s):=(World.cell?_of_block (Bj.block w.heap.size Cz fun e=>OZ e.symm)).trans m1;have aH:=ou s Ma (yy.out.setPeer s (p:={P with round:=rd,next:=nx}) ⟨kZ.1,Rl,kZ.2.2⟩) hr hs (by omega) (by omega);obtain⟨r4,r1,r0⟩:=tT [w.heap.size,g,q] m4 z1 z0;replace cu:=zH cu;replace hW:=zH hW;replace h6:=zH h6;replace h8:=zH h8;clear h3 Ma mz Bj Cy;go_wp2_with fail;rw[cZ.out];refine nj [w.heap.size,g,q] w2 [([0,1,2,3,4,5,6,7,8,9,10,11,12,13],14),([],15)] ([16,17],18) ?_;refine aq fun K3 jY=>?_
   simp only[ah,Zx];repeat go_big_quiet_step(fail)
   apply wpQuiet_nil;go_wp2_with fail;refine⟨aQ,jY _ _ ?_⟩;refine aq fun K4 ro=>?_
   simp only[ah,Zx];apply wpQuiet_nil;go_wp2_with fail;rw[cu.out];refine⟨aQ,ro _ _ ?_⟩;refine aC ?_;simp only[ah,Zx];repeat go_big_quiet_step(fail)
   apply wpQuiet_nil;go_wp2_with fail;rw[hW.out];refine aH.mono ?_;rintro e w9 ⟨rfl,mA⟩;have hQ:=zH (show ap aa b w g (R.answered m) w9 by rw[qd.out,if_neg h8.out,if_pos h6.out,hP,OF.out,cu.out];exact(mA.next (fun _ _ _=>rfl) (fun _ _ h=>h) IC).fresh aI);clear aH mA;go_wp2_with fail;exact am rfl rfl ⟨rfl,hQ.out⟩
  ·have aH:=Jk s m.idx Cy (yy.out.setPeer s (p:={P with round:=rd}) ⟨kZ.1,kZ.2.1,kZ.2.2⟩) hr hs (by omega) (by omega);have IC:=F3;have cB:((m.kind==8)=true/\(m.kind==6)=false/\m.total<=0)\/((m.kind==8)=false/\(m.kind==6)=true/\m.reject=false)\/((m.kind==8)=false/\(m.kind==6)=false):=by
    by_cases a:m.kind=8
    ·refine .inl ⟨by simp[a],by simp[a],?_⟩;rcases Int.lt_or_le 0 m.total with h|h
     ·exact absurd ⟨a,h⟩ h8
     ·exact h
    ·by_cases c:m.kind=6
     ·refine .inr (.inl ⟨by simp[a],by simp[c],?_⟩);cases kL:m.reject with
      | false=>rfl
      | true=>exact absurd ⟨c,kL⟩ h6
     ·exact .inr (.inr ⟨by simp[a],by simp[c]⟩)
   replace h6:=zH h6;replace h8:=zH h8;clear Cy;rcases cB with⟨e8,e6,et⟩|⟨e8,e6,er⟩|⟨e8,e6⟩
   all_goals
    go_wp2_with fail;rw[cZ.out];refine aH.mono ?_;rintro e w9 ⟨rfl,mA⟩;have hQ:=zH (show ap aa b w g (R.answered m) w9 by rw[qd.out,if_neg h8.out,if_neg h6.out,OF.out];exact(mA.next (fun _ _ _=>rfl) (fun _ _ h=>h) IC).fresh aI);clear aH mA;go_wp2_with fail;exact am rfl rfl ⟨rfl,hQ.out⟩
end
end
section
open Go.MapKept
theorem nt(i t:Int)(A:Option Addr)(n c:Nat)(l:List UInt8)(w:World)(hl:Rd w A n l)(hn:n<=1000000000) :
  Calls prog 39 #[.agg #[.int .i64 i,.int .i64 t,.slice A n c]] w fun e w'=>∃A' c',e=.returned (.agg #[.int .i64 i,.int .i64 t,.slice A' n c'])/\w'.ownsRow w.heap.size 5 1 (.slice A' n c') n (l.map vb)/\Below w.heap.size w w':=by
 obtain⟨aI,cA,eY⟩:=gE w 26 26 #[.int .i64 i,.int .i64 t,.slice A n c] #[.int .i64 0,.int .i64 0,.slice none 0 0];obtain⟨w2,cZ⟩:=zN ((w.alloc (.cells #[.int .i64 i,.int .i64 t,.slice A n c] 26)).alloc (.cells #[.int .i64 0,.int .i64 0,.slice none 0 0] 26));rw[cZ]at aI cA eY;have eG:=tZ A n c l w2 (hl.below aI) hn;obtain⟨c0,c1,c2,-⟩:=cA.cs [0,1,2];simp only[Zx]at c0 c1 c2;replace cZ:=zH cZ;go_enter func39,ntmps39;go_wp2_with fail;rw[cZ.out];go_wp2_with fail;refine eG.mono ?_;rintro e w3 ⟨A',c',rfl,aB,bN⟩;clear eG;have BM:w.heap.size+1<w2.heap.size:=eY.lt;have JL:=cA.kept bN;have JM:=eY.kept bN;obtain⟨d0,d1,d2,-⟩:=JL.cs [0,1,2];simp only[Zx]at d0 d1 d2;obtain⟨e0,e1,e2,-⟩:=JM.cs [0,1,2];simp only[Zx]at e0 e1 e2;have f2:=JL.free 2;obtain⟨g0,g1,g2,-⟩:=JM.fs [0,1,2];have eF:=ab aI bN zl;go_wp2_with fail;obtain⟨w4,fV⟩:=zN ((((w3.setCell ⟨w.heap.size,2,none⟩ (.slice A' n c')).setCell ⟨w.heap.size+1,0,none⟩ (.int .i64 i)).setCell ⟨w.heap.size+1,1,none⟩ (.int .i64 t)).setCell ⟨w.heap.size+1,2,none⟩ (.slice A' n c'));have jw:Fr (fun j=>j=w.heap.size\/j=w.heap.size+1) w3 w4:=by
  rw[<-fV];exact((((Fr.set w.heap.size 2 _).mono (X':=fun j=>j=w.heap.size\/j=w.heap.size+1) fun _ h=>.inl h).trans ((Fr.set (w.heap.size+1) 0 _).mono (X':=fun j=>j=w.heap.size\/j=w.heap.size+1) fun _ h=>.inr h) fun _ h=>.inl h).trans ((Fr.set (w.heap.size+1) 1 _).mono (X':=fun j=>j=w.heap.size\/j=w.heap.size+1) fun _ h=>.inr h) fun _ h=>.inl h).trans ((Fr.set (w.heap.size+1) 2 _).mono (X':=fun j=>j=w.heap.size\/j=w.heap.size+1) fun _ h=>.inr h) fun _ h=>.inl h
 have Mb:ao w4 (w.heap.size+1) 26 #[.int .i64 i,.int .i64 t,.slice A' n c']:=by
  rw[<-fV];have s0:ao (w3.setCell ⟨w.heap.size,2,none⟩ (.slice A' n c')) (w.heap.size+1) 26 #[.int .i64 0,.int .i64 0,.slice none 0 0]:=((Fr.set (w:=w3) w.heap.size 2 (.slice A' n c')).block (w.heap.size+1) JM.lt (by omega)).trans JM;have s:=((s0.set_ 0 (.int .i64 i)).set_ 1 (.int .i64 t)).set_ 2 (.slice A' n c');simp only[Zy]at s;exact s
 have gz:w4.ownsRow w.heap.size 5 1 (.slice A' n c') n (l.map vb):=eB (cN aB fun j hj hl=>jw.block j hl fun e=>by
  have:=(aw aB A' c' rfl j hj).2.1;omega) (by omega)
 have cO:Below w.heap.size w w4:=eF.trans (jw.below (by intro j e;omega) (by have:=eF.size;omega));rw[fV];obtain⟨r0,r1,r2,-⟩:=Mb.cs [0,1,2];simp only[Zx]at r0 r1 r2;exact bodyPost_ret (v:=.agg #[.int .i64 i,.int .i64 t,.slice A' n c']) (by simp[results,results39,go_sem,r0,r1,r2]) rfl ⟨A',c',rfl,gz,cO⟩
theorem C9{i tm:Int}(hb:iK i tm=true)(aa:Nat->Nat)(q:Nat)(w:World):Calls prog 38 #[.int .i64 i,.int .i64 tm] w fun e w'=>e=.returned (.pointer (some ⟨w.heap.size,0,none⟩))/\tb (aj aa w.heap.size q) q w' (.pointer (some ⟨w.heap.size,0,none⟩)) ⟨i,tm,[]⟩/\Below w.heap.size w w':=by
 refine(KC hb w).mono ?_;rintro e w' ⟨rfl,hk,gL⟩;refine⟨rfl,⟨w.heap.size,fun _=>False,none,0,0,[],rfl,⟨hk,bX _ _,fun z hz=>(by cases hz),rfl,⟨?_,fun i x hx=>(by cases hx),fun x hx=>(by cases hx),fun i x hx=>(by cases hx)⟩,Nat.zero_le _,fun j h=>h.elim⟩,fun j hj=>?_⟩,gL⟩
 ·unfold iK eA at hb;simp only[Bool.or_eq_true,Bool.and_eq_true,decide_eq_true_eq]at hb;show(i=0/\tm=0)\/(1<=i/\i<=_/\1<=tm/\tm<=_);omega
 ·rcases hj with rfl|⟨_,e,_⟩|h
  ·exact az zl
  ·cases e
  ·exact h.elim
end
section
open Go.MapKept
section
variable {aa cJ:Nat->Nat}{b g p n c c':Nat}{w w3 w7:World}{R R1:Rf}{v v' v3:Rw}{A A':Option Addr}
def rO(R1:Rf)(x:tU):Rf:={R1 with snap:=x,commit:=x.idx,gath:=Fq,out:={R1.out with snap:=some x,save:=true}}
theorem Bh{R':Rf}(h:ao w g 107 (bV R v))(h':ao w g 107 (bV R' v')):v.gat=v'.gat:=by
 have a:=h.cell 21;have a':=h'.cell 21;simp only[bV,Zx]at a a';rw[a]at a';exact Option.some.inj a'
theorem uC(i t:Int)(h:ax cJ b w3 g R1 v3)(hv:v3.gat=.slice A n c)(hn:n=R1.gath.data.length)(lz:n<=65536)(hS:ao w7 g 107 (bV (rO R1 ⟨i,t,R1.gath.data⟩) {v3 with dat:=.slice A n c,gat:=.slice none 0 0,snp:=.pointer (some ⟨p,0,none⟩)}))
  (hF:Fr (fun j=>j=g) w3 w7) (hp:w3.heap.size<=p) (hk:ao w7 p 26 #[.int .i64 i,.int .i64 t,.slice A' n c']) (ho:w7.ownsRow w3.heap.size 5 1 (.slice A' n c') n (R1.gath.data.map vb)):ap cJ b w3 g (rO R1 ⟨i,t,R1.gath.data⟩) w7:=by
 obtain⟨A0,c0,e0,aB,j3⟩:=id h.gd;rw[hv]at e0;injection e0 with e1 e2 e3;subst e1;subst e3;have L:∀j,j<w3.heap.size->(if w3.heap.size<=j then b+13 else if cJ j=b+7 then b+6 else if cJ j=b+6 then b+7 else cJ j)=if cJ j=b+7 then b+6 else if cJ j=b+6 then b+7 else cJ j:=fun j hj=>if_neg (by omega)
 have fw:=bB ho;have jo:=bB aB;refine⟨fun j=>if w3.heap.size<=j then b+13 else if cJ j=b+7 then b+6 else if cJ j=b+6 then b+7 else cJ j,_,h.turn [6,7] hS (fun k j h0 h1 hX hj e=>?_) (by simp) (hF.mono fun j e=>.inl e)
  tI tI tI tI (.inl ?_) (.inl (bR.nil _ _ _ _ _)) tI tI (.inl ?_) tI tI,fun j hj hm=>?_,fun j hj hm=>?_,hF.mono fun j e=>?_⟩
 ·show(if w3.heap.size<=j then b+13 else if cJ j=b+7 then b+6 else if cJ j=b+6 then b+7 else cJ j)=b+k;rw[L j hj,if_neg fun h=>hX (by simp;omega),if_neg fun h=>hX (by simp;omega)];exact e
 ·have aU:∀j,aA A j->j<w3.heap.size:=fun j hj=>(aw aB A c rfl j hj).1
  have eH:=cN aB fun j hj hl=>hF.block j hl fun e=>by
   have a:=j3 j hj;rw[e]at a;have:=h.sl;omega
  refine⟨A,c,(show Value.slice A n c=.slice A R1.gath.data.length c by rw[hn]),cn.of_own eH,jo.1,jo.2,fun _ ad e=>?_⟩;show(if w3.heap.size<=ad.block then b+13 else if cJ ad.block=b+7 then b+6 else if cJ ad.block=b+6 then b+7 else cJ ad.block)=b+6;rw[L _ (aU _ ⟨ad,e,rfl⟩),if_pos (j3 _ ⟨ad,e,rfl⟩)]
 ·refine⟨p,.slice A' n c',rfl,if_pos hp,hk,?_⟩;subst hn;exact⟨⟨A',c',rfl,cn.of_own ho,fw.1,fw.2,fun _ ad e=>if_pos (aw ho A' c' rfl _ ⟨ad,e,rfl⟩).2.1⟩,Av.of_own ho⟩
 ·show(if w3.heap.size<=j then b+13 else if cJ j=b+7 then b+6 else if cJ j=b+6 then b+7 else cJ j)=cJ j;unfold aS at hm;rw[L j hj,if_neg (by omega),if_neg (by omega)]
 ·unfold aS at hm ⊢;simp only;rw[L j hj];split
  ·omega
  ·split
   ·omega
   ·exact hm
 ·rw[e];have:=h.sl;exact⟨by omega,by omega⟩
theorem nE(R:Rf)(x:tU):R.install x=rO (if R.track.termF x.idx=(x.term,0)then {R with track:=(R.track.dropF x.idx).2}else {R with track:=⟨x.idx,x.term,[]⟩,out:={R.out with reset:=true}}) x:=rfl
theorem yR{K M:Nat}(i t:Int)(h:ax aa b w g R v)(hk:Ok K M R)(hK:K<=100000)(iF:1<=i)(oN:i<=1099511627776)(rI:1<=t)(O5:t<=1099511627776)(hn:n=R.gath.data.length)(hv:v.gat=.slice A n c) :
  Calls prog 137 #[.pointer (some ⟨g,0,none⟩),.agg #[.int .i64 i,.int .i64 t,.slice A n c]] w fun e w'=>e=.returned (.tuple #[])/\ap aa b w g (R.install ⟨i,t,R.gath.data⟩) w':=by
 have cW:=h.s.lt;have aI:Below w.heap.size w (w.alloc (.cells #[.int .i64 i,.int .i64 t,.slice A n c] 26)):=zb.alloc zl _;have bM:=ao.new w 26 #[.int .i64 i,.int .i64 t,.slice A n c];obtain⟨w1,ct⟩:=zN (w.alloc (.cells #[.int .i64 i,.int .i64 t,.slice A n c] 26));rw[ct]at aI bM;have hX:=cT.start (N:=1) h aI (by have:=bM.lt;omega);obtain⟨ag,v1,h1,rB⟩:=hX.raft;have ci:v1.gat=.slice A n c:=(Bh h1.s (h.below aI).s).trans hv;have hN:R.track.L.length<=1000000:=by have:=hk.trk;omega
 have yu:=hk.gat;rw[<-hn]at yu;obtain⟨y0,y1,y2,-⟩:=bM.cs [0,1,2];simp only[Zx]at y0 y1 y2;have c8:=h1.s.cell 8;simp only[bV,vi,Zx]at c8;obtain⟨k0,k8⟩:=pU [g,w.heap.size] y0 c8;have iM:g<w1.heap.size:=h1.s.lt;have dA:∀q∈[g,w.heap.size],q<w1.heap.size:=by simp;exact⟨iM,bM.lt⟩
 have cp:=sU i (h1.below (w':=w1.drew) (zb.drew)).t hN;obtain⟨tt,mV⟩:=zN (R.track.termF i);rw[mV]at cp;have hI:=nE R ⟨i,t,R.gath.data⟩;rw[show R.track.termF (tU.mk i t R.gath.data).idx=tt from mV]at hI;have KS:=kT R.track i;rw[mV]at KS;replace hI:=zH hI;replace hn:=zH hn;replace ct:=zH ct;clear h hX mV;go_enter func137,ntmps137;go_wp2_with fail;rw[ct.out];refine eE [g,w.heap.size] w1 [([0,1,2,3,4,5],6)] [7,8,9,10,11] ?_;refine aF fun K1 cQ=>?_
 simp only[ah,Zx];repeat go_big_quiet_step(fail)
 apply wpQuiet_nil;go_wp2_with fail;refine cp.mono ?_;rintro e w2 ⟨rfl,bQ⟩;clear cp;go_wp2_with fail;have ef:Below w1.heap.size w1 w2:=(zb.drew).trans bQ;refine⟨av dA ef,cQ _ _ ?_⟩;refine al ?_;simp only[ah,Zx];repeat go_big_quiet_step(fail)
 apply wpQuiet_nil;have h2:=h1.below ef;obtain⟨CD,ML⟩:=rB w2 R ⟨ag,v1,h2,fun _ _ _=>rfl,fun _ _ h=>h,Fr.of_below ef⟩;have tG:=bM.kept ef;by_cases hc:tt=(t,0)
 ·have iS:=zH (hI.out.trans (by rw[if_pos hc]):R.install ⟨i,t,R.gath.data⟩=rO {R with track:=(R.track.dropF i).2} ⟨i,t,R.gath.data⟩);have e1:(tt.2==0)=true:=by simp[hc]
  have e2:(tt.1==t)=true:=by simp[hc]
  have yr:=It i (h2.below (w':=w2.drew) (zb.drew)) hN;have d8:=h2.s.cell 8;simp only[bV,vi,Zx]at d8;obtain⟨o0,o1,-⟩:=tG.cs [0,1];simp only[Zx]at o0 o1;obtain⟨r8,r0⟩:=pU [g,w.heap.size] d8 o0;replace hc:=zH hc;clear hI;go_wp2_with fail;refine nj [g,w.heap.size] w2 [] ([0,1,2,3,4,5],6) ?_;refine aC ?_;simp only[ah,Zx];repeat go_big_quiet_step(fail)
  apply wpQuiet_nil;go_wp2_with fail;refine yr.mono ?_;rintro e w3 ⟨rfl,hT⟩;clear yr d8 o0 o1 r8 r0;obtain⟨T7,_,GP⟩:=(⟨CD,ML,fun w' R2 (hP:ap ag b w2 g R2 w')=>rB w' R2 (hP.behind ef)⟩:cT aa b w g R 1 w2/\_/\∀w' R2,ap ag b w2 g R2 w'->cT aa b w g R2 1 w'/\boxes w.heap.size 1 w1 w');obtain⟨rq,lm⟩:=GP w3 _ (hT.post.behind (w:=w2) (zb.drew));have SJ:=hT.blk;obtain⟨R1,kx⟩:=zN (({R with track:=(R.track.dropF i).2}:Rf));have vQ:R1.gath.data=R.gath.data:=by rw[<-kx]
  rw[kx]at rq SJ iS;obtain⟨cJ,v3,h3,gU⟩:=rq.raft;have aL:v3.gat=.slice A n c:=(Bh h3.s SJ).trans ci;have oZ:ao w3 w.heap.size 26 #[.int .i64 i,.int .i64 t,.slice A n c]:=lm.blk zl (by omega) bM;clear hT SJ rq CD T7 GP rB h1 h2 kx ML lm y0 y1 y2 c8 k0 k8 tG bM e1 e2;have MV:g≠w.heap.size:=by omega
  obtain⟨m0,m1,m2,-⟩:=oZ.cs [0,1,2];simp only[Zx]at m0 m1 m2;obtain⟨s9,s10,s11,s12,s17,s18,s19,s20,s21,s22,s28,-⟩:=h3.s.cs [9,10,11,12,17,18,19,20,21,22,28];simp only[bV,vi,Zx]at s9 s10 s11 s12 s17 s18 s19 s20 s21 s22 s28;obtain⟨f9,f10,f11,f12,f17,f18,f19,f20,f21,-⟩:=h3.s.fs [9,10,11,12,17,18,19,20,21];obtain⟨q0,q1,q2⟩:=tT [w.heap.size] m0 m1 m2;have e:∀{a b:World},Fr (fun j=>j=g) w3 a->Fr (fun j=>j=g) a b->Fr (fun j=>j=g) w3 b:=fun h h'=>h.trans h' fun _ h=>.inl h
  have Dx:=e (e (Fr.set (w:=w3) g 9 (.int .i64 i)) (Fr.set g 10 (.int .i64 t))) (Fr.set g 11 (.slice A n c));have Az:=e Dx (Fr.set g 12 (.int .i64 i));have PC:=e (e (e (e (e Az (Fr.set g 17 (.int .i64 0))) (Fr.set g 18 (.int .i64 0))) (Fr.set g 19 (.int .i64 0))) (Fr.set g 20 (.int .i64 0))) (Fr.set g 21 (.slice none 0 0));have vI:=((((((((h3.s.set_ 9 (.int .i64 i)).set_ 10 (.int .i64 t)).set_ 11 (.slice A n c)).set_ 12 (.int .i64 i)).set_ 17 (.int .i64 0)).set_ 18 (.int .i64 0)).set_ 19 (.int .i64 0)).set_ 20 (.int .i64 0)).set_ 21 (.slice none 0 0);simp only[bV,Zy]at vI;obtain⟨w4,fV⟩:=zN ((((((((((w3.setCell ⟨g,9,none⟩ (.int .i64 i)).setCell ⟨g,10,none⟩ (.int .i64 t)).setCell ⟨g,11,none⟩ (.slice A n c)).setCell ⟨g,12,none⟩ (.int .i64 i)).setCell ⟨g,17,none⟩ (.int .i64 0)).setCell ⟨g,18,none⟩ (.int .i64 0)).setCell ⟨g,19,none⟩ (.int .i64 0)).setCell ⟨g,20,none⟩ (.int .i64 0)).setCell ⟨g,21,none⟩ (.slice none 0 0)).drew);have jw:Fr (fun j=>j=g) w3 w4:=by rw[<-fV];exact e PC (Fr.of_below (zb.drew))
  replace vI:=vI.kept (zb.drew);rw[fV]at vI;replace vI:=(show ao w4 g 107 (bV {R1 with snap:=⟨i,t,R1.gath.data⟩,commit:=i,gath:=Fq} {v3 with dat:=.slice A n c,gat:=.slice none 0 0})from vI);have FY:w.heap.size<w3.heap.size:=oZ.lt;have DQ:ao w4 w.heap.size 26 #[.int .i64 i,.int .i64 t,.slice A n c]:=(jw.block w.heap.size FY (fun e=>MV e.symm)).trans oZ;have TZ:Rd w4 A n R1.gath.data:=by
   obtain⟨A0,c0,e0,aB,j3⟩:=id h3.gd;rw[aL]at e0;injection e0 with e1 e2 e3;subst e1;subst e3;have af:n=R1.gath.data.length:=e2;have:=cN aB fun j hj hl=>jw.block j hl fun e=>by
    have a:=j3 j hj;rw[e]at a;have:=h3.sl;omega
   rw[af];exact cn.of_own this
  have KT:=nt i t A n c R1.gath.data w4 TZ (by omega);have Ni:n=R1.gath.data.length:=by rw[vQ];exact hn.out
  obtain⟨x0,x1,x2,-⟩:=DQ.cs [0,1,2];simp only[Zx]at x0 x1 x2;replace fV:=zH fV;replace Ni:=zH Ni;clear e;go_wp2_with fail;refine nj [w.heap.size] w3 [([0,1,2,3,4,5,6,7,8],9),([10,11],12)] ([13,14],15) ?_;refine aq fun K5 vE=>?_
  simp only[ah,Zx];repeat go_big_quiet_step(fail)
  apply wpQuiet_nil;go_wp2_with fail;refine⟨cy (Dx.block w.heap.size FY fun e=>MV e.symm),vE _ _ ?_⟩;refine aq fun K6 vF=>?_
  simp only[ah,Zx];repeat go_big_quiet_step(fail)
  apply wpQuiet_nil;go_wp2_with fail;refine⟨cy (Az.block w.heap.size FY fun e=>MV e.symm),vF _ _ ?_⟩;refine aC ?_;simp only[ah,Zx];repeat go_big_quiet_step(fail)
  apply wpQuiet_nil;go_wp2_with fail;rw[fV.out];go_wp2_with fail;refine KT.mono ?_;rintro e w5 ⟨A',c',rfl,dq,cM⟩;clear KT m0 m1 m2 q0 q1 q2 f9 f10 f11 f12 f17 f18 f19 f20 f21 s9 s10 s11 s12 s17 s18 s19 s20 s21 s22 s28 x0 x1 x2 Dx Az PC;have Bq:=vI.kept cM;have jl:g<w5.heap.size:=Bq.lt;have jZ:Below w5.heap.size w5 (w5.alloc (.cells #[.int .i64 i,.int .i64 t,.slice A' n c'] 26)):=zb.alloc zl _;have fP:=ao.new w5 26 #[.int .i64 i,.int .i64 t,.slice A' n c'];have mN:=Bq.kept jZ;have eZ:=bf dq jZ;obtain⟨w6,Fl⟩:=zN (w5.alloc (.cells #[.int .i64 i,.int .i64 t,.slice A' n c'] 26));rw[Fl]at jZ fP mN eZ;obtain⟨u22,u28,-⟩:=mN.cs [22,28];simp only[bV,vi,Zx]at u22 u28;obtain⟨n22,n28,-⟩:=mN.fs [22,28];obtain⟨p,hp⟩:=zN (w5.heap.size);have rG:p≠g:=by omega
  have rF:w3.heap.size<=p:=by have:=jw.size;have:=cM.size;omega
  rw[hp]at fP;have DB:=(mN.set_ 28 (.pointer (some ⟨p,0,none⟩))).set_ 22 (.bool true);simp only[bV,Zy]at DB;have CA:Fr (fun j=>j=g) w6 ((w6.setCell ⟨g,28,none⟩ (.pointer (some ⟨p,0,none⟩))).setCell ⟨g,22,none⟩ (.bool true)):=(Fr.set g 28 _).trans (Fr.set g 22 _) fun _ h=>.inl h
  have Bk:=uC i t h3 aL Ni.out yu DB (((jw.trans (Fr.of_below (X:=fun j=>j=g) cM) fun _ h=>.inl h).trans (Fr.of_below (X:=fun j=>j=g) jZ) fun _ h=>.inl h).trans CA fun _ h=>.inl h) rF ((CA.block p fP.lt rG).trans fP)
   (eB (cN eZ fun j hj hl=>CA.block j hl fun e=>by
    have:=(aw eZ A' c' rfl j hj).2.1;have:=vI.lt;omega) jw.size)
  have hQ:=zH (show ap aa b w g (R.install ⟨i,t,R.gath.data⟩) _ from by rw[iS.out,<-vQ];exact(gU _ _ Bk).1.post);clear Bk DB CA mN eZ fP dq vI Bq h3 gU;go_wp2_with fail;exact am rfl rfl ⟨rfl,hQ.out⟩
 ·have iS:=zH (hI.out.trans (by rw[if_neg hc]):R.install ⟨i,t,R.gath.data⟩=rO {R with track:=⟨i,t,[]⟩,out:={R.out with reset:=true}} ⟨i,t,R.gath.data⟩);have cB:(tt.2==0)=false\/((tt.2==0)=true/\(tt.1==t)=false):=by
   by_cases e1:tt.2=0
   ·refine .inr ⟨by simp[e1],?_⟩;have:tt.1≠t:=fun e=>hc (by rw[<-e,<-e1])
    simp[this]
   ·exact .inl (by simp[e1])
  have dX:iK i t=true:=by
   unfold iK eA;simp only[Bool.or_eq_true,Bool.and_eq_true,decide_eq_true_eq];omega
  have oh:=C9 dX ag (b+2) w2;obtain⟨o0,o1,-⟩:=tG.cs [0,1];simp only[Zx]at o0 o1;have qA:g<w2.heap.size:=h2.s.lt;obtain⟨R1,kx⟩:=zN (({R with track:=⟨i,t,[]⟩,out:={R.out with reset:=true}}:Rf));have vQ:R1.gath.data=R.gath.data:=by rw[<-kx]
  rw[kx]at iS;have lg:=zH (show ∀w9,tb (aj ag w2.heap.size (b+2)) (b+2) w9 (.pointer (some ⟨w2.heap.size,0,none⟩)) ⟨i,t,[]⟩->Below w2.heap.size w2 w9->
    ∃cJ v3,ax cJ b ((w9.setCell ⟨g,8,none⟩ (.pointer (some ⟨w2.heap.size,0,none⟩))).setCell ⟨g,23,none⟩ (.bool true)) g R1 v3/\v3.gat=.slice A n c/\(∀w' R2,ap cJ b ((w9.setCell ⟨g,8,none⟩ (.pointer (some ⟨w2.heap.size,0,none⟩))).setCell ⟨g,23,none⟩ (.bool true)) g R2 w'->ap aa b w g R2 w')/\ao ((w9.setCell ⟨g,8,none⟩ (.pointer (some ⟨w2.heap.size,0,none⟩))).setCell ⟨g,23,none⟩ (.bool true)) w.heap.size 26 #[.int .i64 i,.int .i64 t,.slice A n c]from fun w9 jx kX=>by
   have YL:=h2.s.kept kX;have IB:Fr (fun j=>j=g) w9 ((w9.setCell ⟨g,8,none⟩ (.pointer (some ⟨w2.heap.size,0,none⟩))).setCell ⟨g,23,none⟩ (.bool true)):=(Fr.set g 8 _).trans (Fr.set g 23 _) fun _ h=>.inl h
   have PN:=(YL.set_ 8 (.pointer (some ⟨w2.heap.size,0,none⟩))).set_ 23 (.bool true);simp only[bV,Zy]at PN;replace PN:ao ((w9.setCell ⟨g,8,none⟩ (.pointer (some ⟨w2.heap.size,0,none⟩))).setCell ⟨g,23,none⟩ (.bool true)) g 107 (bV R1 {v1 with trk:=.pointer (some ⟨w2.heap.size,0,none⟩)}):=by rw[<-kx];exact PN
   have mA:ap ag b w2 g R1 ((w9.setCell ⟨g,8,none⟩ (.pointer (some ⟨w2.heap.size,0,none⟩))).setCell ⟨g,23,none⟩ (.bool true)):=by
    refine ap.turn (ak:=aj ag w2.heap.size (b+2)) [2] h2 PN (fun j hj=>ac hj) (by simp) (((Fr.of_below (X:=fun j=>j=g) kX).trans IB fun _ h=>.inl h).mono fun j e=>.inl e) (.inl ?_)
     (.inr ⟨by simp,rfl,by rw[<-kx]⟩) (.inr ⟨by simp,rfl,by rw[<-kx]⟩) (.inr ⟨by simp,rfl,by rw[<-kx]⟩) (.inr ⟨by simp,rfl,by rw[<-kx]⟩) (.inr ⟨by simp,rfl,by rw[<-kx]⟩) (.inr ⟨by simp,rfl,by rw[<-kx]⟩) (.inr ⟨by simp,rfl,by rw[<-kx]⟩) (.inr ⟨by simp,rfl,by rw[<-kx]⟩) (.inr ⟨by simp,rfl,by rw[<-kx]⟩) (.inr ⟨by simp,rfl,by rw[<-kx]⟩)
    rw[show R1.track=⟨i,t,[]⟩ by rw[<-kx]];refine jx.keep fun j hj hl=>IB.block j hl fun e=>?_
    rw[e,ac qA]at hj;have:=h2.sl;omega
   obtain⟨jk,Uo⟩:=rB _ _ (mA.behind ef);obtain⟨cJ,v3,h3,gU⟩:=jk.raft;exact⟨cJ,v3,h3,(Bh h3.s PN).trans ci,fun w' R2 hP=>(gU w' R2 hP).1.post,Uo.blk zl (by omega) bM⟩)
  obtain⟨ON,MM,-⟩:=h2.s.cs [8,23];simp only[bV,vi,Zx]at ON MM;obtain⟨Qr,UD,-⟩:=h2.s.fs [8,23];replace hc:=zH hc;clear hI h2 rB h1 CD ML tG bM y0 y1 y2 c8 k0 k8 kx KS;rcases cB with e1|⟨e1,e2⟩
  all_goals
   go_wp2_with fail;refine oh.mono ?_;rintro e w9 ⟨rfl,jx,kX⟩;obtain⟨cJ,v3,h3,aL,gU,oZ⟩:=lg.out w9 jx kX;have a8:=(kX.cell (ar ON)).trans ON;have a23:=(kX.cell (ar MM)).trans MM;have b8:=(kX.frozen (p:=⟨g,8,none⟩) qA).trans Qr;have b23:=(kX.frozen (p:=⟨g,23,none⟩) qA).trans UD;clear oh jx lg;obtain⟨w3,jm⟩:=zN ((w9.setCell ⟨g,8,none⟩ (.pointer (some ⟨w2.heap.size,0,none⟩))).setCell ⟨g,23,none⟩ (.bool true));rw[jm]at h3 gU oZ;replace jm:=zH jm;have MV:g≠w.heap.size:=by omega
   obtain⟨m0,m1,m2,-⟩:=oZ.cs [0,1,2];simp only[Zx]at m0 m1 m2;obtain⟨s9,s10,s11,s12,s17,s18,s19,s20,s21,s22,s28,-⟩:=h3.s.cs [9,10,11,12,17,18,19,20,21,22,28];simp only[bV,vi,Zx]at s9 s10 s11 s12 s17 s18 s19 s20 s21 s22 s28;obtain⟨f9,f10,f11,f12,f17,f18,f19,f20,f21,-⟩:=h3.s.fs [9,10,11,12,17,18,19,20,21];obtain⟨q0,q1,q2⟩:=tT [w.heap.size] m0 m1 m2;have e:∀{a b:World},Fr (fun j=>j=g) w3 a->Fr (fun j=>j=g) a b->Fr (fun j=>j=g) w3 b:=fun h h'=>h.trans h' fun _ h=>.inl h
   have Dx:=e (e (Fr.set (w:=w3) g 9 (.int .i64 i)) (Fr.set g 10 (.int .i64 t))) (Fr.set g 11 (.slice A n c));have Az:=e Dx (Fr.set g 12 (.int .i64 i));have PC:=e (e (e (e (e Az (Fr.set g 17 (.int .i64 0))) (Fr.set g 18 (.int .i64 0))) (Fr.set g 19 (.int .i64 0))) (Fr.set g 20 (.int .i64 0))) (Fr.set g 21 (.slice none 0 0));have vI:=((((((((h3.s.set_ 9 (.int .i64 i)).set_ 10 (.int .i64 t)).set_ 11 (.slice A n c)).set_ 12 (.int .i64 i)).set_ 17 (.int .i64 0)).set_ 18 (.int .i64 0)).set_ 19 (.int .i64 0)).set_ 20 (.int .i64 0)).set_ 21 (.slice none 0 0);simp only[bV,Zy]at vI;obtain⟨w4,fV⟩:=zN ((((((((((w3.setCell ⟨g,9,none⟩ (.int .i64 i)).setCell ⟨g,10,none⟩ (.int .i64 t)).setCell ⟨g,11,none⟩ (.slice A n c)).setCell ⟨g,12,none⟩ (.int .i64 i)).setCell ⟨g,17,none⟩ (.int .i64 0)).setCell ⟨g,18,none⟩ (.int .i64 0)).setCell ⟨g,19,none⟩ (.int .i64 0)).setCell ⟨g,20,none⟩ (.int .i64 0)).setCell ⟨g,21,none⟩ (.slice none 0 0)).drew);have jw:Fr (fun j=>j=g) w3 w4:=by rw[<-fV];exact e PC (Fr.of_below (zb.drew))
   replace vI:=vI.kept (zb.drew);rw[fV]at vI;replace vI:=(show ao w4 g 107 (bV {R1 with snap:=⟨i,t,R1.gath.data⟩,commit:=i,gath:=Fq} {v3 with dat:=.slice A n c,gat:=.slice none 0 0})from vI);have FY:w.heap.size<w3.heap.size:=oZ.lt;have DQ:ao w4 w.heap.size 26 #[.int .i64 i,.int .i64 t,.slice A n c]:=(jw.block w.heap.size FY (fun e=>MV e.symm)).trans oZ;have TZ:Rd w4 A n R1.gath.data:=by
    obtain⟨A0,c0,e0,aB,j3⟩:=id h3.gd;rw[aL]at e0;injection e0 with e1 e2 e3;subst e1;subst e3;have af:n=R1.gath.data.length:=e2;have:=cN aB fun j hj hl=>jw.block j hl fun e=>by
     have a:=j3 j hj;rw[e]at a;have:=h3.sl;omega
    rw[af];exact cn.of_own this
   have KT:=nt i t A n c R1.gath.data w4 TZ (by omega);have Ni:n=R1.gath.data.length:=by rw[vQ];exact hn.out
   obtain⟨x0,x1,x2,-⟩:=DQ.cs [0,1,2];simp only[Zx]at x0 x1 x2;replace fV:=zH fV;replace Ni:=zH Ni;clear e;go_wp2_with fail;rw[jm.out];refine nj [w.heap.size] w3 [([0,1,2,3,4,5,6,7,8],9),([10,11],12)] ([13,14],15) ?_;refine aq fun K5 vE=>?_
   simp only[ah,Zx];repeat go_big_quiet_step(fail)
   apply wpQuiet_nil;go_wp2_with fail;refine⟨cy (Dx.block w.heap.size FY fun e=>MV e.symm),vE _ _ ?_⟩;refine aq fun K6 vF=>?_
   simp only[ah,Zx];repeat go_big_quiet_step(fail)
   apply wpQuiet_nil;go_wp2_with fail;refine⟨cy (Az.block w.heap.size FY fun e=>MV e.symm),vF _ _ ?_⟩;refine aC ?_;simp only[ah,Zx];repeat go_big_quiet_step(fail)
   apply wpQuiet_nil;go_wp2_with fail;rw[fV.out];go_wp2_with fail;refine KT.mono ?_;rintro e w5 ⟨A',c',rfl,dq,cM⟩;clear KT m0 m1 m2 q0 q1 q2 f9 f10 f11 f12 f17 f18 f19 f20 f21 s9 s10 s11 s12 s17 s18 s19 s20 s21 s22 s28 x0 x1 x2 Dx Az PC;have Bq:=vI.kept cM;have jl:g<w5.heap.size:=Bq.lt;have jZ:Below w5.heap.size w5 (w5.alloc (.cells #[.int .i64 i,.int .i64 t,.slice A' n c'] 26)):=zb.alloc zl _;have fP:=ao.new w5 26 #[.int .i64 i,.int .i64 t,.slice A' n c'];have mN:=Bq.kept jZ;have eZ:=bf dq jZ;obtain⟨w6,Fl⟩:=zN (w5.alloc (.cells #[.int .i64 i,.int .i64 t,.slice A' n c'] 26));rw[Fl]at jZ fP mN eZ;obtain⟨u22,u28,-⟩:=mN.cs [22,28];simp only[bV,vi,Zx]at u22 u28;obtain⟨n22,n28,-⟩:=mN.fs [22,28];obtain⟨p,hp⟩:=zN (w5.heap.size);have rG:p≠g:=by omega
   have rF:w3.heap.size<=p:=by have:=jw.size;have:=cM.size;omega
   rw[hp]at fP;have DB:=(mN.set_ 28 (.pointer (some ⟨p,0,none⟩))).set_ 22 (.bool true);simp only[bV,Zy]at DB;have CA:Fr (fun j=>j=g) w6 ((w6.setCell ⟨g,28,none⟩ (.pointer (some ⟨p,0,none⟩))).setCell ⟨g,22,none⟩ (.bool true)):=(Fr.set g 28 _).trans (Fr.set g 22 _) fun _ h=>.inl h
   have Bk:=uC i t h3 aL Ni.out yu DB (((jw.trans (Fr.of_below (X:=fun j=>j=g) cM) fun _ h=>.inl h).trans (Fr.of_below (X:=fun j=>j=g) jZ) fun _ h=>.inl h).trans CA fun _ h=>.inl h) rF ((CA.block p fP.lt rG).trans fP)
    (eB (cN eZ fun j hj hl=>CA.block j hl fun e=>by
     have:=(aw eZ A' c' rfl j hj).2.1;have:=vI.lt;omega) jw.size)
   have hQ:=zH (show ap aa b w g (R.install ⟨i,t,R.gath.data⟩) _ from by rw[iS.out,<-vQ];exact gU _ _ Bk);clear Bk DB CA mN eZ fP dq vI Bq h3 gU;go_wp2_with fail;exact am rfl rfl ⟨rfl,hQ.out⟩
end
end
section
open Go.MapKept
theorem ic{w:World}{ops:Array Oper}{rest:List Oper}{o:Oper}{a:Act}{Q:Exit->Act->World->Prop}(lq:o.guard=none)(s x:Operand)
  (ho:o.op=.call {callee:=.builtin .append,args:=#[s,x],argTypes:=#[24,24]})
  (base:Nat) {A:Option Addr} {n c:Nat} {l:List UInt8} (hs:a.eval s=.slice A n c) (aB:w.ownsRow base 5 1 (.slice A n c) n (l.map vb))
  {B:Option Addr} {m d:Nat} {r:List UInt8} (hx:a.eval x=.slice B m d) (hr:Rd w B m r) (hb:n+m<=1000000000) (bE:base<=w.heap.size)
  (h:∀A' c' w',w'.ownsRow base 5 1 (.slice A' (n+m) c') (n+m) ((l++r).map vb)->Fr (aA A) w w'->(∀j,aA A' j->aA A j\/w.heap.size<=j)->wpList prog ops Q rest (a.put o.dst (.slice A' (n+m) c')) w'):wpList prog ops Q (o::rest) a w:=by
 obtain⟨i0,iF,jT,iW,gC⟩:=info_parts mJ;refine bg w lq s x 24 ho base 5 i0 _ 1 1 underlying24 iF jT iW gC rfl (by omega) (.slice A n c) n _ hs aB B m d _ hx hr (fun u hu=>Iw u hu) (by unfold maxLen;omega) (by omega) bE fun A' c' w' h3 h4 h5=>?_
 exact h A' c' w' (by rw[List.map_append];exact h3) (Fr.grown h4) (iA h5)
section
variable {aa:Nat->Nat}{b g n m c c':Nat}{w w5:World}{R:Rf}{v:Rw}{A A':Option Addr}{r:List UInt8}
theorem Du(h:ax aa b w g R v)(hv:v.gat=.slice A n c)(hm:m=r.length)(ho:w5.ownsRow 0 5 1 (.slice A' (n+m) c') (n+m) ((R.gath.data++r).map vb))(hF:Fr (aA A) w w5)(hr:∀j,aA A' j->aA A j\/w.heap.size<=j) :
  ap aa b w g {R with gath:={R.gath with data:=R.gath.data++r}} (w5.setCell ⟨g,21,none⟩ (.slice A' (n+m) c'))/\ao (w5.setCell ⟨g,21,none⟩ (.slice A' (n+m) c')) g 107 (bV R {v with gat:=.slice A' (n+m) c'})/\ao w5 g 107 (bV R v)/\Fr (fun j=>aa j=b+7\/j=g) w w5:=by
 obtain⟨A0,c0,e0,aB,j3⟩:=id h.gd;rw[hv]at e0;injection e0 with e1 e2 e3;subst e1;subst e2;subst e3;have uj:¬aA A g:=fun hh=>by have:=j3 g hh;have:=h.sl;omega
 have Bq:ao w5 g 107 (bV R v):=(hF.block g h.s.lt uj).trans h.s;have fh:=Fr.set (w:=w5) g 21 (.slice A' (R.gath.data.length+m) c');have mN:=Bq.set_ 21 (.slice A' (R.gath.data.length+m) c');simp only[bV,Zy]at mN;have Mk:ao (w5.setCell ⟨g,21,none⟩ (.slice A' (R.gath.data.length+m) c')) g 107 (bV R {v with gat:=.slice A' (R.gath.data.length+m) c'}):=mN;refine⟨?_,Mk,Bq,hF.mono fun j hj=>.inl (j3 j hj)⟩;refine ap.turn (v':={v with gat:=.slice A' (R.gath.data.length+m) c'}) (ak:=aj aa w.heap.size (b+7)) [7] h Mk (fun j hj=>ac hj) (by simp) ((hF.mono (X':=fun j=>j=g\/∃i,i∈[7]/\aa j=b+i) fun j e=>.inr ⟨7,by simp,j3 j e⟩).trans fh fun j e=>.inl (.inl e))
  tI tI tI tI tI (.inl ?_) tI tI tI tI tI
 show bR _ _ _ _ _ _ (R.gath.data++r).length _;rw[List.length_append,<-hm];have fR:∀j,aA A' j->aj aa w.heap.size (b+7) j=b+7:=fun j hj=>by
  rcases hr j hj with h6|h6
  ·exact(ac (aw aB A c rfl j h6).1).trans (j3 j h6)
  ·exact az h6
 refine bR.keep (w:=w5) ⟨A',c',rfl,ho,fR⟩ fun j hj hl=>fh.block j hl fun e=>?_
 rw[e,ac h.s.lt]at hj;have:=h.sl;omega
theorem FT(f i t k:Int)(h:ax aa b w g R v):ax aa b (((((w.setCell ⟨g,17,none⟩ (.int .i64 f)).setCell ⟨g,18,none⟩ (.int .i64 i)).setCell ⟨g,19,none⟩ (.int .i64 t)).setCell ⟨g,20,none⟩ (.int .i64 k)).setCell ⟨g,21,none⟩ (.slice none 0 0)) g {R with gath:=⟨f,i,t,k,[]⟩} {v with gat:=.slice none 0 0}/\
  Fr (fun j=>j=g) w (((((w.setCell ⟨g,17,none⟩ (.int .i64 f)).setCell ⟨g,18,none⟩ (.int .i64 i)).setCell ⟨g,19,none⟩ (.int .i64 t)).setCell ⟨g,20,none⟩ (.int .i64 k)).setCell ⟨g,21,none⟩ (.slice none 0 0)):=by
 have e:∀{a b:World},Fr (fun j=>j=g) w a->Fr (fun j=>j=g) a b->Fr (fun j=>j=g) w b:=fun h h'=>h.trans h' fun _ h=>.inl h
 have hF:=e (e (e (e (Fr.set (w:=w) g 17 (.int .i64 f)) (Fr.set g 18 (.int .i64 i))) (Fr.set g 19 (.int .i64 t))) (Fr.set g 20 (.int .i64 k))) (Fr.set g 21 (.slice none 0 0));have s:=((((h.s.set_ 17 (.int .i64 f)).set_ 18 (.int .i64 i)).set_ 19 (.int .i64 t)).set_ 20 (.int .i64 k)).set_ 21 (.slice none 0 0);simp only[bV,Zy]at s;exact⟨h.turn [7] s (fun _ _ _ _ _ _ e=>e) (by simp) (hF.mono fun j e=>.inl e)
  tI tI tI tI tI (.inl (bR.nil _ _ _ _ _)) tI tI tI tI tI,hF⟩
end
end
section
open Go.MapKept
def lY(R:Rf)(m:Mg):Bool:=!(decide (R.gath.frm=m.frm/\R.gath.idx=m.idx/\R.gath.term=m.logTerm/\R.gath.total=m.total/\m.offset≠0))
def gg(R:Rf)(m:Mg):Gt:=if lY R m=true then⟨m.frm,m.idx,m.logTerm,m.total,[]⟩else R.gath
def mC(R:Rf)(m:Mg):Bool:=decide (m.offset=(gg R m).data.length/\(gg R m).data.length+m.data.length<=m.total)
theorem yb(R:Rf)(m:Mg):R.gath1 m=if mC R m=true then {gg R m with data:=(gg R m).data++m.data}else gg R m:=by
 have e:gg R m=if R.gath.frm=m.frm/\R.gath.idx=m.idx/\R.gath.term=m.logTerm/\R.gath.total=m.total/\m.offset≠0 then R.gath else⟨m.frm,m.idx,m.logTerm,m.total,[]⟩:=by
  unfold gg lY;by_cases h:R.gath.frm=m.frm/\R.gath.idx=m.idx/\R.gath.term=m.logTerm/\R.gath.total=m.total/\m.offset≠0
  ·rw[if_pos h,if_neg (by simp[h])]
  ·rw[if_neg h,if_pos (by rw[decide_eq_false h];rfl)]
 unfold Rf.gath1;simp only;rw[<-e];unfold mC;by_cases h:m.offset=(gg R m).data.length/\((gg R m).data.length:Int)+m.data.length<=m.total
 ·rw[if_pos h,if_pos (by simpa using h)]
 ·rw[if_neg h,if_neg (by simpa using h)]
theorem ud{R:Rf}{m:Mg}(h:R.gath.data.length<=65536):(gg R m).data.length<=65536:=by
 unfold gg;split
 ·exact Nat.zero_le _
 ·exact h
theorem oW{R:Rf}{m:Mg}(h:R.gath.data.length<=65536)(ht:m.total<=65536):(R.gath1 m).data.length<=65536:=by
 rw[yb];split
 ·rename_i hp;have:=(of_decide_eq_true (show decide _=true from hp)).2;show((gg R m).data++m.data).length<=_;rw[List.length_append];omega
 ·exact ud h
theorem sk{R:Rf}{m:Mg}{x:Bool}(h:lY R m=x) :
  ((R.gath.frm !=m.frm)=true/\x=true)\/((R.gath.frm !=m.frm)=false/\(R.gath.idx !=m.idx)=true/\x=true)\/((R.gath.frm !=m.frm)=false/\(R.gath.idx !=m.idx)=false/\(R.gath.term !=m.logTerm)=true/\x=true)\/
  ((R.gath.frm !=m.frm)=false/\(R.gath.idx !=m.idx)=false/\(R.gath.term !=m.logTerm)=false/\(R.gath.total !=m.total)=true/\x=true)\/
  ((R.gath.frm !=m.frm)=false/\(R.gath.idx !=m.idx)=false/\(R.gath.term !=m.logTerm)=false/\(R.gath.total !=m.total)=false/\(m.offset==0)=x):=by
 subst h;unfold lY;by_cases h1:R.gath.frm=m.frm
 ·by_cases h2:R.gath.idx=m.idx
  ·by_cases h3:R.gath.term=m.logTerm
   ·by_cases h4:R.gath.total=m.total
    ·refine .inr (.inr (.inr (.inr ⟨by simp[h1],by simp[h2],by simp[h3],by simp[h4],?_⟩)));by_cases h5:m.offset=0 <;> simp[h1,h2,h3,h4,h5]
    ·exact .inr (.inr (.inr (.inl ⟨by simp[h1],by simp[h2],by simp[h3],by simp[h4],by simp[h4]⟩)))
   ·exact .inr (.inr (.inl ⟨by simp[h1],by simp[h2],by simp[h3],by simp[h3]⟩))
  ·exact .inr (.inl ⟨by simp[h1],by simp[h2],by simp[h2]⟩)
 ·exact .inl ⟨by simp[h1],by simp[h1]⟩
section
variable {aa:Nat->Nat}{b g N:Nat}{w wX:World}{R R1:Rf}{v:Rw}
theorem cT.raft2(h:cT aa b w g R1 N wX):∃ag v1,ax ag b wX g R1 v1/\(∀w' R2,ap ag b wX g R2 w'->cT aa b w g R2 N w'/\boxes w.heap.size N wX w')/\∀j,w.heap.size<=j->j<w.heap.size+N->j<wX.heap.size/\ag j=b:=by
 obtain⟨ag,v1,h1,h2,h3,h4,h5⟩:=h;exact⟨ag,v1,h1,fun w' R2 hP=>g9 h2 h3 h4 h5 hP,h5⟩
theorem Ep{K M:Nat}(m:Mg)(A1 A2:Option Addr)(n1 c1 n2 c2 mi:Nat)(h:ax aa b w g R v)(hk:Ok K M R)(hK:K<=100000)(hM:M<=60000)(ut:mi<=b\/b+13<mi)(hd:bP aa mi w (.slice A2 n2 c2) m.data)(hn:n2=m.data.length)(GM:n2<=160)
  (LI:0<=m.idx) (tL:m.idx<=1099511627776) (rI:0<=m.logTerm) (O5:m.logTerm<=1099511627776) (j3:0<=m.total) (cD:m.total<=1099511627776) :
  Calls prog 108 #[.pointer (some ⟨g,0,none⟩),eI m (.slice A1 n1 c1) (.slice A2 n2 c2)] w fun e w'=>e=.returned (.tuple #[])/\ap aa b w g (R.piece m) w':=by
 have cW:=h.s.lt;have fu:=(gE w 39 39 #[.int .i64 m.kind,.int .i64 m.frm,.int .i64 m.tgt,.int .i64 m.term,.int .i64 m.idx,.int .i64 m.logTerm,.int .i64 m.commit,.int .i64 m.round,.bool m.reject,.int .i64 m.offset,.int .i64 m.total,.slice A1 n1 c1,.slice A2 n2 c2] #[.int .i64 8,.int .i64 0,.int .i64 m.frm,.int .i64 0,.int .i64 m.idx,.int .i64 0,.int .i64 0,.int .i64 m.round,.bool false,.int .i64 0,.int .i64 0,.slice none 0 0,.slice none 0 0]);have Uf:Below w.heap.size w (w.alloc (.cells #[.int .i64 m.kind,.int .i64 m.frm,.int .i64 m.tgt,.int .i64 m.term,.int .i64 m.idx,.int .i64 m.logTerm,.int .i64 m.commit,.int .i64 m.round,.bool m.reject,.int .i64 m.offset,.int .i64 m.total,.slice A1 n1 c1,.slice A2 n2 c2] 39)):=zb.alloc zl _;have Xv:=ao.new w 39 #[.int .i64 m.kind,.int .i64 m.frm,.int .i64 m.tgt,.int .i64 m.term,.int .i64 m.idx,.int .i64 m.logTerm,.int .i64 m.commit,.int .i64 m.round,.bool m.reject,.int .i64 m.offset,.int .i64 m.total,.slice A1 n1 c1,.slice A2 n2 c2];obtain⟨aI,bM,Bt⟩:=fu;obtain⟨w1,ct⟩:=zN ((w.alloc (.cells #[.int .i64 m.kind,.int .i64 m.frm,.int .i64 m.tgt,.int .i64 m.term,.int .i64 m.idx,.int .i64 m.logTerm,.int .i64 m.commit,.int .i64 m.round,.bool m.reject,.int .i64 m.offset,.int .i64 m.total,.slice A1 n1 c1,.slice A2 n2 c2] 39)));rw[ct]at aI bM Bt Uf Xv;have FX:w1.heap.size=w.heap.size+1:=by rw[<-ct];simp
 obtain⟨w2,cZ⟩:=zN ((w1.alloc (.cells #[.int .i64 8,.int .i64 0,.int .i64 m.frm,.int .i64 0,.int .i64 m.idx,.int .i64 0,.int .i64 0,.int .i64 m.round,.bool false,.int .i64 0,.int .i64 0,.slice none 0 0,.slice none 0 0] 39)));rw[cZ]at aI bM Bt;have hX:=cT.start (N:=2) h aI (by have:=Bt.lt;omega);obtain⟨y1,y4,y5,y7,y10,-⟩:=Xv.cs [1,4,5,7,10];simp only[Zx]at y1 y4 y5 y7 y10;replace hn:=zH hn;replace ct:=zH ct;replace cZ:=zH cZ;unfold eI;simp only[vi];by_cases fO:m.idx=0\/m.logTerm=0\/¬(1<=m.total/\m.total<=65536)
 ·have hQ:=zH (show ap aa b w g (R.piece m) w1 by
   rw[show R.piece m=R by unfold Rf.piece;rw[if_pos fO]];exact(cT.start (N:=0) h Uf (by have:=Uf.size;omega)).post)
  have cB:(m.idx==0)=true\/((m.idx==0)=false/\(m.logTerm==0)=true)\/((m.idx==0)=false/\(m.logTerm==0)=false/\decide (1<=m.total/\m.total<=65536)=false):=by
   by_cases a:m.idx=0
   ·exact .inl (by simp[a])
   ·by_cases c:m.logTerm=0
    ·exact .inr (.inl ⟨by simp[a],by simp[c]⟩)
    ·exact .inr (.inr ⟨by simp[a],by simp[c],decide_eq_false fun hh=>by rcases fO with h|h|h;exact a h;exact c h;exact h hh⟩)
  replace fO:=zH fO;clear h hX hd hk;rcases cB with e1|⟨e1,e2⟩|⟨e1,e2,e3⟩
  ·go_enter func108,ntmps108;go_wp2_with fail;rw[ct.out];go_wp2_with fail;exact aP rfl rfl ⟨rfl,hQ.out⟩
  ·go_enter func108,ntmps108;go_wp2_with fail;rw[ct.out];go_wp2_with fail;exact aP rfl rfl ⟨rfl,hQ.out⟩
  ·have tE:=rM e3 w1;go_enter func108,ntmps108;go_wp2_with fail;rw[ct.out];go_wp2_with fail;refine tE.mono ?_;rintro e w9 ⟨rfl,rfl⟩;go_wp2_with fail;exact aP rfl rfl ⟨rfl,hQ.out⟩
 ·have e1:(m.idx==0)=false:=by simp;exact fun h=>fO (.inl h)
  have e2:(m.logTerm==0)=false:=by simp;exact fun h=>fO (.inr (.inl h))
  have hT:1<=m.total/\m.total<=65536:=by
   by_cases hh:1<=m.total/\m.total<=65536
   ·exact hh
   ·exact absurd (.inr (.inr hh)) fO
  have oN:1<=m.idx:=by
   rcases Int.lt_or_le 0 m.idx with h|h
   ·omega
   ·exact absurd (.inl (by omega)) fO
  have ql:1<=m.logTerm:=by
   rcases Int.lt_or_le 0 m.logTerm with h|h
   ·omega
   ·exact absurd (.inr (.inl (by omega))) fO
  have e3:decide (1<=m.total/\m.total<=65536)=true:=decide_eq_true hT;have tE:=rM e3 w1;obtain⟨SJ,YM⟩:=hT;have KH:R.piece m=if m.idx<=R.commit then R.send {dh with kind:=8,tgt:=m.frm,idx:=R.commit,round:=m.round}else
    (if((R.gath1 m).data.length:Int)<m.total then({R with gath:=R.gath1 m}:Rf).send {dh with kind:=8,tgt:=m.frm,idx:=m.idx,round:=m.round,offset:=(R.gath1 m).data.length,total:=m.total}else(({R with gath:=R.gath1 m}:Rf).install ⟨m.idx,m.logTerm,(R.gath1 m).data⟩).send {dh with kind:=8,tgt:=m.frm,idx:=m.idx,round:=m.round}):=by
   unfold Rf.piece;rw[if_neg fO]
  obtain⟨aan,vA,Pt,OV⟩:=hX.raft;have c12:=Pt.s.cell 12;simp only[bV,vi,Zx]at c12;have z4:=bM.cell 4;simp only[Zx]at z4;have qA:g<w2.heap.size:=Pt.s.lt;obtain⟨q12,q4⟩:=pU [g,w.heap.size] c12 z4;have xq:=hk.ms;have nB:w.heap.size+1<w2.heap.size:=Bt.lt;replace KH:=zH KH;replace fO:=zH fO;by_cases fd:m.idx<=R.commit
  ·have hA:=zH (show R.piece m=R.send (AO 8 m.frm R.commit m.round false 0 0) by rw[KH.out,if_pos fd];rfl);have PR:=((hX.set (j:=w.heap.size+1) (by omega) (by omega) (Fr.set (w:=w2) (w.heap.size+1) 4 (.int .i64 R.commit))).below (w':=(w2.setCell ⟨w.heap.size+1,4,none⟩ (.int .i64 R.commit)).drew) (zb.drew)).1;have hs:=PR.act (fun ag v1 h=>km 8 m.frm R.commit m.round false 0 0 h (by omega));unfold xH at hs;obtain⟨a0,a1,a2,a3,a4,a5,a6,a7,a8,a9,a10,a11,a12,-⟩:=Bt.cs [0,1,2,3,4,5,6,7,8,9,10,11,12];simp only[Zx]at a0 a1 a2 a3 a4 a5 a6 a7 a8 a9 a10 a11 a12;have u4:=Bt.free 4;replace hk:=zH hk;clear h hX PR Pt OV;go_enter func108,ntmps108;go_wp2_with fail;rw[ct.out];go_wp2_with fail;refine tE.mono ?_;rintro e w9 ⟨rfl,rfl⟩;go_wp2_with fail;rw[cZ.out];refine eE [g,w.heap.size] w2 [] [0,1,2,3,4,5,6] ?_;refine al ?_;simp only[ah,Zx];repeat go_big_quiet_step(fail)
   apply wpQuiet_nil;go_wp2_with fail;refine hs.mono ?_;rintro e w9 ⟨rfl,jk,_⟩;have hQ:=zH (show ap aa b w g (R.piece m) w9 from by rw[hA.out];exact jk.post);clear hs jk;go_wp2_with fail;exact aP rfl rfl ⟨rfl,hQ.out⟩
  ·have TW:=zH (KH.out.trans (if_neg fd));replace fd:=Int.not_le.1 fd;have tB:=(hX.below (w':=w2.drew) (zb.drew)).1;have tC:=zH (tB.below (w':=w2.drew.drew) (zb.drew)).1;obtain⟨d17,d18,d19,d20,-⟩:=Pt.s.cs [17,18,19,20];simp only[bV,vi,Zx]at d17 d18 d19 d20;obtain⟨x1,x4,x5,x9,x10,-⟩:=bM.cs [1,4,5,9,10];simp only[Zx]at x1 x4 x5 x9 x10;have p17:=ae (w:=w2.drew) (gs:=[g,w.heap.size]) d17 (by simp);have p18:=ae (w:=w2.drew) (gs:=[g,w.heap.size]) d18 (by simp);have p19:=ae (w:=w2.drew) (gs:=[g,w.heap.size]) d19 (by simp);have p20:=ae (w:=w2.drew) (gs:=[g,w.heap.size]) d20 (by simp);have r1:=ae (w:=w2.drew) (gs:=[g,w.heap.size]) x1 (by simp);have r4:=ae (w:=w2.drew) (gs:=[g,w.heap.size]) x4 (by simp);have r5:=ae (w:=w2.drew) (gs:=[g,w.heap.size]) x5 (by simp);have r9:=ae (w:=w2.drew) (gs:=[g,w.heap.size]) x9 (by simp);have r10:=ae (w:=w2.drew) (gs:=[g,w.heap.size]) x10 (by simp);obtain⟨x,hx⟩:=zN (lY R m);have yu:=hk.gat;replace hk:=zH hk;have Na:boxes w.heap.size 2 w2 w2:=fun _ _ _=>rfl
   clear Pt OV hX tB h;go_enter func108,ntmps108;go_wp2_with fail;rw[ct.out];go_wp2_with fail;refine tE.mono ?_;rintro e w9 ⟨rfl,rfl⟩;go_wp2_with fail;rw[cZ.out];refine eE [g,w.heap.size] w2 [] [0,1,2,3,4,5,6] ?_;refine al ?_;simp only[ah,Zx];repeat go_big_quiet_step(fail)
   apply wpQuiet_nil;go_wp2_with fail
   go_cut [83] (fun s83 wr=>s83=.bool x/\cT aa b w g R 2 wr/\boxes w.heap.size 2 w2 wr)
   case first=>
    have cB:=sk hx;clear hx;rcases cB with⟨e4,rfl⟩|⟨e4,e5,rfl⟩|⟨e4,e5,e6,rfl⟩|⟨e4,e5,e6,e7,rfl⟩|⟨e4,e5,e6,e7,e8⟩
    all_goals
     refine cK (C:=dS [g,w.heap.size] w2.drew) [] [0,1,2,3,4,5,6,7,8,9,10,11,12,13,14,15,16,17,18,19,20,21,22,23,24,25,26,27,28,29,30,31,32,33,34,35,36,37,38] (by kernel_rfl) (by kernel_rfl) (fun _ _ _ _ e h=>⟨e.symm.trans h.1,h.2⟩) aQ ?_;refine al ?_;simp only[ah,Zx];repeat go_big_quiet_step(fail)
     apply wpQuiet_nil;go_wp2_with fail
     go_meet
     exact⟨rfl,tC.out,Na⟩
   case rest=>
    obtain⟨VE,vJ,oa⟩:=hcut;subst VE
    rename World=>wc
    clear c12 z4 q12 q4 d17 d18 d19 d20 x1 x4 x5 x9 x10 p17 p18 p19 p20 r1 r4 r5 r9 r10 tC Na y1 y4 y5 y7 y10;have yH:ao wc w.heap.size 39 #[.int .i64 m.kind,.int .i64 m.frm,.int .i64 m.tgt,.int .i64 m.term,.int .i64 m.idx,.int .i64 m.logTerm,.int .i64 m.commit,.int .i64 m.round,.bool m.reject,.int .i64 m.offset,.int .i64 m.total,.slice A1 n1 c1,.slice A2 n2 c2]:=oa.blk zl (by omega) bM;obtain⟨x1,x4,x5,x10,-⟩:=yH.cs [1,4,5,10];simp only[Zx]at x1 x4 x5 x10;go_upto_if 83 with fail
    go_cut [] (fun wr=>cT aa b w g {R with gath:=gg R m} 2 wr/\boxes w.heap.size 2 w2 wr)
    case first=>
     cases x
     ·have IG:({R with gath:=gg R m}:Rf)=R:=by unfold gg;rw[hx];rfl
      replace IG:=zH IG;replace vJ:=zH vJ;go_wp2_with fail
      go_meet
      exact⟨by rw[IG.out];exact vJ.out,oa⟩
     ·have IG:gg R m=⟨m.frm,m.idx,m.logTerm,m.total,[]⟩:=by unfold gg;rw[hx];rfl
      replace IG:=zH IG;obtain⟨cJ,v3,h3,Fg⟩:=vJ.raft;obtain⟨d17,d18,d19,d20,d21,-⟩:=h3.s.cs [17,18,19,20,21];simp only[bV,vi,Zx]at d17 d18 d19 d20 d21;obtain⟨f17,f18,f19,f20,f21,-⟩:=h3.s.fs [17,18,19,20,21];have iy:g<wc.heap.size:=h3.s.lt;obtain⟨h4,jw⟩:=FT m.frm m.idx m.logTerm m.total h3;have Bo:ap cJ b wc g {R with gath:=⟨m.frm,m.idx,m.logTerm,m.total,[]⟩} _:=⟨cJ,_,h4,fun _ _ _=>rfl,fun _ _ h=>h,jw.mono fun j e=>by rw[e];have:=h3.sl;exact⟨by omega,by omega⟩⟩;obtain⟨KK,cO⟩:=Fg _ _ Bo;have T8:=zH KK;have Ub:=oa.trans cO;clear h3 h4 jw Bo KK cO Fg vJ;go_wp2_with fail
      go_meet
      exact⟨by rw[IG.out];exact T8.out,Ub⟩
    case rest=>
     rename World=>wd
     obtain⟨tB,qi⟩:=hcut;clear x1 x4 x5 x10 yH oa vJ;have Q2:=ud (m:=m) yu;obtain⟨y,hy⟩:=zN (mC R m);have iM:=yb R m;have IP:y=decide (m.offset=((gg R m).data.length:Int)/\((gg R m).data.length:Int)+m.data.length<=m.total):=by rw[<-hy];unfold mC;rfl
     rw[hy]at iM;obtain⟨g0,IG⟩:=zN (gg R m);rw[IG]at tB Q2 iM IP;obtain⟨Kc,v4,h4,DS,U0⟩:=tB.raft2;obtain⟨A4,c4,bW,_⟩:=id h4.gd;have ur:ao wd w.heap.size 39 #[.int .i64 m.kind,.int .i64 m.frm,.int .i64 m.tgt,.int .i64 m.term,.int .i64 m.idx,.int .i64 m.logTerm,.int .i64 m.commit,.int .i64 m.round,.bool m.reject,.int .i64 m.offset,.int .i64 m.total,.slice A1 n1 c1,.slice A2 n2 c2]:=qi.blk zl (by omega) bM;obtain⟨n4,GN⟩:=zN (g0.data.length);have d21:wd.cell? ⟨g,21,none⟩=some (.slice A4 n4 c4):=by
      have:=h4.s.cell 21;simp only[bV,Zx]at this;rw[this,bW,<-GN]
     have lq:g<wd.heap.size:=h4.s.lt;have ZC:n4<=65536:=by omega
     obtain⟨x9,x10,x12,-⟩:=ur.cs [9,10,12];simp only[Zx]at x9 x10 x12;obtain⟨q21,q9,q10,q12⟩:=IA [g,w.heap.size] d21 x9 x10 x12;have tC:=zH (tB.below (w':=wd.drew) (zb.drew)).1;have cB:((m.offset==(n4:Int))=false/\y=false)\/((m.offset==(n4:Int))=true/\m.total-n4<n2/\y=false)\/((m.offset==(n4:Int))=true/\(n2:Int)<=m.total-n4/\y=true):=by
      rw[GN,<-hn.out]at IP;by_cases a:m.offset=(n4:Int)
      ·rcases Int.lt_or_le (m.total-n4) n2 with h|h
       ·exact .inr (.inl ⟨by simp[a],h,by rw[IP];exact decide_eq_false fun hh=>by have:=hh.2;omega⟩)
       ·exact .inr (.inr ⟨by simp[a],h,by rw[IP];exact decide_eq_true ⟨a,by omega⟩⟩)
      ·exact .inl ⟨by simp[a],by rw[IP];exact decide_eq_false fun hh=>a hh.1⟩
     replace GN:=zH GN;replace iM:=zH iM;clear h4 DS U0 bW IP hy IG tB;go_wp2_with fail
     go_cut [116] (fun s116 wr=>s116=.bool y/\cT aa b w g {R with gath:=g0} 2 wr/\boxes w.heap.size 2 w2 wr)
     case first=>
      rcases cB with⟨e4,rfl⟩|⟨e4,e5,rfl⟩|⟨e4,e5,rfl⟩
      all_goals
       refine eE [g,w.heap.size] wd [] [0,1,2,3,4,5,6,7,8,9,10,11,12,13,14,15,16,17,18,19,20,21] ?_;refine al ?_;simp only[ah,Zx];repeat go_big_quiet_step(fail)
       apply wpQuiet_nil;go_wp2_with fail
       go_meet
       exact⟨by first|rfl|(congr 1;exact decide_eq_false (by omega))|(congr 1;exact decide_eq_true (by omega)),tC.out,qi⟩
     case rest=>
      obtain⟨hs,Ms,CE⟩:=hcut;subst hs
      rename World=>we
      clear d21 x9 x10 x12 q21 q9 q10 q12 tC ur qi;go_upto_if 116 with fail
      go_cut [] (fun wr=>cT aa b w g {R with gath:=R.gath1 m} 2 wr/\boxes w.heap.size 2 w2 wr)
      case first=>
       cases y
       ·have MU:=zH (iM.out.trans (if_neg (by simp)));replace Ms:=zH Ms;go_wp2_with fail
        go_meet
        exact⟨by rw[MU.out];exact Ms.out,CE⟩
       ·have MU:=zH (iM.out.trans (if_pos rfl));obtain⟨_,_,_,⟨A2',c2',e9,gp,_⟩⟩:=Ms.byt ut hd;injection e9 with e90 e91 e92;subst e90;subst e92;have JZ:Rd we A2 n2 m.data:=by rw[e91];exact gp
        replace e91:=zH e91;obtain⟨dU,v5,h5,GO,QZ⟩:=Ms.raft2;obtain⟨A5,c5,dK,dq,oY⟩:=id (h5.below (w':=we.drew) (zb.drew)).gd;have XE:ao we w.heap.size 39 #[.int .i64 m.kind,.int .i64 m.frm,.int .i64 m.tgt,.int .i64 m.term,.int .i64 m.idx,.int .i64 m.logTerm,.int .i64 m.commit,.int .i64 m.round,.bool m.reject,.int .i64 m.offset,.int .i64 m.total,.slice A1 n1 c1,.slice A2 n2 c2]:=CE.blk zl (by omega) bM;have ry:g<we.heap.size:=h5.s.lt;rw[GN.out]at dK dq;have d21:we.cell? ⟨g,21,none⟩=some (.slice A5 n4 c5):=by
         have:=h5.s.cell 21;simp only[bV,Zx]at this;rw[this,dK]
        have x12:=XE.cell 12;simp only[Zx]at x12;obtain⟨q21,q12⟩:=pU [g,w.heap.size] d21 x12;have fw:n4+n2<=1000000000:=by omega
        have aE:∀(A6:Option Addr) (c6:Nat) (w6:World),w6.ownsRow 0 5 1 (.slice A6 (n4+n2) c6) (n4+n2) ((g0.data++m.data).map vb)->Fr (aA A5) we.drew w6->(∀j,aA A6 j->aA A5 j\/we.drew.heap.size<=j)->
          w6.heap[g]?=we.heap[g]?/\w6.heap[w.heap.size]?=we.heap[w.heap.size]?/\ao w6 g 107 (bV {R with gath:=g0} v5)/\cT aa b w g {R with gath:=R.gath1 m} 2 (w6.setCell ⟨g,21,none⟩ (.slice A6 (n4+n2) c6))/\boxes w.heap.size 2 w2 (w6.setCell ⟨g,21,none⟩ (.slice A6 (n4+n2) c6)):=fun A6 c6 w6 vY kV Fi=>by
         obtain⟨vG,Mk,mN,Yw⟩:=Du (h5.below (w':=we.drew) (zb.drew)) dK hn.out vY kV Fi;obtain⟨Ji,iT⟩:=GO _ _ (vG.behind (w:=we) (zb.drew));have JO:=QZ w.heap.size zl (by omega);refine⟨mN.trans h5.s.symm,Yw.block w.heap.size JO.1 fun hh=>?_,mN,by rw[MU.out];exact Ji,CE.trans iT⟩;rcases hh with hh|hh
         ·rw[JO.2]at hh;omega
         ·omega
        clear h5 GO QZ Ms gp oY XE;have Vq:Rd we.drew A2 n2 m.data:=JZ;go_wp2_with fail;refine nj [g,w.heap.size] we [([0,1,2,3,4,5,6],7)] ([8,9],10) ?_;refine aq fun K3 jY=>?_
        simp only[ah,Zx];repeat go_big_quiet_step(fail)
        apply wpQuiet_nil;go_wp2_with (at_builtin;refine ic rfl (.tmp 121) (.tmp 123) rfl 0 rfl dq rfl Vq fw zz ?_;intro A6 c6 w6 vY kV Fi;obtain⟨cA,eY,mN,Ji,iT⟩:=aE A6 c6 w6 vY kV Fi;replace Ji:=zH Ji;clear aE vY kV Fi);refine⟨bO cA eY,jY _ _ ?_⟩;have f21:=mN.free 21;have e21:=mN.cell 21;simp only[bV,Zx]at e21;refine aC ?_;simp only[ah,Zx];repeat go_big_quiet_step(fail)
        apply wpQuiet_nil;go_wp2_with fail
        go_meet
        exact⟨Ji.out,iT⟩
      case rest=>
       rename World=>wf
       obtain⟨OH,MG⟩:=hcut;clear Ms CE;have GF:=oW (m:=m) yu YM;obtain⟨g1,vQ⟩:=zN (R.gath1 m);have Dz:=TW.out;rw[vQ]at OH GF Dz;obtain⟨D5,v6,h6,Nh,Q1⟩:=OH.raft2;obtain⟨A6,c6,fM,_⟩:=id h6.gd;obtain⟨n6,DT⟩:=zN (g1.data.length);have us:ao wf w.heap.size 39 #[.int .i64 m.kind,.int .i64 m.frm,.int .i64 m.tgt,.int .i64 m.term,.int .i64 m.idx,.int .i64 m.logTerm,.int .i64 m.commit,.int .i64 m.round,.bool m.reject,.int .i64 m.offset,.int .i64 m.total,.slice A1 n1 c1,.slice A2 n2 c2]:=MG.blk zl (by omega) bM;have SL:ao wf (w.heap.size+1) 39 #[.int .i64 8,.int .i64 0,.int .i64 m.frm,.int .i64 0,.int .i64 m.idx,.int .i64 0,.int .i64 0,.int .i64 m.round,.bool false,.int .i64 0,.int .i64 0,.slice none 0 0,.slice none 0 0]:=MG.blk (by omega) (by omega) Bt;have Y6:g<wf.heap.size:=h6.s.lt;rw[DT]at GF Dz;have J6:v6.gat=.slice A6 n6 c6:=by rw[fM,<-DT]
       have d21:wf.cell? ⟨g,21,none⟩=some (.slice A6 n6 c6):=by
        have:=h6.s.cell 21;simp only[bV,Zx]at this;rw[this,J6]
       obtain⟨x4,x5,x10,-⟩:=us.cs [4,5,10];simp only[Zx]at x4 x5 x10;obtain⟨a0,a1,a2,a3,a4,a5,a6,a7,a8,a9,a10,a11,a12,-⟩:=SL.cs [0,1,2,3,4,5,6,7,8,9,10,11,12];simp only[Zx]at a0 a1 a2 a3 a4 a5 a6 a7 a8 a9 a10 a11 a12;obtain⟨u9,u10,-⟩:=SL.fs [9,10];obtain⟨q21,q10⟩:=pU [g,w.heap.size] d21 x10;have p21:=ae (w:=wf.drew) (gs:=[g,w.heap.size]) d21 (by simp);have p10:=ae (w:=wf.drew) (gs:=[g,w.heap.size]) x10 (by simp);have p4:=ae (w:=wf.drew) (gs:=[g,w.heap.size]) x4 (by simp);have p5:=ae (w:=wf.drew) (gs:=[g,w.heap.size]) x5 (by simp);have WT:w.heap.size+1<wf.heap.size:=SL.lt;have Mt:=(OH.below (w':=wf.drew) (zb.drew)).1;have KM:=(Mt.below (w':=wf.drew.drew) (zb.drew)).1;have dA:∀q∈[g,w.heap.size],q<wf.heap.size:=by simp;exact⟨Y6,by omega⟩
       have fe:∀q∈[g,w.heap.size],q≠w.heap.size+1:=by simp;omega
       by_cases aU:(n6:Int)<m.total
       ·have hA:=zH (show R.piece m=({R with gath:=g1}:Rf).send (AO 8 m.frm m.idx m.round false n6 m.total) by rw[Dz,if_pos aU];rfl);have Xa:=((((OH.set (j:=w.heap.size+1) (by omega) (by omega) ((Fr.set (w:=wf) (w.heap.size+1) 9 (.int .i64 n6)).trans (Fr.set (w.heap.size+1) 10 (.int .i64 m.total)) fun _ h=>.inl h))).below (w':=((wf.setCell ⟨w.heap.size+1,9,none⟩ (.int .i64 n6)).setCell ⟨w.heap.size+1,10,none⟩ (.int .i64 m.total)).drew) (zb.drew)).1.below (w':=(((wf.setCell ⟨w.heap.size+1,9,none⟩ (.int .i64 n6)).setCell ⟨w.heap.size+1,10,none⟩ (.int .i64 m.total)).drew).drew) (zb.drew)).1;have hs:=Xa.act (fun ag v1 h=>km 8 m.frm m.idx m.round false n6 m.total h (by show R.out.msgs.length<=_;omega));unfold xH at hs;clear h6 Nh Q1 OH Mt KM Xa Dz DT J6 fM vQ;go_wp2_with fail;refine eE [g,w.heap.size] wf [] [0,1,2,3,4,5,6,7] ?_;refine al ?_;simp only[ah,Zx];repeat go_big_quiet_step(fail)
        apply wpQuiet_nil;go_wp2_with fail;refine bU (C:=dS [g,w.heap.size] wf.drew) [([0,1,2,3,4,5,6,7],8)] ([9],10) (by kernel_rfl) (by kernel_rfl) (fun _ _ _ _ e h=>⟨e.symm.trans h.1,h.2⟩) aQ ?_;refine aq fun K4 ro=>?_
        simp only[ah,Zx];repeat go_big_quiet_step(fail)
        apply wpQuiet_nil;go_wp2_with fail;refine⟨gV aQ fe dA,ro _ _ ?_⟩;refine aC ?_;simp only[ah,Zx];repeat go_big_quiet_step(fail)
        apply wpQuiet_nil;go_wp2_with fail;refine hs.mono ?_;rintro e w9 ⟨rfl,jk,_⟩;have hQ:=zH (show ap aa b w g (R.piece m) w9 from by rw[hA.out];exact jk.post);clear hs jk;go_wp2_with fail;exact aP rfl rfl ⟨rfl,hQ.out⟩
       ·have hA:=zH (show R.piece m=(({R with gath:=g1}:Rf).install ⟨m.idx,m.logTerm,g1.data⟩).send (AO 8 m.frm m.idx m.round false 0 0) by rw[Dz,if_neg aU];rfl);replace aU:=Int.not_lt.1 aU;have SU:Ok K M ({R with gath:=g1}:Rf):={hk.out with gat:=by show g1.data.length<=_;rw[DT];exact GF};have QN:=yR m.idx m.logTerm ((h6.below (w':=wf.drew) (zb.drew)).below (w':=wf.drew.drew) (zb.drew)) SU hK oN tL ql O5 DT.symm J6;have cu:=zH (show ∀w7,ap D5 b wf.drew.drew g (({R with gath:=g1}:Rf).install ⟨m.idx,m.logTerm,g1.data⟩) w7->cT aa b w g (({R with gath:=g1}:Rf).install ⟨m.idx,m.logTerm,g1.data⟩) 2 w7/\boxes w.heap.size 2 wf w7 from fun w7 hP=>Nh _ _ ((hP.behind (w:=wf.drew) (zb.drew)).behind (w:=wf) (zb.drew)));have U9:(({R with gath:=g1}:Rf).install ⟨m.idx,m.logTerm,g1.data⟩).out.msgs.length<=100000:=by
         rw[nE];unfold rO;split <;> (show R.out.msgs.length<=_;omega)
        clear h6 Nh Q1 OH Mt KM Dz DT J6 fM vQ SU;go_wp2_with fail;refine eE [g,w.heap.size] wf [] [0,1,2,3,4,5,6,7] ?_;refine al ?_;simp only[ah,Zx];repeat go_big_quiet_step(fail)
        apply wpQuiet_nil;go_wp2_with fail;refine bU (C:=dS [g,w.heap.size] wf.drew) [] ([0,1,2,3,4,5,6,7,8,9],10) (by kernel_rfl) (by kernel_rfl) (fun _ _ _ _ e h=>⟨e.symm.trans h.1,h.2⟩) aQ ?_;refine aC ?_;simp only[ah,Zx];repeat go_big_quiet_step(fail)
        apply wpQuiet_nil;go_wp2_with fail;refine QN.mono ?_;rintro e w7 ⟨rfl,Bp⟩;obtain⟨KL,iw⟩:=cu.out _ Bp;have Xb:ao w7 (w.heap.size+1) 39 #[.int .i64 8,.int .i64 0,.int .i64 m.frm,.int .i64 0,.int .i64 m.idx,.int .i64 0,.int .i64 0,.int .i64 m.round,.bool false,.int .i64 0,.int .i64 0,.slice none 0 0,.slice none 0 0]:=iw.blk (by omega) (by omega) SL;clear QN Bp cu a0 a1 a2 a3 a4 a5 a6 a7 a8 a9 a10 a11 a12 u9 u10;obtain⟨a0,a1,a2,a3,a4,a5,a6,a7,a8,a9,a10,a11,a12,-⟩:=Xb.cs [0,1,2,3,4,5,6,7,8,9,10,11,12];simp only[Zx]at a0 a1 a2 a3 a4 a5 a6 a7 a8 a9 a10 a11 a12;have hs:=KL.act (fun ag v1 h=>km 8 m.frm m.idx m.round false 0 0 h U9);unfold xH at hs;clear KL Xb;go_wp2_with fail;refine hs.mono ?_;rintro e w9 ⟨rfl,jk,_⟩;have hQ:=zH (show ap aa b w g (R.piece m) w9 from by rw[hA.out];exact jk.post);clear hs jk;go_wp2_with fail;exact am rfl rfl ⟨rfl,hQ.out⟩
end
end
end Go.Proofs.YtjcninheccmpoaaGreat
