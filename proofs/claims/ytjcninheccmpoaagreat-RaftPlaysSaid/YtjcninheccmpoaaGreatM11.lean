import Derived.Test.YtjcninheccmpoaaGreatM10
set_option maxRecDepth 100000
set_option maxHeartbeats 8000000
set_option linter.all false
namespace Go.Proofs.YtjcninheccmpoaaGreat
open Go.RowKit Go.Proofs.Tryz
def bX(w:World)(p:Nat)(O:Ot)(Y:Oy):World:=
 (((((((((((w.setCell ⟨p,0,none⟩ (.bool O.save)).setCell ⟨p,1,none⟩ (.bool O.reset)).setCell ⟨p,2,none⟩ (.int .i64 O.hard.term)).setCell ⟨p,3,none⟩ (.int .i64 O.hard.vote)).setCell ⟨p,4,none⟩ (.slice Y.ea O.entries.length Y.ec)).setCell ⟨p,5,none⟩ (.slice Y.ca O.commits.length Y.cc)).setCell ⟨p,6,none⟩ (.bool O.snap.isSome)).setCell ⟨p,7,none⟩ (.int .i64 (ju O.snap))).setCell ⟨p,8,none⟩ (.int .i64 (jt O.snap))).setCell ⟨p,9,none⟩ (.slice Y.sa (ns O.snap).length Y.sc)).setCell ⟨p,10,none⟩ (.slice Y.ra O.reads.length Y.rc)).setCell ⟨p,11,none⟩ (.slice Y.ma O.msgs.length Y.mc)
theorem oU(w:World)(p:Nat)(O:Ot)(Y:Oy):Fr (fun j=>j=p) w (bX w p O Y):=
 have e:∀{a b:World},Fr (fun j=>j=p) w a->Fr (fun j=>j=p) a b->Fr (fun j=>j=p) w b:=fun h h'=>h.trans h' fun _ h=>.inl h
 e (e (e (e (e (e (e (e (e (e (e (Fr.set p _ _) (Fr.set p _ _)) (Fr.set p _ _)) (Fr.set p _ _)) (Fr.set p _ _)) (Fr.set p _ _)) (Fr.set p _ _)) (Fr.set p _ _)) (Fr.set p _ _)) (Fr.set p _ _)) (Fr.set p _ _)) (Fr.set p _ _)
theorem je{w:World}{p:Nat}{T:TypeId}(O:Ot)(Y:Oy)(h:ar w p T aX):ar (bX w p O Y) p T (aZ O Y):=by
 have s:=(((((((((((h.set_ 0 (.bool O.save)).set_ 1 (.bool O.reset)).set_ 2 (.int .i64 O.hard.term)).set_ 3 (.int .i64 O.hard.vote)).set_ 4 (.slice Y.ea O.entries.length Y.ec)).set_ 5 (.slice Y.ca O.commits.length Y.cc)).set_ 6 (.bool O.snap.isSome)).set_ 7 (.int .i64 (ju O.snap))).set_ 8 (.int .i64 (jt O.snap))).set_ 9 (.slice Y.sa (ns O.snap).length Y.sc)).set_ 10 (.slice Y.ra O.reads.length Y.rc)).set_ 11 (.slice Y.ma O.msgs.length Y.mc);simp only[aX,Zy]at s;exact s
section
variable {aa cx:Nat->Nat}{c q g p:Nat}{w w' w1 wX:World}{R R1:Rf}{v:Aw}{O:Ot}{Y:Oy}
theorem fT(ha:aL c q)(hP:au (ai aa w.heap.size (q+c+10)) c q w1 g R1 wX)(aI:Below w.heap.size w w1)(hp:w.heap.size<=p)(hk:ar w1 p 52 aX) :
  Calls prog 54 #[.pointer (some ⟨g,0,none⟩)] wX fun e w'=>∃Y,e=.returned (.agg (aZ R1.tell.1 Y))/\ar w' p 52 aX/\ar (bX w' p R1.tell.1 Y) p 52 (aZ R1.tell.1 Y)/\
   cU aa c q w g R1.tell.1 R1.tell.2 Y (bX w' p R1.tell.1 Y):=by
 obtain⟨ag,v1,h1,cy,gR⟩:=hP;refine(xC ha h1).mono ?_;rintro e w' ⟨Y,rfl,ak,v',q1,q2,q3,q4,q5⟩;have mx:=hk.lt;have hs:=aI.size;have rl:=gR.size;have e0:ai aa w.heap.size (q+c+10) p=q+c+10:=ay hp;have rD:¬aT (ai aa w.heap.size (q+c+10)) c p:=fun hh=>by unfold aT at hh;omega
 have e1:ag p=q+c+10:=(cy p mx).trans e0;have iI:¬aT ag c p:=fun hh=>by unfold aT at hh;omega
 have e2:ak p=q+c+10:=(q3 p (by omega) iI).trans e1;have BK:ar w' p 52 aX:=(q5.block p (by omega) iI).trans ((gR.block p mx rD).trans hk);have hF:=oU w' p R1.tell.1 Y;have iw:∀j,j<w.heap.size->ag j=aa j:=fun j hj=>(cy j (by omega)).trans (ac hj)
 refine⟨Y,rfl,BK,je _ _ BK,ak,v',q1.keep fun j hj dM=>hF.block j dM fun e=>?_,q2.keep fun j hj dM=>hF.block j dM fun e=>?_,fun j hj hm=>?_,fun j hj hm=>q4 j (by omega) ((eZ iw hj).2 hm),?_⟩
 ·unfold dC at hj;rw[e,e2]at hj;omega
 ·rw[e,e2]at hj;omega
 ·exact(q3 j (by omega) fun h=>hm ((eZ iw hj).1 h)).trans (iw j hj)
 ·refine(((Fr.of_below (X:=aT aa c) aI).trans gR fun j hj=>fH (fun _ hj=>ac hj) hj).trans q5 fun j hj=>fH iw hj).trans hF fun j e=>.inr (by omega)
theorem ET(h:aJ (ai aa w.heap.size (q+c+10)) c q w1 g R v)(aI:Below w.heap.size w w1):cU aa c q w g dZ R lg w1:=
 ⟨_,v,h,jP.zero _ _ _,fun j hj _=>ac hj,fun j hj hm=>.inl ((eZ (fun _ hj=>ac hj) hj).2 hm),Fr.of_below aI⟩
end
section
variable {aa:Nat->Nat}{c q g:Nat}{w:World}{R:Rf}{v:Aw}
theorem EJ{K M:Nat}(draw:Int)(ha:aL c q)(h:aJ aa c q w g R v)(hk:Ok K M R)(ct:1<=K)(hK:K<=50000)(hM:M<=20000)(hi:R.track.index<=R.commit)(zo:-9223372036854775808<=draw)(B9:draw<=9223372036854775807)(ZD:0<=R.wait)(bV:R.wait<=100) :
  Calls prog 18 #[.pointer (some ⟨g,0,none⟩),.int .i64 draw] w fun e w'=>∃Y,e=.returned (.agg (aZ (R.tick draw).1 Y))/\cU aa c q w g (R.tick draw).1 (R.tick draw).2 Y w':=by
 have cQ:=h.s.lt;have re:=hk.ck;have qX:=hk.tm;obtain⟨c9,c11,c12,c2,c15,-⟩:=h.s.cs [9,11,12,2,15];simp only[bj,vi,Zx]at c9 c11 c12 c2 c15;obtain⟨f11,f12,f15,-⟩:=h.s.fs [11,12,15];have Th:0<=R.clock/\R.clock<=50000:=by omega
 have Wb:0<=R.round/\R.round<=50000:=by omega
 have vZ:g≠w.heap.size:=by omega
 have iQ:g<w.heap.size+1:=by omega
 have eS:=At draw (w.alloc (.cells #[.bool false,.bool false,.int .i64 0,.int .i64 0,.slice none 0 0,.slice none 0 0,.bool false,.int .i64 0,.int .i64 0,.slice none 0 0,.slice none 0 0,.slice none 0 0] 52)) zo B9;obtain⟨W0,Lf⟩:∃x,gG draw=x:=⟨_,rfl⟩;have hWb:10<=W0/\W0<30:=by rw[<-Lf];unfold gG;omega
 rw[Lf]at eS;replace Lf:=zH Lf;by_cases hr:R.role=3
 ·have N9:(R.role==3)=true:=by simp[hr]
  by_cases V2:2<=R.clock+1
  ·skip
   have s2:=(((h.s.set_ 11 (.int .i64 (R.clock+1))).set_ 11 (.int .i64 0)).set_ 15 (.int .i64 (R.round+1)));simp only[bj,Zy]at s2;obtain⟨ws,fO⟩:=zN ((((w.setCell ⟨g,11,none⟩ (.int .i64 (R.clock+1))).setCell ⟨g,11,none⟩ (.int .i64 0)).setCell ⟨g,15,none⟩ (.int .i64 (R.round+1))));have di:Fr (fun j=>j=g) w ws:=by rw[<-fO];exact((Fr.set g 11 _).trans (Fr.set g 11 _) fun _ h=>.inl h).trans (Fr.set g 15 _) fun _ h=>.inl h
   have gu:ws.heap.size=w.heap.size:=by rw[<-fO];simp[World.setCell]
   rw[fO]at s2;have h2:=h.nums (R':=({R with clock:=0,round:=R.round+1}:Rf)) ha s2 di rfl rfl rfl rfl rfl rfl rfl rfl rfl rfl rfl;have nQ:=zH (show R.tick draw=Rf.tell (Rf.all ({R with clock:=0,round:=R.round+1}:Rf)) by
    unfold Rf.tick Rf.beats;simp only;rw[if_pos hr,if_pos V2])
   have aI:Below ws.heap.size ws (ws.alloc (.cells aX 52)):=zb.alloc zl _;have fA:=ar.new ws 52 aX;obtain⟨w1,eN⟩:=zN (ws.alloc (.cells #[.bool false,.bool false,.int .i64 0,.int .i64 0,.slice none 0 0,.slice none 0 0,.bool false,.int .i64 0,.int .i64 0,.slice none 0 0,.slice none 0 0,.slice none 0 0] 52));rw[show ws.alloc (.cells aX 52)=w1 from eN]at aI fA;rw[gu]at fA;have qo:ws.heap.size<=w.heap.size:=by omega
   have h3:=au.refl (h2.fresh (q+c+10) aI);have ru:Fr (aT aa c) w ws:=di.mono fun j e=>by rw[e];have:=h.sl;exact⟨by omega,by omega⟩
   have ci:=zH (fun O R' Y wE (hT:cU aa c q ws g O R' Y wE)=>hT.next (fun _ _=>rfl) ru);have cB:Ok (K+1) M ({R with clock:=0,round:=R.round+1}:Rf):=(hk.mono (Nat.le_succ K) (Nat.le_refl M)).turn_out rfl rfl rfl rfl rfl rfl rfl rfl rfl rfl rfl ⟨Int.le_refl 0,Int.natCast_nonneg _,by show 0<=R.round+1;omega,by show R.round+1<=_;omega⟩ rfl rfl rfl rfl;have jz:=cB.peers hr (by omega);have yj:=h3.call fun bu v2 h2=>oK ha h2 jz (by have:=cB.ms;omega)
   replace fO:=zH fO;replace eN:=zH eN;replace hk:=zH hk;clear eS cB jz hr;clear h h2 s2 di ru re;go_enter func18,ntmps18;go_wp2_with fail;rw[fO.out,eN.out];try go_wp2_with fail
   refine yj.mono ?_;rintro e w5 ⟨rfl,nu⟩;clear yj h3;have cf:=fT ha nu aI qo fA;obtain⟨O,hO⟩:=zN (Rf.tell (Rf.all ({R with clock:=0,round:=R.round+1}:Rf)));rw[hO]at cf;have ji:=zH ((nQ.out).trans hO);replace hO:=zH hO;unfold aZ at cf;go_wp2_with fail;refine cf.mono ?_;rintro e w8 ⟨Y,rfl,fZ,mV,iB⟩;have ue:=fZ.lt;obtain⟨z0,z1,z2,z3,z4,z5,z6,z7,z8,z9,z10,z11,-⟩:=fZ.cs [0,1,2,3,4,5,6,7,8,9,10,11];simp only[aX,Zx]at z0 z1 z2 z3 z4 z5 z6 z7 z8 z9 z10 z11;obtain⟨y0,y1,y2,y3,y4,y5,y6,y7,y8,y9,y10,y11,-⟩:=fZ.fs [0,1,2,3,4,5,6,7,8,9,10,11];obtain⟨wE,dk⟩:=zN (bX w8 w.heap.size O.1 Y);rw[dk]at mV iB;replace dk:=zH dk;replace iB:=zH iB;clear cf fZ;go_wp2_with fail;show bodyPost _ _ _ _ _ (bX w8 w.heap.size O.1 Y);rw[dk.out];obtain⟨r0,r1,r2,r3,r4,r5,r6,r7,r8,r9,r10,r11,-⟩:=mV.cs [0,1,2,3,4,5,6,7,8,9,10,11];simp only[aZ,Zx]at r0 r1 r2 r3 r4 r5 r6 r7 r8 r9 r10 r11;exact bodyPost_ret (v:=.agg (aZ O.1 Y)) (by simp[results,results18,go_sem,aZ,r0,r1,r2,r3,r4,r5,r6,r7,r8,r9,r10,r11]) rfl ⟨Y,by rw[ji.out],by rw[ji.out];exact ci.out _ _ _ _ iB.out⟩
  ·skip
   have s2:=(h.s.set_ 11 (.int .i64 (R.clock+1)));simp only[bj,Zy]at s2;obtain⟨ws,fO⟩:=zN ((w.setCell ⟨g,11,none⟩ (.int .i64 (R.clock+1))));have di:Fr (fun j=>j=g) w ws:=by rw[<-fO];exact Fr.set g 11 _
   have gu:ws.heap.size=w.heap.size:=by rw[<-fO];simp[World.setCell]
   rw[fO]at s2;have h2:=h.nums (R':=({R with clock:=R.clock+1}:Rf)) ha s2 di rfl rfl rfl rfl rfl rfl rfl rfl rfl rfl rfl;have nQ:=zH (show R.tick draw=Rf.tell (({R with clock:=R.clock+1}:Rf)) by
    unfold Rf.tick Rf.beats;simp only;rw[if_pos hr,if_neg V2])
   have aI:Below ws.heap.size ws (ws.alloc (.cells aX 52)):=zb.alloc zl _;have fA:=ar.new ws 52 aX;obtain⟨w1,eN⟩:=zN (ws.alloc (.cells #[.bool false,.bool false,.int .i64 0,.int .i64 0,.slice none 0 0,.slice none 0 0,.bool false,.int .i64 0,.int .i64 0,.slice none 0 0,.slice none 0 0,.slice none 0 0] 52));rw[show ws.alloc (.cells aX 52)=w1 from eN]at aI fA;rw[gu]at fA;have qo:ws.heap.size<=w.heap.size:=by omega
   have h3:=au.refl (h2.fresh (q+c+10) aI);have ru:Fr (aT aa c) w ws:=di.mono fun j e=>by rw[e];have:=h.sl;exact⟨by omega,by omega⟩
   have ci:=zH (fun O R' Y wE (hT:cU aa c q ws g O R' Y wE)=>hT.next (fun _ _=>rfl) ru);replace fO:=zH fO;replace eN:=zH eN;replace hk:=zH hk;clear eS hr;clear h h2 s2 di ru re;go_enter func18,ntmps18;go_wp2_with fail;rw[fO.out,eN.out];try go_wp2_with fail
   have cf:=fT ha h3 aI qo fA;obtain⟨O,hO⟩:=zN (Rf.tell (({R with clock:=R.clock+1}:Rf)));rw[hO]at cf;have ji:=zH ((nQ.out).trans hO);replace hO:=zH hO;unfold aZ at cf;go_wp2_with fail;refine cf.mono ?_;rintro e w8 ⟨Y,rfl,fZ,mV,iB⟩;have ue:=fZ.lt;obtain⟨z0,z1,z2,z3,z4,z5,z6,z7,z8,z9,z10,z11,-⟩:=fZ.cs [0,1,2,3,4,5,6,7,8,9,10,11];simp only[aX,Zx]at z0 z1 z2 z3 z4 z5 z6 z7 z8 z9 z10 z11;obtain⟨y0,y1,y2,y3,y4,y5,y6,y7,y8,y9,y10,y11,-⟩:=fZ.fs [0,1,2,3,4,5,6,7,8,9,10,11];obtain⟨wE,dk⟩:=zN (bX w8 w.heap.size O.1 Y);rw[dk]at mV iB;replace dk:=zH dk;replace iB:=zH iB;clear cf fZ;go_wp2_with fail;show bodyPost _ _ _ _ _ (bX w8 w.heap.size O.1 Y);rw[dk.out];obtain⟨r0,r1,r2,r3,r4,r5,r6,r7,r8,r9,r10,r11,-⟩:=mV.cs [0,1,2,3,4,5,6,7,8,9,10,11];simp only[aZ,Zx]at r0 r1 r2 r3 r4 r5 r6 r7 r8 r9 r10 r11;exact bodyPost_ret (v:=.agg (aZ O.1 Y)) (by simp[results,results18,go_sem,aZ,r0,r1,r2,r3,r4,r5,r6,r7,r8,r9,r10,r11]) rfl ⟨Y,by rw[ji.out],by rw[ji.out];exact ci.out _ _ _ _ iB.out⟩
 ·have N9:(R.role==3)=false:=by simp[hr]
  by_cases hz:R.wait=0
  ·have xn:(R.wait==0)=true:=by simp[hz]
   by_cases tq:W0<=R.clock+1
   ·by_cases i7:R.hard.term<1099511627776
    ·skip
     have s2:=((h.s.set_ 12 (.int .i64 W0)).set_ 11 (.int .i64 (R.clock+1)));simp only[bj,Zy]at s2;obtain⟨ws,fO⟩:=zN (((w.setCell ⟨g,12,none⟩ (.int .i64 W0)).setCell ⟨g,11,none⟩ (.int .i64 (R.clock+1))));have di:Fr (fun j=>j=g) w ws:=by rw[<-fO];exact(Fr.set g 12 _).trans (Fr.set g 11 _) fun _ h=>.inl h
     have gu:ws.heap.size=w.heap.size:=by rw[<-fO];simp[World.setCell]
     rw[fO]at s2;have h2:=h.nums (R':=({R with clock:=R.clock+1,wait:=W0}:Rf)) ha s2 di rfl rfl rfl rfl rfl rfl rfl rfl rfl rfl rfl;have nQ:=zH (show R.tick draw=Rf.tell (Rf.asks ({R with clock:=0,wait:=0}:Rf)) by
      unfold Rf.tick Rf.beats;simp only;rw[if_neg hr,if_pos hz];simp only[Lf.out];rw[if_pos tq,if_pos (show R.hard.term<i9 from i7)];rfl)
     have aI:Below ws.heap.size ws (ws.alloc (.cells aX 52)):=zb.alloc zl _;have fA:=ar.new ws 52 aX;obtain⟨w1,eN⟩:=zN (ws.alloc (.cells #[.bool false,.bool false,.int .i64 0,.int .i64 0,.slice none 0 0,.slice none 0 0,.bool false,.int .i64 0,.int .i64 0,.slice none 0 0,.slice none 0 0,.slice none 0 0] 52));rw[show ws.alloc (.cells aX 52)=w1 from eN]at aI fA;rw[gu]at fA;have qo:ws.heap.size<=w.heap.size:=by omega
     have hA:=h2.fresh (q+c+10) aI;have ru:Fr (aT aa c) w ws:=di.mono fun j e=>by rw[e];have:=h.sl;exact⟨by omega,by omega⟩
     have ci:=zH (fun O R' Y wE (hT:cU aa c q ws g O R' Y wE)=>hT.next (fun _ _=>rfl) ru);obtain⟨d11,d12,d2,-⟩:=hA.s.cs [11,12,2];simp only[bj,vi,Zx]at d11 d12 d2;obtain⟨b11,b12,-⟩:=hA.s.fs [11,12];have xB:=hA.s.lt;obtain⟨k11,k12⟩:=nY [g] d11 d12;have s4:=ar.kept ((hA.s.set_ 11 (.int .i64 0)).set_ 12 (.int .i64 0)) (zb.drew);simp only[bj,Zy]at s4;obtain⟨w4,eL⟩:=zN ((((w1.setCell ⟨g,11,none⟩ (.int .i64 0)).setCell ⟨g,12,none⟩ (.int .i64 0))).drew);have iK:Fr (fun j=>j=g) w1 w4:=by rw[<-eL];exact((Fr.set g 11 _).trans (Fr.set g 12 _) fun _ h=>.inl h).trans (Fr.of_below (X:=fun j=>j=g) (zb.drew)) fun _ h=>.inl h
     rw[eL]at s4;have h4:=hA.nums (R':=({R with clock:=0,wait:=0}:Rf)) ha s4 iK rfl rfl rfl rfl rfl rfl rfl rfl rfl rfl rfl;have h3:=hA.nums_post ha h4 iK;have x2:=h4.s.cell 2;simp only[bj,vi,Zx]at x2;replace eL:=zH eL;have cB:Ok K M ({R with clock:=0,wait:=0}:Rf):=hk.turn_out rfl rfl rfl rfl rfl rfl rfl rfl rfl rfl rfl ⟨Int.le_refl 0,Int.natCast_nonneg _,by show 0<=R.round;omega,by show R.round<=_;omega⟩ rfl rfl rfl rfl;have yj:=h3.call fun bu v2 h2=>vj ha h2 cB ct (by omega) (by omega) hi i7
     replace fO:=zH fO;replace eN:=zH eN;replace hk:=zH hk;rw[hz]at c12;clear hz hr;clear cB;clear h h2 s2 di ru re hA;go_enter func18,ntmps18;go_wp2_with fail;refine eS.mono ?_;rintro e wq ⟨rfl,rfl⟩;clear eS;go_wp2_with fail;rw[fO.out,eN.out];try go_wp2_with fail
     refine dV [g] w1 [] [0,1,2,3,4,5,6,7,8] ?_;refine aj ?_;simp only[af,Zx];repeat go_big_quiet_step(fail)
     apply wpQuiet_nil;go_wp2_with fail;rw[eL.out];try go_wp2_with fail
     refine yj.mono ?_;rintro e w5 ⟨rfl,nu⟩;clear yj h3;have cf:=fT ha nu aI qo fA;obtain⟨O,hO⟩:=zN (Rf.tell (Rf.asks ({R with clock:=0,wait:=0}:Rf)));rw[hO]at cf;have ji:=zH ((nQ.out).trans hO);replace hO:=zH hO;unfold aZ at cf;go_wp2_with fail;refine cf.mono ?_;rintro e w8 ⟨Y,rfl,fZ,mV,iB⟩;have ue:=fZ.lt;obtain⟨z0,z1,z2,z3,z4,z5,z6,z7,z8,z9,z10,z11,-⟩:=fZ.cs [0,1,2,3,4,5,6,7,8,9,10,11];simp only[aX,Zx]at z0 z1 z2 z3 z4 z5 z6 z7 z8 z9 z10 z11;obtain⟨y0,y1,y2,y3,y4,y5,y6,y7,y8,y9,y10,y11,-⟩:=fZ.fs [0,1,2,3,4,5,6,7,8,9,10,11];obtain⟨wE,dk⟩:=zN (bX w8 w.heap.size O.1 Y);rw[dk]at mV iB;replace dk:=zH dk;replace iB:=zH iB;clear cf fZ;go_wp2_with fail;show bodyPost _ _ _ _ _ (bX w8 w.heap.size O.1 Y);rw[dk.out];obtain⟨r0,r1,r2,r3,r4,r5,r6,r7,r8,r9,r10,r11,-⟩:=mV.cs [0,1,2,3,4,5,6,7,8,9,10,11];simp only[aZ,Zx]at r0 r1 r2 r3 r4 r5 r6 r7 r8 r9 r10 r11;exact bodyPost_ret (v:=.agg (aZ O.1 Y)) (by simp[results,results18,go_sem,aZ,r0,r1,r2,r3,r4,r5,r6,r7,r8,r9,r10,r11]) rfl ⟨Y,by rw[ji.out],by rw[ji.out];exact ci.out _ _ _ _ iB.out⟩
    ·skip
     have s2:=((h.s.set_ 12 (.int .i64 W0)).set_ 11 (.int .i64 (R.clock+1)));simp only[bj,Zy]at s2;obtain⟨ws,fO⟩:=zN (((w.setCell ⟨g,12,none⟩ (.int .i64 W0)).setCell ⟨g,11,none⟩ (.int .i64 (R.clock+1))));have di:Fr (fun j=>j=g) w ws:=by rw[<-fO];exact(Fr.set g 12 _).trans (Fr.set g 11 _) fun _ h=>.inl h
     have gu:ws.heap.size=w.heap.size:=by rw[<-fO];simp[World.setCell]
     rw[fO]at s2;have h2:=h.nums (R':=({R with clock:=R.clock+1,wait:=W0}:Rf)) ha s2 di rfl rfl rfl rfl rfl rfl rfl rfl rfl rfl rfl;have nQ:=zH (show R.tick draw=Rf.tell (({R with clock:=0,wait:=0}:Rf)) by
      unfold Rf.tick Rf.beats;simp only;rw[if_neg hr,if_pos hz];simp only[Lf.out];rw[if_pos tq,if_neg (show ¬R.hard.term<i9 from i7)];rfl)
     have aI:Below ws.heap.size ws (ws.alloc (.cells aX 52)):=zb.alloc zl _;have fA:=ar.new ws 52 aX;obtain⟨w1,eN⟩:=zN (ws.alloc (.cells #[.bool false,.bool false,.int .i64 0,.int .i64 0,.slice none 0 0,.slice none 0 0,.bool false,.int .i64 0,.int .i64 0,.slice none 0 0,.slice none 0 0,.slice none 0 0] 52));rw[show ws.alloc (.cells aX 52)=w1 from eN]at aI fA;rw[gu]at fA;have qo:ws.heap.size<=w.heap.size:=by omega
     have hA:=h2.fresh (q+c+10) aI;have ru:Fr (aT aa c) w ws:=di.mono fun j e=>by rw[e];have:=h.sl;exact⟨by omega,by omega⟩
     have ci:=zH (fun O R' Y wE (hT:cU aa c q ws g O R' Y wE)=>hT.next (fun _ _=>rfl) ru);obtain⟨d11,d12,d2,-⟩:=hA.s.cs [11,12,2];simp only[bj,vi,Zx]at d11 d12 d2;obtain⟨b11,b12,-⟩:=hA.s.fs [11,12];have xB:=hA.s.lt;obtain⟨k11,k12⟩:=nY [g] d11 d12;have s4:=ar.kept ((hA.s.set_ 11 (.int .i64 0)).set_ 12 (.int .i64 0)) (zb.drew);simp only[bj,Zy]at s4;obtain⟨w4,eL⟩:=zN ((((w1.setCell ⟨g,11,none⟩ (.int .i64 0)).setCell ⟨g,12,none⟩ (.int .i64 0))).drew);have iK:Fr (fun j=>j=g) w1 w4:=by rw[<-eL];exact((Fr.set g 11 _).trans (Fr.set g 12 _) fun _ h=>.inl h).trans (Fr.of_below (X:=fun j=>j=g) (zb.drew)) fun _ h=>.inl h
     rw[eL]at s4;have h4:=hA.nums (R':=({R with clock:=0,wait:=0}:Rf)) ha s4 iK rfl rfl rfl rfl rfl rfl rfl rfl rfl rfl rfl;have h3:=hA.nums_post ha h4 iK;have x2:=h4.s.cell 2;simp only[bj,vi,Zx]at x2;replace eL:=zH eL;replace fO:=zH fO;replace eN:=zH eN;replace hk:=zH hk;rw[hz]at c12;clear hz hr;clear h h2 s2 di ru re hA;go_enter func18,ntmps18;go_wp2_with fail;refine eS.mono ?_;rintro e wq ⟨rfl,rfl⟩;clear eS;go_wp2_with fail;rw[fO.out,eN.out];try go_wp2_with fail
     refine dV [g] w1 [] [0,1,2,3,4,5,6,7,8] ?_;refine aj ?_;simp only[af,Zx];repeat go_big_quiet_step(fail)
     apply wpQuiet_nil;go_wp2_with fail;rw[eL.out];try go_wp2_with fail
     have cf:=fT ha h3 aI qo fA;obtain⟨O,hO⟩:=zN (Rf.tell (({R with clock:=0,wait:=0}:Rf)));rw[hO]at cf;have ji:=zH ((nQ.out).trans hO);replace hO:=zH hO;unfold aZ at cf;go_wp2_with fail;refine cf.mono ?_;rintro e w8 ⟨Y,rfl,fZ,mV,iB⟩;have ue:=fZ.lt;obtain⟨z0,z1,z2,z3,z4,z5,z6,z7,z8,z9,z10,z11,-⟩:=fZ.cs [0,1,2,3,4,5,6,7,8,9,10,11];simp only[aX,Zx]at z0 z1 z2 z3 z4 z5 z6 z7 z8 z9 z10 z11;obtain⟨y0,y1,y2,y3,y4,y5,y6,y7,y8,y9,y10,y11,-⟩:=fZ.fs [0,1,2,3,4,5,6,7,8,9,10,11];obtain⟨wE,dk⟩:=zN (bX w8 w.heap.size O.1 Y);rw[dk]at mV iB;replace dk:=zH dk;replace iB:=zH iB;clear cf fZ;go_wp2_with fail;show bodyPost _ _ _ _ _ (bX w8 w.heap.size O.1 Y);rw[dk.out];obtain⟨r0,r1,r2,r3,r4,r5,r6,r7,r8,r9,r10,r11,-⟩:=mV.cs [0,1,2,3,4,5,6,7,8,9,10,11];simp only[aZ,Zx]at r0 r1 r2 r3 r4 r5 r6 r7 r8 r9 r10 r11;exact bodyPost_ret (v:=.agg (aZ O.1 Y)) (by simp[results,results18,go_sem,aZ,r0,r1,r2,r3,r4,r5,r6,r7,r8,r9,r10,r11]) rfl ⟨Y,by rw[ji.out],by rw[ji.out];exact ci.out _ _ _ _ iB.out⟩
   ·skip
    have s2:=((h.s.set_ 12 (.int .i64 W0)).set_ 11 (.int .i64 (R.clock+1)));simp only[bj,Zy]at s2;obtain⟨ws,fO⟩:=zN (((w.setCell ⟨g,12,none⟩ (.int .i64 W0)).setCell ⟨g,11,none⟩ (.int .i64 (R.clock+1))));have di:Fr (fun j=>j=g) w ws:=by rw[<-fO];exact(Fr.set g 12 _).trans (Fr.set g 11 _) fun _ h=>.inl h
    have gu:ws.heap.size=w.heap.size:=by rw[<-fO];simp[World.setCell]
    rw[fO]at s2;have h2:=h.nums (R':=({R with clock:=R.clock+1,wait:=W0}:Rf)) ha s2 di rfl rfl rfl rfl rfl rfl rfl rfl rfl rfl rfl;have nQ:=zH (show R.tick draw=Rf.tell (({R with clock:=R.clock+1,wait:=W0}:Rf)) by
     unfold Rf.tick Rf.beats;simp only;rw[if_neg hr,if_pos hz];simp only[Lf.out];rw[if_neg tq])
    have aI:Below ws.heap.size ws (ws.alloc (.cells aX 52)):=zb.alloc zl _;have fA:=ar.new ws 52 aX;obtain⟨w1,eN⟩:=zN (ws.alloc (.cells #[.bool false,.bool false,.int .i64 0,.int .i64 0,.slice none 0 0,.slice none 0 0,.bool false,.int .i64 0,.int .i64 0,.slice none 0 0,.slice none 0 0,.slice none 0 0] 52));rw[show ws.alloc (.cells aX 52)=w1 from eN]at aI fA;rw[gu]at fA;have qo:ws.heap.size<=w.heap.size:=by omega
    have hA:=h2.fresh (q+c+10) aI;have ru:Fr (aT aa c) w ws:=di.mono fun j e=>by rw[e];have:=h.sl;exact⟨by omega,by omega⟩
    have ci:=zH (fun O R' Y wE (hT:cU aa c q ws g O R' Y wE)=>hT.next (fun _ _=>rfl) ru);obtain⟨d11,d12,d2,-⟩:=hA.s.cs [11,12,2];simp only[bj,vi,Zx]at d11 d12 d2;obtain⟨b11,b12,-⟩:=hA.s.fs [11,12];have xB:=hA.s.lt;obtain⟨k11,k12⟩:=nY [g] d11 d12;have h3:=(au.refl hA).below ((Below.refl w1.heap.size w1).drew);replace fO:=zH fO;replace eN:=zH eN;replace hk:=zH hk;rw[hz]at c12;clear hz hr;clear h h2 s2 di ru re hA;go_enter func18,ntmps18;go_wp2_with fail;refine eS.mono ?_;rintro e wq ⟨rfl,rfl⟩;clear eS;go_wp2_with fail;rw[fO.out,eN.out];try go_wp2_with fail
    refine dV [g] w1 [] [0,1,2,3,4,5,6,7,8] ?_;refine aj ?_;simp only[af,Zx];repeat go_big_quiet_step(fail)
    apply wpQuiet_nil;go_wp2_with fail;have cf:=fT ha h3 aI qo fA;obtain⟨O,hO⟩:=zN (Rf.tell (({R with clock:=R.clock+1,wait:=W0}:Rf)));rw[hO]at cf;have ji:=zH ((nQ.out).trans hO);replace hO:=zH hO;unfold aZ at cf;go_wp2_with fail;refine cf.mono ?_;rintro e w8 ⟨Y,rfl,fZ,mV,iB⟩;have ue:=fZ.lt;obtain⟨z0,z1,z2,z3,z4,z5,z6,z7,z8,z9,z10,z11,-⟩:=fZ.cs [0,1,2,3,4,5,6,7,8,9,10,11];simp only[aX,Zx]at z0 z1 z2 z3 z4 z5 z6 z7 z8 z9 z10 z11;obtain⟨y0,y1,y2,y3,y4,y5,y6,y7,y8,y9,y10,y11,-⟩:=fZ.fs [0,1,2,3,4,5,6,7,8,9,10,11];obtain⟨wE,dk⟩:=zN (bX w8 w.heap.size O.1 Y);rw[dk]at mV iB;replace dk:=zH dk;replace iB:=zH iB;clear cf fZ;go_wp2_with fail;show bodyPost _ _ _ _ _ (bX w8 w.heap.size O.1 Y);rw[dk.out];obtain⟨r0,r1,r2,r3,r4,r5,r6,r7,r8,r9,r10,r11,-⟩:=mV.cs [0,1,2,3,4,5,6,7,8,9,10,11];simp only[aZ,Zx]at r0 r1 r2 r3 r4 r5 r6 r7 r8 r9 r10 r11;exact bodyPost_ret (v:=.agg (aZ O.1 Y)) (by simp[results,results18,go_sem,aZ,r0,r1,r2,r3,r4,r5,r6,r7,r8,r9,r10,r11]) rfl ⟨Y,by rw[ji.out],by rw[ji.out];exact ci.out _ _ _ _ iB.out⟩
  ·have xn:(R.wait==0)=false:=by simp[hz]
   by_cases tq:R.wait<=R.clock+1
   ·by_cases i7:R.hard.term<1099511627776
    ·skip
     have s2:=(h.s.set_ 11 (.int .i64 (R.clock+1)));simp only[bj,Zy]at s2;obtain⟨ws,fO⟩:=zN ((w.setCell ⟨g,11,none⟩ (.int .i64 (R.clock+1))));have di:Fr (fun j=>j=g) w ws:=by rw[<-fO];exact Fr.set g 11 _
     have gu:ws.heap.size=w.heap.size:=by rw[<-fO];simp[World.setCell]
     rw[fO]at s2;have h2:=h.nums (R':=({R with clock:=R.clock+1}:Rf)) ha s2 di rfl rfl rfl rfl rfl rfl rfl rfl rfl rfl rfl;have nQ:=zH (show R.tick draw=Rf.tell (Rf.asks ({R with clock:=0,wait:=0}:Rf)) by
      unfold Rf.tick Rf.beats;simp only;rw[if_neg hr,if_neg hz,if_pos tq,if_pos (show R.hard.term<i9 from i7)];rfl)
     have aI:Below ws.heap.size ws (ws.alloc (.cells aX 52)):=zb.alloc zl _;have fA:=ar.new ws 52 aX;obtain⟨w1,eN⟩:=zN (ws.alloc (.cells #[.bool false,.bool false,.int .i64 0,.int .i64 0,.slice none 0 0,.slice none 0 0,.bool false,.int .i64 0,.int .i64 0,.slice none 0 0,.slice none 0 0,.slice none 0 0] 52));rw[show ws.alloc (.cells aX 52)=w1 from eN]at aI fA;rw[gu]at fA;have qo:ws.heap.size<=w.heap.size:=by omega
     have hA:=h2.fresh (q+c+10) aI;have ru:Fr (aT aa c) w ws:=di.mono fun j e=>by rw[e];have:=h.sl;exact⟨by omega,by omega⟩
     have ci:=zH (fun O R' Y wE (hT:cU aa c q ws g O R' Y wE)=>hT.next (fun _ _=>rfl) ru);obtain⟨d11,d12,d2,-⟩:=hA.s.cs [11,12,2];simp only[bj,vi,Zx]at d11 d12 d2;obtain⟨b11,b12,-⟩:=hA.s.fs [11,12];have xB:=hA.s.lt;obtain⟨k11,k12⟩:=nY [g] d11 d12;have s4:=ar.kept ((hA.s.set_ 11 (.int .i64 0)).set_ 12 (.int .i64 0)) (zb.drew);simp only[bj,Zy]at s4;obtain⟨w4,eL⟩:=zN ((((w1.setCell ⟨g,11,none⟩ (.int .i64 0)).setCell ⟨g,12,none⟩ (.int .i64 0))).drew);have iK:Fr (fun j=>j=g) w1 w4:=by rw[<-eL];exact((Fr.set g 11 _).trans (Fr.set g 12 _) fun _ h=>.inl h).trans (Fr.of_below (X:=fun j=>j=g) (zb.drew)) fun _ h=>.inl h
     rw[eL]at s4;have h4:=hA.nums (R':=({R with clock:=0,wait:=0}:Rf)) ha s4 iK rfl rfl rfl rfl rfl rfl rfl rfl rfl rfl rfl;have h3:=hA.nums_post ha h4 iK;have x2:=h4.s.cell 2;simp only[bj,vi,Zx]at x2;replace eL:=zH eL;have cB:Ok K M ({R with clock:=0,wait:=0}:Rf):=hk.turn_out rfl rfl rfl rfl rfl rfl rfl rfl rfl rfl rfl ⟨Int.le_refl 0,Int.natCast_nonneg _,by show 0<=R.round;omega,by show R.round<=_;omega⟩ rfl rfl rfl rfl;have yj:=h3.call fun bu v2 h2=>vj ha h2 cB ct (by omega) (by omega) hi i7
     replace fO:=zH fO;replace eN:=zH eN;replace hk:=zH hk;clear eS hr hz;clear cB;clear h h2 s2 di ru re hA;go_enter func18,ntmps18;go_wp2_with fail;rw[fO.out,eN.out];try go_wp2_with fail
     refine dV [g] w1 [] [0,1,2,3,4,5,6,7,8] ?_;refine aj ?_;simp only[af,Zx];repeat go_big_quiet_step(fail)
     apply wpQuiet_nil;go_wp2_with fail;rw[eL.out];try go_wp2_with fail
     refine yj.mono ?_;rintro e w5 ⟨rfl,nu⟩;clear yj h3;have cf:=fT ha nu aI qo fA;obtain⟨O,hO⟩:=zN (Rf.tell (Rf.asks ({R with clock:=0,wait:=0}:Rf)));rw[hO]at cf;have ji:=zH ((nQ.out).trans hO);replace hO:=zH hO;unfold aZ at cf;go_wp2_with fail;refine cf.mono ?_;rintro e w8 ⟨Y,rfl,fZ,mV,iB⟩;have ue:=fZ.lt;obtain⟨z0,z1,z2,z3,z4,z5,z6,z7,z8,z9,z10,z11,-⟩:=fZ.cs [0,1,2,3,4,5,6,7,8,9,10,11];simp only[aX,Zx]at z0 z1 z2 z3 z4 z5 z6 z7 z8 z9 z10 z11;obtain⟨y0,y1,y2,y3,y4,y5,y6,y7,y8,y9,y10,y11,-⟩:=fZ.fs [0,1,2,3,4,5,6,7,8,9,10,11];obtain⟨wE,dk⟩:=zN (bX w8 w.heap.size O.1 Y);rw[dk]at mV iB;replace dk:=zH dk;replace iB:=zH iB;clear cf fZ;go_wp2_with fail;show bodyPost _ _ _ _ _ (bX w8 w.heap.size O.1 Y);rw[dk.out];obtain⟨r0,r1,r2,r3,r4,r5,r6,r7,r8,r9,r10,r11,-⟩:=mV.cs [0,1,2,3,4,5,6,7,8,9,10,11];simp only[aZ,Zx]at r0 r1 r2 r3 r4 r5 r6 r7 r8 r9 r10 r11;exact bodyPost_ret (v:=.agg (aZ O.1 Y)) (by simp[results,results18,go_sem,aZ,r0,r1,r2,r3,r4,r5,r6,r7,r8,r9,r10,r11]) rfl ⟨Y,by rw[ji.out],by rw[ji.out];exact ci.out _ _ _ _ iB.out⟩
    ·skip
     have s2:=(h.s.set_ 11 (.int .i64 (R.clock+1)));simp only[bj,Zy]at s2;obtain⟨ws,fO⟩:=zN ((w.setCell ⟨g,11,none⟩ (.int .i64 (R.clock+1))));have di:Fr (fun j=>j=g) w ws:=by rw[<-fO];exact Fr.set g 11 _
     have gu:ws.heap.size=w.heap.size:=by rw[<-fO];simp[World.setCell]
     rw[fO]at s2;have h2:=h.nums (R':=({R with clock:=R.clock+1}:Rf)) ha s2 di rfl rfl rfl rfl rfl rfl rfl rfl rfl rfl rfl;have nQ:=zH (show R.tick draw=Rf.tell (({R with clock:=0,wait:=0}:Rf)) by
      unfold Rf.tick Rf.beats;simp only;rw[if_neg hr,if_neg hz,if_pos tq,if_neg (show ¬R.hard.term<i9 from i7)];rfl)
     have aI:Below ws.heap.size ws (ws.alloc (.cells aX 52)):=zb.alloc zl _;have fA:=ar.new ws 52 aX;obtain⟨w1,eN⟩:=zN (ws.alloc (.cells #[.bool false,.bool false,.int .i64 0,.int .i64 0,.slice none 0 0,.slice none 0 0,.bool false,.int .i64 0,.int .i64 0,.slice none 0 0,.slice none 0 0,.slice none 0 0] 52));rw[show ws.alloc (.cells aX 52)=w1 from eN]at aI fA;rw[gu]at fA;have qo:ws.heap.size<=w.heap.size:=by omega
     have hA:=h2.fresh (q+c+10) aI;have ru:Fr (aT aa c) w ws:=di.mono fun j e=>by rw[e];have:=h.sl;exact⟨by omega,by omega⟩
     have ci:=zH (fun O R' Y wE (hT:cU aa c q ws g O R' Y wE)=>hT.next (fun _ _=>rfl) ru);obtain⟨d11,d12,d2,-⟩:=hA.s.cs [11,12,2];simp only[bj,vi,Zx]at d11 d12 d2;obtain⟨b11,b12,-⟩:=hA.s.fs [11,12];have xB:=hA.s.lt;obtain⟨k11,k12⟩:=nY [g] d11 d12;have s4:=ar.kept ((hA.s.set_ 11 (.int .i64 0)).set_ 12 (.int .i64 0)) (zb.drew);simp only[bj,Zy]at s4;obtain⟨w4,eL⟩:=zN ((((w1.setCell ⟨g,11,none⟩ (.int .i64 0)).setCell ⟨g,12,none⟩ (.int .i64 0))).drew);have iK:Fr (fun j=>j=g) w1 w4:=by rw[<-eL];exact((Fr.set g 11 _).trans (Fr.set g 12 _) fun _ h=>.inl h).trans (Fr.of_below (X:=fun j=>j=g) (zb.drew)) fun _ h=>.inl h
     rw[eL]at s4;have h4:=hA.nums (R':=({R with clock:=0,wait:=0}:Rf)) ha s4 iK rfl rfl rfl rfl rfl rfl rfl rfl rfl rfl rfl;have h3:=hA.nums_post ha h4 iK;have x2:=h4.s.cell 2;simp only[bj,vi,Zx]at x2;replace eL:=zH eL;replace fO:=zH fO;replace eN:=zH eN;replace hk:=zH hk;clear eS hr hz;clear h h2 s2 di ru re hA;go_enter func18,ntmps18;go_wp2_with fail;rw[fO.out,eN.out];try go_wp2_with fail
     refine dV [g] w1 [] [0,1,2,3,4,5,6,7,8] ?_;refine aj ?_;simp only[af,Zx];repeat go_big_quiet_step(fail)
     apply wpQuiet_nil;go_wp2_with fail;rw[eL.out];try go_wp2_with fail
     have cf:=fT ha h3 aI qo fA;obtain⟨O,hO⟩:=zN (Rf.tell (({R with clock:=0,wait:=0}:Rf)));rw[hO]at cf;have ji:=zH ((nQ.out).trans hO);replace hO:=zH hO;unfold aZ at cf;go_wp2_with fail;refine cf.mono ?_;rintro e w8 ⟨Y,rfl,fZ,mV,iB⟩;have ue:=fZ.lt;obtain⟨z0,z1,z2,z3,z4,z5,z6,z7,z8,z9,z10,z11,-⟩:=fZ.cs [0,1,2,3,4,5,6,7,8,9,10,11];simp only[aX,Zx]at z0 z1 z2 z3 z4 z5 z6 z7 z8 z9 z10 z11;obtain⟨y0,y1,y2,y3,y4,y5,y6,y7,y8,y9,y10,y11,-⟩:=fZ.fs [0,1,2,3,4,5,6,7,8,9,10,11];obtain⟨wE,dk⟩:=zN (bX w8 w.heap.size O.1 Y);rw[dk]at mV iB;replace dk:=zH dk;replace iB:=zH iB;clear cf fZ;go_wp2_with fail;show bodyPost _ _ _ _ _ (bX w8 w.heap.size O.1 Y);rw[dk.out];obtain⟨r0,r1,r2,r3,r4,r5,r6,r7,r8,r9,r10,r11,-⟩:=mV.cs [0,1,2,3,4,5,6,7,8,9,10,11];simp only[aZ,Zx]at r0 r1 r2 r3 r4 r5 r6 r7 r8 r9 r10 r11;exact bodyPost_ret (v:=.agg (aZ O.1 Y)) (by simp[results,results18,go_sem,aZ,r0,r1,r2,r3,r4,r5,r6,r7,r8,r9,r10,r11]) rfl ⟨Y,by rw[ji.out],by rw[ji.out];exact ci.out _ _ _ _ iB.out⟩
   ·skip
    have s2:=(h.s.set_ 11 (.int .i64 (R.clock+1)));simp only[bj,Zy]at s2;obtain⟨ws,fO⟩:=zN ((w.setCell ⟨g,11,none⟩ (.int .i64 (R.clock+1))));have di:Fr (fun j=>j=g) w ws:=by rw[<-fO];exact Fr.set g 11 _
    have gu:ws.heap.size=w.heap.size:=by rw[<-fO];simp[World.setCell]
    rw[fO]at s2;have h2:=h.nums (R':=({R with clock:=R.clock+1}:Rf)) ha s2 di rfl rfl rfl rfl rfl rfl rfl rfl rfl rfl rfl;have nQ:=zH (show R.tick draw=Rf.tell (({R with clock:=R.clock+1}:Rf)) by
     unfold Rf.tick Rf.beats;simp only;rw[if_neg hr,if_neg hz,if_neg tq])
    have aI:Below ws.heap.size ws (ws.alloc (.cells aX 52)):=zb.alloc zl _;have fA:=ar.new ws 52 aX;obtain⟨w1,eN⟩:=zN (ws.alloc (.cells #[.bool false,.bool false,.int .i64 0,.int .i64 0,.slice none 0 0,.slice none 0 0,.bool false,.int .i64 0,.int .i64 0,.slice none 0 0,.slice none 0 0,.slice none 0 0] 52));rw[show ws.alloc (.cells aX 52)=w1 from eN]at aI fA;rw[gu]at fA;have qo:ws.heap.size<=w.heap.size:=by omega
    have hA:=h2.fresh (q+c+10) aI;have ru:Fr (aT aa c) w ws:=di.mono fun j e=>by rw[e];have:=h.sl;exact⟨by omega,by omega⟩
    have ci:=zH (fun O R' Y wE (hT:cU aa c q ws g O R' Y wE)=>hT.next (fun _ _=>rfl) ru);obtain⟨d11,d12,d2,-⟩:=hA.s.cs [11,12,2];simp only[bj,vi,Zx]at d11 d12 d2;obtain⟨b11,b12,-⟩:=hA.s.fs [11,12];have xB:=hA.s.lt;obtain⟨k11,k12⟩:=nY [g] d11 d12;have h3:=(au.refl hA).below ((Below.refl w1.heap.size w1).drew);replace fO:=zH fO;replace eN:=zH eN;replace hk:=zH hk;clear eS hr hz;clear h h2 s2 di ru re hA;go_enter func18,ntmps18;go_wp2_with fail;rw[fO.out,eN.out];try go_wp2_with fail
    refine dV [g] w1 [] [0,1,2,3,4,5,6,7,8] ?_;refine aj ?_;simp only[af,Zx];repeat go_big_quiet_step(fail)
    apply wpQuiet_nil;go_wp2_with fail;have cf:=fT ha h3 aI qo fA;obtain⟨O,hO⟩:=zN (Rf.tell (({R with clock:=R.clock+1}:Rf)));rw[hO]at cf;have ji:=zH ((nQ.out).trans hO);replace hO:=zH hO;unfold aZ at cf;go_wp2_with fail;refine cf.mono ?_;rintro e w8 ⟨Y,rfl,fZ,mV,iB⟩;have ue:=fZ.lt;obtain⟨z0,z1,z2,z3,z4,z5,z6,z7,z8,z9,z10,z11,-⟩:=fZ.cs [0,1,2,3,4,5,6,7,8,9,10,11];simp only[aX,Zx]at z0 z1 z2 z3 z4 z5 z6 z7 z8 z9 z10 z11;obtain⟨y0,y1,y2,y3,y4,y5,y6,y7,y8,y9,y10,y11,-⟩:=fZ.fs [0,1,2,3,4,5,6,7,8,9,10,11];obtain⟨wE,dk⟩:=zN (bX w8 w.heap.size O.1 Y);rw[dk]at mV iB;replace dk:=zH dk;replace iB:=zH iB;clear cf fZ;go_wp2_with fail;show bodyPost _ _ _ _ _ (bX w8 w.heap.size O.1 Y);rw[dk.out];obtain⟨r0,r1,r2,r3,r4,r5,r6,r7,r8,r9,r10,r11,-⟩:=mV.cs [0,1,2,3,4,5,6,7,8,9,10,11];simp only[aZ,Zx]at r0 r1 r2 r3 r4 r5 r6 r7 r8 r9 r10 r11;exact bodyPost_ret (v:=.agg (aZ O.1 Y)) (by simp[results,results18,go_sem,aZ,r0,r1,r2,r3,r4,r5,r6,r7,r8,r9,r10,r11]) rfl ⟨Y,by rw[ji.out],by rw[ji.out];exact ci.out _ _ _ _ iB.out⟩
end
def jk(aa:Nat->Nat)(c q:Nat)(w:World)(g:Nat)(O:Ot)(R':Rf)(Y:Oy)(vy:Value)(fs:List Fa)(w':World):Prop:=
 ∃(ak:Nat->Nat) (v':Aw),aJ ak c q w' g R' v'/\jP ak q w' O Y/\aG (aQ ak q) w' vy fs/\(∀j,j<w.heap.size->¬aT aa c j->ak j=aa j)/\(∀j,j<w.heap.size->aT aa c j->aT ak c j\/ak j=q)/\Fr (aT aa c) w w'
section
variable {aa:Nat->Nat}{c q g p:Nat}{w w' w1 wX:World}{R R1:Rf}{v:Aw}{O:Ot}{Y:Oy}{vy:Value}{fs:List Fa}{cs:Array Value}
theorem cU.nofacts(h:cU aa c q w g O R Y w'):jk aa c q w g O R Y (.slice none 0 0) [] w':=by
 obtain⟨ak,v',h1,h2,h3,h4,h5⟩:=h;exact⟨ak,v',h1,h2,aG.nil _ _,h3,h4,h5⟩
theorem jk.boxes(ha:aL c q)(h:∃(ak:Nat->Nat) (v':Aw),aJ ak c q w' g R v'/\jP ak q w' O Y/\aG (aQ ak q) w' vy fs/\(∀j,j<w.heap.size->¬aT aa c j->ak j=aa j)/\(∀j,j<w.heap.size->aT aa c j->aT ak c j\/ak j=q)/\Fr (aT aa c) w w'/\∀k,w.heap.size<=k->k<w1.heap.size->ak k=q+c+10)
  (hF:Fr (fun k=>w.heap.size<=k/\k<w1.heap.size) w' wX):jk aa c q w g O R Y vy fs wX:=by
 obtain⟨ak,v',h1,h2,h3,h4,h5,h6,h7⟩:=h;have hk:∀j,ak j≠q+c+10->j<w'.heap.size->wX.heap[j]?=w'.heap[j]?:=fun j hj hl=>hF.block j hl fun e=>hj (h7 j e.1 e.2)
 refine⟨ak,v',h1.keep fun j hj hl=>hk j (fun e=>?_) hl,h2.keep fun j hj hl=>hk j (fun e=>?_) hl,h3.keep fun j hj hl=>hk j (fun e=>?_) hl,h4,h5,h6.trans hF fun j e=>.inr e.1⟩
 ·unfold dC at hj;omega
 ·omega
 ·have hj:ak j=q:=hj;omega
theorem eF.told(ha:aL c q)(aI:Below w.heap.size w w1)(h:eF (ai aa w.heap.size (q+c+10)) c q w1 g R1 wX p vy fs cs) :
  Calls prog 54 #[.pointer (some ⟨g,0,none⟩)] wX fun e w'=>∃Y,e=.returned (.agg (aZ R1.tell.1 Y))/\(∀k,w.heap.size<=k->k<w1.heap.size->w'.heap[k]?=w1.heap[k]?)/\ar w' p 59 cs/\
   ∀wE,Fr (fun k=>w.heap.size<=k/\k<w1.heap.size) w' wE->jk aa c q w g R1.tell.1 R1.tell.2 Y vy fs wE:=by
 obtain⟨ag,v1,h1,cy,gR,nc,cl,qy,Fc⟩:=h;refine(xC ha h1).mono ?_;rintro e w' ⟨Y,rfl,ak,v',q1,q2,q3,q4,q5⟩;have hs:=aI.size;have rl:=gR.size;have nS:¬aT ag c p:=fun hh=>qy (.inl hh)
 have e0:∀k,w.heap.size<=k->ai aa w.heap.size (q+c+10) k=q+c+10:=fun k hk=>ay hk
 have e1:∀k,w.heap.size<=k->k<w1.heap.size->ag k=q+c+10:=fun k hk hl=>(cy k hl).trans (e0 k hk)
 have iI:∀k,w.heap.size<=k->k<w1.heap.size->¬aT ag c k:=fun k hk hl hh=>by unfold aT at hh;have:=e1 k hk hl;omega
 have rD:∀k,w.heap.size<=k->¬aT (ai aa w.heap.size (q+c+10)) c k:=fun k hk hh=>by unfold aT at hh;have:=e0 k hk;omega
 have iw:∀j,j<w.heap.size->ag j=aa j:=fun j hj=>(cy j (by omega)).trans (ac hj)
 refine⟨Y,rfl,fun k hk hl=>(q5.block k (by omega) (iI k hk hl)).trans (gR.block k hl (rD k hk)),(q5.block p cl.lt nS).trans cl,fun wE hF=>jk.boxes (w1:=w1) ha ⟨ak,v',q1,q2,?_,fun j hj hm=>?_,fun j hj hm=>q4 j (by omega) ((eZ iw hj).2 hm),?_,fun k hk hl=>(q3 k (by omega) (iI k hk hl)).trans (e1 k hk hl)⟩ hF⟩
 ·have dt:∀j,ag j=q->¬aT ag c j:=fun j e hh=>by unfold aT at hh;unfold aL at ha;omega
  have qV:aG (ob ag q wX) w' vy fs:=(nc.mono (S':=ob ag q wX) fun j hj e=>⟨e,hj⟩).keep fun j hj hl=>q5.block j hj.2 (dt j hj.1)
  exact qV.mono fun j _ e=>(q3 j e.2 (dt j e.1)).trans e.1
 ·exact(q3 j (by omega) fun h=>hm ((eZ iw hj).1 h)).trans (iw j hj)
 ·exact((Fr.of_below (X:=aT aa c) aI).trans gR fun j hj=>fH (fun _ hj=>ac hj) hj).trans q5 fun j hj=>fH iw hj
end
section
variable {aa:Nat->Nat}{c q g p:Nat}{w w' w1 wX:World}{R R1:Rf}{v:Aw}{O:Ot}{Y:Oy}{vy:Value}{fs:List Fa}{cs:Array Value}
theorem eF.zero(ha:aL c q)(aI:Below w.heap.size w w1)(h:eF (ai aa w.heap.size (q+c+10)) c q w1 g R1 wX p vy fs cs){wE:World}(hF:Fr (fun k=>w.heap.size<=k/\k<w1.heap.size) wX wE):jk aa c q w g dZ R1 lg (.slice none 0 0) gk.facts wE:=by
 obtain⟨ag,v1,h1,cy,gR,nc,cl,qy,Fc⟩:=h;have hs:=aI.size;have iw:∀j,j<w.heap.size->ag j=aa j:=fun j hj=>(cy j (by omega)).trans (ac hj)
 exact jk.boxes (w1:=w1) ha ⟨ag,v1,h1,jP.zero _ _ _,aG.nil _ _,fun j hj _=>iw j hj,fun j hj hm=>.inl ((eZ iw hj).2 hm),(Fr.of_below (X:=aT aa c) aI).trans gR fun j hj=>fH (fun _ hj=>ac hj) hj,fun k hk hl=>(cy k hl).trans (ay hk)⟩ hF
theorem eF.boxed(aI:Below w.heap.size w w1)(h:eF (ai aa w.heap.size (q+c+10)) c q w1 g R1 wX p vy fs cs):∀k,w.heap.size<=k->k<w1.heap.size->wX.heap[k]?=w1.heap[k]?:=by
 obtain⟨ag,v1,h1,cy,gR,nc,cl,qy,Fc⟩:=h;intro k hk hl;refine gR.block k hl fun hh=>?_
 unfold aT at hh;rw[ay hk]at hh;omega
theorem eF.drewn(h:eF aa c q w g R1 wX p vy fs cs):eF aa c q w g R1 wX.drew p vy fs cs:=by
 obtain⟨ag,v1,h1,cy,gR,nc,cl,qy,Fc⟩:=h;have hb:=(Below.refl wX.heap.size wX).drew;exact⟨ag,v1,h1.below hb,cy,gR.trans (Fr.of_below (X:=aT aa c) hb) fun j hj=>.inl hj,nc.keep (bz.below hb),cl,qy,Fc⟩
theorem od{w9:World}{b:Nat}(QZ:ar w9 (b+1) 59 iH)(Ko:ar w9 (b+1+1) 52 aX)(vy:Value)(x:En)(O:Ot)(Y:Oy) :
  ar (bX (set6 w9 (b+1) (vy,x)) (b+1+1) O Y) (b+1) 59 (bY (vy,x)).toArray/\ar (bX (set6 w9 (b+1) (vy,x)) (b+1+1) O Y) (b+1+1) 52 (aZ O Y)/\
   Fr (fun k=>b<=k/\k<b+3) w9 (bX (set6 w9 (b+1) (vy,x)) (b+1+1) O Y):=by
 have jb:=Fr.set6 w9 (b+1) (vy,x);have fS:=(eW (vy,x) QZ rfl).1;have BU:ar (set6 w9 (b+1) (vy,x)) (b+1+1) 52 aX:=(jb.block _ Ko.lt (by omega)).trans Ko;have Ir:=oU (set6 w9 (b+1) (vy,x)) (b+1+1) O Y;refine⟨(Ir.block _ fS.lt (by omega)).trans fS,je O Y BU,(jb.mono fun j e=>by omega).trans (Ir.mono (X':=fun k=>b<=k/\k<b+3) fun j e=>by omega) fun j e=>.inl e⟩
theorem vI{K M:Nat}(x:En)(V:Option Addr)(m d:Nat)(ha:aL c q)(h:aJ aa c q w g R v)(hk:Ok K M R)(hK:K<=50000)(hM:M<=20000)(hi:R.track.index<=R.commit)(hf:aG (aQ aa q) w (.slice V m d) x.facts)(hm:m<=maxLen) :
  Calls prog 22 #[.pointer (some ⟨g,0,none⟩),.agg #[.int .i64 x.op,.int .i64 x.sess,.int .i64 x.seq,.slice V m d]] w fun e w'=>∃Y A1 n1 c1,e=.returned (.tuple #[ni (R.propose x).1.1 (.slice A1 n1 c1),.int .i64 (R.propose x).1.2.1,.agg (aZ (R.propose x).1.2.2 Y)])/\
   jk aa c q w g (R.propose x).1.2.2 (R.propose x).2 Y (.slice A1 n1 c1) (R.propose x).1.1.facts w':=by
 have cQ:=h.s.lt;have cw9:=h.s.cell 9;simp only[bj,vi,Zx]at cw9;obtain⟨aI,oo,CU,fA⟩:=vG w 42 59 52 #[.int .i64 x.op,.int .i64 x.sess,.int .i64 x.seq,.slice V m d] iH aX;obtain⟨w3,iU⟩:=zN (((w.alloc (.cells #[.int .i64 x.op,.int .i64 x.sess,.int .i64 x.seq,.slice V m d] 42)).alloc (.cells #[.int .i64 0,.int .i64 0,.int .i64 0,.int .i64 0,.int .i64 0,.slice none 0 0] 59)).alloc (.cells #[.bool false,.bool false,.int .i64 0,.int .i64 0,.slice none 0 0,.slice none 0 0,.bool false,.int .i64 0,.int .i64 0,.slice none 0 0,.slice none 0 0,.slice none 0 0] 52));have Lv:w3.heap.size=w.heap.size+3:=by rw[<-iU];simp
 rw[show((w.alloc (.cells #[.int .i64 x.op,.int .i64 x.sess,.int .i64 x.seq,.slice V m d] 42)).alloc (.cells iH 59)).alloc (.cells aX 52)=w3 from iU]at aI oo CU fA;have h1:=h.fresh (q+c+10) aI;have nc:aG (aQ (ai aa w.heap.size (q+c+10)) q) w3 (.slice V m d) x.facts:=(hf.mono (S':=aQ (ai aa w.heap.size (q+c+10)) q) fun j hj e=>(ac hj).trans e).keep (bz.below aI);have Yg:=zH (ET h1 aI).nofacts;obtain⟨cx,Hc⟩:=zN (ai aa w.heap.size (q+c+10));rw[Hc]at h1 nc;have P5:¬aT cx c w.heap.size:=fun hh=>by unfold aT at hh;rw[<-Hc,ay zl]at hh;omega
 have JB:g≠w.heap.size:=by omega
 have Qz:g≠w.heap.size+1:=by omega
 have OA:g≠w.heap.size+1+1:=by omega
 have Qb:g<w.heap.size+1:=by omega
 have Qw:g<w.heap.size+1+1:=by omega
 have gK:g<w3.heap.size:=h1.s.lt;have E9:w.heap.size<w3.heap.size:=oo.lt;replace iU:=zH iU;by_cases hr:R.role=3
 ·obtain⟨pf,jv⟩:=zN (R.track.putF R.hard.term x);have cf:=hk.trk;have kh:Below w3.drew.heap.size w3.drew (w3.drew.alloc (.cells #[.int .i64 0,.int .i64 0,.int .i64 0,.int .i64 0,.int .i64 0,.slice none 0 0] 59)):=zb.alloc zl _;have N6:=h1.below (w':=w3.drew) (zb.drew);have Mx:aG (aQ cx q) w3.drew (.slice V m d) x.facts:=nc.keep (bz.below (zb.drew));have eD:=qY R.hard.term x V m d ha N6 (by omega) Mx hm;have ey:=qY R.hard.term x V m d ha (N6.fresh (q+c+10) kh) (by omega) ((Mx.mono (S':=aQ (ai cx w3.drew.heap.size (q+c+10)) q) fun j hj e=>(ac hj).trans e).keep (bz.below kh)) hm;rw[jv]at eD ey;obtain⟨gt,gM,ye,pI,ua⟩:=h1.trk_at;rw[gM]at eD ey;obtain⟨d2,d4,-⟩:=h1.s.cs [2,4];simp only[bj,vi,Zx]at d2 d4;rw[gM]at d4;obtain⟨y0,y1,y2,y3,-⟩:=oo.cs [0,1,2,3];simp only[Zx]at y0 y1 y2 y3;obtain⟨k2,k4,u0,u1,u2,u3⟩:=NO [g,w.heap.size] d2 d4 y0 y1 y2 y3;have qQ:w3.heap[g]?=some (.cells (bj {R with track:=pf.2} v) 122 (0,0)):=h1.s;have oN:∀w5 vy fs,nF cx c q w3.drew g {R with track:=pf.2} v w5 vy fs->w5.heap[g]?=w3.heap[g]?/\w5.heap[w.heap.size]?=w3.heap[w.heap.size]?:=fun w5 vy fs hT=>by
   obtain⟨cV,a1,a2,a3,a4⟩:=hT;exact⟨a1.s.trans qQ.symm,a3.block w.heap.size E9 P5⟩
  have kQ:∀w5 vy fs,nF (ai cx w3.drew.heap.size (q+c+10)) c q (w3.drew.alloc (.cells #[.int .i64 0,.int .i64 0,.int .i64 0,.int .i64 0,.int .i64 0,.slice none 0 0] 59)) g {R with track:=pf.2} v w5 vy fs->w5.heap[g]?=w3.heap[g]?/\w5.heap[w.heap.size]?=w3.heap[w.heap.size]?:=fun w5 vy fs hT=>by
   obtain⟨cV,a1,a2,a3,a4⟩:=hT;refine⟨a1.s.trans qQ.symm,(a3.block w.heap.size (Nat.lt_of_lt_of_le E9 kh.size) fun hh=>P5 ?_).trans (kh.block _ E9)⟩;unfold aT at hh ⊢;rw[ac (show w.heap.size<w3.drew.heap.size from E9)]at hh;exact hh
  have ci:∀wx p vy cs,eF cx c q w3.drew g {R with track:=pf.2} wx p vy pf.1.1.facts cs->eF cx c q w3 g {R with track:=pf.2} wx p vy pf.1.1.facts cs:=fun wx p vy cs hM=>hM.next (fun _ _=>rfl) (Fr.of_below (X:=aT cx c) (zb.drew))
  have e1:(R.role !=3)=false:=by simp[hr]
  replace hk:=zH hk;replace jv:=zH jv;replace hr:=zH hr;clear h h1 N6 hf nc Mx;replace Lv:=zH Lv;go_enter func22,ntmps22;go_wp2_with fail;rw[iU.out]
  go_cut [7,8] (fun s7 s8 wr=>∃p A1 n1 c1,s7=.pointer (some ⟨p,0,none⟩)/\s8=.int .i64 pf.1.2/\eF cx c q w3 g {R with track:=pf.2} wr p (.slice A1 n1 c1) pf.1.1.facts (bY (.slice A1 n1 c1,pf.1.1)).toArray)
  case first=>
   refine Q6 [g,w.heap.size] w3 (.two [0,1,2,3,4,5,6,7,8,9] 10 14 (.one [11,12,13] 14 (.one [] 15 (.last [16]))) (.one [] 10 (.one [11,12,13] 15 (.last [16])))) ?_;refine ir fun K1 K2 ct ge=>?_
   simp only[af,Zx];repeat go_big_quiet_step(fail)
   apply wpQuiet_nil;constructor
   ·go_wp2_with fail;refine eD.mono ?_;rintro e w5 ⟨A1,n1,c1,rfl,hT⟩;go_wp2_with fail;have jp:=oN _ _ _ hT;refine⟨bO jp.1 jp.2,ct _ _ ?_⟩;clear eD ey;refine bD fun K3 jx=>?_
    simp only[af,Zx];repeat go_big_quiet_step(fail)
    apply wpQuiet_nil;go_wp2_with fail;have hM:=hT.boxed #[.int .i64 0,.int .i64 0,.int .i64 0,.int .i64 0,.int .i64 0,.slice none 0 0] ha;have LE:Below w5.heap.size w5 (w5.alloc (.cells #[.int .i64 0,.int .i64 0,.int .i64 0,.int .i64 0,.int .i64 0,.slice none 0 0] 59)):=zb.alloc zl _;have kS:(w5.alloc (.cells #[.int .i64 0,.int .i64 0,.int .i64 0,.int .i64 0,.int .i64 0,.slice none 0 0] 59)).heap[g]?=w3.heap[g]?/\(w5.alloc (.cells #[.int .i64 0,.int .i64 0,.int .i64 0,.int .i64 0,.int .i64 0,.slice none 0 0] 59)).heap[w.heap.size]?=w3.heap[w.heap.size]?:=⟨(LE.block _ (aV (jp.1.trans qQ))).trans jp.1,(LE.block _ (aV (jp.2.trans oo))).trans jp.2⟩;generalize E6:w5.alloc (.cells #[.int .i64 0,.int .i64 0,.int .i64 0,.int .i64 0,.int .i64 0,.slice none 0 0] 59)=w6 at *;generalize yb:w5.heap.size=p at *;refine⟨bO kS.1 kS.2,jx _ _ ?_⟩;refine bD fun K4 tj=>?_
    simp only[af,Zx];apply wpQuiet_nil;obtain⟨fS,rU,NP⟩:=hM.blk;have KE:p≠w.heap.size:=by have NP:w3.heap.size<=p:=NP;omega
    obtain⟨z0,z1,z2,z3,z4,z5,-⟩:=fS.cs [0,1,2,3,4,5];simp only[Zx]at z0 z1 z2 z3 z4 z5;obtain⟨f0,f1,f2,f3,f4,f5,-⟩:=fS.fs [0,1,2,3,4,5];have eQ:=Fr.set6 w6 p (.slice A1 n1 c1,pf.1.1);have uL:(set6 w6 p (.slice A1 n1 c1,pf.1.1)).heap[g]?=w3.heap[g]?/\(set6 w6 p (.slice A1 n1 c1,pf.1.1)).heap[w.heap.size]?=w3.heap[w.heap.size]?:=⟨(eQ.block g (aV (kS.1.trans qQ)) fun e=>rU e.symm).trans kS.1,(eQ.block _ (aV (kS.2.trans oo)) fun e=>KE e.symm).trans kS.2⟩;have oD:=hM.set pf.1.1 rfl;go_wp2_with fail;refine⟨bO uL.1 uL.2,tj _ _ ?_⟩;show eG _ _ _ _ _ _ (set6 w6 p (.slice A1 n1 c1,pf.1.1));have aF:=zH (ci _ _ _ _ oD);generalize set6 w6 p (.slice A1 n1 c1,pf.1.1)=w7 at *;clear hM oD fS z0 z1 z2 z3 z4 z5 f0 f1 f2 f3 f4 f5 eQ hT ci oN kQ;refine dz ?_;simp only[af,Zx];repeat go_big_quiet_step(fail)
    apply wpQuiet_nil;go_wp2_with fail
    go_meet
    exact⟨p,A1,n1,c1,rfl,rfl,aF.out⟩
   ·go_wp2_with fail;refine⟨bO (kh.block g gK) (kh.block _ E9),ge _ _ ?_⟩;refine bD fun K3 jx=>?_
    simp only[af,Zx];apply wpQuiet_nil;go_wp2_with fail;refine ey.mono ?_;rintro e w6 ⟨A1,n1,c1,rfl,hT⟩;go_wp2_with fail;have kS:=kQ _ _ _ hT;have hM:=hT.box;have Bh:w3.drew.heap.size=w3.heap.size:=rfl;rw[Bh]at hM;refine⟨bO kS.1 kS.2,jx _ _ ?_⟩;clear eD ey;refine bD fun K4x Bg=>?_
    simp only[af,Zx];repeat go_big_quiet_step(fail)
    apply wpQuiet_nil;obtain⟨fS,rU,_⟩:=hM.blk;have KE:w3.heap.size≠w.heap.size:=by omega
    generalize w3.heap.size=p at *;obtain⟨z0,z1,z2,z3,z4,z5,-⟩:=fS.cs [0,1,2,3,4,5];simp only[Zx]at z0 z1 z2 z3 z4 z5;obtain⟨f0,f1,f2,f3,f4,f5,-⟩:=fS.fs [0,1,2,3,4,5];have eQ:=Fr.set6 w6 p (.slice A1 n1 c1,pf.1.1);have uL:(set6 w6 p (.slice A1 n1 c1,pf.1.1)).heap[g]?=w3.heap[g]?/\(set6 w6 p (.slice A1 n1 c1,pf.1.1)).heap[w.heap.size]?=w3.heap[w.heap.size]?:=⟨(eQ.block g (aV (kS.1.trans qQ)) fun e=>rU e.symm).trans kS.1,(eQ.block _ (aV (kS.2.trans oo)) fun e=>KE e.symm).trans kS.2⟩;have oD:=hM.set pf.1.1 rfl;go_wp2_with fail;refine⟨bO uL.1 uL.2,Bg _ _ ?_⟩;show eG _ _ _ _ _ _ (set6 w6 p (.slice A1 n1 c1,pf.1.1));have aF:=zH (ci _ _ _ _ oD);generalize set6 w6 p (.slice A1 n1 c1,pf.1.1)=w7 at *;clear hM oD fS z0 z1 z2 z3 z4 z5 f0 f1 f2 f3 f4 f5 eQ hT ci oN kQ;refine dz ?_;simp only[af,Zx];repeat go_big_quiet_step(fail)
    apply wpQuiet_nil;go_wp2_with fail
    go_meet
    exact⟨p,A1,n1,c1,rfl,rfl,aF.out⟩
  case rest=>
   obtain⟨p,A1,n1,c1,RY,Tx,sf⟩:=hcut;subst RY;subst Tx
   rename World=>wc
   clear eD ey kh ci oN kQ d2 d4 k2 k4 u0 u1 u2 u3 y0 y1 y2 y3 oo qQ;have fG:∀{R1 wX cs},eF cx c q w3 g R1 wX p (.slice A1 n1 c1) pf.1.1.facts cs->eF (ai aa w.heap.size (q+c+10)) c q w3 g R1 wX p (.slice A1 n1 c1) pf.1.1.facts cs:=fun h=>by rw[Hc];exact h
   obtain⟨nr,rU,NP⟩:=sf.blk;have Kd:=Lv.out;have eK:=(fG sf).boxed aI;have Eu:ar wc (w.heap.size+1) 59 iH:=(eK _ (by omega) (by omega)).trans CU;have Ej:ar wc (w.heap.size+1+1) 52 aX:=(eK _ (by omega) (by omega)).trans fA;have Ob:=Eu.lt;have vF:=Ej.lt;by_cases hz:pf.1.2=0
   ·have xn:(pf.1.2 !=0)=false:=by simp[hz]
    obtain⟨R5,oZ⟩:=zN ((({R with track:=pf.2}:Rf).save [pf.1.1]));have iY:Ok (K+1) (M+1) R5:=by
     rw[<-oZ];have:=hk.out.put R.hard.term x;rw[jv.out]at this;exact this.save [pf.1.1]
    have tD:R5.role=3:=by rw[<-oZ];exact hr.out
    have NX:R5.track.index<=R5.commit:=by
     rw[<-oZ];show pf.2.index<=R.commit;have Gc:=iv R.track R.hard.term x;rw[jv.out]at Gc;rw[Gc.1];exact hi
    obtain⟨O,hO⟩:=zN (Rf.tell R5.all.agrees);have fW:=sJ hr.out jv.out hz (by rw[oZ,hO]);have jS:=iY.all;have jz:=iY.peers tD (by omega);have To:R5.all.track.index<=R5.all.commit/\R5.all.peers.length=R5.all.n+1:=by
     obtain⟨ms,e,_⟩:=ev R5.others R5;have e':R5.all=_:=e;rw[e'];exact⟨NX,jz.len⟩
    have aF:∀wx,eF cx c q w3 g R5 wx p (.slice A1 n1 c1) pf.1.1.facts (bY (.slice A1 n1 c1,pf.1.1)).toArray->Calls prog 53 #[.pointer (some ⟨g,0,none⟩)] wx fun e w'=>e=.returned (.tuple #[])/\eF cx c q w3 g R5.all w' p (.slice A1 n1 c1) pf.1.1.facts (bY (.slice A1 n1 c1,pf.1.1)).toArray:=fun wx hP=>hP.act ha fun bu v2 h2=>oK ha h2 jz (by have:=iY.ms;omega)
    have na:∀wx,eF cx c q w3 g R5.all wx p (.slice A1 n1 c1) pf.1.1.facts (bY (.slice A1 n1 c1,pf.1.1)).toArray->Calls prog 70 #[.pointer (some ⟨g,0,none⟩)] wx fun e w'=>e=.returned (.tuple #[])/\eF cx c q w3 g R5.all.agrees w' p (.slice A1 n1 c1) pf.1.1.facts (bY (.slice A1 n1 c1,pf.1.1)).toArray:=fun wx hP=>hP.act ha fun bu v2 h2=>lN ha h2 To.2 jS.id.2.2 To.1 jS.cm.1 (by have:=jS.trk;omega) (by have:=jS.cs;omega)
    replace fW:=zH fW;replace hO:=zH hO;replace aF:=zH aF;replace na:=zH na;clear iY jS jz NX To tD;obtain⟨bu,v2,h2,qV,U2,cR⟩:=sf.open_ ha;have s22:=h2.s.set_ 22 (.bool true);simp only[bj,Zy]at s22;have d22:=h2.s.cell 22;simp only[bj,vi,Zx]at d22;have f22:=h2.s.free 22;obtain⟨wd,tJ⟩:=zN (wc.setCell ⟨g,22,none⟩ (.bool true));have Az:Fr (fun j=>j=g) wc wd:=by rw[<-tJ];exact Fr.set g 22 _
    rw[tJ]at s22;have h3:aJ bu c q wd g {R with track:=pf.2,out:={R.out with save:=true}} v2:=h2.nums ha s22 Az rfl rfl rfl rfl rfl rfl rfl rfl rfl rfl rfl;have uH:ar wd p 59 (bY (.slice A1 n1 c1,pf.1.1)).toArray:=(Az.block p nr.lt rU).trans nr;have Bi:∀j,bu j=q->j≠g:=fun j hj e=>by have:=h2.sl;rw[e]at hj;unfold aL at ha;omega
    have uc:aG (aQ bu q) wd (.slice A1 n1 c1) pf.1.1.facts:=qV.keep fun j hj hl=>Az.block j hl (Bi j hj)
    obtain⟨A,d,zs,pY,bP,dx,P6,gq,jy⟩:=vH ha h3 uc;obtain⟨n,fp⟩:=zN (R.out.entries.length);have ah:({R with track:=pf.2,out:={R.out with save:=true}}:Rf).out.entries.length=n:=fp;rw[ah]at pY bP jy;have Sr:n<=100000:=by rw[<-fp];have:=hk.out.es;omega
    have e26:wd.cell? ⟨g,26,none⟩=some (.slice A n d):=by
     have:=h3.s.cell 26;simp only[bj,Zx]at this;rw[this,pY]
    have kt:=h3.s.lt;have Q2:=uH.lt;obtain⟨z0,z1,z2,z3,z4,z5,-⟩:=uH.cs [0,1,2,3,4,5];simp only[bY,vi,Zx]at z0 z1 z2 z3 z4 z5;obtain⟨k26,k0,k1,k2,k3,k4,k5⟩:=KW [g,p] e26 z0 z1 z2 z3 z4 z5;have cT:∀x∈[g,p],x<wd.heap.size:=by simp;exact⟨kt,Q2⟩
    have fi:n+1<=1000000000:=by omega
    have KS:∀A3 c3 w4,w4.ownsRow 0 59 6 (.slice A3 (n+1) c3) (n+1) ((zs++[(Value.slice A1 n1 c1,pf.1.1)]).flatMap bY)->Fr (az A) ((wd.alloc (.cells (bY (.slice A1 n1 c1,pf.1.1)).toArray 59)).drew) w4->(∀j,az A3 j->az A j\/((wd.alloc (.cells (bY (.slice A1 n1 c1,pf.1.1)).toArray 59)).drew).heap.size<=j)->
      ar w4 g 122 (bj {R with track:=pf.2,out:={R.out with save:=true}} v2)/\w4.heap[g]?=wd.heap[g]?/\w4.heap[p]?=wd.heap[p]?/\eF cx c q w3 g R5 (w4.setCell ⟨g,26,none⟩ (.slice A3 (n+1) c3)) p (.slice A1 n1 c1) pf.1.1.facts (bY (.slice A1 n1 c1,pf.1.1)).toArray:=fun A3 c3 w4 ho hF hr=>by
     obtain⟨q1,q2,q3⟩:=jy A3 c3 w4 ho hF hr;refine⟨q1,q1.trans h3.s.symm,q3 p Q2 U2,?_⟩;have Ur:Fr (aT bu c) wc wd:=Az.mono fun j e=>by rw[e];have:=h2.sl;exact⟨by omega,by omega⟩
     have AU:=q2.next (fun _ _=>rfl) Ur;rw[<-oZ];exact cR _ _ AU
    replace tJ:=zH tJ;clear h2 h3 qV uc jy cR sf uH nr s22 hz oZ Eu Ej eK;go_wp2_with fail;rw[tJ.out];try go_wp2_with fail
    refine mI [g,p] wd [([0,1,2,3,4,5,6],7),([],8)] ([9,10,11],12) ?_;refine ap fun K5 wR=>?_
    simp only[af,Zx];repeat go_big_quiet_step(fail)
    apply wpQuiet_nil;go_wp2_with fail;refine⟨aq cT P6,wR _ _ ?_⟩;refine ap fun K6 rS=>?_
    simp only[af,Zx];apply wpQuiet_nil;go_wp2_with (at_builtin;refine aW rfl (.tmp 44) (.tmp 46) rfl 0 rfl bP rfl dx gq fi zz ?_;intro A3 c3 w4 cE dg bS hrw3;obtain⟨iT,gK,Ex,lm⟩:=KS A3 c3 w4 cE dg hrw3;replace lm:=zH lm;clear KS cE dg bS hrw3);have x26:=iT.cell 26;have y26:=iT.free 26;simp only[bj,vi,Zx]at x26;refine⟨bO gK Ex,rS _ _ ?_⟩;refine aC ?_;simp only[af,Zx];repeat go_big_quiet_step(fail)
    apply wpQuiet_nil;go_wp2_with fail;refine(aF.out _ lm.out).mono ?_;rintro e w8 ⟨rfl,QP⟩;have pW:=na.out _ QP;clear QP iT x26;go_wp2_with fail;refine pW.mono ?_;rintro e w9 ⟨rfl,mE⟩;clear pW;have yy:=mE.blk.1;have mx:=yy.lt;have cf:=eF.told ha aI (fG mE.drewn);rw[hO.out]at cf;unfold aZ at cf;obtain⟨z0,z1,z2,z3,z4,z5,-⟩:=yy.cs [0,1,2,3,4,5];simp only[bY,vi,Zx]at z0 z1 z2 z3 z4 z5;obtain⟨k0,k1,k2,k3,k4,k5⟩:=NO [p] z0 z1 z2 z3 z4 z5;clear mE;go_wp2_with fail;refine mI [p] w9 [([0,1],2),([],3)] ([4],5) ?_;refine ap fun K1 ct=>?_
    simp only[af,Zx];repeat go_big_quiet_step(fail)
    apply wpQuiet_nil;go_wp2_with fail;refine cf.mono ?_;rintro e wT ⟨Y,rfl,NT,Wl,yv⟩;have Ib:wT.heap[p]?=w9.heap[p]?:=Wl.trans yy.symm;have Ff:ar wT (w.heap.size+1) 59 iH:=(NT _ (by omega) (by omega)).trans CU;have GX:ar wT (w.heap.size+1+1) 52 aX:=(NT _ (by omega) (by omega)).trans fA;obtain⟨Hy,H7,Au⟩:=od Ff GX (.slice A1 n1 c1) pf.1.1 O.1 Y;have zv:=yv _ (Au.mono (X':=fun k=>w.heap.size<=k/\k<w3.heap.size) fun j e=>⟨e.1,by have:=e.2;omega⟩);obtain⟨wE,dk⟩:=zN (bX (set6 wT (w.heap.size+1) (.slice A1 n1 c1,pf.1.1)) (w.heap.size+1+1) O.1 Y);rw[dk]at Hy H7 zv;replace dk:=zH dk;replace zv:=zH zv;have Ob:=Ff.lt;have vF:=GX.lt;obtain⟨q0,q1,q2,q3,q4,q5,-⟩:=Ff.cs [0,1,2,3,4,5];simp only[iH,vi,Zx]at q0 q1 q2 q3 q4 q5;obtain⟨f0,f1,f2,f3,f4,f5,-⟩:=Ff.fs [0,1,2,3,4,5];obtain⟨y0,y1,y2,y3,y4,y5,y6,y7,y8,y9,y10,y11,-⟩:=GX.cs [0,1,2,3,4,5,6,7,8,9,10,11];simp only[aX,vi,Zx]at y0 y1 y2 y3 y4 y5 y6 y7 y8 y9 y10 y11;obtain⟨u0,u1,u2,u3,u4,u5,u6,u7,u8,u9,u10,u11,-⟩:=GX.fs [0,1,2,3,4,5,6,7,8,9,10,11];have jb:=Fr.set6 wT (w.heap.size+1) (.slice A1 n1 c1,pf.1.1);have xA:p≠w.heap.size+1:=by have NP:w3.heap.size<=p:=NP;omega
    have vq:(set6 wT (w.heap.size+1) (.slice A1 n1 c1,pf.1.1)).heap[p]?=w9.heap[p]?:=(jb.block p (by rw[Array.getElem?_eq_getElem mx]at Ib;exact aV Ib) xA).trans Ib;clear cf yv Au Ff GX yy Wl Kd;go_wp2_with fail;refine⟨br Ib,ct _ _ ?_⟩;refine ap fun K2 ge=>?_
    simp only[af,Zx];apply wpQuiet_nil;go_wp2_with fail;refine⟨br vq,ge _ _ ?_⟩;refine aC ?_;simp only[af,Zx];repeat go_big_quiet_step(fail)
    apply wpQuiet_nil;go_wp2_with fail;show bodyPost _ _ _ _ _ (bX (set6 wT (w.heap.size+1) (.slice A1 n1 c1,pf.1.1)) (w.heap.size+1+1) O.1 Y);rw[dk.out];obtain⟨r0,r1,r2,r3,r4,r5,-⟩:=Hy.cs [0,1,2,3,4,5];simp only[bY,vi,Zx]at r0 r1 r2 r3 r4 r5;obtain⟨t0,t1,t2,t3,t4,t5,t6,t7,t8,t9,t10,t11,-⟩:=H7.cs [0,1,2,3,4,5,6,7,8,9,10,11];simp only[aZ,vi,Zx]at t0 t1 t2 t3 t4 t5 t6 t7 t8 t9 t10 t11;exact bodyPost_ret (v:=.tuple #[.agg #[.int .i64 pf.1.1.idx,.int .i64 pf.1.1.term,.int .i64 pf.1.1.op,.int .i64 pf.1.1.sess,.int .i64 pf.1.1.seq,.slice A1 n1 c1],.int .i64 0,.agg (aZ O.1 Y)]) (by simp[results,results22,go_sem,aZ,r0,r1,r2,r3,r4,r5,t0,t1,t2,t3,t4,t5,t6,t7,t8,t9,t10,t11]) rfl ⟨Y,A1,n1,c1,by rw[fW.out];rfl,by rw[fW.out];exact zv.out⟩
   ·have xn:(pf.1.2 !=0)=true:=by simp[hz]
    have fW:=zH (qs hr.out jv.out hz);obtain⟨Hy,H7,Au⟩:=od Eu Ej (.slice none 0 0) gk dZ lg;have yv:=(fG sf).zero ha aI (Au.mono (X':=fun k=>w.heap.size<=k/\k<w3.heap.size) fun j e=>⟨e.1,by have:=e.2;omega⟩);obtain⟨wE,dk⟩:=zN (bX (set6 wc (w.heap.size+1) (.slice none 0 0,gk)) (w.heap.size+1+1) dZ lg);rw[dk]at Hy H7 yv;replace dk:=zH dk;obtain⟨z0,z1,z2,z3,z4,z5,-⟩:=Eu.cs [0,1,2,3,4,5];simp only[iH,vi,Zx]at z0 z1 z2 z3 z4 z5;obtain⟨f0,f1,f2,f3,f4,f5,-⟩:=Eu.fs [0,1,2,3,4,5];obtain⟨y0,y1,y2,y3,y4,y5,y6,y7,y8,y9,y10,y11,-⟩:=Ej.cs [0,1,2,3,4,5,6,7,8,9,10,11];simp only[aX,vi,Zx]at y0 y1 y2 y3 y4 y5 y6 y7 y8 y9 y10 y11;obtain⟨u0,u1,u2,u3,u4,u5,u6,u7,u8,u9,u10,u11,-⟩:=Ej.fs [0,1,2,3,4,5,6,7,8,9,10,11];replace yv:=zH yv;clear sf Eu Ej hz Au eK nr Kd;go_wp2_with fail;show bodyPost _ _ _ _ _ (bX (set6 wc (w.heap.size+1) (.slice none 0 0,gk)) (w.heap.size+1+1) dZ lg);rw[dk.out];obtain⟨r0,r1,r2,r3,r4,r5,-⟩:=Hy.cs [0,1,2,3,4,5];simp only[bY,gk,vi,Zx]at r0 r1 r2 r3 r4 r5;obtain⟨t0,t1,t2,t3,t4,t5,t6,t7,t8,t9,t10,t11,-⟩:=H7.cs [0,1,2,3,4,5,6,7,8,9,10,11];simp only[aZ,vi,Zx]at t0 t1 t2 t3 t4 t5 t6 t7 t8 t9 t10 t11;exact bodyPost_ret (v:=.tuple #[.agg #[.int .i64 0,.int .i64 0,.int .i64 0,.int .i64 0,.int .i64 0,.slice none 0 0],.int .i64 pf.1.2,.agg (aZ dZ lg)]) (by simp[results,results22,go_sem,aZ,r0,r1,r2,r3,r4,r5,t0,t1,t2,t3,t4,t5,t6,t7,t8,t9,t10,t11]) rfl ⟨lg,none,0,0,by rw[fW.out];rfl,by rw[fW.out];exact yv.out⟩
 ·have e1:(R.role !=3)=true:=by simp[hr]
  have fW:=zH (sE x hr);replace hr:=zH hr;replace hk:=zH hk;clear h h1 hf nc aI oo;go_enter func22,ntmps22;go_wp2_with fail;rw[iU.out];obtain⟨r0,r1,r2,r3,r4,r5,-⟩:=CU.cs [0,1,2,3,4,5];simp only[iH,vi,Zx]at r0 r1 r2 r3 r4 r5;obtain⟨t0,t1,t2,t3,t4,t5,t6,t7,t8,t9,t10,t11,-⟩:=fA.cs [0,1,2,3,4,5,6,7,8,9,10,11];simp only[aX,vi,Zx]at t0 t1 t2 t3 t4 t5 t6 t7 t8 t9 t10 t11;exact bodyPost_ret (v:=.tuple #[.agg #[.int .i64 0,.int .i64 0,.int .i64 0,.int .i64 0,.int .i64 0,.slice none 0 0],.int .i64 40,.agg (aZ dZ lg)]) (by simp[results,results22,go_sem,aZ,dZ,lg,ju,jt,ns,r0,r1,r2,r3,r4,r5,t0,t1,t2,t3,t4,t5,t6,t7,t8,t9,t10,t11]) rfl ⟨lg,none,0,0,by rw[fW.out];rfl,by rw[fW.out];exact Yg.out⟩
end
section
variable {aa:Nat->Nat}{c q g p:Nat}{w w1 w2:World}{R R1:Rf}{v:Aw}
theorem F4(x:Wt)(ha:aL c q)(h:aJ aa c q w g R v):∃A d,v.waits=.slice A R.waits.length d/\((w.alloc (.cells (pH x).toArray 173)).drew).ownsRow 0 173 3 (.slice A R.waits.length d) R.waits.length (R.waits.flatMap pH)/\Below w.heap.size w ((w.alloc (.cells (pH x).toArray 173)).drew)/\
  ∀A3 c3 w3,w3.ownsRow 0 173 3 (.slice A3 (R.waits.length+1) c3) (R.waits.length+1) ((R.waits++[x]).flatMap pH)->Fr (az A) ((w.alloc (.cells (pH x).toArray 173)).drew) w3->(∀j,az A3 j->az A j\/((w.alloc (.cells (pH x).toArray 173)).drew).heap.size<=j)->
   ar w3 g 122 (bj R v)/\au aa c q w g {R with waits:=R.waits++[x]} (w3.setCell ⟨g,16,none⟩ (.slice A3 (R.waits.length+1) c3)):=by
 have hb:Below w.heap.size w ((w.alloc (.cells (pH x).toArray 173)).drew):=((Below.refl w.heap.size w).alloc zl _).drew;have RT:=hb.size;have h1:=h.fresh (c+5) hb;obtain⟨A,d,hv,bP,hl⟩:=id h1.x;refine⟨A,d,hv,ed bP zz,hb,fun A3 c3 w3 ho hF hr=>?_⟩;have dL:=h1.sl;have vZ:¬az A g:=fun hh=>by have:=hl g hh;omega
 have kr:∀j,az A3 j->ai aa w.heap.size (c+5) j=c+5:=fun j hj=>(hr j hj).elim (hl j) fun e=>ay (by omega)
 have SU:¬az A3 g:=fun hh=>by have:=kr g hh;omega
 have hS:ar w3 g 122 (bj R v):=(hF.block g h1.s.lt vZ).trans h1.s;have hs:=hS.set_ 16 (.slice A3 (R.waits.length+1) c3);simp only[bj,Zy]at hs;have eQ:=Fr.set (w:=w3) g 16 (.slice A3 (R.waits.length+1) c3);have AD:Fr (fun j=>j=g\/∃i,i∈[5]/\ai aa w.heap.size (c+5) j=c+i) ((w.alloc (.cells (pH x).toArray 173)).drew) (w3.setCell ⟨g,16,none⟩ (.slice A3 (R.waits.length+1) c3)):=
  (hF.mono fun j hj=>.inr ⟨5,by simp,hl j hj⟩).trans eQ fun j e=>.inl (.inl e)
 have cE:bQ (ai aa w.heap.size (c+5)) (c+5) (w3.setCell ⟨g,16,none⟩ (.slice A3 (R.waits.length+1) c3)) 173 3 (.slice A3 (R.waits.length+1) c3) (R.waits++[x]).length ((R.waits++[x]).flatMap pH):=
  ⟨A3,c3,by rw[List.length_append];rfl,by rw[List.length_append];exact cH ho fun j hj hl=>eQ.block j hl fun e=>SU (e▸hj),kr⟩
 have h9:=h1.turn (R':={R with waits:=R.waits++[x]}) (v':={v with waits:=.slice A3 (R.waits.length+1) c3}) [5] ha hs (fun j hj=>rfl) (by simp) AD tI tI tI (.inl cE) (.inr ⟨rfl,rfl⟩) (.inr ⟨rfl,rfl⟩) tI tI (.inr ⟨rfl,rfl⟩) tI tI;refine⟨hS,_,_,h9,fun j hj=>ac hj,(Fr.of_below (X:=aT aa c) hb).trans AD fun j e=>?_⟩;by_cases hj:j<w.heap.size
 ·refine .inl ?_;rcases e with rfl|⟨i,hi,e⟩
  ·have:=h.sl;exact⟨by omega,by omega⟩
  ·rw[ac hj]at e;have NX:i=5:=by simpa using hi
   exact⟨by omega,by omega⟩
 ·exact .inr (by omega)
theorem pM(h:aJ (ai aa w.heap.size (q+c+10)) c q w2 g R v)(hb:Fr (aT aa c) w w2):cU aa c q w g dZ R lg (bX w2 w.heap.size dZ lg):=by
 have hF:=oU w2 w.heap.size dZ lg;refine⟨_,v,h.keep fun j hj hl=>hF.block j hl fun e=>?_,jP.zero _ _ _,fun j hj _=>ac hj,fun j hj hm=>.inl ((eZ (fun _ hj=>ac hj) hj).2 hm),hb.trans hF fun j e=>.inr (by omega)⟩;unfold dC at hj;rw[e,ay zl]at hj;omega
theorem DP{K M:Nat}(ctx:Int)(ha:aL c q)(h:aJ aa c q w g R v)(hk:Ok K M R)(hK:K<=50000)(hM:M<=20000) :
  Calls prog 75 #[.pointer (some ⟨g,0,none⟩),.int .i64 ctx] w fun e w'=>∃Y,e=.returned (.tuple #[.int .i64 (R.read ctx).1.1,.agg (aZ (R.read ctx).1.2 Y)])/\cU aa c q w g (R.read ctx).1.2 (R.read ctx).2 Y w':=by
 have cQ:=h.s.lt;have aI:Below w.heap.size w (w.alloc (.cells aX 52)):=zb.alloc zl _;have fA:=ar.new w 52 aX;obtain⟨w1,bV⟩:=zN (w.alloc (.cells #[.bool false,.bool false,.int .i64 0,.int .i64 0,.slice none 0 0,.slice none 0 0,.bool false,.int .i64 0,.int .i64 0,.slice none 0 0,.slice none 0 0,.slice none 0 0] 52));rw[show w.alloc (.cells aX 52)=w1 from bV]at aI fA;have h1:=h.fresh (q+c+10) aI;have hN:R.track.L.length<=1000000:=by have:=hk.trk;omega
 obtain⟨gt,gM,_⟩:=h1.trk_at;obtain⟨c4,c8,-⟩:=h1.s.cs [4,8];simp only[bj,vi,Zx]at c4 c8;rw[gM]at c4;have iQ:g<w1.heap.size:=h1.s.lt;obtain⟨k4,k8⟩:=nY [g] c4 c8;have cT:∀q∈[g],q<w1.heap.size:=by simp;exact iQ
 have bh:=mb R.commit (h1.below (w':=w1.drew) (zb.drew)).t hN;rw[gM]at bh;obtain⟨tt,i7⟩:=zN (R.track.termF R.commit);rw[i7]at bh;have dx:R.read ctx=if R.role≠3\/tt.1≠R.hard.term then((40,dZ),R)else if Rf.numOk ctx=false then((1,dZ),R)else if 16<=R.waits.length then((41,dZ),R)else
   ((0,(({R with round:=R.round+1,waits:=R.waits++[Wt.mk ctx R.commit (R.round+1)]:Rf}.all.reads).tell).1),(({R with round:=R.round+1,waits:=R.waits++[Wt.mk ctx R.commit (R.round+1)]:Rf}.all.reads).tell).2):=by
  rw[<-i7];rfl
 have gZ:=zH h1;replace bV:=zH bV;replace hk:=zH hk;clear h i7 h1;by_cases gC:R.role≠3\/tt.1≠R.hard.term
 ·rw[if_pos gC]at dx;replace dx:=zH dx;have cu:(R.role !=3)=true\/((R.role !=3)=false/\(tt.1 !=R.hard.term)=true):=by
   by_cases a:R.role=3
   ·exact .inr ⟨by simp[a],by rcases gC with h|h;exact absurd a h;simp[h]⟩
   ·exact .inl (by simp[a])
  replace gC:=zH gC;rcases cu with e1|⟨e1,e2⟩
  all_goals
   go_enter func75,ntmps75;go_wp2_with fail;rw[bV.out];refine dV [g] w1 [([0,1,2,3,4,5,6,7],8)] [9,10,11,12,13] ?_;refine av fun K1 ct=>?_
   simp only[af,Zx];repeat go_big_quiet_step(fail)
   apply wpQuiet_nil;go_wp2_with fail;refine bh.mono ?_;rintro e w2 ⟨rfl,bJ⟩;subst bJ;go_wp2_with fail;have bR:Below w1.heap.size w1 w1.drew:=zb.drew;refine⟨aq cT bR,ct _ _ ?_⟩;refine aj ?_;simp only[af,Zx];repeat go_big_quiet_step(fail)
   apply wpQuiet_nil;obtain⟨w2,cw⟩:=zN (w1.drew);rw[cw]at bR ⊢;replace cw:=zH cw;have h2:=gZ.out.below bR;obtain⟨d2,d9,-⟩:=h2.s.cs [2,9];simp only[bj,vi,Zx]at d2 d9;have iC:=fA.kept bR;have eI:=pM h2 ((Fr.of_below (X:=aT aa c) aI).trans (Fr.of_below (X:=aT aa c) bR) fun j hj=>.inl hj);have jY:=je dZ lg iC;obtain⟨wE,dk⟩:=zN (bX w2 w.heap.size dZ lg);rw[dk]at eI jY;replace dk:=zH dk;obtain⟨z0,z1,z2,z3,z4,z5,z6,z7,z8,z9,z10,z11,-⟩:=iC.cs [0,1,2,3,4,5,6,7,8,9,10,11];simp only[aX,vi,Zx]at z0 z1 z2 z3 z4 z5 z6 z7 z8 z9 z10 z11;obtain⟨u0,u1,u2,u3,u4,u5,u6,u7,u8,u9,u10,u11,-⟩:=iC.fs [0,1,2,3,4,5,6,7,8,9,10,11];have vF:=iC.lt;replace eI:=zH eI;clear h2 iC bh;go_wp2_with fail;show bodyPost _ _ _ _ _ (bX w2 w.heap.size dZ lg);rw[dk.out];obtain⟨r0,r1,r2,r3,r4,r5,r6,r7,r8,r9,r10,r11,-⟩:=jY.cs [0,1,2,3,4,5,6,7,8,9,10,11];simp only[aZ,vi,Zx]at r0 r1 r2 r3 r4 r5 r6 r7 r8 r9 r10 r11;exact bodyPost_ret (v:=.tuple #[.int .i64 40,.agg (aZ dZ lg)]) (by simp[results,results75,go_sem,aZ,r0,r1,r2,r3,r4,r5,r6,r7,r8,r9,r10,r11]) rfl ⟨lg,by rw[dx.out],by rw[dx.out];exact eI.out⟩
 ·rw[if_neg gC]at dx;have hr:R.role=3:=by
   by_cases a:R.role=3
   ·exact a
   ·exact absurd (.inl a) gC
  have e1:(R.role !=3)=false:=by simp[hr]
  have e2:(tt.1 !=R.hard.term)=false:=by
   by_cases a:tt.1=R.hard.term
   ·simp[a]
   ·exact absurd (.inr a) gC
  replace gC:=zH gC;replace hr:=zH hr;have Av:=nZ ctx;cases dt:Rf.numOk ctx
  ·rw[if_pos dt]at dx;rw[dt]at Av;have MT:ctx<0\/(¬ctx<0/\1099511627776<ctx):=by
    have:=of_decide_eq_false Av;omega
   clear Av dt;replace dx:=zH dx;rcases MT with x1|⟨x1,x2⟩
   all_goals
    go_enter func75,ntmps75;go_wp2_with fail;rw[bV.out];refine dV [g] w1 [([0,1,2,3,4,5,6,7],8)] [9,10,11,12,13] ?_;refine av fun K1 ct=>?_
    simp only[af,Zx];repeat go_big_quiet_step(fail)
    apply wpQuiet_nil;go_wp2_with fail;refine bh.mono ?_;rintro e w2 ⟨rfl,bJ⟩;subst bJ;go_wp2_with fail;have bR:Below w1.heap.size w1 w1.drew:=zb.drew;refine⟨aq cT bR,ct _ _ ?_⟩;refine aj ?_;simp only[af,Zx];repeat go_big_quiet_step(fail)
    apply wpQuiet_nil;obtain⟨w2,cw⟩:=zN (w1.drew);rw[cw]at bR ⊢;replace cw:=zH cw;have h2:=gZ.out.below bR;obtain⟨d2,d9,-⟩:=h2.s.cs [2,9];simp only[bj,vi,Zx]at d2 d9;have iC:=fA.kept bR;have eI:=pM h2 ((Fr.of_below (X:=aT aa c) aI).trans (Fr.of_below (X:=aT aa c) bR) fun j hj=>.inl hj);have jY:=je dZ lg iC;obtain⟨wE,dk⟩:=zN (bX w2 w.heap.size dZ lg);rw[dk]at eI jY;replace dk:=zH dk;obtain⟨z0,z1,z2,z3,z4,z5,z6,z7,z8,z9,z10,z11,-⟩:=iC.cs [0,1,2,3,4,5,6,7,8,9,10,11];simp only[aX,vi,Zx]at z0 z1 z2 z3 z4 z5 z6 z7 z8 z9 z10 z11;obtain⟨u0,u1,u2,u3,u4,u5,u6,u7,u8,u9,u10,u11,-⟩:=iC.fs [0,1,2,3,4,5,6,7,8,9,10,11];have vF:=iC.lt;replace eI:=zH eI;clear h2 iC bh;go_wp2_with fail;show bodyPost _ _ _ _ _ (bX w2 w.heap.size dZ lg);rw[dk.out];obtain⟨r0,r1,r2,r3,r4,r5,r6,r7,r8,r9,r10,r11,-⟩:=jY.cs [0,1,2,3,4,5,6,7,8,9,10,11];simp only[aZ,vi,Zx]at r0 r1 r2 r3 r4 r5 r6 r7 r8 r9 r10 r11;exact bodyPost_ret (v:=.tuple #[.int .i64 1,.agg (aZ dZ lg)]) (by simp[results,results75,go_sem,aZ,r0,r1,r2,r3,r4,r5,r6,r7,r8,r9,r10,r11]) rfl ⟨lg,by rw[dx.out],by rw[dx.out];exact eI.out⟩
  ·rw[if_neg (by rw[dt];simp)]at dx;rw[dt]at Av;have MT:=of_decide_eq_true Av;have x1:¬ctx<0:=by omega
   have x2:¬1099511627776<ctx:=by omega
   clear Av dt MT;obtain⟨n,hn⟩:=zN (R.waits.length);by_cases Di:16<=R.waits.length
   ·rw[if_pos Di]at dx;replace dx:=zH dx;rw[hn]at Di;have e16:(16:Int)<=(n:Int):=by omega
    clear Di;replace hn:=zH hn;go_enter func75,ntmps75;go_wp2_with fail;rw[bV.out];refine dV [g] w1 [([0,1,2,3,4,5,6,7],8)] [9,10,11,12,13] ?_;refine av fun K1 ct=>?_
    simp only[af,Zx];repeat go_big_quiet_step(fail)
    apply wpQuiet_nil;go_wp2_with fail;refine bh.mono ?_;rintro e w2 ⟨rfl,bJ⟩;subst bJ;go_wp2_with fail;have bR:Below w1.heap.size w1 w1.drew:=zb.drew;refine⟨aq cT bR,ct _ _ ?_⟩;refine aj ?_;simp only[af,Zx];repeat go_big_quiet_step(fail)
    apply wpQuiet_nil;obtain⟨w2,cw⟩:=zN (w1.drew);rw[cw]at bR ⊢;replace cw:=zH cw;have h2:=gZ.out.below bR;obtain⟨d2,d9,-⟩:=h2.s.cs [2,9];simp only[bj,vi,Zx]at d2 d9;obtain⟨A,dw,qG,_⟩:=id h2.x;rw[hn.out]at qG;have d16:w2.cell? ⟨g,16,none⟩=some (.slice A n dw):=by
     have:=h2.s.cell 16;simp only[bj,Zx]at this;rw[this,qG]
    have iC:=fA.kept bR;have eI:=pM h2 ((Fr.of_below (X:=aT aa c) aI).trans (Fr.of_below (X:=aT aa c) bR) fun j hj=>.inl hj);have jY:=je dZ lg iC;obtain⟨wE,dk⟩:=zN (bX w2 w.heap.size dZ lg);rw[dk]at eI jY;replace dk:=zH dk;obtain⟨z0,z1,z2,z3,z4,z5,z6,z7,z8,z9,z10,z11,-⟩:=iC.cs [0,1,2,3,4,5,6,7,8,9,10,11];simp only[aX,vi,Zx]at z0 z1 z2 z3 z4 z5 z6 z7 z8 z9 z10 z11;obtain⟨u0,u1,u2,u3,u4,u5,u6,u7,u8,u9,u10,u11,-⟩:=iC.fs [0,1,2,3,4,5,6,7,8,9,10,11];have vF:=iC.lt;replace eI:=zH eI;clear h2 iC bh;go_wp2_with fail;show bodyPost _ _ _ _ _ (bX w2 w.heap.size dZ lg);rw[dk.out];obtain⟨r0,r1,r2,r3,r4,r5,r6,r7,r8,r9,r10,r11,-⟩:=jY.cs [0,1,2,3,4,5,6,7,8,9,10,11];simp only[aZ,vi,Zx]at r0 r1 r2 r3 r4 r5 r6 r7 r8 r9 r10 r11;exact bodyPost_ret (v:=.tuple #[.int .i64 41,.agg (aZ dZ lg)]) (by simp[results,results75,go_sem,aZ,r0,r1,r2,r3,r4,r5,r6,r7,r8,r9,r10,r11]) rfl ⟨lg,by rw[dx.out],by rw[dx.out];exact eI.out⟩
   ·rw[if_neg Di]at dx;have re:=hk.out.ck;obtain⟨L9,ND⟩:=re.2.2;rw[hn]at Di;have e16:¬(16:Int)<=(n:Int):=by omega
    have DY:n+1<=16:=by omega
    clear Di;replace dx:=zH dx;replace hn:=zH hn;go_enter func75,ntmps75;go_wp2_with fail;rw[bV.out];refine dV [g] w1 [([0,1,2,3,4,5,6,7],8)] [9,10,11,12,13] ?_;refine av fun K1 ct=>?_
    simp only[af,Zx];repeat go_big_quiet_step(fail)
    apply wpQuiet_nil;go_wp2_with fail;refine bh.mono ?_;rintro e w2 ⟨rfl,bJ⟩;subst bJ;go_wp2_with fail;have bR:Below w1.heap.size w1 w1.drew:=zb.drew;refine⟨aq cT bR,ct _ _ ?_⟩;refine aj ?_;simp only[af,Zx];repeat go_big_quiet_step(fail)
    apply wpQuiet_nil;obtain⟨w2,cw⟩:=zN (w1.drew);rw[cw]at bR ⊢;replace cw:=zH cw;have h2:=gZ.out.below bR;obtain⟨d2,d9,d15,-⟩:=h2.s.cs [2,9,15];simp only[bj,vi,Zx]at d2 d9 d15;obtain⟨A,dw,qG,_⟩:=id h2.x;rw[hn.out]at qG;have d16:w2.cell? ⟨g,16,none⟩=some (.slice A n dw):=by
     have:=h2.s.cell 16;simp only[bj,Zx]at this;rw[this,qG]
    have f15:=h2.s.free 15;have s3:=h2.s.set_ 15 (.int .i64 (R.round+1));simp only[bj,Zy]at s3;obtain⟨w3,iU⟩:=zN (w2.setCell ⟨g,15,none⟩ (.int .i64 (R.round+1)));have lu:Fr (fun j=>j=g) w2 w3:=by rw[<-iU];exact Fr.set g 15 _
    rw[iU]at s3;have h3:=h2.nums (R':={R with round:=R.round+1}) ha s3 lu rfl rfl rfl rfl rfl rfl rfl rfl rfl rfl rfl;obtain⟨A',dw',e0,bF,dH,Kz⟩:=F4 ⟨ctx,R.commit,R.round+1⟩ ha h3;have e0:v.waits=.slice A' R.waits.length dw':=e0;have bF:((w3.alloc (.cells #[.int .i64 ctx,.int .i64 (R.round+1),.int .i64 R.commit] 173)).drew).ownsRow 0 173 3 (.slice A' R.waits.length dw') R.waits.length (R.waits.flatMap pH):=bF;rw[qG,hn.out]at e0;injection e0 with g1 g2 g3;subst g1;subst g3;clear g2;rw[hn.out]at bF;obtain⟨a15,a8,-⟩:=h3.s.cs [15,8];simp only[bj,vi,Zx]at a15 a8;have a16:w3.cell? ⟨g,16,none⟩=some (.slice A n dw):=by
     have:=h3.s.cell 16;simp only[bj,Zx]at this;rw[this,qG]
    have gK:g<w3.heap.size:=h3.s.lt;obtain⟨q15,q16,q8⟩:=sD [g] a15 a16 a8;have ze:∀q∈[g],q<w3.heap.size:=by simp;exact gK
    replace iU:=zH iU;have rH:ar ((w3.alloc (.cells #[.int .i64 ctx,.int .i64 (R.round+1),.int .i64 R.commit] 173)).drew) w3.heap.size 173 (pH ⟨ctx,R.commit,R.round+1⟩).toArray:=ar.new w3 _ _;have BG:=vL rH (show _=3 from rfl);have BG:cn ((w3.alloc (.cells #[.int .i64 ctx,.int .i64 (R.round+1),.int .i64 R.commit] 173)).drew) 3 (some ⟨w3.heap.size,0,none⟩) 1 ([Wt.mk ctx R.commit (R.round+1)].flatMap pH):=by simpa using BG
    have fi:n+1<=1000000000:=by omega
    have aF:∀(A6:Option Addr) (c6:Nat) (w6:World),w6.ownsRow 0 173 3 (.slice A6 (n+1) c6) (n+1) ((R.waits++[Wt.mk ctx R.commit (R.round+1)]).flatMap pH)->Fr (az A) ((w3.alloc (.cells #[.int .i64 ctx,.int .i64 (R.round+1),.int .i64 R.commit] 173)).drew) w6->(∀j,az A6 j->az A j\/((w3.alloc (.cells #[.int .i64 ctx,.int .i64 (R.round+1),.int .i64 R.commit] 173)).drew).heap.size<=j)->
      w6.heap[g]?=w3.heap[g]?/\ar w6 g 122 (bj {R with round:=R.round+1} v)/\au (ai aa w.heap.size (q+c+10)) c q w1 g {R with round:=R.round+1,waits:=R.waits++[Wt.mk ctx R.commit (R.round+1)]} (w6.setCell ⟨g,16,none⟩ (.slice A6 (n+1) c6)):=fun A6 c6 w6 oP jb nT=>by
     obtain⟨iS,qp⟩:=Kz A6 c6 w6 (by show w6.ownsRow 0 _ 3 (.slice A6 (R.waits.length+1) c6) (R.waits.length+1) _;rw[hn.out];exact oP) jb nT;have qp:au (ai aa w.heap.size (q+c+10)) c q w3 g {R with round:=R.round+1,waits:=R.waits++[Wt.mk ctx R.commit (R.round+1)]} (w6.setCell ⟨g,16,none⟩ (.slice A6 (R.waits.length+1) c6)):=qp;rw[hn.out]at qp;have Bj:Fr (aT (ai aa w.heap.size (q+c+10)) c) w2 w3:=lu.mono fun j e=>by rw[e];have:=h3.sl;exact⟨by omega,by omega⟩
     exact⟨iS.trans h3.s.symm,iS,(qp.next (fun _ _=>rfl) Bj).next (fun _ _=>rfl) (Fr.of_below bR)⟩
    clear bh Kz h2 s3;go_wp2_with fail;rw[iU.out];try go_wp2_with fail
    refine mI [g] w3 [([0,1,2,3,4,5,6,7,8,9,10,11,12,13,14],15),([],16)] ([17,18],19) ?_;refine ap fun K2 ge=>?_
    simp only[af,Zx];repeat go_big_quiet_step(fail)
    apply wpQuiet_nil;go_wp2_with fail;refine⟨aq ze dH,ge _ _ ?_⟩;refine ap fun K3 jx=>?_
    simp only[af,Zx];apply wpQuiet_nil;go_wp2_with (at_builtin;refine j9 rfl (.tmp 60) (.tmp 71) rfl 0 rfl bF rfl BG fi zz ?_;intro A6 c6 w6 oP jb nT;obtain⟨Fg,iS,tY⟩:=aF A6 c6 w6 oP jb nT;replace tY:=zH tY;clear aF oP jb nT);have e16':=iS.cell 16;have f16:=iS.free 16;simp only[bj,Zx]at e16';have kS:=iS.lt;refine⟨br Fg,jx _ _ ?_⟩;refine aC ?_;simp only[af,Zx];repeat go_big_quiet_step(fail)
    apply wpQuiet_nil;have iY:Ok (K+1) M ({R with round:=R.round+1,waits:=R.waits++[Wt.mk ctx R.commit (R.round+1)]}:Rf):={hk.out.mono (Nat.le_succ K) (Nat.le_refl M)with
     ws:=by show(R.waits++[_]).length<=16;rw[List.length_append,hn.out];exact DY
     ck:=⟨re.1,by have:=re.2.1;show R.clock<=_;omega,by show 0<=R.round+1;omega,by show R.round+1<=_;omega⟩}
    have tD:({R with round:=R.round+1,waits:=R.waits++[Wt.mk ctx R.commit (R.round+1)]}:Rf).role=3:=hr.out;obtain⟨R5,oZ⟩:=zN (({R with round:=R.round+1,waits:=R.waits++[Wt.mk ctx R.commit (R.round+1)]}:Rf));have BT:=tY.out;have sx:=dx.out;rw[oZ]at iY tD BT sx;have jS:=iY.all;have nT:R5.all.role=3:=by
     obtain⟨ms,e,_⟩:=ev R5.others R5;have e':R5.all=_:=e;rw[e'];exact tD
    have eq:=BT.call (R2:=R5.all) (f:=53) (args:=#[.pointer (some ⟨g,0,none⟩)]) (E:=.returned (.tuple #[])) (fun ag v1 h=>oK ha h (iY.peers tD (by omega)) (by have:=iY.ms;omega));replace iY:=zH iY;replace tD:=zH tD;replace nT:=zH nT;replace sx:=zH sx;replace jS:=zH jS;clear oZ BT tY;go_wp2_with fail;refine eq.mono ?_;rintro e w7 ⟨rfl,C5⟩;have JH:=C5.call (R2:=R5.all.reads) (f:=65) (args:=#[.pointer (some ⟨g,0,none⟩)]) (E:=.returned (.tuple #[])) (fun ag v1 h=>sh ha h jS.out nT.out (by omega));clear eq C5;go_wp2_with fail;refine JH.mono ?_;rintro e w8 ⟨rfl,QJ⟩;clear JH;have cf:=fT ha QJ aI zl fA;obtain⟨OR,wZ⟩:=zN (Rf.tell R5.all.reads);rw[wZ]at cf;have nQ:=zH (show R.read ctx=((0,OR.1),OR.2) by rw[sx.out,wZ]);clear wZ QJ;unfold aZ at cf;go_wp2_with fail;refine cf.mono ?_;rintro e wT ⟨Y,rfl,eK,jY,eI⟩;have Jv:=eK.lt;obtain⟨wE,dk⟩:=zN (bX wT w.heap.size OR.1 Y);rw[dk]at eI jY;replace dk:=zH dk;obtain⟨z0,z1,z2,z3,z4,z5,z6,z7,z8,z9,z10,z11,-⟩:=eK.cs [0,1,2,3,4,5,6,7,8,9,10,11];simp only[aX,vi,Zx]at z0 z1 z2 z3 z4 z5 z6 z7 z8 z9 z10 z11;obtain⟨u0,u1,u2,u3,u4,u5,u6,u7,u8,u9,u10,u11,-⟩:=eK.fs [0,1,2,3,4,5,6,7,8,9,10,11];replace eI:=zH eI;clear cf eK;go_wp2_with fail;show bodyPost _ _ _ _ _ (bX wT w.heap.size OR.1 Y);rw[dk.out];obtain⟨r0,r1,r2,r3,r4,r5,r6,r7,r8,r9,r10,r11,-⟩:=jY.cs [0,1,2,3,4,5,6,7,8,9,10,11];simp only[Zx]at r0 r1 r2 r3 r4 r5 r6 r7 r8 r9 r10 r11;exact bodyPost_ret (v:=.tuple #[.int .i64 0,.agg (aZ OR.1 Y)]) (by simp[results,results75,go_sem,aZ,r0,r1,r2,r3,r4,r5,r6,r7,r8,r9,r10,r11]) rfl ⟨Y,by rw[nQ.out],by rw[nQ.out];exact eI.out⟩
end
section
open Rf (numOk)
section
variable {aa:Nat->Nat}{c q g:Nat}{w:World}{R:Rf}{v:Aw}
theorem Bv(m:Mg)(A1 A2:Option Addr)(n1 n2 c1 c2:Nat)(iI:n1=m.entries.length)(lB:n2=m.data.length)(h:aJ aa c q w g R v) :
  Calls prog 62 #[.pointer (some ⟨g,0,none⟩),eH m (.slice A1 n1 c1) (.slice A2 n2 c2)] w fun e w'=>e=.returned (.bool (R.right m))/\Below w.heap.size w w':=by
 have cQ:=h.s.lt;obtain⟨ve,pY⟩:=zN (Value.slice A1 n1 c1);obtain⟨vd,rv⟩:=zN (Value.slice A2 n2 c2);rw[pY,rv];obtain⟨d4,d5,-⟩:=h.s.cs [0,1];simp only[bj,vi,Zx]at d4 d5;have aI:Below w.heap.size w (w.alloc (.cells #[.int .i64 m.kind,.int .i64 m.frm,.int .i64 m.tgt,.int .i64 m.term,.int .i64 m.idx,.int .i64 m.logTerm,.int .i64 m.commit,.int .i64 m.round,.bool m.reject,.int .i64 m.offset,.int .i64 m.total,ve,vd] 39)):=zb.alloc zl _;have bN:=ar.new w 39 #[.int .i64 m.kind,.int .i64 m.frm,.int .i64 m.tgt,.int .i64 m.term,.int .i64 m.idx,.int .i64 m.logTerm,.int .i64 m.commit,.int .i64 m.round,.bool m.reject,.int .i64 m.offset,.int .i64 m.total,ve,vd];obtain⟨w1,bV⟩:=zN (w.alloc (.cells #[.int .i64 m.kind,.int .i64 m.frm,.int .i64 m.tgt,.int .i64 m.term,.int .i64 m.idx,.int .i64 m.logTerm,.int .i64 m.commit,.int .i64 m.round,.bool m.reject,.int .i64 m.offset,.int .i64 m.total,ve,vd] 39));rw[bV]at aI bN;obtain⟨y0,y1,y2,y3,y4,y5,y6,y7,y8,y9,yA,yB,yC,-⟩:=bN.cs [0,1,2,3,4,5,6,7,8,9,10,11,12];simp only[Zx]at y0 y1 y2 y3 y4 y5 y6 y7 y8 y9 yA yB yC;obtain⟨k0,k1,k2,k3,k4,k5,k6,k7,k8,k9,kA,kB,kC⟩:=vV [g,w.heap.size] y0 y1 y2 y3 y4 y5 y6 y7 y8 y9 yA yB yC;have d4':=(aI.cell (aw d4)).trans d4;have d5':=(aI.cell (aw d5)).trans d5;have dt:=zH (fun k (hk:k<6) (hf:numOk ((fI m)[k]?.getD 0)=false)=>uT (R:=R) (m:=m) hk hf);have gB:=zH (fun h=>vo (R:=R) (m:=m) h);obtain⟨w2,cw⟩:=zN (w1.alloc (.cells #[.int .i64 m.idx,.int .i64 m.logTerm,.int .i64 m.commit,.int .i64 m.round,.int .i64 m.offset,.int .i64 m.total] 3));have mX:ar w2 w1.heap.size 3 ((fI m).map vi).toArray:=by rw[<-cw];exact ar.new w1 3 ((fI m).map vi).toArray
 have dH:Below w1.heap.size w1 w2:=by rw[<-cw];exact zb.alloc zl _
 have z0:=(dH.cell (aw y0)).trans y0;have z1:=(dH.cell (aw y1)).trans y1;have z2:=(dH.cell (aw y2)).trans y2;have z3:=(dH.cell (aw y3)).trans y3;have zB:=(dH.cell (aw yB)).trans yB;have zC:=(dH.cell (aw yC)).trans yC;have zD:=(dH.cell (aw d4')).trans d4';have zE:=(dH.cell (aw d5')).trans d5';obtain⟨q0,q1,q2,q3,qB,qC,qD,qE⟩:=TJ [g,w.heap.size] z0 z1 z2 z3 zB zC zD zE;clear k0 k1 k2 k3 k4 k5 k6 k7 k8 k9 kA kB kC;have Ey:Below w.heap.size w w2.drew:=aA (ab aI dH zl) 1;have du:Below w.heap.size w w2:=ab aI dH zl;unfold eH;simp only[vi];clear h;go_enter func62,ntmps62;go_wp2_with fail;try rw[bV]
 go_wp2_with fail;try rw[cw]
 go_loopw [6] (fun i wr=>∃k:Nat,k<=6/\i=.int .i64 k/\(∀j,j<k->numOk ((fI m)[j]?.getD 0)=true)/\wr=w2) (fun i _=>6-(intOf i).toNat)
 case atStart=>exact⟨0,Nat.zero_le _,rfl,fun j hj=>absurd hj (Nat.not_lt_zero _),rfl⟩
 case round=>
  obtain⟨k,hk,rfl,cB,rfl⟩:=hrel;replace cB:=zH cB;by_cases aU:k<6
  ·obtain⟨x,hx⟩:=zN ((fI m)[k]?.getD 0);have ik:k<(fI m).length:=aU;have c0:wr.cell? ⟨w1.heap.size,k,none⟩=some (.int .i64 x):=(mX.cell k).trans (by rw[List.getElem?_toArray,List.getElem?_map,List.getElem?_eq_getElem ik,<-hx,List.getElem?_eq_getElem ik];rfl);have Av:=nZ x;replace hx:=zH hx;cases ci:numOk x with
   | false=>
    rw[ci]at Av;have hf:=zH (dt.out k aU (by rw[hx.out];exact ci));have MT:x<0\/(¬x<0/\1099511627776<x):=by
     have:=of_decide_eq_false Av;omega
    clear Av ci;rcases MT with x1|⟨x1,x2⟩
    all_goals
     go_wp2_with fail;go_ret;exact⟨by rw[hf.out];rfl,du⟩
   | true=>
    rw[ci]at Av;have nB:=zH (show ∀j,j<k+1->numOk ((fI m)[j]?.getD 0)=true from fun j hj=>by
     rcases Nat.lt_or_ge j k with h1|h1
     ·exact cB.out j h1
     ·obtain rfl:j=k:=by omega
      rw[hx.out];exact ci)
    have MT:=of_decide_eq_true Av;have x1:¬x<0:=by omega
    have x2:¬1099511627776<x:=by omega
    clear Av ci MT;go_wp2_with fail;exact⟨⟨k+1,aU,by go_num,nB.out,trivial⟩,by simp[intOf];omega⟩
  ·obtain rfl:k=6:=by omega
   have hR:=gB.out cB.out;unfold i9 at hR;have cu:(R.right m=false/\decide (1<=m.kind)=false)\/(R.right m=false/\decide (1<=m.kind)=true/\decide (m.kind<=8)=false)\/(R.right m=false/\decide (1<=m.kind)=true/\decide (m.kind<=8)=true/\(m.tgt==(R.id:Int))=false)\/(R.right m=false/\decide (1<=m.kind)=true/\decide (m.kind<=8)=true/\(m.tgt==(R.id:Int))=true/\decide (1<=m.frm)=false)\/(R.right m=false/\decide (1<=m.kind)=true/\decide (m.kind<=8)=true/\(m.tgt==(R.id:Int))=true/\decide (1<=m.frm)=true/\decide (m.frm<=(R.n:Int))=false)\/(R.right m=false/\decide (1<=m.kind)=true/\decide (m.kind<=8)=true/\(m.tgt==(R.id:Int))=true/\decide (1<=m.frm)=true/\decide (m.frm<=(R.n:Int))=true/\(m.frm !=(R.id:Int))=false)\/(R.right m=false/\decide (1<=m.kind)=true/\decide (m.kind<=8)=true/\(m.tgt==(R.id:Int))=true/\decide (1<=m.frm)=true/\decide (m.frm<=(R.n:Int))=true/\(m.frm !=(R.id:Int))=true/\decide (1<=m.term)=false)\/(R.right m=false/\decide (1<=m.kind)=true/\decide (m.kind<=8)=true/\(m.tgt==(R.id:Int))=true/\decide (1<=m.frm)=true/\decide (m.frm<=(R.n:Int))=true/\(m.frm !=(R.id:Int))=true/\decide (1<=m.term)=true/\decide (m.term<=1099511627776)=false)\/(R.right m=false/\decide (1<=m.kind)=true/\decide (m.kind<=8)=true/\(m.tgt==(R.id:Int))=true/\decide (1<=m.frm)=true/\decide (m.frm<=(R.n:Int))=true/\(m.frm !=(R.id:Int))=true/\decide (1<=m.term)=true/\decide (m.term<=1099511627776)=true/\decide ((n1:Int)<=6)=false)\/(R.right m=false/\decide (1<=m.kind)=true/\decide (m.kind<=8)=true/\(m.tgt==(R.id:Int))=true/\decide (1<=m.frm)=true/\decide (m.frm<=(R.n:Int))=true/\(m.frm !=(R.id:Int))=true/\decide (1<=m.term)=true/\decide (m.term<=1099511627776)=true/\decide ((n1:Int)<=6)=true/\decide ((n2:Int)<=160)=false)\/(R.right m=true/\decide (1<=m.kind)=true/\decide (m.kind<=8)=true/\(m.tgt==(R.id:Int))=true/\decide (1<=m.frm)=true/\decide (m.frm<=(R.n:Int))=true/\(m.frm !=(R.id:Int))=true/\decide (1<=m.term)=true/\decide (m.term<=1099511627776)=true/\decide ((n1:Int)<=6)=true/\decide ((n2:Int)<=160)=true):=by
    rw[hR,<-iI,<-lB];clear hR iI lB;by_cases a0:decide (1<=m.kind)=true
    rotate_left
    ·refine .inl ?_;refine⟨decide_eq_false fun hh=>?_,by simpa using a0⟩;simp at a0;omega
    by_cases a1:decide (m.kind<=8)=true
    rotate_left
    ·refine .inr (.inl ?_);refine⟨decide_eq_false fun hh=>?_,a0,by simpa using a1⟩;simp at a1;omega
    by_cases a2:(m.tgt==(R.id:Int))=true
    rotate_left
    ·refine .inr (.inr (.inl ?_));refine⟨decide_eq_false fun hh=>?_,a0,a1,by simpa using a2⟩;simp at a2;omega
    by_cases a3:decide (1<=m.frm)=true
    rotate_left
    ·refine .inr (.inr (.inr (.inl ?_)));refine⟨decide_eq_false fun hh=>?_,a0,a1,a2,by simpa using a3⟩;simp at a3;omega
    by_cases a4:decide (m.frm<=(R.n:Int))=true
    rotate_left
    ·refine .inr (.inr (.inr (.inr (.inl ?_))));refine⟨decide_eq_false fun hh=>?_,a0,a1,a2,a3,by simpa using a4⟩;simp at a4;omega
    by_cases a5:(m.frm !=(R.id:Int))=true
    rotate_left
    ·refine .inr (.inr (.inr (.inr (.inr (.inl ?_)))));refine⟨decide_eq_false fun hh=>?_,a0,a1,a2,a3,a4,by simpa using a5⟩;simp at a5;omega
    by_cases a6:decide (1<=m.term)=true
    rotate_left
    ·refine .inr (.inr (.inr (.inr (.inr (.inr (.inl ?_))))));refine⟨decide_eq_false fun hh=>?_,a0,a1,a2,a3,a4,a5,by simpa using a6⟩;simp at a6;omega
    by_cases a7:decide (m.term<=1099511627776)=true
    rotate_left
    ·refine .inr (.inr (.inr (.inr (.inr (.inr (.inr (.inl ?_)))))));refine⟨decide_eq_false fun hh=>?_,a0,a1,a2,a3,a4,a5,a6,by simpa using a7⟩;simp at a7;omega
    by_cases a8:decide ((n1:Int)<=6)=true
    rotate_left
    ·refine .inr (.inr (.inr (.inr (.inr (.inr (.inr (.inr (.inl ?_))))))));refine⟨decide_eq_false fun hh=>?_,a0,a1,a2,a3,a4,a5,a6,a7,by simpa using a8⟩;simp at a8;omega
    by_cases a9:decide ((n2:Int)<=160)=true
    rotate_left
    ·refine .inr (.inr (.inr (.inr (.inr (.inr (.inr (.inr (.inr (.inl ?_)))))))));refine⟨decide_eq_false fun hh=>?_,a0,a1,a2,a3,a4,a5,a6,a7,a8,by simpa using a9⟩;simp at a9;omega
    refine .inr (.inr (.inr (.inr (.inr (.inr (.inr (.inr (.inr (.inr (?_))))))))));refine⟨decide_eq_true ?_,a0,a1,a2,a3,a4,a5,a6,a7,a8,a9⟩;simp at a0 a1 a2 a3 a4 a5 a6 a7 a8 a9;omega
   clear mX dH hR iI lB;rcases cu with⟨hr,e0⟩|⟨hr,e0,e1⟩|⟨hr,e0,e1,e2⟩|⟨hr,e0,e1,e2,e3⟩|⟨hr,e0,e1,e2,e3,e4⟩|⟨hr,e0,e1,e2,e3,e4,e5⟩|⟨hr,e0,e1,e2,e3,e4,e5,e6⟩|⟨hr,e0,e1,e2,e3,e4,e5,e6,e7⟩|⟨hr,e0,e1,e2,e3,e4,e5,e6,e7,e8⟩|⟨hr,e0,e1,e2,e3,e4,e5,e6,e7,e8,e9⟩|⟨hr,e0,e1,e2,e3,e4,e5,e6,e7,e8,e9⟩
   all_goals
    replace hr:=zH hr;rw[<-pY]at zB qB;rw[<-rv]at zC qC;clear pY rv;go_wp2_with fail;refine dV [g,w.heap.size] wr [] [0,1,2,3,4,5,6,7,8,9,10,11,12,13,14,15,16,17,18,19,20,21,22,23,24,25,26,27,28,29,30,31,32,33,34,35,36,37,38,39,40,41,42,43,44,45,46,47,48,49,50,51,52,53,54,55,56,57,58,59,60,61,62] ?_;refine aj ?_;simp only[af,Zx];repeat go_big_quiet_step(fail)
    apply wpQuiet_nil;go_wp2_with fail;go_ret;exact⟨by rw[hr.out];rfl,by first|exact Ey|exact du⟩
end
end
def LS(l:List Value)(g b p:Nat):Prop:=l.length=105/\l[0]?=some (.pointer (some ⟨g,0,none⟩))/\l[3]?=some (.pointer (some ⟨b,0,none⟩))/\l[4]?=some (.pointer (some ⟨p,0,none⟩))
section
variable {aa:Nat->Nat}{c q g b p n1 c1 n2 c2:Nat}{A1 A2:Option Addr}{wx w':World}{R:Rf}{v:Aw}{K:Act->World->Prop}{Q':Exit->Act->World->Prop}{l:List Value}{m:Mg}{J:World->Prop}{O:Ot}{T:Oy->World->Prop}{ok:Bool}
theorem Xg(hl:l.length=105/\l[0]?=some (.pointer (some ⟨g,0,none⟩))/\l[1]?=some (.agg (cC m A1 A2 n1 c1 n2 c2)))(hK:∀l':List Value,LS l' g wx.heap.size (wx.heap.size+1)->K ⟨l'.toArray,[]⟩ ((wx.alloc (.cells (cC m A1 A2 n1 c1 n2 c2) 39)).alloc (.cells aX 52))):sQ 0 f20 K Q' l wx:=by
 unfold cC aX at *;obtain⟨ah,aS,bH⟩:=hl;obtain⟨fr,rfl,am⟩:=an ah;rw[ie,am _ _ aS,am _ _ bH];clear ah am aS bH;refine cI 0 f20 rfl ?_;go_wp2_with fail;exact⟨rfl,rfl,rfl,rfl⟩
theorem Y3(hb:ar wx b 39 (cC m A1 A2 n1 c1 n2 c2))(hr:Calls prog 62 #[.pointer (some ⟨g,0,none⟩),.agg (cC m A1 A2 n1 c1 n2 c2)] wx fun e w'=>e=.returned (.bool ok)/\J w')(hl:LS l g b p)(hK:∀l' w',LS l' g b p/\l'[5]?=some (.bool ok)->J w'->K ⟨l'.toArray,[]⟩ w'):sQ 1 f20 K Q' l wx:=by
 obtain⟨y0,y1,y2,y3,y4,y5,y6,y7,y8,y9,y10,y11,y12,-⟩:=hb.cs [0,1,2,3,4,5,6,7,8,9,10,11,12];simp only[cC,Zx]at y0 y1 y2 y3 y4 y5 y6 y7 y8 y9 y10 y11 y12;unfold cC at hr;clear hb;obtain⟨ah,aS,be,bW⟩:=hl;obtain⟨fr,rfl,am⟩:=an ah;rw[ie,am _ _ aS,am _ _ be,am _ _ bW];clear ah am aS be bW;refine cI 1 f20 rfl ?_;go_wp2_with fail;refine hr.mono ?_;rintro e w5 ⟨rfl,hp⟩;replace hp:=zH hp;clear hr;go_wp2_with fail;exact hK _ _ ⟨⟨rfl,rfl,rfl,rfl⟩,rfl⟩ hp.out
theorem NE(hp:ar wx p 52 aX)(hO:O=dZ)(hT:T lg (bX wx p dZ lg))(hl:LS l g b p/\l[5]?=some (.bool false)):(CH 2 (fl f20)).wp prog (Exit.then K (bodyPost prog f20 fun e w''=>∃Y,e=.returned (.agg (aZ O Y))/\T Y w'')) ⟨l.toArray,[]⟩ wx:=by
 subst hO;have jY:=je dZ lg hp;obtain⟨wE,dk⟩:=zN (bX wx p dZ lg);rw[dk]at hT jY;replace dk:=zH dk;obtain⟨z0,z1,z2,z3,z4,z5,z6,z7,z8,z9,z10,z11,-⟩:=hp.cs [0,1,2,3,4,5,6,7,8,9,10,11];simp only[aX,vi,Zx]at z0 z1 z2 z3 z4 z5 z6 z7 z8 z9 z10 z11;obtain⟨u0,u1,u2,u3,u4,u5,u6,u7,u8,u9,u10,u11,-⟩:=hp.fs [0,1,2,3,4,5,6,7,8,9,10,11];have vF:=hp.lt;replace hT:=zH hT;clear hp;obtain⟨⟨nK,kE,Lc,I0⟩,Ij⟩:=hl;have hl:l.length=105/\l[0]?=some (.pointer (some ⟨g,0,none⟩))/\l[3]?=some (.pointer (some ⟨b,0,none⟩))/\l[4]?=some (.pointer (some ⟨p,0,none⟩))/\l[5]?=some (.bool false):=⟨nK,kE,Lc,I0,Ij⟩;clear nK kE Lc I0 Ij;obtain⟨ah,aS,be,bW,cA⟩:=hl;obtain⟨fr,rfl,am⟩:=an ah;rw[ie,am _ _ aS,am _ _ be,am _ _ bW,am _ _ cA];clear ah am aS be bW cA;refine cI 2 f20 rfl ?_;go_wp2_with fail;show bodyPost _ _ _ _ _ (bX wx p dZ lg);rw[dk.out];obtain⟨r0,r1,r2,r3,r4,r5,r6,r7,r8,r9,r10,r11,-⟩:=jY.cs [0,1,2,3,4,5,6,7,8,9,10,11];simp only[aZ,vi,Zx]at r0 r1 r2 r3 r4 r5 r6 r7 r8 r9 r10 r11;exact bodyPost_ret (v:=.agg (aZ dZ lg)) (by simp[results,results20,go_sem,aZ,r0,r1,r2,r3,r4,r5,r6,r7,r8,r9,r10,r11]) rfl ⟨lg,rfl,hT.out⟩
theorem Jm(hl:LS l g b p/\l[5]?=some (.bool true))(hK:∀l',LS l' g b p->K ⟨l'.toArray,[]⟩ wx):(CH 2 (fl f20)).wp prog (Exit.then K (bodyPost prog f20 fun e w''=>∃Y,e=.returned (.agg (aZ O Y))/\T Y w'')) ⟨l.toArray,[]⟩ wx:=by
 obtain⟨⟨nK,kE,Lc,I0⟩,Ij⟩:=hl;have hl:l.length=105/\l[0]?=some (.pointer (some ⟨g,0,none⟩))/\l[3]?=some (.pointer (some ⟨b,0,none⟩))/\l[4]?=some (.pointer (some ⟨p,0,none⟩))/\l[5]?=some (.bool true):=⟨nK,kE,Lc,I0,Ij⟩;clear nK kE Lc I0 Ij;obtain⟨ah,aS,be,bW,cA⟩:=hl;obtain⟨fr,rfl,am⟩:=an ah;rw[ie,am _ _ aS,am _ _ be,am _ _ bW,am _ _ cA];clear ah am aS be bW cA;refine cI 2 f20 rfl ?_;go_wp2_with fail;exact⟨rfl,rfl,rfl,rfl⟩
theorem LY(h:aJ aa c q wx g R v)(hb:ar wx b 39 (cC m A1 A2 n1 c1 n2 c2))(h0:¬(R.hard.term<m.term/\m.kind≠1/\(m.kind≠2\/m.reject=true)))(hl:LS l g b p)(hK:∀l',LS l' g b p->K ⟨l'.toArray,[]⟩ wx.drew):(CH 3 (fl f20)).wp prog (Exit.then K (bodyPost prog f20 fun e w''=>∃Y,e=.returned (.agg (aZ O Y))/\T Y w'')) ⟨l.toArray,[]⟩ wx:=by
 obtain⟨y0,y3,y8,-⟩:=hb.cs [0,3,8];simp only[cC,Zx]at y0 y3 y8;have z2:=h.s.cell 2;simp only[bj,vi,Zx]at z2;obtain⟨k0,k3,kz2⟩:=sD [g,b] y0 y3 z2;obtain⟨rj,lh⟩:∃x,m.reject=x:=⟨_,rfl⟩;rw[lh]at y8 h0;have k8:=CV [g,b] y8;have cu:(decide (R.hard.term<m.term)=false)\/(decide (R.hard.term<m.term)=true/\rj=rj/\(m.kind !=1)=false)\/(decide (R.hard.term<m.term)=true/\rj=false/\(m.kind !=1)=true/\(m.kind==2)=true):=by
  simp only[bne_iff_ne,bne_eq_false_iff_eq,beq_iff_eq,beq_eq_false_iff_ne,decide_eq_true_eq,decide_eq_false_iff_not];cases rj <;> simp at h0 ⊢ <;> omega
 clear h hb lh;replace h0:=zH h0;obtain⟨ah,aS,be,bW⟩:=hl;obtain⟨fr,rfl,am⟩:=an ah;rw[ie,am _ _ aS,am _ _ be,am _ _ bW];clear ah am aS be bW;refine cI 3 f20 rfl ?_;rcases cu with e1|⟨e1,e2,e3⟩|⟨e1,e2,e3,e4⟩
 all_goals
  try subst e2
  go_wp2_with fail;refine dV [g,b] wx [] [0,1,2,3,4,5,6,7,8,9,10,11,12,13,14,15,16,17,18,19,20,21,22,23] ?_;refine aj ?_;simp only[af,Zx];repeat go_big_quiet_step(fail)
  apply wpQuiet_nil;go_wp2_with fail;exact⟨rfl,rfl,rfl,rfl⟩
theorem JS(ha:aL c q)(h:aJ aa c q wx g R v)(hb:ar wx b 39 (cC m A1 A2 n1 c1 n2 c2))(h0:R.hard.term<m.term/\m.kind≠1/\(m.kind≠2\/m.reject=true))(hl:LS l g b p)(hK:∀l' w',LS l' g b p->aJ aa c q w' g (R.follows m.term) {v with waits:=.slice none 0 0}->Fr (fun j=>j=g) wx w'->K ⟨l'.toArray,[]⟩ w'):(CH 3 (fl f20)).wp prog (Exit.then K (bodyPost prog f20 fun e w''=>∃Y,e=.returned (.agg (aZ O Y))/\T Y w'')) ⟨l.toArray,[]⟩ wx:=by
 obtain⟨y0,y3,y8,-⟩:=hb.cs [0,3,8];simp only[cC,Zx]at y0 y3 y8;obtain⟨z2,z3,z9,z10,z16,z22,-⟩:=h.s.cs [2,3,9,10,16,22];simp only[bj,vi,Zx]at z2 z3 z9 z10 z16 z22;obtain⟨f2,f3,f9,f10,f16,f22,-⟩:=h.s.fs [2,3,9,10,16,22];obtain⟨k0,k3,kz2⟩:=sD [g,b] y0 y3 z2;obtain⟨Aw,dw,qG,_⟩:=id h.x;obtain⟨Nw,X2⟩:∃n,R.waits.length=n:=⟨_,rfl⟩;rw[X2]at qG;rw[qG]at z16;obtain⟨W,hW⟩:=zN (((((((wx).setCell ⟨g,2,none⟩ (.int .i64 m.term)).setCell ⟨g,3,none⟩ (.int .i64 0)).setCell ⟨g,22,none⟩ (.bool true)).setCell ⟨g,9,none⟩ (.int .i64 0)).setCell ⟨g,10,none⟩ (.int .i64 0)).setCell ⟨g,16,none⟩ (.slice none 0 0));have hF:Fr (fun j=>j=g) wx W:=by
   have e:∀{a b:World},Fr (fun j=>j=g) wx a->Fr (fun j=>j=g) a b->Fr (fun j=>j=g) wx b:=fun h h'=>h.trans h' fun _ h=>.inl h
   rw[<-hW];exact e (e (e (e (e (Fr.set (w:=wx) g 2 _) (Fr.set g 3 _)) (Fr.set g 22 _)) (Fr.set g 9 _)) (Fr.set g 10 _)) (Fr.set g 16 _)
 have hs:ar W g 122 (bj (R.follows m.term) {v with waits:=.slice none 0 0}):=by
  have s:=((((((h.s.set_ 2 (.int .i64 m.term)).set_ 3 (.int .i64 0)).set_ 22 (.bool true)).set_ 9 (.int .i64 0)).set_ 10 (.int .i64 0)).set_ 16 (.slice none 0 0));simp only[bj,Zy]at s;rw[<-hW];exact s
 have hA:aJ aa c q W g (R.follows m.term) {v with waits:=.slice none 0 0}:=h.turn [] ha hs (fun _ _=>rfl) (by simp) (hF.mono fun j e=>.inl e) tI tI tI (.inl (bQ.nil _ _ _ _ _)) (.inr ⟨rfl,rfl⟩) (.inr ⟨rfl,rfl⟩) tI tI (.inr ⟨rfl,rfl⟩) tI tI;have pV:aJ aa c q W.drew g (R.follows m.term) {v with waits:=.slice none 0 0}:=hA.below (zb.drew);have OB:Fr (fun j=>j=g) wx W.drew:=hF.trans (Fr.of_below (X:=fun j=>j=g) (zb.drew)) fun _ h=>.inl h
 have AA:b≠g:=fun e=>by
  have h1:=hb;rw[e]at h1;have h2:=h.s;unfold ar at h1 h2;rw[h2]at h1;injection h1 with h1;injection h1 with _ h1 _;exact absurd h1 (by decide)
 obtain⟨rj,lh⟩:∃x,m.reject=x:=⟨_,rfl⟩;rw[lh]at y8 h0;have k8:=CV [g,b] y8;have y3':wx.drew.cell? ⟨b,3,none⟩=some (.int .i64 m.term):=y3;have cu:(decide (R.hard.term<m.term)=true/\rj=rj/\(m.kind !=1)=true/\(m.kind==2)=false)\/(decide (R.hard.term<m.term)=true/\rj=true/\(m.kind !=1)=true/\(m.kind==2)=true):=by
  simp only[bne_iff_ne,bne_eq_false_iff_eq,beq_iff_eq,beq_eq_false_iff_ne,decide_eq_true_eq,decide_eq_false_iff_not];cases rj <;> simp at h0 ⊢ <;> omega
 replace pV:=zH pV;replace OB:=zH OB;clear hA hF hs h hb lh;replace h0:=zH h0;replace hW:=zH hW;obtain⟨ah,aS,be,bW⟩:=hl;obtain⟨fr,rfl,am⟩:=an ah;rw[ie,am _ _ aS,am _ _ be,am _ _ bW];clear ah am aS be bW;refine cI 3 f20 rfl ?_;rcases cu with⟨e1,e2,e3,e4⟩|⟨e1,e2,e3,e4⟩
 all_goals
  try subst e2
  go_wp2_with fail;refine dV [g,b] wx [] [0,1,2,3,4,5,6,7,8,9,10,11,12,13,14,15,16,17,18,19,20,21,22,23] ?_;refine aj ?_;simp only[af,Zx];repeat go_big_quiet_step(fail)
  apply wpQuiet_nil;go_wp2_with fail;rw[hW.out];exact hK _ _ ⟨rfl,rfl,rfl,rfl⟩ pV.out OB.out
theorem M9(h:aJ aa c q wx g R v)(hb:ar wx b 39 (cC m A1 A2 n1 c1 n2 c2))(h0:¬(m.term<R.hard.term/\m.kind≠1))(hl:LS l g b p)(hK:∀l',LS l' g b p->K ⟨l'.toArray,[]⟩ wx.drew):(CH 4 (fl f20)).wp prog (Exit.then K (bodyPost prog f20 fun e w''=>∃Y,e=.returned (.agg (aZ O Y))/\T Y w'')) ⟨l.toArray,[]⟩ wx:=by
 obtain⟨y0,y3,-⟩:=hb.cs [0,3];simp only[cC,Zx]at y0 y3;have z2:=h.s.cell 2;simp only[bj,vi,Zx]at z2;obtain⟨k0,k3,kz2⟩:=sD [g,b] y0 y3 z2;have cu:(decide (m.term<R.hard.term)=false)\/(decide (m.term<R.hard.term)=true/\(m.kind !=1)=false):=by
  simp only[bne_iff_ne,bne_eq_false_iff_eq,decide_eq_true_eq,decide_eq_false_iff_not];omega
 clear h hb;replace h0:=zH h0;obtain⟨ah,aS,be,bW⟩:=hl;obtain⟨fr,rfl,am⟩:=an ah;rw[ie,am _ _ aS,am _ _ be,am _ _ bW];clear ah am aS be bW;refine cI 4 f20 rfl ?_;rcases cu with e1|⟨e1,e2⟩
 all_goals
  go_wp2_with fail;refine dV [g,b] wx [] [0,1,2,3,4,5,6,7,8,9,10,11,12] ?_;refine aj ?_;simp only[af,Zx];repeat go_big_quiet_step(fail)
  apply wpQuiet_nil;go_wp2_with fail;exact⟨rfl,rfl,rfl,rfl⟩
theorem Gu(h:aJ aa c q wx g R v)(hb:ar wx b 39 (cC m A1 A2 n1 c1 n2 c2))(h0:m.term<R.hard.term/\m.kind≠1)(uH:1<=m.kind/\m.kind<=8)(h1:m.kind=3\/m.kind=5\/m.kind=7)(gA:Calls prog 63 #[.pointer (some ⟨g,0,none⟩),(eH {cZ with kind:=m.kind+1,tgt:=m.frm,reject:=true,round:=m.round} (.slice none 0 0) (.slice none 0 0))] wx.drew fun e w'=>e=.returned (.tuple #[])/\J w')(mW:∀w',J w'->Calls prog 54 #[.pointer (some ⟨g,0,none⟩)] w' fun e w''=>∃Y,e=.returned (.agg (aZ O Y))/\ar w'' p 52 aX/\ar (bX w'' p O Y) p 52 (aZ O Y)/\T Y (bX w'' p O Y))(hl:LS l g b p):(CH 4 (fl f20)).wp prog (Exit.then K (bodyPost prog f20 fun e w''=>∃Y,e=.returned (.agg (aZ O Y))/\T Y w'')) ⟨l.toArray,[]⟩ wx:=by
 obtain⟨y0,y1,y3,y7,-⟩:=hb.cs [0,1,3,7];simp only[cC,Zx]at y0 y1 y3 y7;have z2:=h.s.cell 2;simp only[bj,vi,Zx]at z2;obtain⟨k0,k3,kz2⟩:=sD [g,b] y0 y3 z2;have e1:decide (m.term<R.hard.term)=true:=decide_eq_true h0.1;have e2:(m.kind !=1)=true:=by simp[h0.2]
 have cu:((m.kind==3)=true)\/((m.kind==3)=false/\(m.kind==5)=true)\/((m.kind==3)=false/\(m.kind==5)=false/\(m.kind==7)=true):=by
  simp only[beq_iff_eq,beq_eq_false_iff_ne];omega
 unfold eH at gA;simp only[cZ,vi]at gA;clear h hb;replace h0:=zH h0;replace h1:=zH h1;replace mW:=zH mW;obtain⟨ah,aS,be,bW⟩:=hl;obtain⟨fr,rfl,am⟩:=an ah;rw[ie,am _ _ aS,am _ _ be,am _ _ bW];clear ah am aS be bW;refine cI 4 f20 rfl ?_;rcases cu with e3|⟨e3,e4⟩|⟨e3,e4,e5⟩
 all_goals
  go_wp2_with fail;refine dV [g,b] wx [] [0,1,2,3,4,5,6,7,8,9,10,11,12] ?_;refine aj ?_;simp only[af,Zx];repeat go_big_quiet_step(fail)
  apply wpQuiet_nil;go_wp2_with fail;refine gA.mono ?_;rintro e w5 ⟨rfl,hJ⟩;have cf:=mW.out w5 hJ;clear gA hJ;unfold aZ at cf;go_wp2_with fail;refine cf.mono ?_;rintro e w8 ⟨Y,rfl,fZ,mV,iB⟩;have ue:=fZ.lt;obtain⟨z0,z1,z2,z3,z4,z5,z6,z7,z8,z9,z10,z11,-⟩:=fZ.cs [0,1,2,3,4,5,6,7,8,9,10,11];simp only[aX,vi,Zx]at z0 z1 z2 z3 z4 z5 z6 z7 z8 z9 z10 z11;obtain⟨u0,u1,u2,u3,u4,u5,u6,u7,u8,u9,u10,u11,-⟩:=fZ.fs [0,1,2,3,4,5,6,7,8,9,10,11];obtain⟨wE,dk⟩:=zN (bX w8 p O Y);rw[dk]at mV iB;replace dk:=zH dk;replace iB:=zH iB;clear cf fZ;go_wp2_with fail;show bodyPost _ _ _ _ _ (bX w8 p O Y);rw[dk.out];obtain⟨r0,r1,r2,r3,r4,r5,r6,r7,r8,r9,r10,r11,-⟩:=mV.cs [0,1,2,3,4,5,6,7,8,9,10,11];simp only[aZ,vi,Zx]at r0 r1 r2 r3 r4 r5 r6 r7 r8 r9 r10 r11;exact bodyPost_ret (v:=.agg (aZ O Y)) (by simp[results,results20,go_sem,aZ,r0,r1,r2,r3,r4,r5,r6,r7,r8,r9,r10,r11]) rfl ⟨Y,rfl,iB.out⟩
theorem Es(h:aJ aa c q wx g R v)(hb:ar wx b 39 (cC m A1 A2 n1 c1 n2 c2))(h0:m.term<R.hard.term/\m.kind≠1)(uH:1<=m.kind/\m.kind<=8)(h1:¬(m.kind=3\/m.kind=5\/m.kind=7))(hJ:J wx.drew)(mW:∀w',J w'->Calls prog 54 #[.pointer (some ⟨g,0,none⟩)] w' fun e w''=>∃Y,e=.returned (.agg (aZ O Y))/\ar w'' p 52 aX/\ar (bX w'' p O Y) p 52 (aZ O Y)/\T Y (bX w'' p O Y))(hl:LS l g b p):(CH 4 (fl f20)).wp prog (Exit.then K (bodyPost prog f20 fun e w''=>∃Y,e=.returned (.agg (aZ O Y))/\T Y w'')) ⟨l.toArray,[]⟩ wx:=by
 obtain⟨y0,y1,y3,y7,-⟩:=hb.cs [0,1,3,7];simp only[cC,Zx]at y0 y1 y3 y7;have z2:=h.s.cell 2;simp only[bj,vi,Zx]at z2;obtain⟨k0,k3,kz2⟩:=sD [g,b] y0 y3 z2;have e1:decide (m.term<R.hard.term)=true:=decide_eq_true h0.1;have e2:(m.kind !=1)=true:=by simp[h0.2]
 have cu:(m.kind==3)=false/\(m.kind==5)=false/\(m.kind==7)=false:=by
  simp only[beq_iff_eq,beq_eq_false_iff_ne];omega
 have hJ:=zH hJ;clear h hb;replace h0:=zH h0;replace h1:=zH h1;replace mW:=zH mW;obtain⟨ah,aS,be,bW⟩:=hl;obtain⟨fr,rfl,am⟩:=an ah;rw[ie,am _ _ aS,am _ _ be,am _ _ bW];clear ah am aS be bW;refine cI 4 f20 rfl ?_;obtain⟨e3,e4,e5⟩:=cu;have cf:=mW.out _ hJ.out;go_wp2_with fail;refine dV [g,b] wx [] [0,1,2,3,4,5,6,7,8,9,10,11,12] ?_;refine aj ?_;simp only[af,Zx];repeat go_big_quiet_step(fail)
 apply wpQuiet_nil;unfold aZ at cf;go_wp2_with fail;refine cf.mono ?_;rintro e w8 ⟨Y,rfl,fZ,mV,iB⟩;have ue:=fZ.lt;obtain⟨z0,z1,z2,z3,z4,z5,z6,z7,z8,z9,z10,z11,-⟩:=fZ.cs [0,1,2,3,4,5,6,7,8,9,10,11];simp only[aX,vi,Zx]at z0 z1 z2 z3 z4 z5 z6 z7 z8 z9 z10 z11;obtain⟨u0,u1,u2,u3,u4,u5,u6,u7,u8,u9,u10,u11,-⟩:=fZ.fs [0,1,2,3,4,5,6,7,8,9,10,11];obtain⟨wE,dk⟩:=zN (bX w8 p O Y);rw[dk]at mV iB;replace dk:=zH dk;replace iB:=zH iB;clear cf fZ;go_wp2_with fail;show bodyPost _ _ _ _ _ (bX w8 p O Y);rw[dk.out];obtain⟨r0,r1,r2,r3,r4,r5,r6,r7,r8,r9,r10,r11,-⟩:=mV.cs [0,1,2,3,4,5,6,7,8,9,10,11];simp only[aZ,vi,Zx]at r0 r1 r2 r3 r4 r5 r6 r7 r8 r9 r10 r11;exact bodyPost_ret (v:=.agg (aZ O Y)) (by simp[results,results20,go_sem,aZ,r0,r1,r2,r3,r4,r5,r6,r7,r8,r9,r10,r11]) rfl ⟨Y,rfl,iB.out⟩
theorem X5(hb:ar wx b 39 (cC m A1 A2 n1 c1 n2 c2))(hd:Calls prog 64 #[.pointer (some ⟨g,0,none⟩),.agg (cC m A1 A2 n1 c1 n2 c2)] wx fun e w'=>e=.returned (.tuple #[])/\J w')(hl:LS l g b p)(hK:∀l' w',LS l' g b p->J w'->K ⟨l'.toArray,[]⟩ w'):sQ 5 f20 K Q' l wx:=by
 obtain⟨y0,y1,y2,y3,y4,y5,y6,y7,y8,y9,y10,y11,y12,-⟩:=hb.cs [0,1,2,3,4,5,6,7,8,9,10,11,12];simp only[cC,Zx]at y0 y1 y2 y3 y4 y5 y6 y7 y8 y9 y10 y11 y12;unfold cC at hd;clear hb;obtain⟨ah,aS,be,bW⟩:=hl;obtain⟨fr,rfl,am⟩:=an ah;rw[ie,am _ _ aS,am _ _ be,am _ _ bW];clear ah am aS be bW;refine cI 5 f20 rfl ?_;go_wp2_with fail;refine hd.mono ?_;rintro e w5 ⟨rfl,hp⟩;replace hp:=zH hp;clear hd;go_wp2_with fail;exact hK _ _ ⟨rfl,rfl,rfl,rfl⟩ hp.out
theorem WY(h:aJ aa c q wx g R v)(hJ:R.role≠3->J wx)(dx:R.role=3->Calls prog 65 #[.pointer (some ⟨g,0,none⟩)] wx fun e w'=>e=.returned (.tuple #[])/\J w')(hl:LS l g b p)(hK:∀l' w',LS l' g b p->J w'->K ⟨l'.toArray,[]⟩ w'):sQ 6 f20 K Q' l wx:=by
 have z9:=h.s.cell 9;simp only[bj,vi,Zx]at z9;clear h;by_cases h3:R.role=3
 ·have e1:(R.role==3)=true:=by simp[h3]
  have eB:=dx h3;clear dx hJ;replace h3:=zH h3;obtain⟨ah,aS,be,bW⟩:=hl;obtain⟨fr,rfl,am⟩:=an ah;rw[ie,am _ _ aS,am _ _ be,am _ _ bW];clear ah am aS be bW;refine cI 6 f20 rfl ?_;go_wp2_with fail;refine eB.mono ?_;rintro e w5 ⟨rfl,hp⟩;replace hp:=zH hp;clear eB;go_wp2_with fail;exact hK _ _ ⟨rfl,rfl,rfl,rfl⟩ hp.out
 ·have e1:(R.role==3)=false:=by simp[h3]
  have hp:=zH (hJ h3);clear dx hJ;replace h3:=zH h3;obtain⟨ah,aS,be,bW⟩:=hl;obtain⟨fr,rfl,am⟩:=an ah;rw[ie,am _ _ aS,am _ _ be,am _ _ bW];clear ah am aS be bW;refine cI 6 f20 rfl ?_;go_wp2_with fail;exact hK _ _ ⟨rfl,rfl,rfl,rfl⟩ hp.out
theorem X8(mW:∀w',J w'->Calls prog 54 #[.pointer (some ⟨g,0,none⟩)] w' fun e w''=>∃Y,e=.returned (.agg (aZ O Y))/\ar w'' p 52 aX/\ar (bX w'' p O Y) p 52 (aZ O Y)/\T Y (bX w'' p O Y))(hJ:J wx)(hl:LS l g b p):(HI 7 (fl f20)).wp prog (bodyPost prog f20 fun e w''=>∃Y,e=.returned (.agg (aZ O Y))/\T Y w'') ⟨l.toArray,[]⟩ wx:=by
 have cf:=mW _ hJ;clear mW hJ;obtain⟨ah,aS,be,bW⟩:=hl;obtain⟨fr,rfl,am⟩:=an ah;rw[ie,am _ _ aS,am _ _ be,am _ _ bW];clear ah am aS be bW;refine F0 7 f20 rfl ?_;unfold aZ at cf;go_wp2_with fail;refine cf.mono ?_;rintro e w8 ⟨Y,rfl,fZ,mV,iB⟩;have ue:=fZ.lt;obtain⟨z0,z1,z2,z3,z4,z5,z6,z7,z8,z9,z10,z11,-⟩:=fZ.cs [0,1,2,3,4,5,6,7,8,9,10,11];simp only[aX,vi,Zx]at z0 z1 z2 z3 z4 z5 z6 z7 z8 z9 z10 z11;obtain⟨u0,u1,u2,u3,u4,u5,u6,u7,u8,u9,u10,u11,-⟩:=fZ.fs [0,1,2,3,4,5,6,7,8,9,10,11];obtain⟨wE,dk⟩:=zN (bX w8 p O Y);rw[dk]at mV iB;replace dk:=zH dk;replace iB:=zH iB;clear cf fZ;go_wp2_with fail;show bodyPost _ _ _ _ _ (bX w8 p O Y);rw[dk.out];obtain⟨r0,r1,r2,r3,r4,r5,r6,r7,r8,r9,r10,r11,-⟩:=mV.cs [0,1,2,3,4,5,6,7,8,9,10,11];simp only[aZ,vi,Zx]at r0 r1 r2 r3 r4 r5 r6 r7 r8 r9 r10 r11;exact bodyPost_ret (v:=.agg (aZ O Y)) (by simp[results,results20,go_sem,aZ,r0,r1,r2,r3,r4,r5,r6,r7,r8,r9,r10,r11]) rfl ⟨Y,rfl,iB.out⟩
end
section
variable {aa:Nat->Nat}{c q g b p n1 c1 n2 c2:Nat}{A1 A2:Option Addr}{w wx w' w2:World}{R:Rf}{v:Aw}{m:Mg}
theorem wV(h:aJ (ai aa w.heap.size (q+c+10)) c q w2 g R v)(hb:Fr (aT aa c) w w2)(hp:w.heap.size<=p):cU aa c q w g dZ R lg (bX w2 p dZ lg):=by
 have hF:=oU w2 p dZ lg;refine⟨_,v,h.keep fun j hj hl=>hF.block j hl fun e=>?_,jP.zero _ _ _,fun j hj _=>ac hj,fun j hj hm=>.inl ((eZ (fun _ hj=>ac hj) hj).2 hm),hb.trans hF fun j e=>.inr (by omega)⟩;unfold dC at hj;rw[e,ay hp]at hj;omega
theorem DR{K M:Nat}(m:Mg)(A1 A2:Option Addr)(n1 c1 n2 c2:Nat)(ha:aL c q)(h:aJ aa c q w g R v)(hk:Ok K M R)(ct:1<=K)(hK:K<=8000)(hM:M<=5000)(hi:cW R)(he:cN aa q w (.slice A1 n1 c1) m.entries)(hd:bM aa q w (.slice A2 n2 c2) m.data)(iI:n1=m.entries.length)(lB:n2=m.data.length) :
  Calls prog 20 #[.pointer (some ⟨g,0,none⟩),eH m (.slice A1 n1 c1) (.slice A2 n2 c2)] w fun e w'=>∃Y,e=.returned (.agg (aZ (R.step m).1 Y))/\cU aa c q w g (R.step m).1 (R.step m).2 Y w':=by
 have I5:eH m (.slice A1 n1 c1) (.slice A2 n2 c2)=.agg (cC m A1 A2 n1 c1 n2 c2):=rfl;have bs:Below w.heap.size w (w.alloc (.cells (cC m A1 A2 n1 c1 n2 c2) 39)):=zb.alloc zl _;have Qc:=ar.new w 39 (cC m A1 A2 n1 c1 n2 c2);have gu:(w.alloc (.cells (cC m A1 A2 n1 c1 n2 c2) 39)).heap.size=w.heap.size+1:=by simp
 have bJ:Below (w.alloc (.cells (cC m A1 A2 n1 c1 n2 c2) 39)).heap.size (w.alloc (.cells (cC m A1 A2 n1 c1 n2 c2) 39)) ((w.alloc (.cells (cC m A1 A2 n1 c1 n2 c2) 39)).alloc (.cells aX 52)):=zb.alloc zl _;have pu:=ar.new (w.alloc (.cells (cC m A1 A2 n1 c1 n2 c2) 39)) 52 aX;rw[gu]at pu;have bN:=Qc.kept bJ;have aI:Below w.heap.size w ((w.alloc (.cells (cC m A1 A2 n1 c1 n2 c2) 39)).alloc (.cells aX 52)):=ab bs bJ (by omega);clear bs bJ Qc gu;obtain⟨w1,bV⟩:=zN ((w.alloc (.cells (cC m A1 A2 n1 c1 n2 c2) 39)).alloc (.cells aX 52));rw[bV]at aI bN pu;have h1:=h.fresh (q+c+10) aI;have zo:bM (ai aa w.heap.size (q+c+10)) q w1 (.slice A2 n2 c2) m.data:=(hd.keep fun j _ hl=>aI.block j hl).relabel_of aI.size (fun j hj=>ac hj) hd;have NV:cN (ai aa w.heap.size (q+c+10)) q w1 (.slice A1 n1 c1) m.entries:=(he.relabel (ak:=ai aa w.heap.size (q+c+10)) fun j hj e=>(ac hj).trans e).keep fun j _ hl=>aI.block j hl
 have fA:¬aT (ai aa w.heap.size (q+c+10)) c w.heap.size:=fun hh=>by
  unfold aT at hh;rw[ay zl]at hh;omega
 have hpo:¬aT (ai aa w.heap.size (q+c+10)) c (w.heap.size+1):=fun hh=>by
  unfold aT at hh;rw[ay (Nat.le_succ _)]at hh;omega
 have Bi:∀j,ai aa w.heap.size (q+c+10) j=q->j≠g:=fun j hj e=>by subst e;have:=h1.sl;unfold aL at ha;omega
 have xu:=hk.ms;have Ks:∀RX w',au (ai aa w.heap.size (q+c+10)) c q w1 g RX w'->Calls prog 54 #[.pointer (some ⟨g,0,none⟩)] w' fun e w''=>∃Y,e=.returned (.agg (aZ RX.tell.1 Y))/\ar w'' (w.heap.size+1) 52 aX/\ar (bX w'' (w.heap.size+1) RX.tell.1 Y) (w.heap.size+1) 52 (aZ RX.tell.1 Y)/\cU aa c q w g RX.tell.1 RX.tell.2 Y (bX w'' (w.heap.size+1) RX.tell.1 Y):=fun RX w' hP=>
  fT ha hP aI (Nat.le_succ _) pu
 have xw:=Bv m A1 A2 n1 n2 c1 c2 iI lB h1;rw[I5]at xw ⊢;refine cP (args:=[.pointer (some ⟨g,0,none⟩),.agg (cC m A1 A2 n1 c1 n2 c2)]) 105 func20 (by kernel_rfl) ntmps20 (by simp) fun la jO fD=>?_
 refine aK (by kernel_rfl) (Xg ⟨jO,fD 0 _ rfl,fD 1 _ rfl⟩ fun l0 jq=>?_);rw[bV];refine aK (by kernel_rfl) (Y3 bN xw jq fun l1 w2 cy bJ=>?_);have h2:=h1.below bJ;have mN:=bN.kept bJ;have Us:=pu.kept bJ;have B9:bM (ai aa w.heap.size (q+c+10)) q w2 (.slice A2 n2 c2) m.data:=zo.keep fun j _ hl=>bJ.block j hl
 have Pm:cN (ai aa w.heap.size (q+c+10)) q w2 (.slice A1 n1 c1) m.entries:=NV.keep fun j _ hl=>bJ.block j hl
 cases cB:R.right m with
 | false=>
  rw[cB]at cy;have e:R.step m=(dZ,R):=if_pos cB;rw[e];exact aK (by kernel_rfl) (NE Us rfl (wV h2 ((Fr.of_below (X:=aT aa c) aI).trans (Fr.of_below (X:=aT aa c) bJ) fun j hj=>.inl hj) (Nat.le_succ _)) cy)
 | true=>
  rw[cB]at cy;refine aK (by kernel_rfl) (Jm cy fun l2 dM=>?_);have js:=tp cB;have main:∀(R1:Rf) (v1:Aw) (wy:World) (l3:List Value),R1.n=R.n->Ok K M R1->cW R1->aJ (ai aa w.heap.size (q+c+10)) c q wy g R1 v1->Fr (fun j=>j=g) w2 wy->LS l3 g w.heap.size (w.heap.size+1)->
    R.step m=(if m.term<R1.hard.term/\m.kind≠1 then(R1.late m).tell else(if(R1.does m).role=3 then(R1.does m).reads else R1.does m).tell)->
    (HI 4 (fl f20)).wp prog (bodyPost prog f20 fun e w'=>∃Y,e=.returned (.agg (aZ (R.step m).1 Y))/\cU aa c q w g (R.step m).1 (R.step m).2 Y w') ⟨l3.toArray,[]⟩ wy:=fun R1 v1 wy l3 hn cl rP hy RD kr uI=>by
   have hg:ai aa w.heap.size (q+c+10) g=c+1:=h1.sl;have Xn:Fr (aT (ai aa w.heap.size (q+c+10)) c) w1 wy:=(Fr.of_below (X:=aT (ai aa w.heap.size (q+c+10)) c) bJ).trans (RD.mono (X':=aT (ai aa w.heap.size (q+c+10)) c) fun j e=>by rw[e];exact⟨by omega,by omega⟩) fun j hj=>.inl hj
   have gN:∀RX w',au (ai aa w.heap.size (q+c+10)) c q wy g RX w'->au (ai aa w.heap.size (q+c+10)) c q w1 g RX w':=fun RX w' hp=>hp.next (fun _ _=>rfl) Xn
   have AA:w.heap.size≠g:=by have:=h.s.lt;omega
   have Jl:ar wy w.heap.size 39 (cC m A1 A2 n1 c1 n2 c2):=(RD.block _ mN.lt AA).trans mN;have tH:∀RX w',au (ai aa w.heap.size (q+c+10)) c q wy.drew g RX w'->au (ai aa w.heap.size (q+c+10)) c q w1 g RX w':=fun RX w' hp=>gN _ _ (hp.behind (zb.drew))
   have In:aJ (ai aa w.heap.size (q+c+10)) c q wy.drew g R1 v1:=hy.below (zb.drew);by_cases hl:m.term<R1.hard.term/\m.kind≠1
   ·rw[if_pos hl]at uI;rw[uI];by_cases JM:m.kind=3\/m.kind=5\/m.kind=7
    ·have e:R1.late m=R1.send {cZ with kind:=m.kind+1,tgt:=m.frm,reject:=true,round:=m.round}:=if_pos JM;rw[e];refine aK (by kernel_rfl) (Gu hy Jl hl js.kind JM ?_ (fun w' hJ=>Ks _ w' hJ) kr);refine(dj {cZ with kind:=m.kind+1,tgt:=m.frm,reject:=true,round:=m.round} rfl rfl ha In (by have:=cl.ms;omega)).mono ?_;rintro e w' ⟨rfl,hp⟩;exact⟨rfl,tH _ _ hp⟩
    ·have e:R1.late m=R1:=if_neg JM;rw[e];exact aK (by kernel_rfl) (Es hy Jl hl js.kind JM (tH _ _ (au.refl In)) (fun w' hJ=>Ks _ w' hJ) kr)
   ·rw[if_neg hl]at uI;rw[uI];refine aK (by kernel_rfl) (M9 hy Jl hl kr fun l4 nG=>?_);have BS:xP R1 m:=⟨js.kind,by rw[hn];exact js.frm,js.term,js.idx,js.lgt,js.cmt,js.rnd,js.off,js.tot,js.el,js.dl⟩;have YG:cN (ai aa w.heap.size (q+c+10)) q wy.drew (.slice A1 n1 c1) m.entries:=Pm.keep fun j hj hl=>RD.block j hl (Bi j hj)
    have Zz:bM (ai aa w.heap.size (q+c+10)) q wy.drew (.slice A2 n2 c2) m.data:=B9.keep fun j hj hl=>RD.block j hl (Bi j hj)
    have KN:=EF m A1 A2 n1 c1 n2 c2 ha In cl ct (by omega) (by omega) rP YG Zz lB BS;rw[I5]at KN;refine aK (by kernel_rfl) (X5 Jl.drew KN nG fun l5 w5 oA yb=>?_);obtain⟨cV,v5,q1,q2,q3⟩:=id yb;have yV:=cl.does ct BS;refine aK (by kernel_rfl) (WY (J:=fun w'=>au (ai aa w.heap.size (q+c+10)) c q w1 g (if(R1.does m).role=3 then(R1.does m).reads else R1.does m) w') q1 (fun h3=>?_) (fun h3=>?_) oA fun l6 w6 rf hJ6=>?_)
    ·rw[if_neg h3];exact tH _ _ yb
    ·rw[if_pos h3];refine(yb.call fun Ei v6 h6=>sh ha h6 yV h3 (by omega)).mono ?_;rintro e w' ⟨rfl,hp⟩;exact⟨rfl,tH _ _ hp⟩
    ·exact X8 (fun w' hJ=>Ks _ w' hJ) hJ6 rf
  by_cases hf:R.hard.term<m.term/\m.kind≠1/\(m.kind≠2\/m.reject=true)
  ·refine aK (by kernel_rfl) (JS ha h2 mN hf dM fun l3 w3 kr hA3 lu=>?_);refine main (R.follows m.term) _ w3 l3 rfl (hk.follows (by have:=js.term;omega) js.term.2) (hi.follows m.term) hA3 lu kr ?_;unfold Rf.step;rw[if_neg (by rw[cB];simp),if_pos hf]
  ·refine aK (by kernel_rfl) (LY h2 mN hf dM fun l3 kr=>?_);refine main R v w2.drew l3 rfl hk hi (h2.below (zb.drew)) (Fr.of_below (zb.drew)) kr ?_;unfold Rf.step;rw[if_neg (by rw[cB];simp),if_neg hf]
end
def eT(s:qm)(Ad A1:Option Addr)(md cd m1 c1:Nat):Array Value:=#[.int .i64 s.hard.term,.int .i64 s.hard.vote,.int .i64 s.snap.idx,.int .i64 s.snap.term,.slice Ad md cd,.slice A1 m1 c1]
def LN(l:List Value)(id n:Int)(b:Nat):Prop:=l.length=191/\l[0]?=some (.int .i64 id)/\l[1]?=some (.int .i64 n)/\l[5]?=some (.pointer (some ⟨b,0,none⟩))
def Wu(l:List Value)(id n:Int)(b:Nat)(x:Bool):Prop:=l.length=191/\l[0]?=some (.int .i64 id)/\l[1]?=some (.int .i64 n)/\l[5]?=some (.pointer (some ⟨b,0,none⟩))/\l[8]?=some (.bool x)
def US(l:List Value)(id n:Int)(b:Nat)(x y:Bool):Prop:=l.length=191/\l[0]?=some (.int .i64 id)/\l[1]?=some (.int .i64 n)/\l[5]?=some (.pointer (some ⟨b,0,none⟩))/\l[8]?=some (.bool x)/\l[9]?=some (.bool y)
def LR(l:List Value)(b r:Nat):Prop:=l.length=191/\l[5]?=some (.pointer (some ⟨b,0,none⟩))/\l[10]?=some (.pointer (some ⟨r,0,none⟩))
def R9(l:List Value)(b r:Nat)(u:Value):Prop:=l.length=191/\l[5]?=some (.pointer (some ⟨b,0,none⟩))/\l[10]?=some (.pointer (some ⟨r,0,none⟩))/\l[11]?=some u
section
variable {b r m1 c1 md cd:Nat}{id n:Int}{A1 Ad:Option Addr}{wx w':World}{K:Act->World->Prop}{Q':Exit->Act->World->Prop}{l:List Value}{s:qm}{H:Ending->World->Prop}
theorem VH(hl:l.length=191/\l[0]?=some (.int .i64 id)/\l[1]?=some (.int .i64 n)/\l[2]?=some (.agg (eT s Ad A1 md cd m1 c1)))(hK:∀l':List Value,LN l' id n wx.heap.size->K ⟨l'.toArray,[]⟩ (wx.alloc (.cells (eT s Ad A1 md cd m1 c1) 29))):sQ 0 f14 K Q' l wx:=by
 unfold eT at *;obtain⟨ah,aS,bH,fY⟩:=hl;obtain⟨fr,rfl,am⟩:=an ah;rw[ia,am _ _ aS,am _ _ bH,am _ _ fY];clear ah am aS bH fY;refine cI 0 f14 rfl ?_;go_wp2_with fail;exact⟨rfl,rfl,rfl,rfl⟩
theorem Dh(hb:ar wx b 29 (eT s Ad A1 md cd m1 c1))(h0:n<1\/7<n\/id<1\/n<id\/s.hard.term<0\/1099511627776<s.hard.term\/s.hard.vote<0\/n<s.hard.vote)(hl:LN l id n b)(hH:H (.returned (.tuple #[.pointer none,.bool false])) wx):sP 1 f14 K H l wx:=by
 obtain⟨y0,y1,-⟩:=hb.cs [0,1];simp only[eT,Zx]at y0 y1;have cu:(n<1)\/(1<=n/\7<n)\/(1<=n/\n<=7/\id<1)\/(1<=n/\n<=7/\1<=id/\n<id)\/(1<=n/\n<=7/\1<=id/\id<=n/\s.hard.term<0)\/(1<=n/\n<=7/\1<=id/\id<=n/\0<=s.hard.term/\1099511627776<s.hard.term)\/(1<=n/\n<=7/\1<=id/\id<=n/\0<=s.hard.term/\s.hard.term<=1099511627776/\s.hard.vote<0)\/(1<=n/\n<=7/\1<=id/\id<=n/\0<=s.hard.term/\s.hard.term<=1099511627776/\0<=s.hard.vote/\n<s.hard.vote):=by omega
 clear hb h0;replace hH:=zH hH;obtain⟨ah,aS,bH,cA⟩:=hl;obtain⟨fr,rfl,am⟩:=an ah;rw[ia,am _ _ aS,am _ _ bH,am _ _ cA];clear ah am aS bH cA;refine cI 1 f14 rfl ?_;rcases cu with e1|⟨e1,e2⟩|⟨e1,e2,e3⟩|⟨e1,e2,e3,e4⟩|⟨e1,e2,e3,e4,e5⟩|⟨e1,e2,e3,e4,e5,e6⟩|⟨e1,e2,e3,e4,e5,e6,e7⟩|⟨e1,e2,e3,e4,e5,e6,e7,e8⟩
 all_goals
  go_wp2_with fail;exact hH.out
theorem NB(hb:ar wx b 29 (eT s Ad A1 md cd m1 c1))(h0:¬(n<1\/7<n\/id<1\/n<id\/s.hard.term<0\/1099511627776<s.hard.term\/s.hard.vote<0\/n<s.hard.vote))(hl:LN l id n b)(hK:∀l',LN l' id n b->K ⟨l'.toArray,[]⟩ wx):sQ 1 f14 K Q' l wx:=by
 obtain⟨y0,y1,-⟩:=hb.cs [0,1];simp only[eT,Zx]at y0 y1;have e1:1<=n:=by omega
 have e2:n<=7:=by omega
 have e3:1<=id:=by omega
 have e4:id<=n:=by omega
 have e5:0<=s.hard.term:=by omega
 have e6:s.hard.term<=1099511627776:=by omega
 have e7:0<=s.hard.vote:=by omega
 have e8:s.hard.vote<=n:=by omega
 clear hb h0;obtain⟨ah,aS,bH,cA⟩:=hl;obtain⟨fr,rfl,am⟩:=an ah;rw[ia,am _ _ aS,am _ _ bH,am _ _ cA];clear ah am aS bH cA;refine cI 1 f14 rfl ?_;go_wp2_with fail;exact⟨rfl,rfl,rfl,rfl⟩
theorem Xx(hb:ar wx b 29 (eT s Ad A1 md cd m1 c1))(hl:LN l id n b)(hK:∀l',Wu l' id n b (decide (s.snap.idx=0/\s.snap.term=0/\md=0))->K ⟨l'.toArray,[]⟩ wx):sQ 2 f14 K Q' l wx:=by
 obtain⟨y2,y3,y4,-⟩:=hb.cs [2,3,4];simp only[eT,Zx]at y2 y3 y4;obtain⟨B,hB⟩:=zN (decide (s.snap.idx=0/\s.snap.term=0/\md=0));rw[hB]at hK;have cu:((s.snap.idx==0)=false/\B=false)\/((s.snap.idx==0)=true/\B=false/\(s.snap.term==0)=false)\/((s.snap.idx==0)=true/\B=false/\(s.snap.term==0)=true/\((md:Int)==0)=false)\/((s.snap.idx==0)=true/\B=true/\(s.snap.term==0)=true/\((md:Int)==0)=true):=by
  rw[<-hB];simp only[beq_iff_eq,beq_eq_false_iff_ne,decide_eq_true_eq,decide_eq_false_iff_not];omega
 clear hb hB;obtain⟨ah,aS,bH,cA⟩:=hl;obtain⟨fr,rfl,am⟩:=an ah;rw[ia,am _ _ aS,am _ _ bH,am _ _ cA];clear ah am aS bH cA;refine cI 2 f14 rfl ?_;rcases cu with⟨e1,e2⟩|⟨e1,e2,e3⟩|⟨e1,e2,e3,e4⟩|⟨e1,e2,e3,e4⟩
 all_goals
  subst e2;go_wp2_with fail;exact⟨rfl,rfl,rfl,rfl,rfl⟩
theorem ZS(hb:ar wx b 29 (eT s Ad A1 md cd m1 c1)){x:Bool}(hl:Wu l id n b x)(hK:∀l',US l' id n b x (decide ((1<=s.snap.idx/\s.snap.idx<=1099511627776)/\(1<=s.snap.term/\s.snap.term<=1099511627776)/\1<=md/\md<=65536))->K ⟨l'.toArray,[]⟩ wx):sQ 3 f14 K Q' l wx:=by
 obtain⟨y2,y3,y4,-⟩:=hb.cs [2,3,4];simp only[eT,Zx]at y2 y3 y4;obtain⟨B,hB⟩:=zN (decide ((1<=s.snap.idx/\s.snap.idx<=1099511627776)/\(1<=s.snap.term/\s.snap.term<=1099511627776)/\1<=md/\md<=65536));rw[hB]at hK;have cu:(B=false/\s.snap.idx<1)\/(B=false/\1<=s.snap.idx/\1099511627776<s.snap.idx)\/(B=false/\1<=s.snap.idx/\s.snap.idx<=1099511627776/\s.snap.term<1)\/(B=false/\1<=s.snap.idx/\s.snap.idx<=1099511627776/\1<=s.snap.term/\1099511627776<s.snap.term)\/(B=false/\1<=s.snap.idx/\s.snap.idx<=1099511627776/\1<=s.snap.term/\s.snap.term<=1099511627776/\(md:Int)<1)\/(B=false/\1<=s.snap.idx/\s.snap.idx<=1099511627776/\1<=s.snap.term/\s.snap.term<=1099511627776/\1<=(md:Int)/\65536<(md:Int))\/(B=true/\1<=s.snap.idx/\s.snap.idx<=1099511627776/\1<=s.snap.term/\s.snap.term<=1099511627776/\1<=(md:Int)/\(md:Int)<=65536):=by
  rw[<-hB];simp only[decide_eq_true_eq,decide_eq_false_iff_not];omega
 clear hb hB;obtain⟨ah,aS,bH,cA,xy⟩:=hl;obtain⟨fr,rfl,am⟩:=an ah;rw[ia,am _ _ aS,am _ _ bH,am _ _ cA,am _ _ xy];clear ah am aS bH cA xy;refine cI 3 f14 rfl ?_;rcases cu with⟨e0,e1⟩|⟨e0,e1,e2⟩|⟨e0,e1,e2,e3⟩|⟨e0,e1,e2,e3,e4⟩|⟨e0,e1,e2,e3,e4,e5⟩|⟨e0,e1,e2,e3,e4,e5,e6⟩|⟨e0,e1,e2,e3,e4,e5,e6⟩
 all_goals
  subst e0;go_wp2_with fail;refine⟨rfl,rfl,rfl,rfl,rfl,?_⟩
  first
   | rfl
   | (show some (Value.bool (decide _))=_;rw[decide_eq_false (by omega)])
   | (show some (Value.bool (decide _))=_;rw[decide_eq_true (by omega)])
theorem JD(hl:US l id n b false false)(hH:H (.returned (.tuple #[.pointer none,.bool false])) wx):sP 4 f14 K H l wx:=by
 replace hH:=zH hH;obtain⟨ah,aS,bH,cA,xy,gl⟩:=hl;obtain⟨fr,rfl,am⟩:=an ah;rw[ia,am _ _ aS,am _ _ bH,am _ _ cA,am _ _ xy,am _ _ gl];clear ah am aS bH cA xy gl;refine cI 4 f14 rfl ?_;go_wp2_with fail;exact hH.out
theorem NG{x y:Bool}(h0:x=true\/y=true)(hl:US l id n b x y)(hK:∀l',LN l' id n b->K ⟨l'.toArray,[]⟩ wx):sQ 4 f14 K Q' l wx:=by
 have cu:(x=true/\y=y)\/(x=false/\y=true):=by
  cases x <;> simp at h0 ⊢ <;> exact h0
 clear h0;obtain⟨ah,aS,bH,cA,xy,gl⟩:=hl;obtain⟨fr,rfl,am⟩:=an ah;rw[ia,am _ _ aS,am _ _ bH,am _ _ cA,am _ _ xy,am _ _ gl];clear ah am aS bH cA xy gl;refine cI 4 f14 rfl ?_;rcases cu with⟨e1,e2⟩|⟨e1,e2⟩
 ·subst e1;go_wp2_with fail;exact⟨rfl,rfl,rfl,rfl⟩
 ·subst e1;subst e2;go_wp2_with fail;exact⟨rfl,rfl,rfl,rfl⟩
theorem XY(hb:ar wx b 29 (eT s Ad A1 md cd m1 c1)){I M:Nat}(bl:iR s.snap.idx s.snap.term=true)(hl:LN l I M b)(hK:∀l' w' gt g,LR l' b g->Below wx.heap.size wx w'->wx.heap.size<=gt->gt<g->ar w' gt 138 #[.int .i64 s.snap.idx,.int .i64 s.snap.term,.slice none 0 0]->ar w' g 122 (bj (fL I M s ⟨s.snap.idx,s.snap.term,[]⟩) ⟨.pointer (some ⟨gt,0,none⟩),.slice Ad md cd,.slice none 0 0,.slice none 0 0,.slice none 0 0,.slice none 0 0,.slice none 0 0,.slice none 0 0,.slice none 0 0,.slice none 0 0,.slice none 0 0⟩)->K ⟨l'.toArray,[]⟩ w'):sP 5 f14 K H l wx:=by
 obtain⟨y0,y1,y2,y3,y4,-⟩:=hb.cs [0,1,2,3,4];simp only[eT,Zx]at y0 y1 y2 y3 y4;obtain⟨k0,k1,k2,k3,k4⟩:=MZ [b] y0 y1 y2 y3 y4;have jZ:=hb.lt;have gp:=C8 bl wx.drew;have eK:=hb;clear hb bl;obtain⟨ah,aS,bH,cA⟩:=hl;obtain⟨fr,rfl,am⟩:=an ah;rw[ia,am _ _ aS,am _ _ bH,am _ _ cA];clear ah am aS bH cA;refine cI 5 f14 rfl ?_;go_wp2_with fail;refine dV [b] wx [([0,1,2,3,4,5,6,7,8,9,11,12,13,14,15],10),([16],17)] [18] ?_;refine av fun K1 ct=>?_
 simp only[af,Zx];repeat go_big_quiet_step(fail)
 apply wpQuiet_nil;go_wp2_with fail;refine gp.mono ?_;rintro e w6 ⟨rfl,fS,gz⟩;have Mc:Below wx.heap.size wx w6:=(ab ((Below.refl wx.heap.size wx).drew) gz zl);clear gp;go_wp2_with fail;refine⟨dN (fun x hx=>by simp only[List.mem_cons,List.not_mem_nil,or_false]at hx;rw[hx];exact Mc.block b jZ),ct _ _ ?_⟩;refine av fun K2 ge=>?_
 simp only[af,Zx];repeat go_big_quiet_step(fail)
 apply wpQuiet_nil;go_wp2_with fail;obtain⟨w7,Lu⟩:=zN (w6.alloc (.cells (bj (fL I M s ⟨s.snap.idx,s.snap.term,[]⟩) ⟨.pointer (some ⟨wx.heap.size,0,none⟩),.slice Ad md cd,.slice none 0 0,.slice none 0 0,.slice none 0 0,.slice none 0 0,.slice none 0 0,.slice none 0 0,.slice none 0 0,.slice none 0 0,.slice none 0 0⟩) 122));have io:Below w6.heap.size w6 w7:=by rw[<-Lu];exact zb.alloc zl _
 have mM:ar w7 w6.heap.size 122 (bj (fL I M s ⟨s.snap.idx,s.snap.term,[]⟩) ⟨.pointer (some ⟨wx.heap.size,0,none⟩),.slice Ad md cd,.slice none 0 0,.slice none 0 0,.slice none 0 0,.slice none 0 0,.slice none 0 0,.slice none 0 0,.slice none 0 0,.slice none 0 0,.slice none 0 0⟩):=by rw[<-Lu];exact ar.new w6 _ _
 have Vb:=fS.kept io;have cQ:=fS.lt;have qI:=ab Mc io (by have:=Mc.size;omega);show dE (dP [b] wx) K2 (Exit.then K (bodyPost prog f14 H)) Exit.normal _ (w6.alloc (.cells (bj (fL I M s ⟨s.snap.idx,s.snap.term,[]⟩) ⟨.pointer (some ⟨wx.heap.size,0,none⟩),.slice Ad md cd,.slice none 0 0,.slice none 0 0,.slice none 0 0,.slice none 0 0,.slice none 0 0,.slice none 0 0,.slice none 0 0,.slice none 0 0,.slice none 0 0⟩) 122));rw[Lu];replace Lu:=zH Lu;refine⟨dN (fun x hx=>by simp only[List.mem_cons,List.not_mem_nil,or_false]at hx;rw[hx];exact qI.block b jZ),ge _ _ ?_⟩;refine aj ?_;simp only[af,Zx];repeat go_big_quiet_step(fail)
 apply wpQuiet_nil;go_wp2_with fail;exact hK _ _ _ _ ⟨rfl,rfl,rfl⟩ qI zl cQ Vb mM
end
end Go.Proofs.YtjcninheccmpoaaGreat
