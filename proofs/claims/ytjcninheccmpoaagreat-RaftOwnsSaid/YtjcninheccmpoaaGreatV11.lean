import Derived.Test.YtjcninheccmpoaaGreatV10
set_option maxRecDepth 100000
set_option maxHeartbeats 8000000
set_option linter.all false
namespace Go.Proofs.YtjcninheccmpoaaGreat
open Go.RowKit Go.Proofs.Tryz
def cf(w:World)(p:Nat)(O:Ot)(Y:Oy):World:=
 (((((((((((w.setCell ⟨p,0,none⟩ (.bool O.save)).setCell ⟨p,1,none⟩ (.bool O.reset)).setCell ⟨p,2,none⟩ (.int .i64 O.hard.term)).setCell ⟨p,3,none⟩ (.int .i64 O.hard.vote)).setCell ⟨p,4,none⟩ (.slice Y.ea O.entries.length Y.ec)).setCell ⟨p,5,none⟩ (.slice Y.ca O.commits.length Y.cc)).setCell ⟨p,6,none⟩ (.bool O.snap.isSome)).setCell ⟨p,7,none⟩ (.int .i64 (js O.snap))).setCell ⟨p,8,none⟩ (.int .i64 (jt O.snap))).setCell ⟨p,9,none⟩ (.slice Y.sa (nK O.snap).length Y.sc)).setCell ⟨p,10,none⟩ (.slice Y.ra O.reads.length Y.rc)).setCell ⟨p,11,none⟩ (.slice Y.ma O.msgs.length Y.mc)
theorem mj(w:World)(p:Nat)(O:Ot)(Y:Oy):Fr (fun j=>j=p) w (cf w p O Y):=
 have e:∀{a b:World},Fr (fun j=>j=p) w a->Fr (fun j=>j=p) a b->Fr (fun j=>j=p) w b:=fun h h'=>h.trans h' fun _ h=>.inl h
 e (e (e (e (e (e (e (e (e (e (e (Fr.set p _ _) (Fr.set p _ _)) (Fr.set p _ _)) (Fr.set p _ _)) (Fr.set p _ _)) (Fr.set p _ _)) (Fr.set p _ _)) (Fr.set p _ _)) (Fr.set p _ _)) (Fr.set p _ _)) (Fr.set p _ _)) (Fr.set p _ _)
theorem mI{w:World}{p:Nat}{T:TypeId}(O:Ot)(Y:Oy)(h:ao w p T aR):ao (cf w p O Y) p T (bl O Y):=by
 have s:=(((((((((((h.set_ 0 (.bool O.save)).set_ 1 (.bool O.reset)).set_ 2 (.int .i64 O.hard.term)).set_ 3 (.int .i64 O.hard.vote)).set_ 4 (.slice Y.ea O.entries.length Y.ec)).set_ 5 (.slice Y.ca O.commits.length Y.cc)).set_ 6 (.bool O.snap.isSome)).set_ 7 (.int .i64 (js O.snap))).set_ 8 (.int .i64 (jt O.snap))).set_ 9 (.slice Y.sa (nK O.snap).length Y.sc)).set_ 10 (.slice Y.ra O.reads.length Y.rc)).set_ 11 (.slice Y.ma O.msgs.length Y.mc);simp only[aR,Zy]at s;exact s
section
variable {aa cz:Nat->Nat}{c q g p:Nat}{w w' w1 wX:World}{R R1:Rf}{v:Aw}{O:Ot}{Y:Oy}
theorem gD(ha:aN c q)(hP:au (aj aa w.heap.size (q+c+10)) c q w1 g R1 wX)(aI:Below w.heap.size w w1)(hp:w.heap.size<=p)(hk:ao w1 p 52 aR) :
  Calls prog 54 #[.pointer (some ⟨g,0,none⟩)] wX fun e w'=>∃Y,e=.returned (.agg (bl R1.tell.1 Y))/\ao w' p 52 aR/\ao (cf w' p R1.tell.1 Y) p 52 (bl R1.tell.1 Y)/\
   cU aa c q w g R1.tell.1 R1.tell.2 Y (cf w' p R1.tell.1 Y):=by
 obtain⟨ag,v1,h1,cD,ir⟩:=hP;refine(Ak ha h1).mono ?_;rintro e w' ⟨Y,rfl,ak,v',q1,q2,q3,q4,q5⟩;have nA:=hk.lt;have hs:=aI.size;have pK:=ir.size;have e0:aj aa w.heap.size (q+c+10) p=q+c+10:=az hp;have lz:¬aX (aj aa w.heap.size (q+c+10)) c p:=fun hh=>by unfold aX at hh;omega
 have e1:ag p=q+c+10:=(cD p nA).trans e0;have iU:¬aX ag c p:=fun hh=>by unfold aX at hh;omega
 have e2:ak p=q+c+10:=(q3 p (by omega) iU).trans e1;have yy:ao w' p 52 aR:=(q5.block p (by omega) iU).trans ((ir.block p nA lz).trans hk);have hF:=mj w' p R1.tell.1 Y;have xp:∀j,j<w.heap.size->ag j=aa j:=fun j hj=>(cD j (by omega)).trans (ac hj)
 refine⟨Y,rfl,yy,mI _ _ yy,ak,v',q1.keep fun j hj dG=>hF.block j dG fun e=>?_,q2.keep fun j hj dG=>hF.block j dG fun e=>?_,fun j hj hm=>?_,fun j hj hm=>q4 j (by omega) ((fD xp hj).2 hm),?_⟩
 ·unfold dv at hj;rw[e,e2]at hj;omega
 ·rw[e,e2]at hj;omega
 ·exact(q3 j (by omega) fun h=>hm ((fD xp hj).1 h)).trans (xp j hj)
 ·refine(((Fr.of_below (X:=aX aa c) aI).trans ir fun j hj=>fE (fun _ hj=>ac hj) hj).trans q5 fun j hj=>fE xp hj).trans hF fun j e=>.inr (by omega)
theorem ER(h:aK (aj aa w.heap.size (q+c+10)) c q w1 g R v)(aI:Below w.heap.size w w1):cU aa c q w g gk R tq w1:=
 ⟨_,v,h,im.zero _ _ _,fun j hj _=>ac hj,fun j hj hm=>.inl ((fD (fun _ hj=>ac hj) hj).2 hm),Fr.of_below aI⟩
end
section
variable {aa:Nat->Nat}{c q g:Nat}{w:World}{R:Rf}{v:Aw}
theorem Dn{K M:Nat}(draw:Int)(ha:aN c q)(h:aK aa c q w g R v)(hk:Ok K M R)(cQ:1<=K)(hK:K<=50000)(hM:M<=20000)(hi:R.track.index<=R.commit)(yq:-9223372036854775808<=draw)(Bv:draw<=9223372036854775807)(hw0:0<=R.wait)(ct:R.wait<=100) :
  Calls prog 18 #[.pointer (some ⟨g,0,none⟩),.int .i64 draw] w fun e w'=>∃Y,e=.returned (.agg (bl (R.tick draw).1 Y))/\cU aa c q w g (R.tick draw).1 (R.tick draw).2 Y w':=by
 have cW:=h.s.lt;have AE:=hk.ck;have qG:=hk.tm;obtain⟨c9,c11,c12,c2,c15,-⟩:=h.s.cs [9,11,12,2,15];simp only[bu,vi,Zx]at c9 c11 c12 c2 c15;obtain⟨f11,f12,f15,-⟩:=h.s.fs [11,12,15];have Uq:0<=R.clock/\R.clock<=50000:=by omega
 have Xj:0<=R.round/\R.round<=50000:=by omega
 have yw:g≠w.heap.size:=by omega
 have iM:g<w.heap.size+1:=by omega
 have eP:=zL draw (w.alloc (.cells #[.bool false,.bool false,.int .i64 0,.int .i64 0,.slice none 0 0,.slice none 0 0,.bool false,.int .i64 0,.int .i64 0,.slice none 0 0,.slice none 0 0,.slice none 0 0] 52)) yq Bv;obtain⟨W0,Mp⟩:∃x,gF draw=x:=⟨_,rfl⟩;have hWb:10<=W0/\W0<30:=by rw[<-Mp];unfold gF;omega
 rw[Mp]at eP;replace Mp:=zH Mp;by_cases hr:R.role=3
 ·have O2:(R.role==3)=true:=by simp[hr]
  by_cases WM:2<=R.clock+1
  ·skip
   have s2:=(((h.s.set_ 11 (.int .i64 (R.clock+1))).set_ 11 (.int .i64 0)).set_ 15 (.int .i64 (R.round+1)));simp only[bu,Zy]at s2;obtain⟨ws,fL⟩:=zN ((((w.setCell ⟨g,11,none⟩ (.int .i64 (R.clock+1))).setCell ⟨g,11,none⟩ (.int .i64 0)).setCell ⟨g,15,none⟩ (.int .i64 (R.round+1))));have dC:Fr (fun j=>j=g) w ws:=by rw[<-fL];exact((Fr.set g 11 _).trans (Fr.set g 11 _) fun _ h=>.inl h).trans (Fr.set g 15 _) fun _ h=>.inl h
   have fU:ws.heap.size=w.heap.size:=by rw[<-fL];simp[World.setCell]
   rw[fL]at s2;have h2:=h.nums (R':=({R with clock:=0,round:=R.round+1}:Rf)) ha s2 dC rfl rfl rfl rfl rfl rfl rfl rfl rfl rfl rfl;have qx:=zH (show R.tick draw=Rf.tell (Rf.all ({R with clock:=0,round:=R.round+1}:Rf)) by
    unfold Rf.tick Rf.beats;simp only;rw[if_pos hr,if_pos WM])
   have aI:Below ws.heap.size ws (ws.alloc (.cells aR 52)):=zb.alloc zl _;have gH:=ao.new ws 52 aR;obtain⟨w1,eM⟩:=zN (ws.alloc (.cells #[.bool false,.bool false,.int .i64 0,.int .i64 0,.slice none 0 0,.slice none 0 0,.bool false,.int .i64 0,.int .i64 0,.slice none 0 0,.slice none 0 0,.slice none 0 0] 52));rw[show ws.alloc (.cells aR 52)=w1 from eM]at aI gH;rw[fU]at gH;have oO:ws.heap.size<=w.heap.size:=by omega
   have h3:=au.refl (h2.fresh (q+c+10) aI);have rn:Fr (aX aa c) w ws:=dC.mono fun j e=>by rw[e];have:=h.sl;exact⟨by omega,by omega⟩
   have cu:=zH (fun O R' Y wE (hT:cU aa c q ws g O R' Y wE)=>hT.next (fun _ _=>rfl) rn);have cR:Ok (K+1) M ({R with clock:=0,round:=R.round+1}:Rf):=(hk.mono (Nat.le_succ K) (Nat.le_refl M)).turn_out rfl rfl rfl rfl rfl rfl rfl rfl rfl rfl rfl ⟨Int.le_refl 0,Int.natCast_nonneg _,by show 0<=R.round+1;omega,by show R.round+1<=_;omega⟩ rfl rfl rfl rfl;have o9:=cR.peers hr (by omega);have yi:=h3.call fun bs v2 h2=>qW ha h2 o9 (by have:=cR.ms;omega)
   replace fL:=zH fL;replace eM:=zH eM;replace hk:=zH hk;clear eP cR o9 hr;clear h h2 s2 dC rn AE;go_enter func18,ntmps18;go_wp2_with fail;rw[fL.out,eM.out];try go_wp2_with fail
   refine yi.mono ?_;rintro e w5 ⟨rfl,nv⟩;clear yi h3;have cx:=gD ha nv aI oO gH;obtain⟨O,hO⟩:=zN (Rf.tell (Rf.all ({R with clock:=0,round:=R.round+1}:Rf)));rw[hO]at cx;have jf:=zH ((qx.out).trans hO);replace hO:=zH hO;unfold bl at cx;go_wp2_with fail;refine cx.mono ?_;rintro e w8 ⟨Y,rfl,fX,my,ii⟩;have tM:=fX.lt;obtain⟨z0,z1,z2,z3,z4,z5,z6,z7,z8,z9,z10,z11,-⟩:=fX.cs [0,1,2,3,4,5,6,7,8,9,10,11];simp only[aR,Zx]at z0 z1 z2 z3 z4 z5 z6 z7 z8 z9 z10 z11;obtain⟨y0,y1,y2,y3,y4,y5,y6,y7,y8,y9,y10,y11,-⟩:=fX.fs [0,1,2,3,4,5,6,7,8,9,10,11];obtain⟨wE,dL⟩:=zN (cf w8 w.heap.size O.1 Y);rw[dL]at my ii;replace dL:=zH dL;replace ii:=zH ii;clear cx fX;go_wp2_with fail;show bodyPost _ _ _ _ _ (cf w8 w.heap.size O.1 Y);rw[dL.out];obtain⟨r0,r1,r2,r3,r4,r5,r6,r7,r8,r9,r10,r11,-⟩:=my.cs [0,1,2,3,4,5,6,7,8,9,10,11];simp only[bl,Zx]at r0 r1 r2 r3 r4 r5 r6 r7 r8 r9 r10 r11;exact bodyPost_ret (v:=.agg (bl O.1 Y)) (by simp[results,results18,go_sem,bl,r0,r1,r2,r3,r4,r5,r6,r7,r8,r9,r10,r11]) rfl ⟨Y,by rw[jf.out],by rw[jf.out];exact cu.out _ _ _ _ ii.out⟩
  ·skip
   have s2:=(h.s.set_ 11 (.int .i64 (R.clock+1)));simp only[bu,Zy]at s2;obtain⟨ws,fL⟩:=zN ((w.setCell ⟨g,11,none⟩ (.int .i64 (R.clock+1))));have dC:Fr (fun j=>j=g) w ws:=by rw[<-fL];exact Fr.set g 11 _
   have fU:ws.heap.size=w.heap.size:=by rw[<-fL];simp[World.setCell]
   rw[fL]at s2;have h2:=h.nums (R':=({R with clock:=R.clock+1}:Rf)) ha s2 dC rfl rfl rfl rfl rfl rfl rfl rfl rfl rfl rfl;have qx:=zH (show R.tick draw=Rf.tell (({R with clock:=R.clock+1}:Rf)) by
    unfold Rf.tick Rf.beats;simp only;rw[if_pos hr,if_neg WM])
   have aI:Below ws.heap.size ws (ws.alloc (.cells aR 52)):=zb.alloc zl _;have gH:=ao.new ws 52 aR;obtain⟨w1,eM⟩:=zN (ws.alloc (.cells #[.bool false,.bool false,.int .i64 0,.int .i64 0,.slice none 0 0,.slice none 0 0,.bool false,.int .i64 0,.int .i64 0,.slice none 0 0,.slice none 0 0,.slice none 0 0] 52));rw[show ws.alloc (.cells aR 52)=w1 from eM]at aI gH;rw[fU]at gH;have oO:ws.heap.size<=w.heap.size:=by omega
   have h3:=au.refl (h2.fresh (q+c+10) aI);have rn:Fr (aX aa c) w ws:=dC.mono fun j e=>by rw[e];have:=h.sl;exact⟨by omega,by omega⟩
   have cu:=zH (fun O R' Y wE (hT:cU aa c q ws g O R' Y wE)=>hT.next (fun _ _=>rfl) rn);replace fL:=zH fL;replace eM:=zH eM;replace hk:=zH hk;clear eP hr;clear h h2 s2 dC rn AE;go_enter func18,ntmps18;go_wp2_with fail;rw[fL.out,eM.out];try go_wp2_with fail
   have cx:=gD ha h3 aI oO gH;obtain⟨O,hO⟩:=zN (Rf.tell (({R with clock:=R.clock+1}:Rf)));rw[hO]at cx;have jf:=zH ((qx.out).trans hO);replace hO:=zH hO;unfold bl at cx;go_wp2_with fail;refine cx.mono ?_;rintro e w8 ⟨Y,rfl,fX,my,ii⟩;have tM:=fX.lt;obtain⟨z0,z1,z2,z3,z4,z5,z6,z7,z8,z9,z10,z11,-⟩:=fX.cs [0,1,2,3,4,5,6,7,8,9,10,11];simp only[aR,Zx]at z0 z1 z2 z3 z4 z5 z6 z7 z8 z9 z10 z11;obtain⟨y0,y1,y2,y3,y4,y5,y6,y7,y8,y9,y10,y11,-⟩:=fX.fs [0,1,2,3,4,5,6,7,8,9,10,11];obtain⟨wE,dL⟩:=zN (cf w8 w.heap.size O.1 Y);rw[dL]at my ii;replace dL:=zH dL;replace ii:=zH ii;clear cx fX;go_wp2_with fail;show bodyPost _ _ _ _ _ (cf w8 w.heap.size O.1 Y);rw[dL.out];obtain⟨r0,r1,r2,r3,r4,r5,r6,r7,r8,r9,r10,r11,-⟩:=my.cs [0,1,2,3,4,5,6,7,8,9,10,11];simp only[bl,Zx]at r0 r1 r2 r3 r4 r5 r6 r7 r8 r9 r10 r11;exact bodyPost_ret (v:=.agg (bl O.1 Y)) (by simp[results,results18,go_sem,bl,r0,r1,r2,r3,r4,r5,r6,r7,r8,r9,r10,r11]) rfl ⟨Y,by rw[jf.out],by rw[jf.out];exact cu.out _ _ _ _ ii.out⟩
 ·have O2:(R.role==3)=false:=by simp[hr]
  by_cases hz:R.wait=0
  ·have xz:(R.wait==0)=true:=by simp[hz]
   by_cases ry:W0<=R.clock+1
   ·by_cases mV:R.hard.term<1099511627776
    ·skip
     have s2:=((h.s.set_ 12 (.int .i64 W0)).set_ 11 (.int .i64 (R.clock+1)));simp only[bu,Zy]at s2;obtain⟨ws,fL⟩:=zN (((w.setCell ⟨g,12,none⟩ (.int .i64 W0)).setCell ⟨g,11,none⟩ (.int .i64 (R.clock+1))));have dC:Fr (fun j=>j=g) w ws:=by rw[<-fL];exact(Fr.set g 12 _).trans (Fr.set g 11 _) fun _ h=>.inl h
     have fU:ws.heap.size=w.heap.size:=by rw[<-fL];simp[World.setCell]
     rw[fL]at s2;have h2:=h.nums (R':=({R with clock:=R.clock+1,wait:=W0}:Rf)) ha s2 dC rfl rfl rfl rfl rfl rfl rfl rfl rfl rfl rfl;have qx:=zH (show R.tick draw=Rf.tell (Rf.asks ({R with clock:=0,wait:=0}:Rf)) by
      unfold Rf.tick Rf.beats;simp only;rw[if_neg hr,if_pos hz];simp only[Mp.out];rw[if_pos ry,if_pos (show R.hard.term<iQ from mV)];rfl)
     have aI:Below ws.heap.size ws (ws.alloc (.cells aR 52)):=zb.alloc zl _;have gH:=ao.new ws 52 aR;obtain⟨w1,eM⟩:=zN (ws.alloc (.cells #[.bool false,.bool false,.int .i64 0,.int .i64 0,.slice none 0 0,.slice none 0 0,.bool false,.int .i64 0,.int .i64 0,.slice none 0 0,.slice none 0 0,.slice none 0 0] 52));rw[show ws.alloc (.cells aR 52)=w1 from eM]at aI gH;rw[fU]at gH;have oO:ws.heap.size<=w.heap.size:=by omega
     have hA:=h2.fresh (q+c+10) aI;have rn:Fr (aX aa c) w ws:=dC.mono fun j e=>by rw[e];have:=h.sl;exact⟨by omega,by omega⟩
     have cu:=zH (fun O R' Y wE (hT:cU aa c q ws g O R' Y wE)=>hT.next (fun _ _=>rfl) rn);obtain⟨d11,d12,d2,-⟩:=hA.s.cs [11,12,2];simp only[bu,vi,Zx]at d11 d12 d2;obtain⟨b11,b12,-⟩:=hA.s.fs [11,12];have xn:=hA.s.lt;obtain⟨k11,k12⟩:=pU [g] d11 d12;have s4:=ao.kept ((hA.s.set_ 11 (.int .i64 0)).set_ 12 (.int .i64 0)) (zb.drew);simp only[bu,Zy]at s4;obtain⟨w4,fV⟩:=zN ((((w1.setCell ⟨g,11,none⟩ (.int .i64 0)).setCell ⟨g,12,none⟩ (.int .i64 0))).drew);have jw:Fr (fun j=>j=g) w1 w4:=by rw[<-fV];exact((Fr.set g 11 _).trans (Fr.set g 12 _) fun _ h=>.inl h).trans (Fr.of_below (X:=fun j=>j=g) (zb.drew)) fun _ h=>.inl h
     rw[fV]at s4;have h4:=hA.nums (R':=({R with clock:=0,wait:=0}:Rf)) ha s4 jw rfl rfl rfl rfl rfl rfl rfl rfl rfl rfl rfl;have h3:=hA.nums_post ha h4 jw;have x2:=h4.s.cell 2;simp only[bu,vi,Zx]at x2;replace fV:=zH fV;have cR:Ok K M ({R with clock:=0,wait:=0}:Rf):=hk.turn_out rfl rfl rfl rfl rfl rfl rfl rfl rfl rfl rfl ⟨Int.le_refl 0,Int.natCast_nonneg _,by show 0<=R.round;omega,by show R.round<=_;omega⟩ rfl rfl rfl rfl;have yi:=h3.call fun bs v2 h2=>tV ha h2 cR cQ (by omega) (by omega) hi mV
     replace fL:=zH fL;replace eM:=zH eM;replace hk:=zH hk;rw[hz]at c12;clear hz hr;clear cR;clear h h2 s2 dC rn AE hA;go_enter func18,ntmps18;go_wp2_with fail;refine eP.mono ?_;rintro e wq ⟨rfl,rfl⟩;clear eP;go_wp2_with fail;rw[fL.out,eM.out];try go_wp2_with fail
     refine eE [g] w1 [] [0,1,2,3,4,5,6,7,8] ?_;refine al ?_;simp only[ah,Zx];repeat go_big_quiet_step(fail)
     apply wpQuiet_nil;go_wp2_with fail;rw[fV.out];try go_wp2_with fail
     refine yi.mono ?_;rintro e w5 ⟨rfl,nv⟩;clear yi h3;have cx:=gD ha nv aI oO gH;obtain⟨O,hO⟩:=zN (Rf.tell (Rf.asks ({R with clock:=0,wait:=0}:Rf)));rw[hO]at cx;have jf:=zH ((qx.out).trans hO);replace hO:=zH hO;unfold bl at cx;go_wp2_with fail;refine cx.mono ?_;rintro e w8 ⟨Y,rfl,fX,my,ii⟩;have tM:=fX.lt;obtain⟨z0,z1,z2,z3,z4,z5,z6,z7,z8,z9,z10,z11,-⟩:=fX.cs [0,1,2,3,4,5,6,7,8,9,10,11];simp only[aR,Zx]at z0 z1 z2 z3 z4 z5 z6 z7 z8 z9 z10 z11;obtain⟨y0,y1,y2,y3,y4,y5,y6,y7,y8,y9,y10,y11,-⟩:=fX.fs [0,1,2,3,4,5,6,7,8,9,10,11];obtain⟨wE,dL⟩:=zN (cf w8 w.heap.size O.1 Y);rw[dL]at my ii;replace dL:=zH dL;replace ii:=zH ii;clear cx fX;go_wp2_with fail;show bodyPost _ _ _ _ _ (cf w8 w.heap.size O.1 Y);rw[dL.out];obtain⟨r0,r1,r2,r3,r4,r5,r6,r7,r8,r9,r10,r11,-⟩:=my.cs [0,1,2,3,4,5,6,7,8,9,10,11];simp only[bl,Zx]at r0 r1 r2 r3 r4 r5 r6 r7 r8 r9 r10 r11;exact bodyPost_ret (v:=.agg (bl O.1 Y)) (by simp[results,results18,go_sem,bl,r0,r1,r2,r3,r4,r5,r6,r7,r8,r9,r10,r11]) rfl ⟨Y,by rw[jf.out],by rw[jf.out];exact cu.out _ _ _ _ ii.out⟩
    ·skip
     have s2:=((h.s.set_ 12 (.int .i64 W0)).set_ 11 (.int .i64 (R.clock+1)));simp only[bu,Zy]at s2;obtain⟨ws,fL⟩:=zN (((w.setCell ⟨g,12,none⟩ (.int .i64 W0)).setCell ⟨g,11,none⟩ (.int .i64 (R.clock+1))));have dC:Fr (fun j=>j=g) w ws:=by rw[<-fL];exact(Fr.set g 12 _).trans (Fr.set g 11 _) fun _ h=>.inl h
     have fU:ws.heap.size=w.heap.size:=by rw[<-fL];simp[World.setCell]
     rw[fL]at s2;have h2:=h.nums (R':=({R with clock:=R.clock+1,wait:=W0}:Rf)) ha s2 dC rfl rfl rfl rfl rfl rfl rfl rfl rfl rfl rfl;have qx:=zH (show R.tick draw=Rf.tell (({R with clock:=0,wait:=0}:Rf)) by
      unfold Rf.tick Rf.beats;simp only;rw[if_neg hr,if_pos hz];simp only[Mp.out];rw[if_pos ry,if_neg (show ¬R.hard.term<iQ from mV)];rfl)
     have aI:Below ws.heap.size ws (ws.alloc (.cells aR 52)):=zb.alloc zl _;have gH:=ao.new ws 52 aR;obtain⟨w1,eM⟩:=zN (ws.alloc (.cells #[.bool false,.bool false,.int .i64 0,.int .i64 0,.slice none 0 0,.slice none 0 0,.bool false,.int .i64 0,.int .i64 0,.slice none 0 0,.slice none 0 0,.slice none 0 0] 52));rw[show ws.alloc (.cells aR 52)=w1 from eM]at aI gH;rw[fU]at gH;have oO:ws.heap.size<=w.heap.size:=by omega
     have hA:=h2.fresh (q+c+10) aI;have rn:Fr (aX aa c) w ws:=dC.mono fun j e=>by rw[e];have:=h.sl;exact⟨by omega,by omega⟩
     have cu:=zH (fun O R' Y wE (hT:cU aa c q ws g O R' Y wE)=>hT.next (fun _ _=>rfl) rn);obtain⟨d11,d12,d2,-⟩:=hA.s.cs [11,12,2];simp only[bu,vi,Zx]at d11 d12 d2;obtain⟨b11,b12,-⟩:=hA.s.fs [11,12];have xn:=hA.s.lt;obtain⟨k11,k12⟩:=pU [g] d11 d12;have s4:=ao.kept ((hA.s.set_ 11 (.int .i64 0)).set_ 12 (.int .i64 0)) (zb.drew);simp only[bu,Zy]at s4;obtain⟨w4,fV⟩:=zN ((((w1.setCell ⟨g,11,none⟩ (.int .i64 0)).setCell ⟨g,12,none⟩ (.int .i64 0))).drew);have jw:Fr (fun j=>j=g) w1 w4:=by rw[<-fV];exact((Fr.set g 11 _).trans (Fr.set g 12 _) fun _ h=>.inl h).trans (Fr.of_below (X:=fun j=>j=g) (zb.drew)) fun _ h=>.inl h
     rw[fV]at s4;have h4:=hA.nums (R':=({R with clock:=0,wait:=0}:Rf)) ha s4 jw rfl rfl rfl rfl rfl rfl rfl rfl rfl rfl rfl;have h3:=hA.nums_post ha h4 jw;have x2:=h4.s.cell 2;simp only[bu,vi,Zx]at x2;replace fV:=zH fV;replace fL:=zH fL;replace eM:=zH eM;replace hk:=zH hk;rw[hz]at c12;clear hz hr;clear h h2 s2 dC rn AE hA;go_enter func18,ntmps18;go_wp2_with fail;refine eP.mono ?_;rintro e wq ⟨rfl,rfl⟩;clear eP;go_wp2_with fail;rw[fL.out,eM.out];try go_wp2_with fail
     refine eE [g] w1 [] [0,1,2,3,4,5,6,7,8] ?_;refine al ?_;simp only[ah,Zx];repeat go_big_quiet_step(fail)
     apply wpQuiet_nil;go_wp2_with fail;rw[fV.out];try go_wp2_with fail
     have cx:=gD ha h3 aI oO gH;obtain⟨O,hO⟩:=zN (Rf.tell (({R with clock:=0,wait:=0}:Rf)));rw[hO]at cx;have jf:=zH ((qx.out).trans hO);replace hO:=zH hO;unfold bl at cx;go_wp2_with fail;refine cx.mono ?_;rintro e w8 ⟨Y,rfl,fX,my,ii⟩;have tM:=fX.lt;obtain⟨z0,z1,z2,z3,z4,z5,z6,z7,z8,z9,z10,z11,-⟩:=fX.cs [0,1,2,3,4,5,6,7,8,9,10,11];simp only[aR,Zx]at z0 z1 z2 z3 z4 z5 z6 z7 z8 z9 z10 z11;obtain⟨y0,y1,y2,y3,y4,y5,y6,y7,y8,y9,y10,y11,-⟩:=fX.fs [0,1,2,3,4,5,6,7,8,9,10,11];obtain⟨wE,dL⟩:=zN (cf w8 w.heap.size O.1 Y);rw[dL]at my ii;replace dL:=zH dL;replace ii:=zH ii;clear cx fX;go_wp2_with fail;show bodyPost _ _ _ _ _ (cf w8 w.heap.size O.1 Y);rw[dL.out];obtain⟨r0,r1,r2,r3,r4,r5,r6,r7,r8,r9,r10,r11,-⟩:=my.cs [0,1,2,3,4,5,6,7,8,9,10,11];simp only[bl,Zx]at r0 r1 r2 r3 r4 r5 r6 r7 r8 r9 r10 r11;exact bodyPost_ret (v:=.agg (bl O.1 Y)) (by simp[results,results18,go_sem,bl,r0,r1,r2,r3,r4,r5,r6,r7,r8,r9,r10,r11]) rfl ⟨Y,by rw[jf.out],by rw[jf.out];exact cu.out _ _ _ _ ii.out⟩
   ·skip
    have s2:=((h.s.set_ 12 (.int .i64 W0)).set_ 11 (.int .i64 (R.clock+1)));simp only[bu,Zy]at s2;obtain⟨ws,fL⟩:=zN (((w.setCell ⟨g,12,none⟩ (.int .i64 W0)).setCell ⟨g,11,none⟩ (.int .i64 (R.clock+1))));have dC:Fr (fun j=>j=g) w ws:=by rw[<-fL];exact(Fr.set g 12 _).trans (Fr.set g 11 _) fun _ h=>.inl h
    have fU:ws.heap.size=w.heap.size:=by rw[<-fL];simp[World.setCell]
    rw[fL]at s2;have h2:=h.nums (R':=({R with clock:=R.clock+1,wait:=W0}:Rf)) ha s2 dC rfl rfl rfl rfl rfl rfl rfl rfl rfl rfl rfl;have qx:=zH (show R.tick draw=Rf.tell (({R with clock:=R.clock+1,wait:=W0}:Rf)) by
     unfold Rf.tick Rf.beats;simp only;rw[if_neg hr,if_pos hz];simp only[Mp.out];rw[if_neg ry])
    have aI:Below ws.heap.size ws (ws.alloc (.cells aR 52)):=zb.alloc zl _;have gH:=ao.new ws 52 aR;obtain⟨w1,eM⟩:=zN (ws.alloc (.cells #[.bool false,.bool false,.int .i64 0,.int .i64 0,.slice none 0 0,.slice none 0 0,.bool false,.int .i64 0,.int .i64 0,.slice none 0 0,.slice none 0 0,.slice none 0 0] 52));rw[show ws.alloc (.cells aR 52)=w1 from eM]at aI gH;rw[fU]at gH;have oO:ws.heap.size<=w.heap.size:=by omega
    have hA:=h2.fresh (q+c+10) aI;have rn:Fr (aX aa c) w ws:=dC.mono fun j e=>by rw[e];have:=h.sl;exact⟨by omega,by omega⟩
    have cu:=zH (fun O R' Y wE (hT:cU aa c q ws g O R' Y wE)=>hT.next (fun _ _=>rfl) rn);obtain⟨d11,d12,d2,-⟩:=hA.s.cs [11,12,2];simp only[bu,vi,Zx]at d11 d12 d2;obtain⟨b11,b12,-⟩:=hA.s.fs [11,12];have xn:=hA.s.lt;obtain⟨k11,k12⟩:=pU [g] d11 d12;have h3:=(au.refl hA).below ((Below.refl w1.heap.size w1).drew);replace fL:=zH fL;replace eM:=zH eM;replace hk:=zH hk;rw[hz]at c12;clear hz hr;clear h h2 s2 dC rn AE hA;go_enter func18,ntmps18;go_wp2_with fail;refine eP.mono ?_;rintro e wq ⟨rfl,rfl⟩;clear eP;go_wp2_with fail;rw[fL.out,eM.out];try go_wp2_with fail
    refine eE [g] w1 [] [0,1,2,3,4,5,6,7,8] ?_;refine al ?_;simp only[ah,Zx];repeat go_big_quiet_step(fail)
    apply wpQuiet_nil;go_wp2_with fail;have cx:=gD ha h3 aI oO gH;obtain⟨O,hO⟩:=zN (Rf.tell (({R with clock:=R.clock+1,wait:=W0}:Rf)));rw[hO]at cx;have jf:=zH ((qx.out).trans hO);replace hO:=zH hO;unfold bl at cx;go_wp2_with fail;refine cx.mono ?_;rintro e w8 ⟨Y,rfl,fX,my,ii⟩;have tM:=fX.lt;obtain⟨z0,z1,z2,z3,z4,z5,z6,z7,z8,z9,z10,z11,-⟩:=fX.cs [0,1,2,3,4,5,6,7,8,9,10,11];simp only[aR,Zx]at z0 z1 z2 z3 z4 z5 z6 z7 z8 z9 z10 z11;obtain⟨y0,y1,y2,y3,y4,y5,y6,y7,y8,y9,y10,y11,-⟩:=fX.fs [0,1,2,3,4,5,6,7,8,9,10,11];obtain⟨wE,dL⟩:=zN (cf w8 w.heap.size O.1 Y);rw[dL]at my ii;replace dL:=zH dL;replace ii:=zH ii;clear cx fX;go_wp2_with fail;show bodyPost _ _ _ _ _ (cf w8 w.heap.size O.1 Y);rw[dL.out];obtain⟨r0,r1,r2,r3,r4,r5,r6,r7,r8,r9,r10,r11,-⟩:=my.cs [0,1,2,3,4,5,6,7,8,9,10,11];simp only[bl,Zx]at r0 r1 r2 r3 r4 r5 r6 r7 r8 r9 r10 r11;exact bodyPost_ret (v:=.agg (bl O.1 Y)) (by simp[results,results18,go_sem,bl,r0,r1,r2,r3,r4,r5,r6,r7,r8,r9,r10,r11]) rfl ⟨Y,by rw[jf.out],by rw[jf.out];exact cu.out _ _ _ _ ii.out⟩
  ·have xz:(R.wait==0)=false:=by simp[hz]
   by_cases ry:R.wait<=R.clock+1
   ·by_cases mV:R.hard.term<1099511627776
    ·skip
     have s2:=(h.s.set_ 11 (.int .i64 (R.clock+1)));simp only[bu,Zy]at s2;obtain⟨ws,fL⟩:=zN ((w.setCell ⟨g,11,none⟩ (.int .i64 (R.clock+1))));have dC:Fr (fun j=>j=g) w ws:=by rw[<-fL];exact Fr.set g 11 _
     have fU:ws.heap.size=w.heap.size:=by rw[<-fL];simp[World.setCell]
     rw[fL]at s2;have h2:=h.nums (R':=({R with clock:=R.clock+1}:Rf)) ha s2 dC rfl rfl rfl rfl rfl rfl rfl rfl rfl rfl rfl;have qx:=zH (show R.tick draw=Rf.tell (Rf.asks ({R with clock:=0,wait:=0}:Rf)) by
      unfold Rf.tick Rf.beats;simp only;rw[if_neg hr,if_neg hz,if_pos ry,if_pos (show R.hard.term<iQ from mV)];rfl)
     have aI:Below ws.heap.size ws (ws.alloc (.cells aR 52)):=zb.alloc zl _;have gH:=ao.new ws 52 aR;obtain⟨w1,eM⟩:=zN (ws.alloc (.cells #[.bool false,.bool false,.int .i64 0,.int .i64 0,.slice none 0 0,.slice none 0 0,.bool false,.int .i64 0,.int .i64 0,.slice none 0 0,.slice none 0 0,.slice none 0 0] 52));rw[show ws.alloc (.cells aR 52)=w1 from eM]at aI gH;rw[fU]at gH;have oO:ws.heap.size<=w.heap.size:=by omega
     have hA:=h2.fresh (q+c+10) aI;have rn:Fr (aX aa c) w ws:=dC.mono fun j e=>by rw[e];have:=h.sl;exact⟨by omega,by omega⟩
     have cu:=zH (fun O R' Y wE (hT:cU aa c q ws g O R' Y wE)=>hT.next (fun _ _=>rfl) rn);obtain⟨d11,d12,d2,-⟩:=hA.s.cs [11,12,2];simp only[bu,vi,Zx]at d11 d12 d2;obtain⟨b11,b12,-⟩:=hA.s.fs [11,12];have xn:=hA.s.lt;obtain⟨k11,k12⟩:=pU [g] d11 d12;have s4:=ao.kept ((hA.s.set_ 11 (.int .i64 0)).set_ 12 (.int .i64 0)) (zb.drew);simp only[bu,Zy]at s4;obtain⟨w4,fV⟩:=zN ((((w1.setCell ⟨g,11,none⟩ (.int .i64 0)).setCell ⟨g,12,none⟩ (.int .i64 0))).drew);have jw:Fr (fun j=>j=g) w1 w4:=by rw[<-fV];exact((Fr.set g 11 _).trans (Fr.set g 12 _) fun _ h=>.inl h).trans (Fr.of_below (X:=fun j=>j=g) (zb.drew)) fun _ h=>.inl h
     rw[fV]at s4;have h4:=hA.nums (R':=({R with clock:=0,wait:=0}:Rf)) ha s4 jw rfl rfl rfl rfl rfl rfl rfl rfl rfl rfl rfl;have h3:=hA.nums_post ha h4 jw;have x2:=h4.s.cell 2;simp only[bu,vi,Zx]at x2;replace fV:=zH fV;have cR:Ok K M ({R with clock:=0,wait:=0}:Rf):=hk.turn_out rfl rfl rfl rfl rfl rfl rfl rfl rfl rfl rfl ⟨Int.le_refl 0,Int.natCast_nonneg _,by show 0<=R.round;omega,by show R.round<=_;omega⟩ rfl rfl rfl rfl;have yi:=h3.call fun bs v2 h2=>tV ha h2 cR cQ (by omega) (by omega) hi mV
     replace fL:=zH fL;replace eM:=zH eM;replace hk:=zH hk;clear eP hr hz;clear cR;clear h h2 s2 dC rn AE hA;go_enter func18,ntmps18;go_wp2_with fail;rw[fL.out,eM.out];try go_wp2_with fail
     refine eE [g] w1 [] [0,1,2,3,4,5,6,7,8] ?_;refine al ?_;simp only[ah,Zx];repeat go_big_quiet_step(fail)
     apply wpQuiet_nil;go_wp2_with fail;rw[fV.out];try go_wp2_with fail
     refine yi.mono ?_;rintro e w5 ⟨rfl,nv⟩;clear yi h3;have cx:=gD ha nv aI oO gH;obtain⟨O,hO⟩:=zN (Rf.tell (Rf.asks ({R with clock:=0,wait:=0}:Rf)));rw[hO]at cx;have jf:=zH ((qx.out).trans hO);replace hO:=zH hO;unfold bl at cx;go_wp2_with fail;refine cx.mono ?_;rintro e w8 ⟨Y,rfl,fX,my,ii⟩;have tM:=fX.lt;obtain⟨z0,z1,z2,z3,z4,z5,z6,z7,z8,z9,z10,z11,-⟩:=fX.cs [0,1,2,3,4,5,6,7,8,9,10,11];simp only[aR,Zx]at z0 z1 z2 z3 z4 z5 z6 z7 z8 z9 z10 z11;obtain⟨y0,y1,y2,y3,y4,y5,y6,y7,y8,y9,y10,y11,-⟩:=fX.fs [0,1,2,3,4,5,6,7,8,9,10,11];obtain⟨wE,dL⟩:=zN (cf w8 w.heap.size O.1 Y);rw[dL]at my ii;replace dL:=zH dL;replace ii:=zH ii;clear cx fX;go_wp2_with fail;show bodyPost _ _ _ _ _ (cf w8 w.heap.size O.1 Y);rw[dL.out];obtain⟨r0,r1,r2,r3,r4,r5,r6,r7,r8,r9,r10,r11,-⟩:=my.cs [0,1,2,3,4,5,6,7,8,9,10,11];simp only[bl,Zx]at r0 r1 r2 r3 r4 r5 r6 r7 r8 r9 r10 r11;exact bodyPost_ret (v:=.agg (bl O.1 Y)) (by simp[results,results18,go_sem,bl,r0,r1,r2,r3,r4,r5,r6,r7,r8,r9,r10,r11]) rfl ⟨Y,by rw[jf.out],by rw[jf.out];exact cu.out _ _ _ _ ii.out⟩
    ·skip
     have s2:=(h.s.set_ 11 (.int .i64 (R.clock+1)));simp only[bu,Zy]at s2;obtain⟨ws,fL⟩:=zN ((w.setCell ⟨g,11,none⟩ (.int .i64 (R.clock+1))));have dC:Fr (fun j=>j=g) w ws:=by rw[<-fL];exact Fr.set g 11 _
     have fU:ws.heap.size=w.heap.size:=by rw[<-fL];simp[World.setCell]
     rw[fL]at s2;have h2:=h.nums (R':=({R with clock:=R.clock+1}:Rf)) ha s2 dC rfl rfl rfl rfl rfl rfl rfl rfl rfl rfl rfl;have qx:=zH (show R.tick draw=Rf.tell (({R with clock:=0,wait:=0}:Rf)) by
      unfold Rf.tick Rf.beats;simp only;rw[if_neg hr,if_neg hz,if_pos ry,if_neg (show ¬R.hard.term<iQ from mV)];rfl)
     have aI:Below ws.heap.size ws (ws.alloc (.cells aR 52)):=zb.alloc zl _;have gH:=ao.new ws 52 aR;obtain⟨w1,eM⟩:=zN (ws.alloc (.cells #[.bool false,.bool false,.int .i64 0,.int .i64 0,.slice none 0 0,.slice none 0 0,.bool false,.int .i64 0,.int .i64 0,.slice none 0 0,.slice none 0 0,.slice none 0 0] 52));rw[show ws.alloc (.cells aR 52)=w1 from eM]at aI gH;rw[fU]at gH;have oO:ws.heap.size<=w.heap.size:=by omega
     have hA:=h2.fresh (q+c+10) aI;have rn:Fr (aX aa c) w ws:=dC.mono fun j e=>by rw[e];have:=h.sl;exact⟨by omega,by omega⟩
     have cu:=zH (fun O R' Y wE (hT:cU aa c q ws g O R' Y wE)=>hT.next (fun _ _=>rfl) rn);obtain⟨d11,d12,d2,-⟩:=hA.s.cs [11,12,2];simp only[bu,vi,Zx]at d11 d12 d2;obtain⟨b11,b12,-⟩:=hA.s.fs [11,12];have xn:=hA.s.lt;obtain⟨k11,k12⟩:=pU [g] d11 d12;have s4:=ao.kept ((hA.s.set_ 11 (.int .i64 0)).set_ 12 (.int .i64 0)) (zb.drew);simp only[bu,Zy]at s4;obtain⟨w4,fV⟩:=zN ((((w1.setCell ⟨g,11,none⟩ (.int .i64 0)).setCell ⟨g,12,none⟩ (.int .i64 0))).drew);have jw:Fr (fun j=>j=g) w1 w4:=by rw[<-fV];exact((Fr.set g 11 _).trans (Fr.set g 12 _) fun _ h=>.inl h).trans (Fr.of_below (X:=fun j=>j=g) (zb.drew)) fun _ h=>.inl h
     rw[fV]at s4;have h4:=hA.nums (R':=({R with clock:=0,wait:=0}:Rf)) ha s4 jw rfl rfl rfl rfl rfl rfl rfl rfl rfl rfl rfl;have h3:=hA.nums_post ha h4 jw;have x2:=h4.s.cell 2;simp only[bu,vi,Zx]at x2;replace fV:=zH fV;replace fL:=zH fL;replace eM:=zH eM;replace hk:=zH hk;clear eP hr hz;clear h h2 s2 dC rn AE hA;go_enter func18,ntmps18;go_wp2_with fail;rw[fL.out,eM.out];try go_wp2_with fail
     refine eE [g] w1 [] [0,1,2,3,4,5,6,7,8] ?_;refine al ?_;simp only[ah,Zx];repeat go_big_quiet_step(fail)
     apply wpQuiet_nil;go_wp2_with fail;rw[fV.out];try go_wp2_with fail
     have cx:=gD ha h3 aI oO gH;obtain⟨O,hO⟩:=zN (Rf.tell (({R with clock:=0,wait:=0}:Rf)));rw[hO]at cx;have jf:=zH ((qx.out).trans hO);replace hO:=zH hO;unfold bl at cx;go_wp2_with fail;refine cx.mono ?_;rintro e w8 ⟨Y,rfl,fX,my,ii⟩;have tM:=fX.lt;obtain⟨z0,z1,z2,z3,z4,z5,z6,z7,z8,z9,z10,z11,-⟩:=fX.cs [0,1,2,3,4,5,6,7,8,9,10,11];simp only[aR,Zx]at z0 z1 z2 z3 z4 z5 z6 z7 z8 z9 z10 z11;obtain⟨y0,y1,y2,y3,y4,y5,y6,y7,y8,y9,y10,y11,-⟩:=fX.fs [0,1,2,3,4,5,6,7,8,9,10,11];obtain⟨wE,dL⟩:=zN (cf w8 w.heap.size O.1 Y);rw[dL]at my ii;replace dL:=zH dL;replace ii:=zH ii;clear cx fX;go_wp2_with fail;show bodyPost _ _ _ _ _ (cf w8 w.heap.size O.1 Y);rw[dL.out];obtain⟨r0,r1,r2,r3,r4,r5,r6,r7,r8,r9,r10,r11,-⟩:=my.cs [0,1,2,3,4,5,6,7,8,9,10,11];simp only[bl,Zx]at r0 r1 r2 r3 r4 r5 r6 r7 r8 r9 r10 r11;exact bodyPost_ret (v:=.agg (bl O.1 Y)) (by simp[results,results18,go_sem,bl,r0,r1,r2,r3,r4,r5,r6,r7,r8,r9,r10,r11]) rfl ⟨Y,by rw[jf.out],by rw[jf.out];exact cu.out _ _ _ _ ii.out⟩
   ·skip
    have s2:=(h.s.set_ 11 (.int .i64 (R.clock+1)));simp only[bu,Zy]at s2;obtain⟨ws,fL⟩:=zN ((w.setCell ⟨g,11,none⟩ (.int .i64 (R.clock+1))));have dC:Fr (fun j=>j=g) w ws:=by rw[<-fL];exact Fr.set g 11 _
    have fU:ws.heap.size=w.heap.size:=by rw[<-fL];simp[World.setCell]
    rw[fL]at s2;have h2:=h.nums (R':=({R with clock:=R.clock+1}:Rf)) ha s2 dC rfl rfl rfl rfl rfl rfl rfl rfl rfl rfl rfl;have qx:=zH (show R.tick draw=Rf.tell (({R with clock:=R.clock+1}:Rf)) by
     unfold Rf.tick Rf.beats;simp only;rw[if_neg hr,if_neg hz,if_neg ry])
    have aI:Below ws.heap.size ws (ws.alloc (.cells aR 52)):=zb.alloc zl _;have gH:=ao.new ws 52 aR;obtain⟨w1,eM⟩:=zN (ws.alloc (.cells #[.bool false,.bool false,.int .i64 0,.int .i64 0,.slice none 0 0,.slice none 0 0,.bool false,.int .i64 0,.int .i64 0,.slice none 0 0,.slice none 0 0,.slice none 0 0] 52));rw[show ws.alloc (.cells aR 52)=w1 from eM]at aI gH;rw[fU]at gH;have oO:ws.heap.size<=w.heap.size:=by omega
    have hA:=h2.fresh (q+c+10) aI;have rn:Fr (aX aa c) w ws:=dC.mono fun j e=>by rw[e];have:=h.sl;exact⟨by omega,by omega⟩
    have cu:=zH (fun O R' Y wE (hT:cU aa c q ws g O R' Y wE)=>hT.next (fun _ _=>rfl) rn);obtain⟨d11,d12,d2,-⟩:=hA.s.cs [11,12,2];simp only[bu,vi,Zx]at d11 d12 d2;obtain⟨b11,b12,-⟩:=hA.s.fs [11,12];have xn:=hA.s.lt;obtain⟨k11,k12⟩:=pU [g] d11 d12;have h3:=(au.refl hA).below ((Below.refl w1.heap.size w1).drew);replace fL:=zH fL;replace eM:=zH eM;replace hk:=zH hk;clear eP hr hz;clear h h2 s2 dC rn AE hA;go_enter func18,ntmps18;go_wp2_with fail;rw[fL.out,eM.out];try go_wp2_with fail
    refine eE [g] w1 [] [0,1,2,3,4,5,6,7,8] ?_;refine al ?_;simp only[ah,Zx];repeat go_big_quiet_step(fail)
    apply wpQuiet_nil;go_wp2_with fail;have cx:=gD ha h3 aI oO gH;obtain⟨O,hO⟩:=zN (Rf.tell (({R with clock:=R.clock+1}:Rf)));rw[hO]at cx;have jf:=zH ((qx.out).trans hO);replace hO:=zH hO;unfold bl at cx;go_wp2_with fail;refine cx.mono ?_;rintro e w8 ⟨Y,rfl,fX,my,ii⟩;have tM:=fX.lt;obtain⟨z0,z1,z2,z3,z4,z5,z6,z7,z8,z9,z10,z11,-⟩:=fX.cs [0,1,2,3,4,5,6,7,8,9,10,11];simp only[aR,Zx]at z0 z1 z2 z3 z4 z5 z6 z7 z8 z9 z10 z11;obtain⟨y0,y1,y2,y3,y4,y5,y6,y7,y8,y9,y10,y11,-⟩:=fX.fs [0,1,2,3,4,5,6,7,8,9,10,11];obtain⟨wE,dL⟩:=zN (cf w8 w.heap.size O.1 Y);rw[dL]at my ii;replace dL:=zH dL;replace ii:=zH ii;clear cx fX;go_wp2_with fail;show bodyPost _ _ _ _ _ (cf w8 w.heap.size O.1 Y);rw[dL.out];obtain⟨r0,r1,r2,r3,r4,r5,r6,r7,r8,r9,r10,r11,-⟩:=my.cs [0,1,2,3,4,5,6,7,8,9,10,11];simp only[bl,Zx]at r0 r1 r2 r3 r4 r5 r6 r7 r8 r9 r10 r11;exact bodyPost_ret (v:=.agg (bl O.1 Y)) (by simp[results,results18,go_sem,bl,r0,r1,r2,r3,r4,r5,r6,r7,r8,r9,r10,r11]) rfl ⟨Y,by rw[jf.out],by rw[jf.out];exact cu.out _ _ _ _ ii.out⟩
end
def jK(aa:Nat->Nat)(c q:Nat)(w:World)(g:Nat)(O:Ot)(R':Rf)(Y:Oy)(vy:Value)(fs:List Fa)(w':World):Prop:=
 ∃(ak:Nat->Nat) (v':Aw),aK ak c q w' g R' v'/\im ak q w' O Y/\aG (aM ak q) w' vy fs/\(∀j,j<w.heap.size->¬aX aa c j->ak j=aa j)/\(∀j,j<w.heap.size->aX aa c j->aX ak c j\/ak j=q)/\Fr (aX aa c) w w'
section
variable {aa:Nat->Nat}{c q g p:Nat}{w w' w1 wX:World}{R R1:Rf}{v:Aw}{O:Ot}{Y:Oy}{vy:Value}{fs:List Fa}{cs:Array Value}
theorem cU.nofacts(h:cU aa c q w g O R Y w'):jK aa c q w g O R Y (.slice none 0 0) [] w':=by
 obtain⟨ak,v',h1,h2,h3,h4,h5⟩:=h;exact⟨ak,v',h1,h2,aG.nil _ _,h3,h4,h5⟩
theorem jK.boxes(ha:aN c q)(h:∃(ak:Nat->Nat) (v':Aw),aK ak c q w' g R v'/\im ak q w' O Y/\aG (aM ak q) w' vy fs/\(∀j,j<w.heap.size->¬aX aa c j->ak j=aa j)/\(∀j,j<w.heap.size->aX aa c j->aX ak c j\/ak j=q)/\Fr (aX aa c) w w'/\∀k,w.heap.size<=k->k<w1.heap.size->ak k=q+c+10)
  (hF:Fr (fun k=>w.heap.size<=k/\k<w1.heap.size) w' wX):jK aa c q w g O R Y vy fs wX:=by
 obtain⟨ak,v',h1,h2,h3,h4,h5,h6,h7⟩:=h;have hk:∀j,ak j≠q+c+10->j<w'.heap.size->wX.heap[j]?=w'.heap[j]?:=fun j hj hl=>hF.block j hl fun e=>hj (h7 j e.1 e.2)
 refine⟨ak,v',h1.keep fun j hj hl=>hk j (fun e=>?_) hl,h2.keep fun j hj hl=>hk j (fun e=>?_) hl,h3.keep fun j hj hl=>hk j (fun e=>?_) hl,h4,h5,h6.trans hF fun j e=>.inr e.1⟩
 ·unfold dv at hj;omega
 ·omega
 ·have hj:ak j=q:=hj;omega
theorem ev.told(ha:aN c q)(aI:Below w.heap.size w w1)(h:ev (aj aa w.heap.size (q+c+10)) c q w1 g R1 wX p vy fs cs) :
  Calls prog 54 #[.pointer (some ⟨g,0,none⟩)] wX fun e w'=>∃Y,e=.returned (.agg (bl R1.tell.1 Y))/\(∀k,w.heap.size<=k->k<w1.heap.size->w'.heap[k]?=w1.heap[k]?)/\ao w' p 59 cs/\
   ∀wE,Fr (fun k=>w.heap.size<=k/\k<w1.heap.size) w' wE->jK aa c q w g R1.tell.1 R1.tell.2 Y vy fs wE:=by
 obtain⟨ag,v1,h1,cD,ir,pH,cA,qm,xr⟩:=h;refine(Ak ha h1).mono ?_;rintro e w' ⟨Y,rfl,ak,v',q1,q2,q3,q4,q5⟩;have hs:=aI.size;have pK:=ir.size;have nP:¬aX ag c p:=fun hh=>qm (.inl hh)
 have e0:∀k,w.heap.size<=k->aj aa w.heap.size (q+c+10) k=q+c+10:=fun k hk=>az hk
 have e1:∀k,w.heap.size<=k->k<w1.heap.size->ag k=q+c+10:=fun k hk hl=>(cD k hl).trans (e0 k hk)
 have iU:∀k,w.heap.size<=k->k<w1.heap.size->¬aX ag c k:=fun k hk hl hh=>by unfold aX at hh;have:=e1 k hk hl;omega
 have lz:∀k,w.heap.size<=k->¬aX (aj aa w.heap.size (q+c+10)) c k:=fun k hk hh=>by unfold aX at hh;have:=e0 k hk;omega
 have xp:∀j,j<w.heap.size->ag j=aa j:=fun j hj=>(cD j (by omega)).trans (ac hj)
 refine⟨Y,rfl,fun k hk hl=>(q5.block k (by omega) (iU k hk hl)).trans (ir.block k hl (lz k hk)),(q5.block p cA.lt nP).trans cA,fun wE hF=>jK.boxes (w1:=w1) ha ⟨ak,v',q1,q2,?_,fun j hj hm=>?_,fun j hj hm=>q4 j (by omega) ((fD xp hj).2 hm),?_,fun k hk hl=>(q3 k (by omega) (iU k hk hl)).trans (e1 k hk hl)⟩ hF⟩
 ·have dO:∀j,ag j=q->¬aX ag c j:=fun j e hh=>by unfold aX at hh;unfold aN at ha;omega
  have qz:aG (nS ag q wX) w' vy fs:=(pH.mono (S':=nS ag q wX) fun j hj e=>⟨e,hj⟩).keep fun j hj hl=>q5.block j hj.2 (dO j hj.1)
  exact qz.mono fun j _ e=>(q3 j e.2 (dO j e.1)).trans e.1
 ·exact(q3 j (by omega) fun h=>hm ((fD xp hj).1 h)).trans (xp j hj)
 ·exact((Fr.of_below (X:=aX aa c) aI).trans ir fun j hj=>fE (fun _ hj=>ac hj) hj).trans q5 fun j hj=>fE xp hj
end
section
variable {aa:Nat->Nat}{c q g p:Nat}{w w' w1 wX:World}{R R1:Rf}{v:Aw}{O:Ot}{Y:Oy}{vy:Value}{fs:List Fa}{cs:Array Value}
theorem ev.zero(ha:aN c q)(aI:Below w.heap.size w w1)(h:ev (aj aa w.heap.size (q+c+10)) c q w1 g R1 wX p vy fs cs){wE:World}(hF:Fr (fun k=>w.heap.size<=k/\k<w1.heap.size) wX wE):jK aa c q w g gk R1 tq (.slice none 0 0) gc.facts wE:=by
 obtain⟨ag,v1,h1,cD,ir,pH,cA,qm,xr⟩:=h;have hs:=aI.size;have xp:∀j,j<w.heap.size->ag j=aa j:=fun j hj=>(cD j (by omega)).trans (ac hj)
 exact jK.boxes (w1:=w1) ha ⟨ag,v1,h1,im.zero _ _ _,aG.nil _ _,fun j hj _=>xp j hj,fun j hj hm=>.inl ((fD xp hj).2 hm),(Fr.of_below (X:=aX aa c) aI).trans ir fun j hj=>fE (fun _ hj=>ac hj) hj,fun k hk hl=>(cD k hl).trans (az hk)⟩ hF
theorem ev.boxed(aI:Below w.heap.size w w1)(h:ev (aj aa w.heap.size (q+c+10)) c q w1 g R1 wX p vy fs cs):∀k,w.heap.size<=k->k<w1.heap.size->wX.heap[k]?=w1.heap[k]?:=by
 obtain⟨ag,v1,h1,cD,ir,pH,cA,qm,xr⟩:=h;intro k hk hl;refine ir.block k hl fun hh=>?_
 unfold aX at hh;rw[az hk]at hh;omega
theorem ev.drewn(h:ev aa c q w g R1 wX p vy fs cs):ev aa c q w g R1 wX.drew p vy fs cs:=by
 obtain⟨ag,v1,h1,cD,ir,pH,cA,qm,xr⟩:=h;have hb:=(Below.refl wX.heap.size wX).drew;exact⟨ag,v1,h1.below hb,cD,ir.trans (Fr.of_below (X:=aX aa c) hb) fun j hj=>.inl hj,pH.keep (bA.below hb),cA,qm,xr⟩
theorem nW{w9:World}{b:Nat}(QU:ao w9 (b+1) 59 iD)(Lg:ao w9 (b+1+1) 52 aR)(vy:Value)(x:En)(O:Ot)(Y:Oy) :
  ao (cf (set6 w9 (b+1) (vy,x)) (b+1+1) O Y) (b+1) 59 (cl (vy,x)).toArray/\ao (cf (set6 w9 (b+1) (vy,x)) (b+1+1) O Y) (b+1+1) 52 (bl O Y)/\
   Fr (fun k=>b<=k/\k<b+3) w9 (cf (set6 w9 (b+1) (vy,x)) (b+1+1) O Y):=by
 have kV:=Fr.set6 w9 (b+1) (vy,x);have fP:=(eT (vy,x) QU rfl).1;have BG:ao (set6 w9 (b+1) (vy,x)) (b+1+1) 52 aR:=(kV.block _ Lg.lt (by omega)).trans Lg;have IB:=mj (set6 w9 (b+1) (vy,x)) (b+1+1) O Y;refine⟨(IB.block _ fP.lt (by omega)).trans fP,mI O Y BG,(kV.mono fun j e=>by omega).trans (IB.mono (X':=fun k=>b<=k/\k<b+3) fun j e=>by omega) fun j e=>.inl e⟩
theorem vt{K M:Nat}(x:En)(V:Option Addr)(m d:Nat)(ha:aN c q)(h:aK aa c q w g R v)(hk:Ok K M R)(hK:K<=50000)(hM:M<=20000)(hi:R.track.index<=R.commit)(hf:aG (aM aa q) w (.slice V m d) x.facts)(hm:m<=maxLen) :
  Calls prog 22 #[.pointer (some ⟨g,0,none⟩),.agg #[.int .i64 x.op,.int .i64 x.sess,.int .i64 x.seq,.slice V m d]] w fun e w'=>∃Y A1 n1 c1,e=.returned (.tuple #[mM (R.propose x).1.1 (.slice A1 n1 c1),.int .i64 (R.propose x).1.2.1,.agg (bl (R.propose x).1.2.2 Y)])/\
   jK aa c q w g (R.propose x).1.2.2 (R.propose x).2 Y (.slice A1 n1 c1) (R.propose x).1.1.facts w':=by
 have cW:=h.s.lt;have cw9:=h.s.cell 9;simp only[bu,vi,Zx]at cw9;obtain⟨aI,oa,CE,gH⟩:=uZ w 42 59 52 #[.int .i64 x.op,.int .i64 x.sess,.int .i64 x.seq,.slice V m d] iD aR;obtain⟨w3,jm⟩:=zN (((w.alloc (.cells #[.int .i64 x.op,.int .i64 x.sess,.int .i64 x.seq,.slice V m d] 42)).alloc (.cells #[.int .i64 0,.int .i64 0,.int .i64 0,.int .i64 0,.int .i64 0,.slice none 0 0] 59)).alloc (.cells #[.bool false,.bool false,.int .i64 0,.int .i64 0,.slice none 0 0,.slice none 0 0,.bool false,.int .i64 0,.int .i64 0,.slice none 0 0,.slice none 0 0,.slice none 0 0] 52));have NM:w3.heap.size=w.heap.size+3:=by rw[<-jm];simp
 rw[show((w.alloc (.cells #[.int .i64 x.op,.int .i64 x.sess,.int .i64 x.seq,.slice V m d] 42)).alloc (.cells iD 59)).alloc (.cells aR 52)=w3 from jm]at aI oa CE gH;have h1:=h.fresh (q+c+10) aI;have pH:aG (aM (aj aa w.heap.size (q+c+10)) q) w3 (.slice V m d) x.facts:=(hf.mono (S':=aM (aj aa w.heap.size (q+c+10)) q) fun j hj e=>(ac hj).trans e).keep (bA.below aI);have YN:=zH (ER h1 aI).nofacts;obtain⟨cz,GE⟩:=zN (aj aa w.heap.size (q+c+10));rw[GE]at h1 pH;have Q6:¬aX cz c w.heap.size:=fun hh=>by unfold aX at hh;rw[<-GE,az zl]at hh;omega
 have JF:g≠w.heap.size:=by omega
 have QD:g≠w.heap.size+1:=by omega
 have QE:g≠w.heap.size+1+1:=by omega
 have QF:g<w.heap.size+1:=by omega
 have QG:g<w.heap.size+1+1:=by omega
 have iy:g<w3.heap.size:=h1.s.lt;have Fh:w.heap.size<w3.heap.size:=oa.lt;replace jm:=zH jm;by_cases hr:R.role=3
 ·obtain⟨pf,jq⟩:=zN (R.track.putF R.hard.term x);have cx:=hk.trk;have jZ:Below w3.drew.heap.size w3.drew (w3.drew.alloc (.cells #[.int .i64 0,.int .i64 0,.int .i64 0,.int .i64 0,.int .i64 0,.slice none 0 0] 59)):=zb.alloc zl _;have OC:=h1.below (w':=w3.drew) (zb.drew);have MR:aG (aM cz q) w3.drew (.slice V m d) x.facts:=pH.keep (bA.below (zb.drew));have ey:=qt R.hard.term x V m d ha OC (by omega) MR hm;have ez:=qt R.hard.term x V m d ha (OC.fresh (q+c+10) jZ) (by omega) ((MR.mono (S':=aM (aj cz w3.drew.heap.size (q+c+10)) q) fun j hj e=>(ac hj).trans e).keep (bA.below jZ)) hm;rw[jq]at ey ez;obtain⟨gt,iV,AK,qq,rI⟩:=h1.trk_at;rw[iV]at ey ez;obtain⟨d2,d4,-⟩:=h1.s.cs [2,4];simp only[bu,vi,Zx]at d2 d4;rw[iV]at d4;obtain⟨y0,y1,y2,y3,-⟩:=oa.cs [0,1,2,3];simp only[Zx]at y0 y1 y2 y3;obtain⟨k2,k4,u0,u1,u2,u3⟩:=Pb [g,w.heap.size] d2 d4 y0 y1 y2 y3;have qF:w3.heap[g]?=some (.cells (bu {R with track:=pf.2} v) 122 (0,0)):=h1.s;have oo:∀w5 vy fs,nm cz c q w3.drew g {R with track:=pf.2} v w5 vy fs->w5.heap[g]?=w3.heap[g]?/\w5.heap[w.heap.size]?=w3.heap[w.heap.size]?:=fun w5 vy fs hT=>by
   obtain⟨dU,a1,a2,a3,a4⟩:=hT;exact⟨a1.s.trans qF.symm,a3.block w.heap.size Fh Q6⟩
  have kM:∀w5 vy fs,nm (aj cz w3.drew.heap.size (q+c+10)) c q (w3.drew.alloc (.cells #[.int .i64 0,.int .i64 0,.int .i64 0,.int .i64 0,.int .i64 0,.slice none 0 0] 59)) g {R with track:=pf.2} v w5 vy fs->w5.heap[g]?=w3.heap[g]?/\w5.heap[w.heap.size]?=w3.heap[w.heap.size]?:=fun w5 vy fs hT=>by
   obtain⟨dU,a1,a2,a3,a4⟩:=hT;refine⟨a1.s.trans qF.symm,(a3.block w.heap.size (Nat.lt_of_lt_of_le Fh jZ.size) fun hh=>Q6 ?_).trans (jZ.block _ Fh)⟩;unfold aX at hh ⊢;rw[ac (show w.heap.size<w3.drew.heap.size from Fh)]at hh;exact hh
  have cu:∀wx p vy cs,ev cz c q w3.drew g {R with track:=pf.2} wx p vy pf.1.1.facts cs->ev cz c q w3 g {R with track:=pf.2} wx p vy pf.1.1.facts cs:=fun wx p vy cs hM=>hM.next (fun _ _=>rfl) (Fr.of_below (X:=aX cz c) (zb.drew))
  have e1:(R.role !=3)=false:=by simp[hr]
  replace hk:=zH hk;replace jq:=zH jq;replace hr:=zH hr;clear h h1 OC hf pH MR;replace NM:=zH NM;go_enter func22,ntmps22;go_wp2_with fail;rw[jm.out]
  go_cut [7,8] (fun s7 s8 wr=>∃p A1 n1 c1,s7=.pointer (some ⟨p,0,none⟩)/\s8=.int .i64 pf.1.2/\ev cz c q w3 g {R with track:=pf.2} wr p (.slice A1 n1 c1) pf.1.1.facts (cl (.slice A1 n1 c1,pf.1.1)).toArray)
  case first=>
   refine Sq [g,w.heap.size] w3 (.two [0,1,2,3,4,5,6,7,8,9] 10 14 (.one [11,12,13] 14 (.one [] 15 (.last [16]))) (.one [] 10 (.one [11,12,13] 15 (.last [16])))) ?_;refine ie fun K1 K2 cQ iu=>?_
   simp only[ah,Zx];repeat go_big_quiet_step(fail)
   apply wpQuiet_nil;constructor
   ·go_wp2_with fail;refine ey.mono ?_;rintro e w5 ⟨A1,n1,c1,rfl,hT⟩;go_wp2_with fail;have jl:=oo _ _ _ hT;refine⟨bO jl.1 jl.2,cQ _ _ ?_⟩;clear ey ez;refine bF fun K3 jY=>?_
    simp only[ah,Zx];repeat go_big_quiet_step(fail)
    apply wpQuiet_nil;go_wp2_with fail;have hM:=hT.boxed #[.int .i64 0,.int .i64 0,.int .i64 0,.int .i64 0,.int .i64 0,.slice none 0 0] ha;have MF:Below w5.heap.size w5 (w5.alloc (.cells #[.int .i64 0,.int .i64 0,.int .i64 0,.int .i64 0,.int .i64 0,.slice none 0 0] 59)):=zb.alloc zl _;have ln:(w5.alloc (.cells #[.int .i64 0,.int .i64 0,.int .i64 0,.int .i64 0,.int .i64 0,.slice none 0 0] 59)).heap[g]?=w3.heap[g]?/\(w5.alloc (.cells #[.int .i64 0,.int .i64 0,.int .i64 0,.int .i64 0,.int .i64 0,.slice none 0 0] 59)).heap[w.heap.size]?=w3.heap[w.heap.size]?:=⟨(MF.block _ (aV (jl.1.trans qF))).trans jl.1,(MF.block _ (aV (jl.2.trans oa))).trans jl.2⟩;generalize Fl:w5.alloc (.cells #[.int .i64 0,.int .i64 0,.int .i64 0,.int .i64 0,.int .i64 0,.slice none 0 0] 59)=w6 at *;generalize uw:w5.heap.size=p at *;refine⟨bO ln.1 ln.2,jY _ _ ?_⟩;refine bF fun K4 ro=>?_
    simp only[ah,Zx];apply wpQuiet_nil;obtain⟨fP,rG,OY⟩:=hM.blk;have Lm:p≠w.heap.size:=by have OY:w3.heap.size<=p:=OY;omega
    obtain⟨z0,z1,z2,z3,z4,z5,-⟩:=fP.cs [0,1,2,3,4,5];simp only[Zx]at z0 z1 z2 z3 z4 z5;obtain⟨f0,f1,f2,f3,f4,f5,-⟩:=fP.fs [0,1,2,3,4,5];have fh:=Fr.set6 w6 p (.slice A1 n1 c1,pf.1.1);have uj:(set6 w6 p (.slice A1 n1 c1,pf.1.1)).heap[g]?=w3.heap[g]?/\(set6 w6 p (.slice A1 n1 c1,pf.1.1)).heap[w.heap.size]?=w3.heap[w.heap.size]?:=⟨(fh.block g (aV (ln.1.trans qF)) fun e=>rG e.symm).trans ln.1,(fh.block _ (aV (ln.2.trans oa)) fun e=>Lm e.symm).trans ln.2⟩;have nY:=hM.set pf.1.1 rfl;go_wp2_with fail;refine⟨bO uj.1 uj.2,ro _ _ ?_⟩;show eD _ _ _ _ _ _ (set6 w6 p (.slice A1 n1 c1,pf.1.1));have aE:=zH (cu _ _ _ _ nY);generalize set6 w6 p (.slice A1 n1 c1,pf.1.1)=w7 at *;clear hM nY fP z0 z1 z2 z3 z4 z5 f0 f1 f2 f3 f4 f5 fh hT cu oo kM;refine dx ?_;simp only[ah,Zx];repeat go_big_quiet_step(fail)
    apply wpQuiet_nil;go_wp2_with fail
    go_meet
    exact⟨p,A1,n1,c1,rfl,rfl,aE.out⟩
   ·go_wp2_with fail;refine⟨bO (jZ.block g iy) (jZ.block _ Fh),iu _ _ ?_⟩;refine bF fun K3 jY=>?_
    simp only[ah,Zx];apply wpQuiet_nil;go_wp2_with fail;refine ez.mono ?_;rintro e w6 ⟨A1,n1,c1,rfl,hT⟩;go_wp2_with fail;have ln:=kM _ _ _ hT;have hM:=hT.box;have DV:w3.drew.heap.size=w3.heap.size:=rfl;rw[DV]at hM;refine⟨bO ln.1 ln.2,jY _ _ ?_⟩;clear ey ez;refine bF fun K4x Bl=>?_
    simp only[ah,Zx];repeat go_big_quiet_step(fail)
    apply wpQuiet_nil;obtain⟨fP,rG,_⟩:=hM.blk;have Lm:w3.heap.size≠w.heap.size:=by omega
    generalize w3.heap.size=p at *;obtain⟨z0,z1,z2,z3,z4,z5,-⟩:=fP.cs [0,1,2,3,4,5];simp only[Zx]at z0 z1 z2 z3 z4 z5;obtain⟨f0,f1,f2,f3,f4,f5,-⟩:=fP.fs [0,1,2,3,4,5];have fh:=Fr.set6 w6 p (.slice A1 n1 c1,pf.1.1);have uj:(set6 w6 p (.slice A1 n1 c1,pf.1.1)).heap[g]?=w3.heap[g]?/\(set6 w6 p (.slice A1 n1 c1,pf.1.1)).heap[w.heap.size]?=w3.heap[w.heap.size]?:=⟨(fh.block g (aV (ln.1.trans qF)) fun e=>rG e.symm).trans ln.1,(fh.block _ (aV (ln.2.trans oa)) fun e=>Lm e.symm).trans ln.2⟩;have nY:=hM.set pf.1.1 rfl;go_wp2_with fail;refine⟨bO uj.1 uj.2,Bl _ _ ?_⟩;show eD _ _ _ _ _ _ (set6 w6 p (.slice A1 n1 c1,pf.1.1));have aE:=zH (cu _ _ _ _ nY);generalize set6 w6 p (.slice A1 n1 c1,pf.1.1)=w7 at *;clear hM nY fP z0 z1 z2 z3 z4 z5 f0 f1 f2 f3 f4 f5 fh hT cu oo kM;refine dx ?_;simp only[ah,Zx];repeat go_big_quiet_step(fail)
    apply wpQuiet_nil;go_wp2_with fail
    go_meet
    exact⟨p,A1,n1,c1,rfl,rfl,aE.out⟩
  case rest=>
   obtain⟨p,A1,n1,c1,Tc,VD,rp⟩:=hcut;subst Tc;subst VD
   rename World=>wc
   clear ey ez jZ cu oo kM d2 d4 k2 k4 u0 u1 u2 u3 y0 y1 y2 y3 oa qF;have fR:∀{R1 wX cs},ev cz c q w3 g R1 wX p (.slice A1 n1 c1) pf.1.1.facts cs->ev (aj aa w.heap.size (q+c+10)) c q w3 g R1 wX p (.slice A1 n1 c1) pf.1.1.facts cs:=fun h=>by rw[GE];exact h
   obtain⟨tF,rG,OY⟩:=rp.blk;have LF:=NM.out;have fu:=(fR rp).boxed aI;have DJ:ao wc (w.heap.size+1) 59 iD:=(fu _ (by omega) (by omega)).trans CE;have DU:ao wc (w.heap.size+1+1) 52 aR:=(fu _ (by omega) (by omega)).trans gH;have OP:=DJ.lt;have uu:=DU.lt;by_cases hz:pf.1.2=0
   ·have xz:(pf.1.2 !=0)=false:=by simp[hz]
    obtain⟨R5,xg⟩:=zN ((({R with track:=pf.2}:Rf).save [pf.1.1]));have tH:Ok (K+1) (M+1) R5:=by
     rw[<-xg];have:=hk.out.put R.hard.term x;rw[jq.out]at this;exact this.save [pf.1.1]
    have DY:R5.role=3:=by rw[<-xg];exact hr.out
    have QM:R5.track.index<=R5.commit:=by
     rw[<-xg];show pf.2.index<=R.commit;have GV:=g8 R.track R.hard.term x;rw[jq.out]at GV;rw[GV.1];exact hi
    obtain⟨O,hO⟩:=zN (Rf.tell R5.all.agrees);have fS:=so hr.out jq.out hz (by rw[xg,hO]);have o6:=tH.all;have o9:=tH.peers DY (by omega);have US:R5.all.track.index<=R5.all.commit/\R5.all.peers.length=R5.all.n+1:=by
     obtain⟨ms,e,_⟩:=fA R5.others R5;have e':R5.all=_:=e;rw[e'];exact⟨QM,o9.len⟩
    have aE:∀wx,ev cz c q w3 g R5 wx p (.slice A1 n1 c1) pf.1.1.facts (cl (.slice A1 n1 c1,pf.1.1)).toArray->Calls prog 53 #[.pointer (some ⟨g,0,none⟩)] wx fun e w'=>e=.returned (.tuple #[])/\ev cz c q w3 g R5.all w' p (.slice A1 n1 c1) pf.1.1.facts (cl (.slice A1 n1 c1,pf.1.1)).toArray:=fun wx hP=>hP.act ha fun bs v2 h2=>qW ha h2 o9 (by have:=tH.ms;omega)
    have iL:∀wx,ev cz c q w3 g R5.all wx p (.slice A1 n1 c1) pf.1.1.facts (cl (.slice A1 n1 c1,pf.1.1)).toArray->Calls prog 70 #[.pointer (some ⟨g,0,none⟩)] wx fun e w'=>e=.returned (.tuple #[])/\ev cz c q w3 g R5.all.agrees w' p (.slice A1 n1 c1) pf.1.1.facts (cl (.slice A1 n1 c1,pf.1.1)).toArray:=fun wx hP=>hP.act ha fun bs v2 h2=>lF ha h2 US.2 o6.id.2.2 US.1 o6.cm.1 (by have:=o6.trk;omega) (by have:=o6.cs;omega)
    replace fS:=zH fS;replace hO:=zH hO;replace aE:=zH aE;replace iL:=zH iL;clear tH o6 o9 QM US DY;obtain⟨bs,v2,h2,qz,Ve,cY⟩:=rp.open_ ha;have s22:=h2.s.set_ 22 (.bool true);simp only[bu,Zy]at s22;have d22:=h2.s.cell 22;simp only[bu,vi,Zx]at d22;have f22:=h2.s.free 22;obtain⟨wd,tl⟩:=zN (wc.setCell ⟨g,22,none⟩ (.bool true));have AA:Fr (fun j=>j=g) wc wd:=by rw[<-tl];exact Fr.set g 22 _
    rw[tl]at s22;have h3:aK bs c q wd g {R with track:=pf.2,out:={R.out with save:=true}} v2:=h2.nums ha s22 AA rfl rfl rfl rfl rfl rfl rfl rfl rfl rfl rfl;have ul:ao wd p 59 (cl (.slice A1 n1 c1,pf.1.1)).toArray:=(AA.block p tF.lt rG).trans tF;have DX:∀j,bs j=q->j≠g:=fun j hj e=>by have:=h2.sl;rw[e]at hj;unfold aN at ha;omega
    have xm:aG (aM bs q) wd (.slice A1 n1 c1) pf.1.1.facts:=qz.keep fun j hj hl=>AA.block j hl (DX j hj)
    obtain⟨A,d,zs,pL,bS,gp,P2,fo,jr⟩:=vz ha h3 xm;obtain⟨n,fi⟩:=zN (R.out.entries.length);have af:({R with track:=pf.2,out:={R.out with save:=true}}:Rf).out.entries.length=n:=fi;rw[af]at pL bS jr;have Vc:n<=100000:=by rw[<-fi];have:=hk.out.es;omega
    have e26:wd.cell? ⟨g,26,none⟩=some (.slice A n d):=by
     have:=h3.s.cell 26;simp only[bu,Zx]at this;rw[this,pL]
    have lq:=h3.s.lt;have Rt:=ul.lt;obtain⟨z0,z1,z2,z3,z4,z5,-⟩:=ul.cs [0,1,2,3,4,5];simp only[cl,vi,Zx]at z0 z1 z2 z3 z4 z5;obtain⟨k26,k0,k1,k2,k3,k4,k5⟩:=LV [g,p] e26 z0 z1 z2 z3 z4 z5;have dA:∀x∈[g,p],x<wd.heap.size:=by simp;exact⟨lq,Rt⟩
    have fw:n+1<=1000000000:=by omega
    have La:∀A3 c3 w4,w4.ownsRow 0 59 6 (.slice A3 (n+1) c3) (n+1) ((zs++[(Value.slice A1 n1 c1,pf.1.1)]).flatMap cl)->Fr (aA A) ((wd.alloc (.cells (cl (.slice A1 n1 c1,pf.1.1)).toArray 59)).drew) w4->(∀j,aA A3 j->aA A j\/((wd.alloc (.cells (cl (.slice A1 n1 c1,pf.1.1)).toArray 59)).drew).heap.size<=j)->
      ao w4 g 122 (bu {R with track:=pf.2,out:={R.out with save:=true}} v2)/\w4.heap[g]?=wd.heap[g]?/\w4.heap[p]?=wd.heap[p]?/\ev cz c q w3 g R5 (w4.setCell ⟨g,26,none⟩ (.slice A3 (n+1) c3)) p (.slice A1 n1 c1) pf.1.1.facts (cl (.slice A1 n1 c1,pf.1.1)).toArray:=fun A3 c3 w4 ho hF hr=>by
     obtain⟨q1,q2,q3⟩:=jr A3 c3 w4 ho hF hr;refine⟨q1,q1.trans h3.s.symm,q3 p Rt Ve,?_⟩;have TP:Fr (aX bs c) wc wd:=AA.mono fun j e=>by rw[e];have:=h2.sl;exact⟨by omega,by omega⟩
     have Bp:=q2.next (fun _ _=>rfl) TP;rw[<-xg];exact cY _ _ Bp
    replace tl:=zH tl;clear h2 h3 qz xm jr cY rp ul tF s22 hz xg DJ DU fu;go_wp2_with fail;rw[tl.out];try go_wp2_with fail
    refine nj [g,p] wd [([0,1,2,3,4,5,6],7),([],8)] ([9,10,11],12) ?_;refine aq fun K5 vE=>?_
    simp only[ah,Zx];repeat go_big_quiet_step(fail)
    apply wpQuiet_nil;go_wp2_with fail;refine⟨av dA P2,vE _ _ ?_⟩;refine aq fun K6 vF=>?_
    simp only[ah,Zx];apply wpQuiet_nil;go_wp2_with (at_builtin;refine aW rfl (.tmp 44) (.tmp 46) rfl 0 rfl bS rfl gp fo fw zz ?_;intro A3 c3 w4 cH dk bN hrw3;obtain⟨iE,iy,rF,kW⟩:=La A3 c3 w4 cH dk hrw3;replace kW:=zH kW;clear La cH dk bN hrw3);have x26:=iE.cell 26;have y26:=iE.free 26;simp only[bu,vi,Zx]at x26;refine⟨bO iy rF,vF _ _ ?_⟩;refine aC ?_;simp only[ah,Zx];repeat go_big_quiet_step(fail)
    apply wpQuiet_nil;go_wp2_with fail;refine(aE.out _ kW.out).mono ?_;rintro e w8 ⟨rfl,PF⟩;have xj:=iL.out _ PF;clear PF iE x26;go_wp2_with fail;refine xj.mono ?_;rintro e w9 ⟨rfl,mA⟩;clear xj;have yz:=mA.blk.1;have nA:=yz.lt;have cx:=ev.told ha aI (fR mA.drewn);rw[hO.out]at cx;unfold bl at cx;obtain⟨z0,z1,z2,z3,z4,z5,-⟩:=yz.cs [0,1,2,3,4,5];simp only[cl,vi,Zx]at z0 z1 z2 z3 z4 z5;obtain⟨k0,k1,k2,k3,k4,k5⟩:=Pb [p] z0 z1 z2 z3 z4 z5;clear mA;go_wp2_with fail;refine nj [p] w9 [([0,1],2),([],3)] ([4],5) ?_;refine aq fun K1 cQ=>?_
    simp only[ah,Zx];repeat go_big_quiet_step(fail)
    apply wpQuiet_nil;go_wp2_with fail;refine cx.mono ?_;rintro e wT ⟨Y,rfl,OI,Xw,yf⟩;have GU:wT.heap[p]?=w9.heap[p]?:=Xw.trans yz.symm;have Gu:ao wT (w.heap.size+1) 59 iD:=(OI _ (by omega) (by omega)).trans CE;have GR:ao wT (w.heap.size+1+1) 52 aR:=(OI _ (by omega) (by omega)).trans gH;obtain⟨FZ,F0,Az⟩:=nW Gu GR (.slice A1 n1 c1) pf.1.1 O.1 Y;have ye:=yf _ (Az.mono (X':=fun k=>w.heap.size<=k/\k<w3.heap.size) fun j e=>⟨e.1,by have:=e.2;omega⟩);obtain⟨wE,dL⟩:=zN (cf (set6 wT (w.heap.size+1) (.slice A1 n1 c1,pf.1.1)) (w.heap.size+1+1) O.1 Y);rw[dL]at FZ F0 ye;replace dL:=zH dL;replace ye:=zH ye;have OP:=Gu.lt;have uu:=GR.lt;obtain⟨q0,q1,q2,q3,q4,q5,-⟩:=Gu.cs [0,1,2,3,4,5];simp only[iD,vi,Zx]at q0 q1 q2 q3 q4 q5;obtain⟨f0,f1,f2,f3,f4,f5,-⟩:=Gu.fs [0,1,2,3,4,5];obtain⟨y0,y1,y2,y3,y4,y5,y6,y7,y8,y9,y10,y11,-⟩:=GR.cs [0,1,2,3,4,5,6,7,8,9,10,11];simp only[aR,vi,Zx]at y0 y1 y2 y3 y4 y5 y6 y7 y8 y9 y10 y11;obtain⟨u0,u1,u2,u3,u4,u5,u6,u7,u8,u9,u10,u11,-⟩:=GR.fs [0,1,2,3,4,5,6,7,8,9,10,11];have kV:=Fr.set6 wT (w.heap.size+1) (.slice A1 n1 c1,pf.1.1);have xu:p≠w.heap.size+1:=by have OY:w3.heap.size<=p:=OY;omega
    have ux:(set6 wT (w.heap.size+1) (.slice A1 n1 c1,pf.1.1)).heap[p]?=w9.heap[p]?:=(kV.block p (by rw[Array.getElem?_eq_getElem nA]at GU;exact aV GU) xu).trans GU;clear cx yf Az Gu GR yz Xw LF;go_wp2_with fail;refine⟨cy GU,cQ _ _ ?_⟩;refine aq fun K2 iu=>?_
    simp only[ah,Zx];apply wpQuiet_nil;go_wp2_with fail;refine⟨cy ux,iu _ _ ?_⟩;refine aC ?_;simp only[ah,Zx];repeat go_big_quiet_step(fail)
    apply wpQuiet_nil;go_wp2_with fail;show bodyPost _ _ _ _ _ (cf (set6 wT (w.heap.size+1) (.slice A1 n1 c1,pf.1.1)) (w.heap.size+1+1) O.1 Y);rw[dL.out];obtain⟨r0,r1,r2,r3,r4,r5,-⟩:=FZ.cs [0,1,2,3,4,5];simp only[cl,vi,Zx]at r0 r1 r2 r3 r4 r5;obtain⟨t0,t1,t2,t3,t4,t5,t6,t7,t8,t9,t10,t11,-⟩:=F0.cs [0,1,2,3,4,5,6,7,8,9,10,11];simp only[bl,vi,Zx]at t0 t1 t2 t3 t4 t5 t6 t7 t8 t9 t10 t11;exact bodyPost_ret (v:=.tuple #[.agg #[.int .i64 pf.1.1.idx,.int .i64 pf.1.1.term,.int .i64 pf.1.1.op,.int .i64 pf.1.1.sess,.int .i64 pf.1.1.seq,.slice A1 n1 c1],.int .i64 0,.agg (bl O.1 Y)]) (by simp[results,results22,go_sem,bl,r0,r1,r2,r3,r4,r5,t0,t1,t2,t3,t4,t5,t6,t7,t8,t9,t10,t11]) rfl ⟨Y,A1,n1,c1,by rw[fS.out];rfl,by rw[fS.out];exact ye.out⟩
   ·have xz:(pf.1.2 !=0)=true:=by simp[hz]
    have fS:=zH (pQ hr.out jq.out hz);obtain⟨FZ,F0,Az⟩:=nW DJ DU (.slice none 0 0) gc gk tq;have yf:=(fR rp).zero ha aI (Az.mono (X':=fun k=>w.heap.size<=k/\k<w3.heap.size) fun j e=>⟨e.1,by have:=e.2;omega⟩);obtain⟨wE,dL⟩:=zN (cf (set6 wc (w.heap.size+1) (.slice none 0 0,gc)) (w.heap.size+1+1) gk tq);rw[dL]at FZ F0 yf;replace dL:=zH dL;obtain⟨z0,z1,z2,z3,z4,z5,-⟩:=DJ.cs [0,1,2,3,4,5];simp only[iD,vi,Zx]at z0 z1 z2 z3 z4 z5;obtain⟨f0,f1,f2,f3,f4,f5,-⟩:=DJ.fs [0,1,2,3,4,5];obtain⟨y0,y1,y2,y3,y4,y5,y6,y7,y8,y9,y10,y11,-⟩:=DU.cs [0,1,2,3,4,5,6,7,8,9,10,11];simp only[aR,vi,Zx]at y0 y1 y2 y3 y4 y5 y6 y7 y8 y9 y10 y11;obtain⟨u0,u1,u2,u3,u4,u5,u6,u7,u8,u9,u10,u11,-⟩:=DU.fs [0,1,2,3,4,5,6,7,8,9,10,11];replace yf:=zH yf;clear rp DJ DU hz Az fu tF LF;go_wp2_with fail;show bodyPost _ _ _ _ _ (cf (set6 wc (w.heap.size+1) (.slice none 0 0,gc)) (w.heap.size+1+1) gk tq);rw[dL.out];obtain⟨r0,r1,r2,r3,r4,r5,-⟩:=FZ.cs [0,1,2,3,4,5];simp only[cl,gc,vi,Zx]at r0 r1 r2 r3 r4 r5;obtain⟨t0,t1,t2,t3,t4,t5,t6,t7,t8,t9,t10,t11,-⟩:=F0.cs [0,1,2,3,4,5,6,7,8,9,10,11];simp only[bl,vi,Zx]at t0 t1 t2 t3 t4 t5 t6 t7 t8 t9 t10 t11;exact bodyPost_ret (v:=.tuple #[.agg #[.int .i64 0,.int .i64 0,.int .i64 0,.int .i64 0,.int .i64 0,.slice none 0 0],.int .i64 pf.1.2,.agg (bl gk tq)]) (by simp[results,results22,go_sem,bl,r0,r1,r2,r3,r4,r5,t0,t1,t2,t3,t4,t5,t6,t7,t8,t9,t10,t11]) rfl ⟨tq,none,0,0,by rw[fS.out];rfl,by rw[fS.out];exact yf.out⟩
 ·have e1:(R.role !=3)=true:=by simp[hr]
  have fS:=zH (sn x hr);replace hr:=zH hr;replace hk:=zH hk;clear h h1 hf pH aI oa;go_enter func22,ntmps22;go_wp2_with fail;rw[jm.out];obtain⟨r0,r1,r2,r3,r4,r5,-⟩:=CE.cs [0,1,2,3,4,5];simp only[iD,vi,Zx]at r0 r1 r2 r3 r4 r5;obtain⟨t0,t1,t2,t3,t4,t5,t6,t7,t8,t9,t10,t11,-⟩:=gH.cs [0,1,2,3,4,5,6,7,8,9,10,11];simp only[aR,vi,Zx]at t0 t1 t2 t3 t4 t5 t6 t7 t8 t9 t10 t11;exact bodyPost_ret (v:=.tuple #[.agg #[.int .i64 0,.int .i64 0,.int .i64 0,.int .i64 0,.int .i64 0,.slice none 0 0],.int .i64 40,.agg (bl gk tq)]) (by simp[results,results22,go_sem,bl,gk,tq,js,jt,nK,r0,r1,r2,r3,r4,r5,t0,t1,t2,t3,t4,t5,t6,t7,t8,t9,t10,t11]) rfl ⟨tq,none,0,0,by rw[fS.out];rfl,by rw[fS.out];exact YN.out⟩
end

section
open Rf (numOk)
section
variable {aa:Nat->Nat}{c q g:Nat}{w:World}{R:Rf}{v:Aw}
theorem AS(m:Mg)(A1 A2:Option Addr)(n1 n2 c1 c2:Nat)(iU:n1=m.entries.length)(kJ:n2=m.data.length)(h:aK aa c q w g R v) :
  Calls prog 62 #[.pointer (some ⟨g,0,none⟩),eI m (.slice A1 n1 c1) (.slice A2 n2 c2)] w fun e w'=>e=.returned (.bool (R.right m))/\Below w.heap.size w w':=by
 have cW:=h.s.lt;obtain⟨ve,pL⟩:=zN (Value.slice A1 n1 c1);obtain⟨vd,tK⟩:=zN (Value.slice A2 n2 c2);rw[pL,tK];obtain⟨d4,d5,-⟩:=h.s.cs [0,1];simp only[bu,vi,Zx]at d4 d5;have aI:Below w.heap.size w (w.alloc (.cells #[.int .i64 m.kind,.int .i64 m.frm,.int .i64 m.tgt,.int .i64 m.term,.int .i64 m.idx,.int .i64 m.logTerm,.int .i64 m.commit,.int .i64 m.round,.bool m.reject,.int .i64 m.offset,.int .i64 m.total,ve,vd] 39)):=zb.alloc zl _;have bM:=ao.new w 39 #[.int .i64 m.kind,.int .i64 m.frm,.int .i64 m.tgt,.int .i64 m.term,.int .i64 m.idx,.int .i64 m.logTerm,.int .i64 m.commit,.int .i64 m.round,.bool m.reject,.int .i64 m.offset,.int .i64 m.total,ve,vd];obtain⟨w1,ct⟩:=zN (w.alloc (.cells #[.int .i64 m.kind,.int .i64 m.frm,.int .i64 m.tgt,.int .i64 m.term,.int .i64 m.idx,.int .i64 m.logTerm,.int .i64 m.commit,.int .i64 m.round,.bool m.reject,.int .i64 m.offset,.int .i64 m.total,ve,vd] 39));rw[ct]at aI bM;obtain⟨y0,y1,y2,y3,y4,y5,y6,y7,y8,y9,yA,yB,yC,-⟩:=bM.cs [0,1,2,3,4,5,6,7,8,9,10,11,12];simp only[Zx]at y0 y1 y2 y3 y4 y5 y6 y7 y8 y9 yA yB yC;obtain⟨k0,k1,k2,k3,k4,k5,k6,k7,k8,k9,kA,kB,kC⟩:=Ap [g,w.heap.size] y0 y1 y2 y3 y4 y5 y6 y7 y8 y9 yA yB yC;have d4':=(aI.cell (ar d4)).trans d4;have d5':=(aI.cell (ar d5)).trans d5;have dO:=zH (fun k (hk:k<6) (hf:numOk ((fI m)[k]?.getD 0)=false)=>uT (R:=R) (m:=m) hk hf);have gB:=zH (fun h=>uU (R:=R) (m:=m) h);obtain⟨w2,cZ⟩:=zN (w1.alloc (.cells #[.int .i64 m.idx,.int .i64 m.logTerm,.int .i64 m.commit,.int .i64 m.round,.int .i64 m.offset,.int .i64 m.total] 3));have nd:ao w2 w1.heap.size 3 ((fI m).map vi).toArray:=by rw[<-cZ];exact ao.new w1 3 ((fI m).map vi).toArray
 have dX:Below w1.heap.size w1 w2:=by rw[<-cZ];exact zb.alloc zl _
 have z0:=(dX.cell (ar y0)).trans y0;have z1:=(dX.cell (ar y1)).trans y1;have z2:=(dX.cell (ar y2)).trans y2;have z3:=(dX.cell (ar y3)).trans y3;have zB:=(dX.cell (ar yB)).trans yB;have zC:=(dX.cell (ar yC)).trans yC;have zD:=(dX.cell (ar d4')).trans d4';have zE:=(dX.cell (ar d5')).trans d5';obtain⟨q0,q1,q2,q3,qB,qC,qD,qE⟩:=Ww [g,w.heap.size] z0 z1 z2 z3 zB zC zD zE;clear k0 k1 k2 k3 k4 k5 k6 k7 k8 k9 kA kB kC;have DG:Below w.heap.size w w2.drew:=ay (ab aI dX zl) 1;have dF:Below w.heap.size w w2:=ab aI dX zl;unfold eI;simp only[vi];clear h;go_enter func62,ntmps62;go_wp2_with fail;try rw[ct]
 go_wp2_with fail;try rw[cZ]
 go_loopw [6] (fun i wr=>∃k:Nat,k<=6/\i=.int .i64 k/\(∀j,j<k->numOk ((fI m)[j]?.getD 0)=true)/\wr=w2) (fun i _=>6-(intOf i).toNat)
 case atStart=>exact⟨0,Nat.zero_le _,rfl,fun j hj=>absurd hj (Nat.not_lt_zero _),rfl⟩
 case round=>
  obtain⟨k,hk,rfl,cR,rfl⟩:=hrel;replace cR:=zH cR;by_cases aU:k<6
  ·obtain⟨x,hx⟩:=zN ((fI m)[k]?.getD 0);have kH:k<(fI m).length:=aU;have c0:wr.cell? ⟨w1.heap.size,k,none⟩=some (.int .i64 x):=(nd.cell k).trans (by rw[List.getElem?_toArray,List.getElem?_map,List.getElem?_eq_getElem kH,<-hx,List.getElem?_eq_getElem kH];rfl);have JT:=zo x;replace hx:=zH hx;cases cu:numOk x with
   | false=>
    rw[cu]at JT;have hf:=zH (dO.out k aU (by rw[hx.out];exact cu));have Vi:x<0\/(¬x<0/\1099511627776<x):=by
     have:=of_decide_eq_false JT;omega
    clear JT cu;rcases Vi with x1|⟨x1,x2⟩
    all_goals
     go_wp2_with fail;go_ret;exact⟨by rw[hf.out];rfl,dF⟩
   | true=>
    rw[cu]at JT;have nz:=zH (show ∀j,j<k+1->numOk ((fI m)[j]?.getD 0)=true from fun j hj=>by
     rcases Nat.lt_or_ge j k with h1|h1
     ·exact cR.out j h1
     ·obtain rfl:j=k:=by omega
      rw[hx.out];exact cu)
    have Vi:=of_decide_eq_true JT;have x1:¬x<0:=by omega
    have x2:¬1099511627776<x:=by omega
    clear JT cu Vi;go_wp2_with fail;exact⟨⟨k+1,aU,by go_num,nz.out,trivial⟩,by simp[intOf];omega⟩
  ·obtain rfl:k=6:=by omega
   have hR:=gB.out cR.out;unfold iQ at hR;have cB:(R.right m=false/\decide (1<=m.kind)=false)\/(R.right m=false/\decide (1<=m.kind)=true/\decide (m.kind<=8)=false)\/(R.right m=false/\decide (1<=m.kind)=true/\decide (m.kind<=8)=true/\(m.tgt==(R.id:Int))=false)\/(R.right m=false/\decide (1<=m.kind)=true/\decide (m.kind<=8)=true/\(m.tgt==(R.id:Int))=true/\decide (1<=m.frm)=false)\/(R.right m=false/\decide (1<=m.kind)=true/\decide (m.kind<=8)=true/\(m.tgt==(R.id:Int))=true/\decide (1<=m.frm)=true/\decide (m.frm<=(R.n:Int))=false)\/(R.right m=false/\decide (1<=m.kind)=true/\decide (m.kind<=8)=true/\(m.tgt==(R.id:Int))=true/\decide (1<=m.frm)=true/\decide (m.frm<=(R.n:Int))=true/\(m.frm !=(R.id:Int))=false)\/(R.right m=false/\decide (1<=m.kind)=true/\decide (m.kind<=8)=true/\(m.tgt==(R.id:Int))=true/\decide (1<=m.frm)=true/\decide (m.frm<=(R.n:Int))=true/\(m.frm !=(R.id:Int))=true/\decide (1<=m.term)=false)\/(R.right m=false/\decide (1<=m.kind)=true/\decide (m.kind<=8)=true/\(m.tgt==(R.id:Int))=true/\decide (1<=m.frm)=true/\decide (m.frm<=(R.n:Int))=true/\(m.frm !=(R.id:Int))=true/\decide (1<=m.term)=true/\decide (m.term<=1099511627776)=false)\/(R.right m=false/\decide (1<=m.kind)=true/\decide (m.kind<=8)=true/\(m.tgt==(R.id:Int))=true/\decide (1<=m.frm)=true/\decide (m.frm<=(R.n:Int))=true/\(m.frm !=(R.id:Int))=true/\decide (1<=m.term)=true/\decide (m.term<=1099511627776)=true/\decide ((n1:Int)<=6)=false)\/(R.right m=false/\decide (1<=m.kind)=true/\decide (m.kind<=8)=true/\(m.tgt==(R.id:Int))=true/\decide (1<=m.frm)=true/\decide (m.frm<=(R.n:Int))=true/\(m.frm !=(R.id:Int))=true/\decide (1<=m.term)=true/\decide (m.term<=1099511627776)=true/\decide ((n1:Int)<=6)=true/\decide ((n2:Int)<=160)=false)\/(R.right m=true/\decide (1<=m.kind)=true/\decide (m.kind<=8)=true/\(m.tgt==(R.id:Int))=true/\decide (1<=m.frm)=true/\decide (m.frm<=(R.n:Int))=true/\(m.frm !=(R.id:Int))=true/\decide (1<=m.term)=true/\decide (m.term<=1099511627776)=true/\decide ((n1:Int)<=6)=true/\decide ((n2:Int)<=160)=true):=by
    rw[hR,<-iU,<-kJ];clear hR iU kJ;by_cases a0:decide (1<=m.kind)=true
    rotate_left
    ·refine .inl ?_;refine⟨decide_eq_false fun hh=>?_,by simpa using a0⟩;simp at a0;omega
    by_cases a1:decide (m.kind<=8)=true
    rotate_left
    ·refine .inr (.inl ?_);refine⟨decide_eq_false fun hh=>?_,a0,by simpa using a1⟩;simp at a1;omega
    by_cases a2:(m.tgt==(R.id:Int))=true
    rotate_left
    ·refine .inr (.inr (.inl ?_));refine⟨decide_eq_false fun hh=>?_,a0,a1,by simpa using a2⟩;simp at a2;omega
    by_cases a3:decide (1<=m.frm)=true
    rotate_left
    ·refine .inr (.inr (.inr (.inl ?_)));refine⟨decide_eq_false fun hh=>?_,a0,a1,a2,by simpa using a3⟩;simp at a3;omega
    by_cases a4:decide (m.frm<=(R.n:Int))=true
    rotate_left
    ·refine .inr (.inr (.inr (.inr (.inl ?_))));refine⟨decide_eq_false fun hh=>?_,a0,a1,a2,a3,by simpa using a4⟩;simp at a4;omega
    by_cases a5:(m.frm !=(R.id:Int))=true
    rotate_left
    ·refine .inr (.inr (.inr (.inr (.inr (.inl ?_)))));refine⟨decide_eq_false fun hh=>?_,a0,a1,a2,a3,a4,by simpa using a5⟩;simp at a5;omega
    by_cases a6:decide (1<=m.term)=true
    rotate_left
    ·refine .inr (.inr (.inr (.inr (.inr (.inr (.inl ?_))))));refine⟨decide_eq_false fun hh=>?_,a0,a1,a2,a3,a4,a5,by simpa using a6⟩;simp at a6;omega
    by_cases a7:decide (m.term<=1099511627776)=true
    rotate_left
    ·refine .inr (.inr (.inr (.inr (.inr (.inr (.inr (.inl ?_)))))));refine⟨decide_eq_false fun hh=>?_,a0,a1,a2,a3,a4,a5,a6,by simpa using a7⟩;simp at a7;omega
    by_cases a8:decide ((n1:Int)<=6)=true
    rotate_left
    ·refine .inr (.inr (.inr (.inr (.inr (.inr (.inr (.inr (.inl ?_))))))));refine⟨decide_eq_false fun hh=>?_,a0,a1,a2,a3,a4,a5,a6,a7,by simpa using a8⟩;simp at a8;omega
    by_cases a9:decide ((n2:Int)<=160)=true
    rotate_left
    ·refine .inr (.inr (.inr (.inr (.inr (.inr (.inr (.inr (.inr (.inl ?_)))))))));refine⟨decide_eq_false fun hh=>?_,a0,a1,a2,a3,a4,a5,a6,a7,a8,by simpa using a9⟩;simp at a9;omega
    refine .inr (.inr (.inr (.inr (.inr (.inr (.inr (.inr (.inr (.inr (?_))))))))));refine⟨decide_eq_true ?_,a0,a1,a2,a3,a4,a5,a6,a7,a8,a9⟩;simp at a0 a1 a2 a3 a4 a5 a6 a7 a8 a9;omega
   clear nd dX hR iU kJ;rcases cB with⟨hr,e0⟩|⟨hr,e0,e1⟩|⟨hr,e0,e1,e2⟩|⟨hr,e0,e1,e2,e3⟩|⟨hr,e0,e1,e2,e3,e4⟩|⟨hr,e0,e1,e2,e3,e4,e5⟩|⟨hr,e0,e1,e2,e3,e4,e5,e6⟩|⟨hr,e0,e1,e2,e3,e4,e5,e6,e7⟩|⟨hr,e0,e1,e2,e3,e4,e5,e6,e7,e8⟩|⟨hr,e0,e1,e2,e3,e4,e5,e6,e7,e8,e9⟩|⟨hr,e0,e1,e2,e3,e4,e5,e6,e7,e8,e9⟩
   all_goals
    replace hr:=zH hr;rw[<-pL]at zB qB;rw[<-tK]at zC qC;clear pL tK;go_wp2_with fail;refine eE [g,w.heap.size] wr [] [0,1,2,3,4,5,6,7,8,9,10,11,12,13,14,15,16,17,18,19,20,21,22,23,24,25,26,27,28,29,30,31,32,33,34,35,36,37,38,39,40,41,42,43,44,45,46,47,48,49,50,51,52,53,54,55,56,57,58,59,60,61,62] ?_;refine al ?_;simp only[ah,Zx];repeat go_big_quiet_step(fail)
    apply wpQuiet_nil;go_wp2_with fail;go_ret;exact⟨by rw[hr.out];rfl,by first|exact DG|exact dF⟩
end
end
def LS(l:List Value)(g b p:Nat):Prop:=l.length=105/\l[0]?=some (.pointer (some ⟨g,0,none⟩))/\l[3]?=some (.pointer (some ⟨b,0,none⟩))/\l[4]?=some (.pointer (some ⟨p,0,none⟩))
section
variable {aa:Nat->Nat}{c q g b p n1 c1 n2 c2:Nat}{A1 A2:Option Addr}{wx w':World}{R:Rf}{v:Aw}{K:Act->World->Prop}{Q':Exit->Act->World->Prop}{l:List Value}{m:Mg}{J:World->Prop}{O:Ot}{T:Oy->World->Prop}{ok:Bool}
theorem ss0(hl:l.length=105/\l[0]?=some (.pointer (some ⟨g,0,none⟩))/\l[1]?=some (.agg (cF m A1 A2 n1 c1 n2 c2)))(hK:∀l':List Value,LS l' g wx.heap.size (wx.heap.size+1)->K ⟨l'.toArray,[]⟩ ((wx.alloc (.cells (cF m A1 A2 n1 c1 n2 c2) 39)).alloc (.cells aR 52))):sQ 0 f20 K Q' l wx:=by
 unfold cF aR at *;obtain⟨af,aY,ci⟩:=hl;obtain⟨fr,rfl,ai⟩:=an af;rw[hU,ai _ _ aY,ai _ _ ci];clear af ai aY ci;refine df 0 f20 rfl ?_;go_wp2_with fail;exact⟨rfl,rfl,rfl,rfl⟩
theorem ss1(hb:ao wx b 39 (cF m A1 A2 n1 c1 n2 c2))(hr:Calls prog 62 #[.pointer (some ⟨g,0,none⟩),.agg (cF m A1 A2 n1 c1 n2 c2)] wx fun e w'=>e=.returned (.bool ok)/\J w')(hl:LS l g b p)(hK:∀l' w',LS l' g b p/\l'[5]?=some (.bool ok)->J w'->K ⟨l'.toArray,[]⟩ w'):sQ 1 f20 K Q' l wx:=by
 obtain⟨y0,y1,y2,y3,y4,y5,y6,y7,y8,y9,y10,y11,y12,-⟩:=hb.cs [0,1,2,3,4,5,6,7,8,9,10,11,12];simp only[cF,Zx]at y0 y1 y2 y3 y4 y5 y6 y7 y8 y9 y10 y11 y12;unfold cF at hr;clear hb;obtain⟨af,aY,aL,bW⟩:=hl;obtain⟨fr,rfl,ai⟩:=an af;rw[hU,ai _ _ aY,ai _ _ aL,ai _ _ bW];clear af ai aY aL bW;refine df 1 f20 rfl ?_;go_wp2_with fail;refine hr.mono ?_;rintro e w5 ⟨rfl,hp⟩;replace hp:=zH hp;clear hr;go_wp2_with fail;exact hK _ _ ⟨⟨rfl,rfl,rfl,rfl⟩,rfl⟩ hp.out
theorem Oj(hp:ao wx p 52 aR)(hO:O=gk)(hT:T tq (cf wx p gk tq))(hl:LS l g b p/\l[5]?=some (.bool false)):(C8 2 (bv f20)).wp prog (Exit.then K (bodyPost prog f20 fun e w''=>∃Y,e=.returned (.agg (bl O Y))/\T Y w'')) ⟨l.toArray,[]⟩ wx:=by
 subst hO;have td:=mI gk tq hp;obtain⟨wE,dL⟩:=zN (cf wx p gk tq);rw[dL]at hT td;replace dL:=zH dL;obtain⟨z0,z1,z2,z3,z4,z5,z6,z7,z8,z9,z10,z11,-⟩:=hp.cs [0,1,2,3,4,5,6,7,8,9,10,11];simp only[aR,vi,Zx]at z0 z1 z2 z3 z4 z5 z6 z7 z8 z9 z10 z11;obtain⟨u0,u1,u2,u3,u4,u5,u6,u7,u8,u9,u10,u11,-⟩:=hp.fs [0,1,2,3,4,5,6,7,8,9,10,11];have uu:=hp.lt;replace hT:=zH hT;clear hp;obtain⟨⟨nB,jM,CM,GW⟩,JY⟩:=hl;have hl:l.length=105/\l[0]?=some (.pointer (some ⟨g,0,none⟩))/\l[3]?=some (.pointer (some ⟨b,0,none⟩))/\l[4]?=some (.pointer (some ⟨p,0,none⟩))/\l[5]?=some (.bool false):=⟨nB,jM,CM,GW,JY⟩;clear nB jM CM GW JY;obtain⟨af,aY,aL,bW,dK⟩:=hl;obtain⟨fr,rfl,ai⟩:=an af;rw[hU,ai _ _ aY,ai _ _ aL,ai _ _ bW,ai _ _ dK];clear af ai aY aL bW dK;refine df 2 f20 rfl ?_;go_wp2_with fail;show bodyPost _ _ _ _ _ (cf wx p gk tq);rw[dL.out];obtain⟨r0,r1,r2,r3,r4,r5,r6,r7,r8,r9,r10,r11,-⟩:=td.cs [0,1,2,3,4,5,6,7,8,9,10,11];simp only[bl,vi,Zx]at r0 r1 r2 r3 r4 r5 r6 r7 r8 r9 r10 r11;exact bodyPost_ret (v:=.agg (bl gk tq)) (by simp[results,results20,go_sem,bl,r0,r1,r2,r3,r4,r5,r6,r7,r8,r9,r10,r11]) rfl ⟨tq,rfl,hT.out⟩
theorem Ky(hl:LS l g b p/\l[5]?=some (.bool true))(hK:∀l',LS l' g b p->K ⟨l'.toArray,[]⟩ wx):(C8 2 (bv f20)).wp prog (Exit.then K (bodyPost prog f20 fun e w''=>∃Y,e=.returned (.agg (bl O Y))/\T Y w'')) ⟨l.toArray,[]⟩ wx:=by
 obtain⟨⟨nB,jM,CM,GW⟩,JY⟩:=hl;have hl:l.length=105/\l[0]?=some (.pointer (some ⟨g,0,none⟩))/\l[3]?=some (.pointer (some ⟨b,0,none⟩))/\l[4]?=some (.pointer (some ⟨p,0,none⟩))/\l[5]?=some (.bool true):=⟨nB,jM,CM,GW,JY⟩;clear nB jM CM GW JY;obtain⟨af,aY,aL,bW,dK⟩:=hl;obtain⟨fr,rfl,ai⟩:=an af;rw[hU,ai _ _ aY,ai _ _ aL,ai _ _ bW,ai _ _ dK];clear af ai aY aL bW dK;refine df 2 f20 rfl ?_;go_wp2_with fail;exact⟨rfl,rfl,rfl,rfl⟩
theorem Ol(h:aK aa c q wx g R v)(hb:ao wx b 39 (cF m A1 A2 n1 c1 n2 c2))(h0:¬(R.hard.term<m.term/\m.kind≠1/\(m.kind≠2\/m.reject=true)))(hl:LS l g b p)(hK:∀l',LS l' g b p->K ⟨l'.toArray,[]⟩ wx.drew):(C8 3 (bv f20)).wp prog (Exit.then K (bodyPost prog f20 fun e w''=>∃Y,e=.returned (.agg (bl O Y))/\T Y w'')) ⟨l.toArray,[]⟩ wx:=by
 obtain⟨y0,y3,y8,-⟩:=hb.cs [0,3,8];simp only[cF,Zx]at y0 y3 y8;have z2:=h.s.cell 2;simp only[bu,vi,Zx]at z2;obtain⟨k0,k3,kz2⟩:=tT [g,b] y0 y3 z2;obtain⟨rj,kL⟩:∃x,m.reject=x:=⟨_,rfl⟩;rw[kL]at y8 h0;have k8:=EY [g,b] y8;have cB:(decide (R.hard.term<m.term)=false)\/(decide (R.hard.term<m.term)=true/\rj=rj/\(m.kind !=1)=false)\/(decide (R.hard.term<m.term)=true/\rj=false/\(m.kind !=1)=true/\(m.kind==2)=true):=by
  simp only[bne_iff_ne,bne_eq_false_iff_eq,beq_iff_eq,beq_eq_false_iff_ne,decide_eq_true_eq,decide_eq_false_iff_not];cases rj <;> simp at h0 ⊢ <;> omega
 clear h hb kL;replace h0:=zH h0;obtain⟨af,aY,aL,bW⟩:=hl;obtain⟨fr,rfl,ai⟩:=an af;rw[hU,ai _ _ aY,ai _ _ aL,ai _ _ bW];clear af ai aY aL bW;refine df 3 f20 rfl ?_;rcases cB with e1|⟨e1,e2,e3⟩|⟨e1,e2,e3,e4⟩
 all_goals
  try subst e2
  go_wp2_with fail;refine eE [g,b] wx [] [0,1,2,3,4,5,6,7,8,9,10,11,12,13,14,15,16,17,18,19,20,21,22,23] ?_;refine al ?_;simp only[ah,Zx];repeat go_big_quiet_step(fail)
  apply wpQuiet_nil;go_wp2_with fail;exact⟨rfl,rfl,rfl,rfl⟩
theorem Kz(ha:aN c q)(h:aK aa c q wx g R v)(hb:ao wx b 39 (cF m A1 A2 n1 c1 n2 c2))(h0:R.hard.term<m.term/\m.kind≠1/\(m.kind≠2\/m.reject=true))(hl:LS l g b p)(hK:∀l' w',LS l' g b p->aK aa c q w' g (R.follows m.term) {v with waits:=.slice none 0 0}->Fr (fun j=>j=g) wx w'->K ⟨l'.toArray,[]⟩ w'):(C8 3 (bv f20)).wp prog (Exit.then K (bodyPost prog f20 fun e w''=>∃Y,e=.returned (.agg (bl O Y))/\T Y w'')) ⟨l.toArray,[]⟩ wx:=by
 obtain⟨y0,y3,y8,-⟩:=hb.cs [0,3,8];simp only[cF,Zx]at y0 y3 y8;obtain⟨z2,z3,z9,z10,z16,z22,-⟩:=h.s.cs [2,3,9,10,16,22];simp only[bu,vi,Zx]at z2 z3 z9 z10 z16 z22;obtain⟨f2,f3,f9,f10,f16,f22,-⟩:=h.s.fs [2,3,9,10,16,22];obtain⟨k0,k3,kz2⟩:=tT [g,b] y0 y3 z2;obtain⟨Aw,dw,LE,_⟩:=id h.x;obtain⟨Nw,YI⟩:∃n,R.waits.length=n:=⟨_,rfl⟩;rw[YI]at LE;rw[LE]at z16;obtain⟨W,hW⟩:=zN (((((((wx).setCell ⟨g,2,none⟩ (.int .i64 m.term)).setCell ⟨g,3,none⟩ (.int .i64 0)).setCell ⟨g,22,none⟩ (.bool true)).setCell ⟨g,9,none⟩ (.int .i64 0)).setCell ⟨g,10,none⟩ (.int .i64 0)).setCell ⟨g,16,none⟩ (.slice none 0 0));have hF:Fr (fun j=>j=g) wx W:=by
   have e:∀{a b:World},Fr (fun j=>j=g) wx a->Fr (fun j=>j=g) a b->Fr (fun j=>j=g) wx b:=fun h h'=>h.trans h' fun _ h=>.inl h
   rw[<-hW];exact e (e (e (e (e (Fr.set (w:=wx) g 2 _) (Fr.set g 3 _)) (Fr.set g 22 _)) (Fr.set g 9 _)) (Fr.set g 10 _)) (Fr.set g 16 _)
 have hs:ao W g 122 (bu (R.follows m.term) {v with waits:=.slice none 0 0}):=by
  have s:=((((((h.s.set_ 2 (.int .i64 m.term)).set_ 3 (.int .i64 0)).set_ 22 (.bool true)).set_ 9 (.int .i64 0)).set_ 10 (.int .i64 0)).set_ 16 (.slice none 0 0));simp only[bu,Zy]at s;rw[<-hW];exact s
 have hA:aK aa c q W g (R.follows m.term) {v with waits:=.slice none 0 0}:=h.turn [] ha hs (fun _ _=>rfl) (by simp) (hF.mono fun j e=>.inl e) tI tI tI (.inl (bR.nil _ _ _ _ _)) (.inr ⟨rfl,rfl⟩) (.inr ⟨rfl,rfl⟩) tI tI (.inr ⟨rfl,rfl⟩) tI tI;have pG:aK aa c q W.drew g (R.follows m.term) {v with waits:=.slice none 0 0}:=hA.below (zb.drew);have TL:Fr (fun j=>j=g) wx W.drew:=hF.trans (Fr.of_below (X:=fun j=>j=g) (zb.drew)) fun _ h=>.inl h
 have AD:b≠g:=fun e=>by
  have h1:=hb;rw[e]at h1;have h2:=h.s;unfold ao at h1 h2;rw[h2]at h1;injection h1 with h1;injection h1 with _ h1 _;exact absurd h1 (by decide)
 obtain⟨rj,kL⟩:∃x,m.reject=x:=⟨_,rfl⟩;rw[kL]at y8 h0;have k8:=EY [g,b] y8;have y3':wx.drew.cell? ⟨b,3,none⟩=some (.int .i64 m.term):=y3;have cB:(decide (R.hard.term<m.term)=true/\rj=rj/\(m.kind !=1)=true/\(m.kind==2)=false)\/(decide (R.hard.term<m.term)=true/\rj=true/\(m.kind !=1)=true/\(m.kind==2)=true):=by
  simp only[bne_iff_ne,bne_eq_false_iff_eq,beq_iff_eq,beq_eq_false_iff_ne,decide_eq_true_eq,decide_eq_false_iff_not];cases rj <;> simp at h0 ⊢ <;> omega
 replace pG:=zH pG;replace TL:=zH TL;clear hA hF hs h hb kL;replace h0:=zH h0;replace hW:=zH hW;obtain⟨af,aY,aL,bW⟩:=hl;obtain⟨fr,rfl,ai⟩:=an af;rw[hU,ai _ _ aY,ai _ _ aL,ai _ _ bW];clear af ai aY aL bW;refine df 3 f20 rfl ?_;rcases cB with⟨e1,e2,e3,e4⟩|⟨e1,e2,e3,e4⟩
 all_goals
  try subst e2
  go_wp2_with fail;refine eE [g,b] wx [] [0,1,2,3,4,5,6,7,8,9,10,11,12,13,14,15,16,17,18,19,20,21,22,23] ?_;refine al ?_;simp only[ah,Zx];repeat go_big_quiet_step(fail)
  apply wpQuiet_nil;go_wp2_with fail;rw[hW.out];exact hK _ _ ⟨rfl,rfl,rfl,rfl⟩ pG.out TL.out
theorem Om(h:aK aa c q wx g R v)(hb:ao wx b 39 (cF m A1 A2 n1 c1 n2 c2))(h0:¬(m.term<R.hard.term/\m.kind≠1))(hl:LS l g b p)(hK:∀l',LS l' g b p->K ⟨l'.toArray,[]⟩ wx.drew):(C8 4 (bv f20)).wp prog (Exit.then K (bodyPost prog f20 fun e w''=>∃Y,e=.returned (.agg (bl O Y))/\T Y w'')) ⟨l.toArray,[]⟩ wx:=by
 obtain⟨y0,y3,-⟩:=hb.cs [0,3];simp only[cF,Zx]at y0 y3;have z2:=h.s.cell 2;simp only[bu,vi,Zx]at z2;obtain⟨k0,k3,kz2⟩:=tT [g,b] y0 y3 z2;have cB:(decide (m.term<R.hard.term)=false)\/(decide (m.term<R.hard.term)=true/\(m.kind !=1)=false):=by
  simp only[bne_iff_ne,bne_eq_false_iff_eq,decide_eq_true_eq,decide_eq_false_iff_not];omega
 clear h hb;replace h0:=zH h0;obtain⟨af,aY,aL,bW⟩:=hl;obtain⟨fr,rfl,ai⟩:=an af;rw[hU,ai _ _ aY,ai _ _ aL,ai _ _ bW];clear af ai aY aL bW;refine df 4 f20 rfl ?_;rcases cB with e1|⟨e1,e2⟩
 all_goals
  go_wp2_with fail;refine eE [g,b] wx [] [0,1,2,3,4,5,6,7,8,9,10,11,12] ?_;refine al ?_;simp only[ah,Zx];repeat go_big_quiet_step(fail)
  apply wpQuiet_nil;go_wp2_with fail;exact⟨rfl,rfl,rfl,rfl⟩
theorem Ij(h:aK aa c q wx g R v)(hb:ao wx b 39 (cF m A1 A2 n1 c1 n2 c2))(h0:m.term<R.hard.term/\m.kind≠1)(ul:1<=m.kind/\m.kind<=8)(h1:m.kind=3\/m.kind=5\/m.kind=7)(gA:Calls prog 63 #[.pointer (some ⟨g,0,none⟩),(eI {dh with kind:=m.kind+1,tgt:=m.frm,reject:=true,round:=m.round} (.slice none 0 0) (.slice none 0 0))] wx.drew fun e w'=>e=.returned (.tuple #[])/\J w')(nf:∀w',J w'->Calls prog 54 #[.pointer (some ⟨g,0,none⟩)] w' fun e w''=>∃Y,e=.returned (.agg (bl O Y))/\ao w'' p 52 aR/\ao (cf w'' p O Y) p 52 (bl O Y)/\T Y (cf w'' p O Y))(hl:LS l g b p):(C8 4 (bv f20)).wp prog (Exit.then K (bodyPost prog f20 fun e w''=>∃Y,e=.returned (.agg (bl O Y))/\T Y w'')) ⟨l.toArray,[]⟩ wx:=by
 obtain⟨y0,y1,y3,y7,-⟩:=hb.cs [0,1,3,7];simp only[cF,Zx]at y0 y1 y3 y7;have z2:=h.s.cell 2;simp only[bu,vi,Zx]at z2;obtain⟨k0,k3,kz2⟩:=tT [g,b] y0 y3 z2;have e1:decide (m.term<R.hard.term)=true:=decide_eq_true h0.1;have e2:(m.kind !=1)=true:=by simp[h0.2]
 have cB:((m.kind==3)=true)\/((m.kind==3)=false/\(m.kind==5)=true)\/((m.kind==3)=false/\(m.kind==5)=false/\(m.kind==7)=true):=by
  simp only[beq_iff_eq,beq_eq_false_iff_ne];omega
 unfold eI at gA;simp only[dh,vi]at gA;clear h hb;replace h0:=zH h0;replace h1:=zH h1;replace nf:=zH nf;obtain⟨af,aY,aL,bW⟩:=hl;obtain⟨fr,rfl,ai⟩:=an af;rw[hU,ai _ _ aY,ai _ _ aL,ai _ _ bW];clear af ai aY aL bW;refine df 4 f20 rfl ?_;rcases cB with e3|⟨e3,e4⟩|⟨e3,e4,e5⟩
 all_goals
  go_wp2_with fail;refine eE [g,b] wx [] [0,1,2,3,4,5,6,7,8,9,10,11,12] ?_;refine al ?_;simp only[ah,Zx];repeat go_big_quiet_step(fail)
  apply wpQuiet_nil;go_wp2_with fail;refine gA.mono ?_;rintro e w5 ⟨rfl,hJ⟩;have cx:=nf.out w5 hJ;clear gA hJ;unfold bl at cx;go_wp2_with fail;refine cx.mono ?_;rintro e w8 ⟨Y,rfl,fX,my,ii⟩;have tM:=fX.lt;obtain⟨z0,z1,z2,z3,z4,z5,z6,z7,z8,z9,z10,z11,-⟩:=fX.cs [0,1,2,3,4,5,6,7,8,9,10,11];simp only[aR,vi,Zx]at z0 z1 z2 z3 z4 z5 z6 z7 z8 z9 z10 z11;obtain⟨u0,u1,u2,u3,u4,u5,u6,u7,u8,u9,u10,u11,-⟩:=fX.fs [0,1,2,3,4,5,6,7,8,9,10,11];obtain⟨wE,dL⟩:=zN (cf w8 p O Y);rw[dL]at my ii;replace dL:=zH dL;replace ii:=zH ii;clear cx fX;go_wp2_with fail;show bodyPost _ _ _ _ _ (cf w8 p O Y);rw[dL.out];obtain⟨r0,r1,r2,r3,r4,r5,r6,r7,r8,r9,r10,r11,-⟩:=my.cs [0,1,2,3,4,5,6,7,8,9,10,11];simp only[bl,vi,Zx]at r0 r1 r2 r3 r4 r5 r6 r7 r8 r9 r10 r11;exact bodyPost_ret (v:=.agg (bl O Y)) (by simp[results,results20,go_sem,bl,r0,r1,r2,r3,r4,r5,r6,r7,r8,r9,r10,r11]) rfl ⟨Y,rfl,ii.out⟩
theorem EI(h:aK aa c q wx g R v)(hb:ao wx b 39 (cF m A1 A2 n1 c1 n2 c2))(h0:m.term<R.hard.term/\m.kind≠1)(ul:1<=m.kind/\m.kind<=8)(h1:¬(m.kind=3\/m.kind=5\/m.kind=7))(hJ:J wx.drew)(nf:∀w',J w'->Calls prog 54 #[.pointer (some ⟨g,0,none⟩)] w' fun e w''=>∃Y,e=.returned (.agg (bl O Y))/\ao w'' p 52 aR/\ao (cf w'' p O Y) p 52 (bl O Y)/\T Y (cf w'' p O Y))(hl:LS l g b p):(C8 4 (bv f20)).wp prog (Exit.then K (bodyPost prog f20 fun e w''=>∃Y,e=.returned (.agg (bl O Y))/\T Y w'')) ⟨l.toArray,[]⟩ wx:=by
 obtain⟨y0,y1,y3,y7,-⟩:=hb.cs [0,1,3,7];simp only[cF,Zx]at y0 y1 y3 y7;have z2:=h.s.cell 2;simp only[bu,vi,Zx]at z2;obtain⟨k0,k3,kz2⟩:=tT [g,b] y0 y3 z2;have e1:decide (m.term<R.hard.term)=true:=decide_eq_true h0.1;have e2:(m.kind !=1)=true:=by simp[h0.2]
 have cB:(m.kind==3)=false/\(m.kind==5)=false/\(m.kind==7)=false:=by
  simp only[beq_iff_eq,beq_eq_false_iff_ne];omega
 have hJ:=zH hJ;clear h hb;replace h0:=zH h0;replace h1:=zH h1;replace nf:=zH nf;obtain⟨af,aY,aL,bW⟩:=hl;obtain⟨fr,rfl,ai⟩:=an af;rw[hU,ai _ _ aY,ai _ _ aL,ai _ _ bW];clear af ai aY aL bW;refine df 4 f20 rfl ?_;obtain⟨e3,e4,e5⟩:=cB;have cx:=nf.out _ hJ.out;go_wp2_with fail;refine eE [g,b] wx [] [0,1,2,3,4,5,6,7,8,9,10,11,12] ?_;refine al ?_;simp only[ah,Zx];repeat go_big_quiet_step(fail)
 apply wpQuiet_nil;unfold bl at cx;go_wp2_with fail;refine cx.mono ?_;rintro e w8 ⟨Y,rfl,fX,my,ii⟩;have tM:=fX.lt;obtain⟨z0,z1,z2,z3,z4,z5,z6,z7,z8,z9,z10,z11,-⟩:=fX.cs [0,1,2,3,4,5,6,7,8,9,10,11];simp only[aR,vi,Zx]at z0 z1 z2 z3 z4 z5 z6 z7 z8 z9 z10 z11;obtain⟨u0,u1,u2,u3,u4,u5,u6,u7,u8,u9,u10,u11,-⟩:=fX.fs [0,1,2,3,4,5,6,7,8,9,10,11];obtain⟨wE,dL⟩:=zN (cf w8 p O Y);rw[dL]at my ii;replace dL:=zH dL;replace ii:=zH ii;clear cx fX;go_wp2_with fail;show bodyPost _ _ _ _ _ (cf w8 p O Y);rw[dL.out];obtain⟨r0,r1,r2,r3,r4,r5,r6,r7,r8,r9,r10,r11,-⟩:=my.cs [0,1,2,3,4,5,6,7,8,9,10,11];simp only[bl,vi,Zx]at r0 r1 r2 r3 r4 r5 r6 r7 r8 r9 r10 r11;exact bodyPost_ret (v:=.agg (bl O Y)) (by simp[results,results20,go_sem,bl,r0,r1,r2,r3,r4,r5,r6,r7,r8,r9,r10,r11]) rfl ⟨Y,rfl,ii.out⟩
theorem ss5(hb:ao wx b 39 (cF m A1 A2 n1 c1 n2 c2))(hd:Calls prog 64 #[.pointer (some ⟨g,0,none⟩),.agg (cF m A1 A2 n1 c1 n2 c2)] wx fun e w'=>e=.returned (.tuple #[])/\J w')(hl:LS l g b p)(hK:∀l' w',LS l' g b p->J w'->K ⟨l'.toArray,[]⟩ w'):sQ 5 f20 K Q' l wx:=by
 obtain⟨y0,y1,y2,y3,y4,y5,y6,y7,y8,y9,y10,y11,y12,-⟩:=hb.cs [0,1,2,3,4,5,6,7,8,9,10,11,12];simp only[cF,Zx]at y0 y1 y2 y3 y4 y5 y6 y7 y8 y9 y10 y11 y12;unfold cF at hd;clear hb;obtain⟨af,aY,aL,bW⟩:=hl;obtain⟨fr,rfl,ai⟩:=an af;rw[hU,ai _ _ aY,ai _ _ aL,ai _ _ bW];clear af ai aY aL bW;refine df 5 f20 rfl ?_;go_wp2_with fail;refine hd.mono ?_;rintro e w5 ⟨rfl,hp⟩;replace hp:=zH hp;clear hd;go_wp2_with fail;exact hK _ _ ⟨rfl,rfl,rfl,rfl⟩ hp.out
theorem ss6(h:aK aa c q wx g R v)(hJ:R.role≠3->J wx)(gp:R.role=3->Calls prog 65 #[.pointer (some ⟨g,0,none⟩)] wx fun e w'=>e=.returned (.tuple #[])/\J w')(hl:LS l g b p)(hK:∀l' w',LS l' g b p->J w'->K ⟨l'.toArray,[]⟩ w'):sQ 6 f20 K Q' l wx:=by
 have z9:=h.s.cell 9;simp only[bu,vi,Zx]at z9;clear h;by_cases h3:R.role=3
 ·have e1:(R.role==3)=true:=by simp[h3]
  have eG:=gp h3;clear gp hJ;replace h3:=zH h3;obtain⟨af,aY,aL,bW⟩:=hl;obtain⟨fr,rfl,ai⟩:=an af;rw[hU,ai _ _ aY,ai _ _ aL,ai _ _ bW];clear af ai aY aL bW;refine df 6 f20 rfl ?_;go_wp2_with fail;refine eG.mono ?_;rintro e w5 ⟨rfl,hp⟩;replace hp:=zH hp;clear eG;go_wp2_with fail;exact hK _ _ ⟨rfl,rfl,rfl,rfl⟩ hp.out
 ·have e1:(R.role==3)=false:=by simp[h3]
  have hp:=zH (hJ h3);clear gp hJ;replace h3:=zH h3;obtain⟨af,aY,aL,bW⟩:=hl;obtain⟨fr,rfl,ai⟩:=an af;rw[hU,ai _ _ aY,ai _ _ aL,ai _ _ bW];clear af ai aY aL bW;refine df 6 f20 rfl ?_;go_wp2_with fail;exact hK _ _ ⟨rfl,rfl,rfl,rfl⟩ hp.out
theorem ss7(nf:∀w',J w'->Calls prog 54 #[.pointer (some ⟨g,0,none⟩)] w' fun e w''=>∃Y,e=.returned (.agg (bl O Y))/\ao w'' p 52 aR/\ao (cf w'' p O Y) p 52 (bl O Y)/\T Y (cf w'' p O Y))(hJ:J wx)(hl:LS l g b p):(Ip 7 (bv f20)).wp prog (bodyPost prog f20 fun e w''=>∃Y,e=.returned (.agg (bl O Y))/\T Y w'') ⟨l.toArray,[]⟩ wx:=by
 have cx:=nf _ hJ;clear nf hJ;obtain⟨af,aY,aL,bW⟩:=hl;obtain⟨fr,rfl,ai⟩:=an af;rw[hU,ai _ _ aY,ai _ _ aL,ai _ _ bW];clear af ai aY aL bW;refine Fm 7 f20 rfl ?_;unfold bl at cx;go_wp2_with fail;refine cx.mono ?_;rintro e w8 ⟨Y,rfl,fX,my,ii⟩;have tM:=fX.lt;obtain⟨z0,z1,z2,z3,z4,z5,z6,z7,z8,z9,z10,z11,-⟩:=fX.cs [0,1,2,3,4,5,6,7,8,9,10,11];simp only[aR,vi,Zx]at z0 z1 z2 z3 z4 z5 z6 z7 z8 z9 z10 z11;obtain⟨u0,u1,u2,u3,u4,u5,u6,u7,u8,u9,u10,u11,-⟩:=fX.fs [0,1,2,3,4,5,6,7,8,9,10,11];obtain⟨wE,dL⟩:=zN (cf w8 p O Y);rw[dL]at my ii;replace dL:=zH dL;replace ii:=zH ii;clear cx fX;go_wp2_with fail;show bodyPost _ _ _ _ _ (cf w8 p O Y);rw[dL.out];obtain⟨r0,r1,r2,r3,r4,r5,r6,r7,r8,r9,r10,r11,-⟩:=my.cs [0,1,2,3,4,5,6,7,8,9,10,11];simp only[bl,vi,Zx]at r0 r1 r2 r3 r4 r5 r6 r7 r8 r9 r10 r11;exact bodyPost_ret (v:=.agg (bl O Y)) (by simp[results,results20,go_sem,bl,r0,r1,r2,r3,r4,r5,r6,r7,r8,r9,r10,r11]) rfl ⟨Y,rfl,ii.out⟩
end
section
variable {aa:Nat->Nat}{c q g b p n1 c1 n2 c2:Nat}{A1 A2:Option Addr}{w wx w' w2:World}{R:Rf}{v:Aw}{m:Mg}
theorem xb(h:aK (aj aa w.heap.size (q+c+10)) c q w2 g R v)(hb:Fr (aX aa c) w w2)(hp:w.heap.size<=p):cU aa c q w g gk R tq (cf w2 p gk tq):=by
 have hF:=mj w2 p gk tq;refine⟨_,v,h.keep fun j hj hl=>hF.block j hl fun e=>?_,im.zero _ _ _,fun j hj _=>ac hj,fun j hj hm=>.inl ((fD (fun _ hj=>ac hj) hj).2 hm),hb.trans hF fun j e=>.inr (by omega)⟩;unfold dv at hj;rw[e,az hp]at hj;omega
theorem Dm{K M:Nat}(m:Mg)(A1 A2:Option Addr)(n1 c1 n2 c2:Nat)(ha:aN c q)(h:aK aa c q w g R v)(hk:Ok K M R)(cQ:1<=K)(hK:K<=8000)(hM:M<=5000)(hi:dz R)(he:cP aa q w (.slice A1 n1 c1) m.entries)(hd:bP aa q w (.slice A2 n2 c2) m.data)(iU:n1=m.entries.length)(kJ:n2=m.data.length) :
  Calls prog 20 #[.pointer (some ⟨g,0,none⟩),eI m (.slice A1 n1 c1) (.slice A2 n2 c2)] w fun e w'=>∃Y,e=.returned (.agg (bl (R.step m).1 Y))/\cU aa c q w g (R.step m).1 (R.step m).2 Y w':=by
 have JS:eI m (.slice A1 n1 c1) (.slice A2 n2 c2)=.agg (cF m A1 A2 n1 c1 n2 c2):=rfl;have br:Below w.heap.size w (w.alloc (.cells (cF m A1 A2 n1 c1 n2 c2) 39)):=zb.alloc zl _;have P7:=ao.new w 39 (cF m A1 A2 n1 c1 n2 c2);have fU:(w.alloc (.cells (cF m A1 A2 n1 c1 n2 c2) 39)).heap.size=w.heap.size+1:=by simp
 have bQ:Below (w.alloc (.cells (cF m A1 A2 n1 c1 n2 c2) 39)).heap.size (w.alloc (.cells (cF m A1 A2 n1 c1 n2 c2) 39)) ((w.alloc (.cells (cF m A1 A2 n1 c1 n2 c2) 39)).alloc (.cells aR 52)):=zb.alloc zl _;have qy:=ao.new (w.alloc (.cells (cF m A1 A2 n1 c1 n2 c2) 39)) 52 aR;rw[fU]at qy;have bM:=P7.kept bQ;have aI:Below w.heap.size w ((w.alloc (.cells (cF m A1 A2 n1 c1 n2 c2) 39)).alloc (.cells aR 52)):=ab br bQ (by omega);clear br bQ P7 fU;obtain⟨w1,ct⟩:=zN ((w.alloc (.cells (cF m A1 A2 n1 c1 n2 c2) 39)).alloc (.cells aR 52));rw[ct]at aI bM qy;have h1:=h.fresh (q+c+10) aI;have yq:bP (aj aa w.heap.size (q+c+10)) q w1 (.slice A2 n2 c2) m.data:=(hd.keep fun j _ hl=>aI.block j hl).relabel_of aI.size (fun j hj=>ac hj) hd;have OO:cP (aj aa w.heap.size (q+c+10)) q w1 (.slice A1 n1 c1) m.entries:=(he.relabel (ak:=aj aa w.heap.size (q+c+10)) fun j hj e=>(ac hj).trans e).keep fun j _ hl=>aI.block j hl
 have gH:¬aX (aj aa w.heap.size (q+c+10)) c w.heap.size:=fun hh=>by
  unfold aX at hh;rw[az zl]at hh;omega
 have Vl:¬aX (aj aa w.heap.size (q+c+10)) c (w.heap.size+1):=fun hh=>by
  unfold aX at hh;rw[az (Nat.le_succ _)]at hh;omega
 have DX:∀j,aj aa w.heap.size (q+c+10) j=q->j≠g:=fun j hj e=>by subst e;have:=h1.sl;unfold aN at ha;omega
 have xq:=hk.ms;have VJ:∀RX w',au (aj aa w.heap.size (q+c+10)) c q w1 g RX w'->Calls prog 54 #[.pointer (some ⟨g,0,none⟩)] w' fun e w''=>∃Y,e=.returned (.agg (bl RX.tell.1 Y))/\ao w'' (w.heap.size+1) 52 aR/\ao (cf w'' (w.heap.size+1) RX.tell.1 Y) (w.heap.size+1) 52 (bl RX.tell.1 Y)/\cU aa c q w g RX.tell.1 RX.tell.2 Y (cf w'' (w.heap.size+1) RX.tell.1 Y):=fun RX w' hP=>
  gD ha hP aI (Nat.le_succ _) qy
 have xv:=AS m A1 A2 n1 n2 c1 c2 iU kJ h1;rw[JS]at xv ⊢;refine cV (args:=[.pointer (some ⟨g,0,none⟩),.agg (cF m A1 A2 n1 c1 n2 c2)]) 105 func20 (by kernel_rfl) ntmps20 (by simp) fun la jL fQ=>?_
 refine aJ (by kernel_rfl) (ss0 ⟨jL,fQ 0 _ rfl,fQ 1 _ rfl⟩ fun l0 j3=>?_);rw[ct];refine aJ (by kernel_rfl) (ss1 bM xv j3 fun l1 w2 cD bQ=>?_);have h2:=h1.below bQ;have mQ:=bM.kept bQ;have Ul:=qy.kept bQ;have Bv:bP (aj aa w.heap.size (q+c+10)) q w2 (.slice A2 n2 c2) m.data:=yq.keep fun j _ hl=>bQ.block j hl
 have Qp:cP (aj aa w.heap.size (q+c+10)) q w2 (.slice A1 n1 c1) m.entries:=OO.keep fun j _ hl=>bQ.block j hl
 cases cR:R.right m with
 | false=>
  rw[cR]at cD;have e:R.step m=(gk,R):=if_pos cR;rw[e];exact aJ (by kernel_rfl) (Oj Ul rfl (xb h2 ((Fr.of_below (X:=aX aa c) aI).trans (Fr.of_below (X:=aX aa c) bQ) fun j hj=>.inl hj) (Nat.le_succ _)) cD)
 | true=>
  rw[cR]at cD;refine aJ (by kernel_rfl) (Ky cD fun l2 dG=>?_);have jp:=sx cR;have main:∀(R1:Rf) (v1:Aw) (wy:World) (l3:List Value),R1.n=R.n->Ok K M R1->dz R1->aK (aj aa w.heap.size (q+c+10)) c q wy g R1 v1->Fr (fun j=>j=g) w2 wy->LS l3 g w.heap.size (w.heap.size+1)->
    R.step m=(if m.term<R1.hard.term/\m.kind≠1 then(R1.late m).tell else(if(R1.does m).role=3 then(R1.does m).reads else R1.does m).tell)->
    (Ip 4 (bv f20)).wp prog (bodyPost prog f20 fun e w'=>∃Y,e=.returned (.agg (bl (R.step m).1 Y))/\cU aa c q w g (R.step m).1 (R.step m).2 Y w') ⟨l3.toArray,[]⟩ wy:=fun R1 v1 wy l3 hn cA oN hy SC lx ui=>by
   have hg:aj aa w.heap.size (q+c+10) g=c+1:=h1.sl;have Yv:Fr (aX (aj aa w.heap.size (q+c+10)) c) w1 wy:=(Fr.of_below (X:=aX (aj aa w.heap.size (q+c+10)) c) bQ).trans (SC.mono (X':=aX (aj aa w.heap.size (q+c+10)) c) fun j e=>by rw[e];exact⟨by omega,by omega⟩) fun j hj=>.inl hj
   have gK:∀RX w',au (aj aa w.heap.size (q+c+10)) c q wy g RX w'->au (aj aa w.heap.size (q+c+10)) c q w1 g RX w':=fun RX w' hp=>hp.next (fun _ _=>rfl) Yv
   have AD:w.heap.size≠g:=by have:=h.s.lt;omega
   have Js:ao wy w.heap.size 39 (cF m A1 A2 n1 c1 n2 c2):=(SC.block _ mQ.lt AD).trans mQ;have qi:∀RX w',au (aj aa w.heap.size (q+c+10)) c q wy.drew g RX w'->au (aj aa w.heap.size (q+c+10)) c q w1 g RX w':=fun RX w' hp=>gK _ _ (hp.behind (zb.drew))
   have IP:aK (aj aa w.heap.size (q+c+10)) c q wy.drew g R1 v1:=hy.below (zb.drew);by_cases hl:m.term<R1.hard.term/\m.kind≠1
   ·rw[if_pos hl]at ui;rw[ui];by_cases Jd:m.kind=3\/m.kind=5\/m.kind=7
    ·have e:R1.late m=R1.send {dh with kind:=m.kind+1,tgt:=m.frm,reject:=true,round:=m.round}:=if_pos Jd;rw[e];refine aJ (by kernel_rfl) (Ij hy Js hl jp.kind Jd ?_ (fun w' hJ=>VJ _ w' hJ) lx);refine(dm {dh with kind:=m.kind+1,tgt:=m.frm,reject:=true,round:=m.round} rfl rfl ha IP (by have:=cA.ms;omega)).mono ?_;rintro e w' ⟨rfl,hp⟩;exact⟨rfl,qi _ _ hp⟩
    ·have e:R1.late m=R1:=if_neg Jd;rw[e];exact aJ (by kernel_rfl) (EI hy Js hl jp.kind Jd (qi _ _ (au.refl IP)) (fun w' hJ=>VJ _ w' hJ) lx)
   ·rw[if_neg hl]at ui;rw[ui];refine aJ (by kernel_rfl) (Om hy Js hl lx fun l4 od=>?_);have BI:xE R1 m:=⟨jp.kind,by rw[hn];exact jp.frm,jp.term,jp.idx,jp.lgt,jp.cmt,jp.rnd,jp.off,jp.tot,jp.el,jp.dl⟩;have Y1:cP (aj aa w.heap.size (q+c+10)) q wy.drew (.slice A1 n1 c1) m.entries:=Qp.keep fun j hj hl=>SC.block j hl (DX j hj)
    have Y0:bP (aj aa w.heap.size (q+c+10)) q wy.drew (.slice A2 n2 c2) m.data:=Bv.keep fun j hj hl=>SC.block j hl (DX j hj)
    have KU:=Dh m A1 A2 n1 c1 n2 c2 ha IP cA cQ (by omega) (by omega) oN Y1 Y0 kJ BI;rw[JS]at KU;refine aJ (by kernel_rfl) (ss5 Js.drew KU od fun l5 w5 oY uw=>?_);obtain⟨dU,v5,q1,q2,q3⟩:=id uw;have CF:=cA.does cQ BI;refine aJ (by kernel_rfl) (ss6 (J:=fun w'=>au (aj aa w.heap.size (q+c+10)) c q w1 g (if(R1.does m).role=3 then(R1.does m).reads else R1.does m) w') q1 (fun h3=>?_) (fun h3=>?_) oY fun l6 w6 un hJ6=>?_)
    ·rw[if_neg h3];exact qi _ _ uw
    ·rw[if_pos h3];refine(uw.call fun D5 v6 h6=>AR ha h6 CF h3 (by omega)).mono ?_;rintro e w' ⟨rfl,hp⟩;exact⟨rfl,qi _ _ hp⟩
    ·exact ss7 (fun w' hJ=>VJ _ w' hJ) hJ6 un
  by_cases hf:R.hard.term<m.term/\m.kind≠1/\(m.kind≠2\/m.reject=true)
  ·refine aJ (by kernel_rfl) (Kz ha h2 mQ hf dG fun l3 w3 lx hA3 mz=>?_);refine main (R.follows m.term) _ w3 l3 rfl (hk.follows (by have:=jp.term;omega) jp.term.2) (hi.follows m.term) hA3 mz lx ?_;unfold Rf.step;rw[if_neg (by rw[cR];simp),if_pos hf]
  ·refine aJ (by kernel_rfl) (Ol h2 mQ hf dG fun l3 lx=>?_);refine main R v w2.drew l3 rfl hk hi (h2.below (zb.drew)) (Fr.of_below (zb.drew)) lx ?_;unfold Rf.step;rw[if_neg (by rw[cR];simp),if_neg hf]
end
def eQ(s:pZ)(Ad A1:Option Addr)(md cd m1 c1:Nat):Array Value:=#[.int .i64 s.hard.term,.int .i64 s.hard.vote,.int .i64 s.snap.idx,.int .i64 s.snap.term,.slice Ad md cd,.slice A1 m1 c1]
def LN(l:List Value)(id n:Int)(b:Nat):Prop:=l.length=191/\l[0]?=some (.int .i64 id)/\l[1]?=some (.int .i64 n)/\l[5]?=some (.pointer (some ⟨b,0,none⟩))
def WF(l:List Value)(id n:Int)(b:Nat)(x:Bool):Prop:=l.length=191/\l[0]?=some (.int .i64 id)/\l[1]?=some (.int .i64 n)/\l[5]?=some (.pointer (some ⟨b,0,none⟩))/\l[8]?=some (.bool x)
def To(l:List Value)(id n:Int)(b:Nat)(x y:Bool):Prop:=l.length=191/\l[0]?=some (.int .i64 id)/\l[1]?=some (.int .i64 n)/\l[5]?=some (.pointer (some ⟨b,0,none⟩))/\l[8]?=some (.bool x)/\l[9]?=some (.bool y)
def LR(l:List Value)(b r:Nat):Prop:=l.length=191/\l[5]?=some (.pointer (some ⟨b,0,none⟩))/\l[10]?=some (.pointer (some ⟨r,0,none⟩))
def Sw(l:List Value)(b r:Nat)(u:Value):Prop:=l.length=191/\l[5]?=some (.pointer (some ⟨b,0,none⟩))/\l[10]?=some (.pointer (some ⟨r,0,none⟩))/\l[11]?=some u
section
variable {b r m1 c1 md cd:Nat}{id n:Int}{A1 Ad:Option Addr}{wx w':World}{K:Act->World->Prop}{Q':Exit->Act->World->Prop}{l:List Value}{s:pZ}{H:Ending->World->Prop}
theorem X7(hl:l.length=191/\l[0]?=some (.int .i64 id)/\l[1]?=some (.int .i64 n)/\l[2]?=some (.agg (eQ s Ad A1 md cd m1 c1)))(hK:∀l':List Value,LN l' id n wx.heap.size->K ⟨l'.toArray,[]⟩ (wx.alloc (.cells (eQ s Ad A1 md cd m1 c1) 29))):sQ 0 f14 K Q' l wx:=by
 unfold eQ at *;obtain⟨af,aY,ci,gn⟩:=hl;obtain⟨fr,rfl,ai⟩:=an af;rw[ia,ai _ _ aY,ai _ _ ci,ai _ _ gn];clear af ai aY ci gn;refine df 0 f14 rfl ?_;go_wp2_with fail;exact⟨rfl,rfl,rfl,rfl⟩
theorem CX(hb:ao wx b 29 (eQ s Ad A1 md cd m1 c1))(h0:n<1\/7<n\/id<1\/n<id\/s.hard.term<0\/1099511627776<s.hard.term\/s.hard.vote<0\/n<s.hard.vote)(hl:LN l id n b)(hH:H (.returned (.tuple #[.pointer none,.bool false])) wx):sP 1 f14 K H l wx:=by
 obtain⟨y0,y1,-⟩:=hb.cs [0,1];simp only[eQ,Zx]at y0 y1;have cB:(n<1)\/(1<=n/\7<n)\/(1<=n/\n<=7/\id<1)\/(1<=n/\n<=7/\1<=id/\n<id)\/(1<=n/\n<=7/\1<=id/\id<=n/\s.hard.term<0)\/(1<=n/\n<=7/\1<=id/\id<=n/\0<=s.hard.term/\1099511627776<s.hard.term)\/(1<=n/\n<=7/\1<=id/\id<=n/\0<=s.hard.term/\s.hard.term<=1099511627776/\s.hard.vote<0)\/(1<=n/\n<=7/\1<=id/\id<=n/\0<=s.hard.term/\s.hard.term<=1099511627776/\0<=s.hard.vote/\n<s.hard.vote):=by omega
 clear hb h0;replace hH:=zH hH;obtain⟨af,aY,ci,dK⟩:=hl;obtain⟨fr,rfl,ai⟩:=an af;rw[ia,ai _ _ aY,ai _ _ ci,ai _ _ dK];clear af ai aY ci dK;refine df 1 f14 rfl ?_;rcases cB with e1|⟨e1,e2⟩|⟨e1,e2,e3⟩|⟨e1,e2,e3,e4⟩|⟨e1,e2,e3,e4,e5⟩|⟨e1,e2,e3,e4,e5,e6⟩|⟨e1,e2,e3,e4,e5,e6,e7⟩|⟨e1,e2,e3,e4,e5,e6,e7,e8⟩
 all_goals
  go_wp2_with fail;exact hH.out
theorem N2(hb:ao wx b 29 (eQ s Ad A1 md cd m1 c1))(h0:¬(n<1\/7<n\/id<1\/n<id\/s.hard.term<0\/1099511627776<s.hard.term\/s.hard.vote<0\/n<s.hard.vote))(hl:LN l id n b)(hK:∀l',LN l' id n b->K ⟨l'.toArray,[]⟩ wx):sQ 1 f14 K Q' l wx:=by
 obtain⟨y0,y1,-⟩:=hb.cs [0,1];simp only[eQ,Zx]at y0 y1;have e1:1<=n:=by omega
 have e2:n<=7:=by omega
 have e3:1<=id:=by omega
 have e4:id<=n:=by omega
 have e5:0<=s.hard.term:=by omega
 have e6:s.hard.term<=1099511627776:=by omega
 have e7:0<=s.hard.vote:=by omega
 have e8:s.hard.vote<=n:=by omega
 clear hb h0;obtain⟨af,aY,ci,dK⟩:=hl;obtain⟨fr,rfl,ai⟩:=an af;rw[ia,ai _ _ aY,ai _ _ ci,ai _ _ dK];clear af ai aY ci dK;refine df 1 f14 rfl ?_;go_wp2_with fail;exact⟨rfl,rfl,rfl,rfl⟩
theorem ns2(hb:ao wx b 29 (eQ s Ad A1 md cd m1 c1))(hl:LN l id n b)(hK:∀l',WF l' id n b (decide (s.snap.idx=0/\s.snap.term=0/\md=0))->K ⟨l'.toArray,[]⟩ wx):sQ 2 f14 K Q' l wx:=by
 obtain⟨y2,y3,y4,-⟩:=hb.cs [2,3,4];simp only[eQ,Zx]at y2 y3 y4;obtain⟨B,hB⟩:=zN (decide (s.snap.idx=0/\s.snap.term=0/\md=0));rw[hB]at hK;have cB:((s.snap.idx==0)=false/\B=false)\/((s.snap.idx==0)=true/\B=false/\(s.snap.term==0)=false)\/((s.snap.idx==0)=true/\B=false/\(s.snap.term==0)=true/\((md:Int)==0)=false)\/((s.snap.idx==0)=true/\B=true/\(s.snap.term==0)=true/\((md:Int)==0)=true):=by
  rw[<-hB];simp only[beq_iff_eq,beq_eq_false_iff_ne,decide_eq_true_eq,decide_eq_false_iff_not];omega
 clear hb hB;obtain⟨af,aY,ci,dK⟩:=hl;obtain⟨fr,rfl,ai⟩:=an af;rw[ia,ai _ _ aY,ai _ _ ci,ai _ _ dK];clear af ai aY ci dK;refine df 2 f14 rfl ?_;rcases cB with⟨e1,e2⟩|⟨e1,e2,e3⟩|⟨e1,e2,e3,e4⟩|⟨e1,e2,e3,e4⟩
 all_goals
  subst e2;go_wp2_with fail;exact⟨rfl,rfl,rfl,rfl,rfl⟩
theorem ns3(hb:ao wx b 29 (eQ s Ad A1 md cd m1 c1)){x:Bool}(hl:WF l id n b x)(hK:∀l',To l' id n b x (decide ((1<=s.snap.idx/\s.snap.idx<=1099511627776)/\(1<=s.snap.term/\s.snap.term<=1099511627776)/\1<=md/\md<=65536))->K ⟨l'.toArray,[]⟩ wx):sQ 3 f14 K Q' l wx:=by
 obtain⟨y2,y3,y4,-⟩:=hb.cs [2,3,4];simp only[eQ,Zx]at y2 y3 y4;obtain⟨B,hB⟩:=zN (decide ((1<=s.snap.idx/\s.snap.idx<=1099511627776)/\(1<=s.snap.term/\s.snap.term<=1099511627776)/\1<=md/\md<=65536));rw[hB]at hK;have cB:(B=false/\s.snap.idx<1)\/(B=false/\1<=s.snap.idx/\1099511627776<s.snap.idx)\/(B=false/\1<=s.snap.idx/\s.snap.idx<=1099511627776/\s.snap.term<1)\/(B=false/\1<=s.snap.idx/\s.snap.idx<=1099511627776/\1<=s.snap.term/\1099511627776<s.snap.term)\/(B=false/\1<=s.snap.idx/\s.snap.idx<=1099511627776/\1<=s.snap.term/\s.snap.term<=1099511627776/\(md:Int)<1)\/(B=false/\1<=s.snap.idx/\s.snap.idx<=1099511627776/\1<=s.snap.term/\s.snap.term<=1099511627776/\1<=(md:Int)/\65536<(md:Int))\/(B=true/\1<=s.snap.idx/\s.snap.idx<=1099511627776/\1<=s.snap.term/\s.snap.term<=1099511627776/\1<=(md:Int)/\(md:Int)<=65536):=by
  rw[<-hB];simp only[decide_eq_true_eq,decide_eq_false_iff_not];omega
 clear hb hB;obtain⟨af,aY,ci,dK,xx⟩:=hl;obtain⟨fr,rfl,ai⟩:=an af;rw[ia,ai _ _ aY,ai _ _ ci,ai _ _ dK,ai _ _ xx];clear af ai aY ci dK xx;refine df 3 f14 rfl ?_;rcases cB with⟨e0,e1⟩|⟨e0,e1,e2⟩|⟨e0,e1,e2,e3⟩|⟨e0,e1,e2,e3,e4⟩|⟨e0,e1,e2,e3,e4,e5⟩|⟨e0,e1,e2,e3,e4,e5,e6⟩|⟨e0,e1,e2,e3,e4,e5,e6⟩
 all_goals
  subst e0;go_wp2_with fail;refine⟨rfl,rfl,rfl,rfl,rfl,?_⟩
  first
   | rfl
   | (show some (Value.bool (decide _))=_;rw[decide_eq_false (by omega)])
   | (show some (Value.bool (decide _))=_;rw[decide_eq_true (by omega)])
theorem Ki(hl:To l id n b false false)(hH:H (.returned (.tuple #[.pointer none,.bool false])) wx):sP 4 f14 K H l wx:=by
 replace hH:=zH hH;obtain⟨af,aY,ci,dK,xx,cj⟩:=hl;obtain⟨fr,rfl,ai⟩:=an af;rw[ia,ai _ _ aY,ai _ _ ci,ai _ _ dK,ai _ _ xx,ai _ _ cj];clear af ai aY ci dK xx cj;refine df 4 f14 rfl ?_;go_wp2_with fail;exact hH.out
theorem N3{x y:Bool}(h0:x=true\/y=true)(hl:To l id n b x y)(hK:∀l',LN l' id n b->K ⟨l'.toArray,[]⟩ wx):sQ 4 f14 K Q' l wx:=by
 have cB:(x=true/\y=y)\/(x=false/\y=true):=by
  cases x <;> simp at h0 ⊢ <;> exact h0
 clear h0;obtain⟨af,aY,ci,dK,xx,cj⟩:=hl;obtain⟨fr,rfl,ai⟩:=an af;rw[ia,ai _ _ aY,ai _ _ ci,ai _ _ dK,ai _ _ xx,ai _ _ cj];clear af ai aY ci dK xx cj;refine df 4 f14 rfl ?_;rcases cB with⟨e1,e2⟩|⟨e1,e2⟩
 ·subst e1;go_wp2_with fail;exact⟨rfl,rfl,rfl,rfl⟩
 ·subst e1;subst e2;go_wp2_with fail;exact⟨rfl,rfl,rfl,rfl⟩
theorem ns5(hb:ao wx b 29 (eQ s Ad A1 md cd m1 c1)){I M:Nat}(bE:iK s.snap.idx s.snap.term=true)(hl:LN l I M b)(hK:∀l' w' gt g,LR l' b g->Below wx.heap.size wx w'->wx.heap.size<=gt->gt<g->ao w' gt 138 #[.int .i64 s.snap.idx,.int .i64 s.snap.term,.slice none 0 0]->ao w' g 122 (bu (fH I M s ⟨s.snap.idx,s.snap.term,[]⟩) ⟨.pointer (some ⟨gt,0,none⟩),.slice Ad md cd,.slice none 0 0,.slice none 0 0,.slice none 0 0,.slice none 0 0,.slice none 0 0,.slice none 0 0,.slice none 0 0,.slice none 0 0,.slice none 0 0⟩)->K ⟨l'.toArray,[]⟩ w'):sP 5 f14 K H l wx:=by
 obtain⟨y0,y1,y2,y3,y4,-⟩:=hb.cs [0,1,2,3,4];simp only[eQ,Zx]at y0 y1 y2 y3 y4;obtain⟨k0,k1,k2,k3,k4⟩:=Ov [b] y0 y1 y2 y3 y4;have xk:=hb.lt;have gm:=C5 bE wx.drew;have fu:=hb;clear hb bE;obtain⟨af,aY,ci,dK⟩:=hl;obtain⟨fr,rfl,ai⟩:=an af;rw[ia,ai _ _ aY,ai _ _ ci,ai _ _ dK];clear af ai aY ci dK;refine df 5 f14 rfl ?_;go_wp2_with fail;refine eE [b] wx [([0,1,2,3,4,5,6,7,8,9,11,12,13,14,15],10),([16],17)] [18] ?_;refine aF fun K1 cQ=>?_
 simp only[ah,Zx];repeat go_big_quiet_step(fail)
 apply wpQuiet_nil;go_wp2_with fail;refine gm.mono ?_;rintro e w6 ⟨rfl,fP,iT⟩;have MC:Below wx.heap.size wx w6:=(ab ((Below.refl wx.heap.size wx).drew) iT zl);clear gm;go_wp2_with fail;refine⟨dT (fun x hx=>by simp only[List.mem_cons,List.not_mem_nil,or_false]at hx;rw[hx];exact MC.block b xk),cQ _ _ ?_⟩;refine aF fun K2 iu=>?_
 simp only[ah,Zx];repeat go_big_quiet_step(fail)
 apply wpQuiet_nil;go_wp2_with fail;obtain⟨w7,NN⟩:=zN (w6.alloc (.cells (bu (fH I M s ⟨s.snap.idx,s.snap.term,[]⟩) ⟨.pointer (some ⟨wx.heap.size,0,none⟩),.slice Ad md cd,.slice none 0 0,.slice none 0 0,.slice none 0 0,.slice none 0 0,.slice none 0 0,.slice none 0 0,.slice none 0 0,.slice none 0 0,.slice none 0 0⟩) 122));have iw:Below w6.heap.size w6 w7:=by rw[<-NN];exact zb.alloc zl _
 have mS:ao w7 w6.heap.size 122 (bu (fH I M s ⟨s.snap.idx,s.snap.term,[]⟩) ⟨.pointer (some ⟨wx.heap.size,0,none⟩),.slice Ad md cd,.slice none 0 0,.slice none 0 0,.slice none 0 0,.slice none 0 0,.slice none 0 0,.slice none 0 0,.slice none 0 0,.slice none 0 0,.slice none 0 0⟩):=by rw[<-NN];exact ao.new w6 _ _
 have UP:=fP.kept iw;have cW:=fP.lt;have qj:=ab MC iw (by have:=MC.size;omega);show dD (dS [b] wx) K2 (Exit.then K (bodyPost prog f14 H)) Exit.normal _ (w6.alloc (.cells (bu (fH I M s ⟨s.snap.idx,s.snap.term,[]⟩) ⟨.pointer (some ⟨wx.heap.size,0,none⟩),.slice Ad md cd,.slice none 0 0,.slice none 0 0,.slice none 0 0,.slice none 0 0,.slice none 0 0,.slice none 0 0,.slice none 0 0,.slice none 0 0,.slice none 0 0⟩) 122));rw[NN];replace NN:=zH NN;refine⟨dT (fun x hx=>by simp only[List.mem_cons,List.not_mem_nil,or_false]at hx;rw[hx];exact qj.block b xk),iu _ _ ?_⟩;refine al ?_;simp only[ah,Zx];repeat go_big_quiet_step(fail)
 apply wpQuiet_nil;go_wp2_with fail;exact hK _ _ _ _ ⟨rfl,rfl,rfl⟩ qj zl cW UP mS
end
def Pd(l:List Value)(b r:Nat)(ok:Bool):Prop:=l.length=191/\l[5]?=some (.pointer (some ⟨b,0,none⟩))/\l[10]?=some (.pointer (some ⟨r,0,none⟩))/\l[14]?=some (.bool ok)
def Pe(l:List Value)(b r:Nat)(ok:Bool)(lt:Int):Prop:=l.length=191/\l[5]?=some (.pointer (some ⟨b,0,none⟩))/\l[10]?=some (.pointer (some ⟨r,0,none⟩))/\l[14]?=some (.bool ok)/\l[16]?=some (.int .i64 lt)
theorem Cg{k:Int}{zs:List (Value×En)}{j:Nat}{z:Value×En}(hz:zs[j]?=some z):bT k (zs.take (j+1))=bT k (zs.take j)++(if k<z.2.idx then[z]else[]):=by
 unfold bT;rw[List.take_add_one,hz,List.filter_append];by_cases h:k<z.2.idx
 ·rw[if_pos h,Option.toList_some,List.filter_cons,if_pos (by simp[h])];rfl
 ·rw[if_neg h,Option.toList_some,List.filter_cons,if_neg (by simp[h])];rfl
section
variable {b g gt m1 c1 md cd:Nat}{id n:Int}{A1 Ad:Option Addr}{wx w':World}{K:Act->World->Prop}{Q':Exit->Act->World->Prop}{l:List Value}{s:pZ}{H:Ending->World->Prop}{J:World->Prop}{ok:Bool}{li lt:Int}
theorem ns6(hl:LR l b g)(hK:∀l',Sw l' b g (.slice none 0 0)->K ⟨l'.toArray,[]⟩ wx):sQ 6 f14 K Q' l wx:=by
 obtain⟨af,dK,bb⟩:=hl;obtain⟨fr,rfl,ai⟩:=an af;rw[ia,ai _ _ dK,ai _ _ bb];clear af ai dK bb;refine df 6 f14 rfl ?_;go_wp2_with fail;exact⟨rfl,rfl,rfl,rfl⟩
theorem ns7(hb:ao wx b 29 (eQ s Ad A1 md cd m1 c1)){zs:List (Value×En)}(hr:ff wx A1 m1 zs)(h1:∀z∈zs,z.1.oneCell'=true)(hm:m1<=100000)(hl:Sw l b g (.slice none 0 0))(hK:∀l' w' A' c',Sw l' b g (.slice A' (bT s.snap.idx zs).length c')->w'.ownsRow wx.heap.size 59 6 (.slice A' (bT s.snap.idx zs).length c') (bT s.snap.idx zs).length ((bT s.snap.idx zs).flatMap cl)->Below wx.heap.size wx w'->K ⟨l'.toArray,[]⟩ w'):sP 7 f14 K H l wx:=by
 have xA:=hr.len;have xk:=hb.lt;obtain⟨af,dK,bb,rJ⟩:=hl;obtain⟨fr,rfl,ai⟩:=an af;rw[ia,ai _ _ dK,ai _ _ bb,ai _ _ rJ];clear af ai dK bb rJ;refine df 7 f14 rfl ?_;go_wp2_with fail
 go_loopw [11,12] (fun s11 s12 wr=>∃(j:Nat) (A:Option Addr) (c:Nat),j<=m1/\s12=.int .i64 j/\s11=.slice A (bT s.snap.idx (zs.take j)).length c/\wr.ownsRow wx.heap.size 59 6 (.slice A (bT s.snap.idx (zs.take j)).length c) (bT s.snap.idx (zs.take j)).length ((bT s.snap.idx (zs.take j)).flatMap cl)/\Below wx.heap.size wx wr) (fun _ s12 _=>m1-(intOf s12).toNat)
 case atStart=>exact⟨0,none,0,Nat.zero_le _,rfl,rfl,bX _ _,Below.refl _ _⟩
 case round=>
  obtain⟨j,A,cc,hj,rfl,rfl,aB,gL⟩:=hrel;have Fd:=hb.kept gL;have DZ:ff wr A1 m1 zs:=ff.below hr gL;obtain⟨y2,y5,-⟩:=Fd.cs [2,5];simp only[eQ,vi,Zx]at y2 y5;have YW:=Fd.lt;have fU:=gL.size;obtain⟨k,hk⟩:=zN ((bT s.snap.idx (zs.take j)).length);have Lf:k<=j:=by
   rw[<-hk];have h2:=List.length_filter_le (fun z:Value×En=>decide (s.snap.idx<z.2.idx)) (zs.take j);have h3:(zs.take j).length<=j:=List.length_take_le _ _;unfold bT;omega
  by_cases xo:j<m1
  ·obtain⟨ad,vf,x,FV,hz,q0,q1,q2,q3,q4,q5⟩:=DZ.at_ xo;have VM:=h1 _ (List.mem_of_getElem? hz);have aD:=Cg (k:=s.snap.idx) hz;have aO:=zH (show m1-(j+1)<m1-j by omega);have Mw:ad.block<wr.heap.size:=cn.lt DZ (by omega) (by omega) FV;have DD:(ad.add (j*6)).block=ad.block:=by unfold Addr.add;split <;> rfl
   obtain⟨k5,k2,kq⟩:=tT [b,(ad.add (j*6)).block] y5 y2 q0;subst FV;by_cases hc:s.snap.idx<x.idx
   ·rw[if_pos hc]at aD;have NF:=aD;have br:Below wr.heap.size wr ((wr.alloc (.cells (cl (vf,x)).toArray 59)).drew):=((Below.refl wr.heap.size wr).alloc zl _).drew;have fo:ff ((wr.alloc (.cells (cl (vf,x)).toArray 59)).drew) (some ⟨wr.heap.size,0,none⟩) 1 [(vf,x)]:=ff.one (ao.new wr _ _);have kY:=bf aB br;have tD:=ab gL br zl;have pK:=br.size;have Uz:decide (s.snap.idx<x.idx)=true:=decide_eq_true hc;rw[hk]at kY ⊢;have fw:k+1<=1000000000:=by omega
    have bE:wx.heap.size<=((wr.alloc (.cells (cl (vf,x)).toArray 59)).drew).heap.size:=by omega
    have nP:∀z∈[(vf,x)],z.1.oneCell'=true:=fun z xz=>by rw[List.mem_singleton.1 xz];exact VM
    have aE:∀A3 c3 w3,w3.ownsRow wx.heap.size 59 6 (.slice A3 (k+1) c3) (k+1) ((bT s.snap.idx (zs.take j)++[(vf,x)]).flatMap cl)->Below wx.heap.size ((wr.alloc (.cells (cl (vf,x)).toArray 59)).drew) w3->w3.ownsRow wx.heap.size 59 6 (.slice A3 (bT s.snap.idx (zs.take (j+1))).length c3) (bT s.snap.idx (zs.take (j+1))).length ((bT s.snap.idx (zs.take (j+1))).flatMap cl)/\Below wx.heap.size wx w3/\(bT s.snap.idx (zs.take (j+1))).length=k+1:=fun A3 c3 w3 ho bN=>by
     have e:(bT s.snap.idx (zs.take (j+1))).length=k+1:=by rw[aD,List.length_append,hk];rfl
     rw[e,aD];exact⟨ho,tD.trans bN,rfl⟩
    replace aE:=zH aE;replace aD:=zH aD;replace NF:=zH NF;replace hk:=zH hk;replace hc:=zH hc;have QJ:=fo;clear DZ hr gL Fd hb aB fo hz h1 tD br DD xA hK;go_wp2_with fail;refine eE [b,(ad.add (j*6)).block] wr [] [0,1,2,3,4,5,6,7,8,9] ?_;refine al ?_;simp only[ah,Zx];repeat go_big_quiet_step(fail)
    apply wpQuiet_nil;go_wp2_with (at_builtin;go_loud (refine aW rfl (.tmp 151) (.tmp 157) rfl wx.heap.size rfl kY rfl QJ nP fw bE ?_;intro A3 c3 w3 JU xm bN hrw3;obtain⟨PI,PJ,TX⟩:=aE.out A3 c3 w3 JU bN;replace PI:=zH PI;replace PJ:=zH PJ;replace TX:=zH TX;clear JU xm bN hrw3));exact⟨⟨j+1,A3,c3,xo,by go_num,by rw[TX.out],PI.out,PJ.out⟩,by simp[intOf];exact aO.out⟩
   ·rw[if_neg hc,List.append_nil]at aD;have Uz:decide (s.snap.idx<x.idx)=false:=decide_eq_false hc;have kY:wr.drew.ownsRow wx.heap.size 59 6 (.slice A (bT s.snap.idx (zs.take (j+1))).length cc) (bT s.snap.idx (zs.take (j+1))).length ((bT s.snap.idx (zs.take (j+1))).flatMap cl):=by
     rw[aD];exact aB
    have tD:Below wx.heap.size wx wr.drew:=gL.drew;have af:(bT s.snap.idx (zs.take j)).length=(bT s.snap.idx (zs.take (j+1))).length:=by rw[aD]
    rw[af];replace kY:=zH kY;replace tD:=zH tD;replace hc:=zH hc;replace hk:=zH hk;clear DZ hr gL Fd hb aB hz h1 DD xA hK aD af;go_wp2_with fail;refine eE [b,(ad.add (j*6)).block] wr [] [0,1,2,3,4,5,6,7,8,9] ?_;refine al ?_;simp only[ah,Zx];repeat go_big_quiet_step(fail)
    apply wpQuiet_nil;go_wp2_with fail;exact⟨⟨j+1,A,cc,xo,by go_num,rfl,kY.out,tD.out⟩,by simp[intOf];exact aO.out⟩
  ·obtain rfl:j=m1:=by omega
   have cx:zs.take j=zs:=by rw[<-xA];exact List.take_length
   rw[cx]at aB hk ⊢;have PI:=zH aB;have PJ:=zH gL;clear DZ hr gL Fd hb aB h1;replace hk:=zH hk;go_wp2_with fail;exact hK _ _ _ _ ⟨rfl,rfl,rfl,rfl⟩ PI.out PJ.out
theorem ns8(hb:ao wx b 29 (eQ s Ad A1 md cd m1 c1))(J7:wx.cell? ⟨g,4,none⟩=some (.pointer (some ⟨gt,0,none⟩))){A2:Option Addr}{m2 c2:Nat}(ht:Calls prog 46 #[.pointer (some ⟨gt,0,none⟩),.int .i64 s.snap.idx,.int .i64 s.snap.term,.slice A2 m2 c2] wx.drew fun e w'=>e=.returned (.tuple #[.int .i64 li,.bool ok])/\J w')(hJ:∀w',J w'->w'.heap[g]?=wx.heap[g]?/\w'.heap[b]?=wx.heap[b]?)(hl:Sw l b g (.slice A2 m2 c2))(hK:∀l' w',Pd l' b g ok->J w'->K ⟨l'.toArray,[]⟩ w'):sP 8 f14 K H l wx:=by
 obtain⟨y2,y3,-⟩:=hb.cs [2,3];simp only[eQ,Zx]at y2 y3;obtain⟨k2,k3,k4⟩:=tT [g,b] y2 y3 J7;clear hb;obtain⟨af,dK,bb,rJ⟩:=hl;obtain⟨fr,rfl,ai⟩:=an af;rw[ia,ai _ _ dK,ai _ _ bb,ai _ _ rJ];clear af ai dK bb rJ;refine df 8 f14 rfl ?_;go_wp2_with fail;refine eE [g,b] wx [([0,1,2,3,4,5,6,7,8,9,10],11)] [12,13,14,15,16] ?_;refine aF fun K1 cQ=>?_
 simp only[ah,Zx];repeat go_big_quiet_step(fail)
 apply wpQuiet_nil;go_wp2_with fail;refine ht.mono ?_;rintro e w6 ⟨rfl,hj⟩;have Lc:=hJ w6 hj;have QP:=zH hj;clear ht hJ hj;go_wp2_with fail;refine⟨bO Lc.1 Lc.2,cQ _ _ ?_⟩;refine al ?_;simp only[ah,Zx];repeat go_big_quiet_step(fail)
 apply wpQuiet_nil;go_wp2_with fail;exact hK _ _ ⟨rfl,rfl,rfl,rfl⟩ QP.out
theorem ns9(J7:wx.cell? ⟨g,4,none⟩=some (.pointer (some ⟨gt,0,none⟩)))(he:Calls prog 47 #[.pointer (some ⟨gt,0,none⟩)] wx fun e w'=>e=.returned (.tuple #[.int .i64 li,.int .i64 lt])/\J w')(hl:Pd l b g ok)(hK:∀l' w',Pe l' b g ok lt->J w'->K ⟨l'.toArray,[]⟩ w'):sQ 9 f14 K Q' l wx:=by
 obtain⟨af,dK,bb,b9⟩:=hl;obtain⟨fr,rfl,ai⟩:=an af;rw[ia,ai _ _ dK,ai _ _ bb,ai _ _ b9];clear af ai dK bb b9;refine df 9 f14 rfl ?_;go_wp2_with fail;refine he.mono ?_;rintro e w6 ⟨rfl,hj⟩;replace hj:=zH hj;clear he;go_wp2_with fail;exact hK _ _ ⟨rfl,rfl,rfl,rfl,rfl⟩ hj.out
theorem V9(hb:ao wx b 29 (eQ s Ad A1 md cd m1 c1))(hl:Pe l b g ok lt)(hH:H (.returned (.tuple #[.pointer (some ⟨g,0,none⟩),.bool (ok&&decide (lt<=s.hard.term))])) wx.drew):tP 10 f14 H l wx:=by
 have y0:=hb.cell 0;simp only[eQ,Zx]at y0;have k0:=EY [b] y0;have cB:(ok=false)\/(ok=true/\decide (lt<=s.hard.term)=true)\/(ok=true/\decide (lt<=s.hard.term)=false):=by
  cases ok <;> simp <;> omega
 obtain⟨D,hD⟩:=zN (decide (lt<=s.hard.term));have Mc:=hD;rw[hD]at hH;clear hb;obtain⟨af,dK,bb,b9,fT⟩:=hl;obtain⟨fr,rfl,ai⟩:=an af;rw[ia,ai _ _ dK,ai _ _ bb,ai _ _ b9,ai _ _ fT];clear af ai dK bb b9 fT;refine Fm 10 f14 rfl ?_;rcases cB with e1|⟨e1,e2⟩|⟨e1,e2⟩
 ·subst e1;replace hH:=zH hH;replace hD:=zH hD;clear Mc;go_wp2_with fail;refine eE [b] wx [] [0,1,2,3,4,5,6,7,8,9,10] ?_;refine al ?_;simp only[ah,Zx];repeat go_big_quiet_step(fail)
  apply wpQuiet_nil;go_wp2_with fail;exact hH.out
 ·subst e1;rw[e2]at Mc;rw[<-Mc]at hH;replace hH:=zH hH;replace hD:=zH hD;clear Mc;go_wp2_with fail;refine eE [b] wx [] [0,1,2,3,4,5,6,7,8,9,10] ?_;refine al ?_;simp only[ah,Zx];repeat go_big_quiet_step(fail)
  apply wpQuiet_nil;go_wp2_with fail;exact hH.out
 ·subst e1;rw[e2]at Mc;rw[<-Mc]at hH;replace hH:=zH hH;replace hD:=zH hD;clear Mc;go_wp2_with fail;refine eE [b] wx [] [0,1,2,3,4,5,6,7,8,9,10] ?_;refine al ?_;simp only[ah,Zx];repeat go_big_quiet_step(fail)
  apply wpQuiet_nil;go_wp2_with fail;exact hH.out
end
def nQ(aa:Nat->Nat)(c q:Nat)(w:World)(o:Option Rf)(e:Ending)(w':World):Prop:=
 Below w.heap.size w w'/\((o=none/\∃p,e=.returned (.tuple #[.pointer p,.bool false]))\/∃(R:Rf) (g:Nat) (ak:Nat->Nat) (v':Aw),o=some R/\e=.returned (.tuple #[.pointer (some ⟨g,0,none⟩),.bool true])/\aK ak c q w' g R v'/\(∀j,j<w.heap.size->ak j=aa j)/\w.heap.size<=g)
def BX(aa:Nat->Nat)(B c q g gt:Nat)(j:Nat):Nat:=if j=g then c+1 else if j=gt then c+2 else if B<=j then q+c+10 else aa j
section
variable {aa:Nat->Nat}{c q b g gt m1 c1 md cd:Nat}{id n:Int}{A1 Ad:Option Addr}{w wx w':World}{s:pZ}
theorem yV{B j:Nat}(h:j<B)(hg:B<=g)(ht:B<=gt):BX aa B c q g gt j=aa j:=by
 unfold BX;rw[if_neg (by omega),if_neg (by omega),if_neg (by omega)]
theorem Ha{B j:Nat}(h:B<=j)(hg:j≠g)(ht:j≠gt):BX aa B c q g gt j=q+c+10:=by
 unfold BX;rw[if_neg hg,if_neg ht,if_pos h]
theorem aK.new{I M:Nat}(bE:iK s.snap.idx s.snap.term=true)(hD:bP aa q w (.slice Ad md cd) s.snap.data)(hw:Below w.heap.size w w')(h1:w.heap.size<=gt)(h2:gt<g)(hk:ao w' gt 138 #[.int .i64 s.snap.idx,.int .i64 s.snap.term,.slice none 0 0])(hs:ao w' g 122 (bu (fH I M s ⟨s.snap.idx,s.snap.term,[]⟩) ⟨.pointer (some ⟨gt,0,none⟩),.slice Ad md cd,.slice none 0 0,.slice none 0 0,.slice none 0 0,.slice none 0 0,.slice none 0 0,.slice none 0 0,.slice none 0 0,.slice none 0 0,.slice none 0 0⟩)) :
  aK (BX aa w.heap.size c q g gt) c q w' g (fH I M s ⟨s.snap.idx,s.snap.term,[]⟩) ⟨.pointer (some ⟨gt,0,none⟩),.slice Ad md cd,.slice none 0 0,.slice none 0 0,.slice none 0 0,.slice none 0 0,.slice none 0 0,.slice none 0 0,.slice none 0 0,.slice none 0 0,.slice none 0 0⟩ where
 s:=hs
 sl:=if_pos rfl
 t:=by
  refine⟨gt,none,0,0,[],rfl,⟨hk,bX _ _,fun z hz=>(by cases hz),rfl,yU bE⟩,fun j hj=>?_⟩;rcases hj with rfl|⟨_,e,_⟩
  ·unfold BX;rw[if_neg (by omega),if_pos rfl]
  ·cases e
 y:=bR.nil _ _ _ _ _
 p:=bR.nil _ _ _ _ _
 x:=bR.nil _ _ _ _ _
 d:=(hD.keep fun j _ hl=>hw.block j hl).relabel_of hw.size (fun j hj=>yV hj (by omega) h1) hD
 gd:=bP.nil _ _ _
 e:=dQ.nil _ _ _ _
 co:=dQ.nil _ _ _ _
 sd:=bP.nil _ _ _
 r:=bR.nil _ _ _ _ _
 m:=gI.nil _ _ _ _
theorem Dj(I M:Nat)(ha:aN c q)(hE:cP aa q w (.slice A1 m1 c1) s.entries)(hD:bP aa q w (.slice Ad md cd) s.snap.data)(qm:m1<=100000)(ly:s.snap.data.length=md)(gM:∀j,j<w.heap.size->¬aX aa c j) :
  Calls prog 14 #[.int .i64 I,.int .i64 M,.agg (eQ s Ad A1 md cd m1 c1)] w fun e w'=>nQ aa c q w (Rf.new I M s) e w':=by
 have aI:Below w.heap.size w (w.alloc (.cells (eQ s Ad A1 md cd m1 c1) 29)):=zb.alloc zl _;have gK:=ao.new w 29 (eQ s Ad A1 md cd m1 c1);obtain⟨w1,ct⟩:=zN (w.alloc (.cells (eQ s Ad A1 md cd m1 c1) 29));rw[ct]at aI gK;refine cV (args:=[.int .i64 I,.int .i64 M,.agg (eQ s Ad A1 md cd m1 c1)]) 191 func14 (by kernel_rfl) ntmps14 (by simp) fun la jL fQ=>?_
 refine aJ (by kernel_rfl) (X7 ⟨jL,fQ 0 _ rfl,fQ 1 _ rfl,fQ 2 _ rfl⟩ fun l0 j3=>?_);rw[ct];by_cases h0:((M:Int)<1\/7<(M:Int)\/(I:Int)<1\/(M:Int)<I\/s.hard.term<0\/1099511627776<s.hard.term\/s.hard.vote<0\/(M:Int)<s.hard.vote)
 ·refine aJ (by kernel_rfl) (CX gK h0 j3 ?_);refine⟨aI,.inl ⟨rY fun hm=>?_,none,rfl⟩⟩;obtain⟨k1,k2,k3,k4,k5⟩:=hm;omega
 refine aJ (by kernel_rfl) (N2 gK h0 j3 fun l1 cD=>?_);refine aJ (by kernel_rfl) (ns2 gK cD fun l2 dG=>?_);refine aJ (by kernel_rfl) (ns3 gK dG fun l3 lx=>?_);by_cases tF:eU s.snap=true
 rotate_left
 ·have e1:decide (s.snap.idx=0/\s.snap.term=0/\md=0)=false:=decide_eq_false fun hh=>tF (by
   unfold eU;rw[if_pos ⟨hh.1,hh.2.1⟩,ly];exact decide_eq_true hh.2.2)
  have e2:decide ((1<=s.snap.idx/\s.snap.idx<=1099511627776)/\(1<=s.snap.term/\s.snap.term<=1099511627776)/\1<=md/\md<=65536)=false:=decide_eq_false fun hh=>tF (by
   unfold eU iQ;rw[if_neg (by omega),ly];exact decide_eq_true hh)
  rw[e1,e2]at lx;refine aJ (by kernel_rfl) (Ki lx ?_);exact⟨aI,.inl ⟨rY fun hm=>tF hm.2.2.2.2,none,rfl⟩⟩
 have mT:jN I M s:=⟨by omega,by omega,by omega,by omega,tF⟩;have NR:decide (s.snap.idx=0/\s.snap.term=0/\md=0)=true\/decide ((1<=s.snap.idx/\s.snap.idx<=1099511627776)/\(1<=s.snap.term/\s.snap.term<=1099511627776)/\1<=md/\md<=65536)=true:=by
  have eY:=tF;unfold eU iQ at eY;rw[ly]at eY;split at eY
  ·rename_i hz;exact .inl (decide_eq_true ⟨hz.1,hz.2,of_decide_eq_true eY⟩)
  ·exact .inr eY
 refine aJ (by kernel_rfl) (N3 NR lx fun l4 od=>?_);obtain⟨bE,_,_⟩:=nF (i:=s.snap.idx) (t:=s.snap.term) (l:=s.snap.data) tF;refine aJ (by kernel_rfl) (ns5 gK bE od fun l5 w7 gt g oY iw UO JE hkt AG=>?_);have pK:=aI.size;have qj:Below w.heap.size w w7:=ab aI iw zl;have QH:w.heap.size<=gt:=by omega
 have WR:=aK.new (aa:=aa) (c:=c) (q:=q) (w:=w) (I:=I) (M:=M) bE hD qj QH JE hkt AG;obtain⟨ag,dY⟩:=zN (BX aa w.heap.size c q g gt);rw[dY]at WR;have ql:∀j,j<w.heap.size->ag j=aa j:=fun j hj=>by rw[<-dY];exact yV hj (by omega) QH
 have CJ:∀j,w.heap.size<=j->j≠g->j≠gt->ag j=q+c+10:=fun j hj a b=>by rw[<-dY];exact Ha hj a b
 obtain⟨Ae,ne,ce,zs,pL,Fk,Jx,CS,vX,oM,bS⟩:=hE;injection pL with e1 e2 e3;subst e1;subst e2;subst e3;have Vt:ff w7 A1 m1 zs:=ff.below Fk qj;have Qn:bo (aM ag q) w7 zs:=(Jx.mono fun j hj e=>(ql j hj).trans e).keep (bA.below qj);have P6:=gK.kept iw;refine aJ (by kernel_rfl) (ns6 oY fun l6 un=>?_);refine aJ (by kernel_rfl) (ns7 P6 Vt Qn.one qm un fun l7 w8 A' c' AH aB vO=>?_);have TH:=WR.below vO;have Jr:=P6.kept vO;have Uy:bo (aM ag q) w8 (bT s.snap.idx zs):=fun z hz=>(Qn.keep (bA.below vO)) z (List.mem_filter.1 hz).1
 have fw:=bB aB;have af:(bT s.snap.idx zs).length<=100000:=by
  have h2:=List.length_filter_le (fun z:Value×En=>decide (s.snap.idx<z.2.idx)) zs;have h3:=Fk.len;unfold bT;omega
 obtain⟨p,hp⟩:=zN (bD.takeF (bD.mk s.snap.idx s.snap.term []) s.snap.idx s.snap.term (s.entries.filter fun x=>decide (s.snap.idx<x.idx)));have gm:=wI mT hp;have R7:(bT s.snap.idx zs).map (·.2)=s.entries.filter fun x=>decide (s.snap.idx<x.idx):=by rw[su,CS]
 have TI:=TH.below (w':=w8.drew) (zb.drew);have cx:=tY s.snap.idx s.snap.term A' (bT s.snap.idx zs).length c' (bT s.snap.idx zs) ha TI zz (cn.of_own aB) Uy af fw.1 fw.2 (fun h0 j hj=>by
  have h9:=aw aB A' c' rfl j hj;rw[CJ j (by have:=qj.size;omega) (by have:=AG.lt;omega) (by have:=hkt.lt;omega)];omega)
 have XT:(fH I M s ⟨s.snap.idx,s.snap.term,[]⟩).track=bD.mk s.snap.idx s.snap.term []:=rfl;rw[R7,XT,hp]at cx;have qF:w8.heap[g]?=some (.cells (bu {(fH I M s ⟨s.snap.idx,s.snap.term,[]⟩)with track:=p.2} ⟨.pointer (some ⟨gt,0,none⟩),.slice Ad md cd,.slice none 0 0,.slice none 0 0,.slice none 0 0,.slice none 0 0,.slice none 0 0,.slice none 0 0,.slice none 0 0,.slice none 0 0,.slice none 0 0⟩) 122 (0,0)):=TH.s;have P8:¬aX ag c w.heap.size:=fun hh=>by
  unfold aX at hh;rw[CJ _ zl (by omega) (by have:=gK.lt;omega)]at hh;omega
 have J7:w8.cell? ⟨g,4,none⟩=some (.pointer (some ⟨gt,0,none⟩)):=TH.s.cell 4;refine aJ (by kernel_rfl) (ns8 (ok:=p.1.2) (li:=p.1.1) (J:=fun w'=>no ag c q w8.drew g {(fH I M s ⟨s.snap.idx,s.snap.term,[]⟩)with track:=p.2} ⟨.pointer (some ⟨gt,0,none⟩),.slice Ad md cd,.slice none 0 0,.slice none 0 0,.slice none 0 0,.slice none 0 0,.slice none 0 0,.slice none 0 0,.slice none 0 0,.slice none 0 0,.slice none 0 0⟩ w') Jr J7 cx (fun w' hJ=>?_) AH fun l8 w9 hl8 hJ9=>?_)
 ·obtain⟨dU,q1,q2,q3⟩:=hJ;exact⟨q1.s.trans qF.symm,q3.block _ Jr.lt P8⟩
 obtain⟨dU,q1,q2,q3⟩:=hJ9;have Uh:ao w9 w.heap.size 29 (eQ s Ad A1 md cd m1 c1):=(q3.block _ Jr.lt P8).trans Jr;have VX:w9.cell? ⟨g,4,none⟩=some (.pointer (some ⟨gt,0,none⟩)):=q1.s.cell 4;have NI:=eJ (bD.mk s.snap.idx s.snap.term []) s.snap.idx s.snap.term (s.entries.filter fun x=>decide (s.snap.idx<x.idx));rw[hp]at NI;have nA:p.2.L.length<=1000000:=by
  have h1:p.2.L.length<=([]:List En).length+_:=NI.2.1;have h2:(s.entries.filter fun x=>decide (s.snap.idx<x.idx)).length<=100000:=by rw[<-R7,List.length_map];exact af
  simp only[List.length_nil]at h1;omega
 have bH:=jF q1.t nA;refine aJ (by kernel_rfl) (ns9 (J:=fun w'=>Below w9.heap.size w9 w') VX bH hl8 fun l9 w10 hl9 vM=>?_);have P5:=Uh.kept vM;refine V9 P5 hl9 ?_;have J3:=vO.size;have Z7:=qj.size;have Z8:=q3.size;have MG:Below w.heap.size w w10.drew:=by
  refine⟨?_,?_,?_,?_,fun k hk=>?_⟩
  ·exact(vM.os.trans (q3.os.trans vO.os)).trans qj.os
  ·exact(vM.tape.trans (q3.tape.trans vO.tape)).trans qj.tape
  ·exact(vM.output.trans (q3.output.trans vO.output)).trans qj.output
  ·have:=vM.size;show w.heap.size<=w10.heap.size;have:w8.drew.heap.size=w8.heap.size:=rfl;omega
  ·have lO:w10.heap[k]?=w9.heap[k]?:=vM.block k (by have:w8.drew.heap.size=w8.heap.size:=rfl;omega);have h9:w9.heap[k]?=w8.heap[k]?:=q3.block k (by show k<w8.heap.size;omega) fun hh=>gM k hk (by unfold aX at hh ⊢;rw[ql k hk]at hh;exact hh)
   exact lO.trans (h9.trans ((vO.block k (by omega)).trans (qj.block k hk)))
 refine⟨MG,?_⟩;rw[gm];by_cases hc:p.1.2=false\/s.hard.term<p.2.lastF.2
 ·rw[if_pos hc];refine .inl ⟨rfl,some ⟨g,0,none⟩,?_⟩;have e:(p.1.2&&decide (p.2.lastF.2<=s.hard.term))=false:=by
   rcases hc with h|h
   ·rw[h];rfl
   ·rw[decide_eq_false (by omega),Bool.and_false]
  show Ending.returned (.tuple #[.pointer (some ⟨g,0,none⟩),.bool (p.1.2&&decide (p.2.lastF.2<=s.hard.term))])=_;rw[e]
 ·rw[if_neg hc];have e:(p.1.2&&decide (p.2.lastF.2<=s.hard.term))=true:=by
   have h1:p.1.2=true:=by simpa using fun h=>hc (.inl h)
   rw[h1,decide_eq_true (by omega)];rfl
  refine .inr ⟨fH I M s p.2,g,dU,_,rfl,?_,(q1.below vM).below (zb.drew),fun j hj=>(q2 j (by show j<w8.heap.size;omega)).trans (ql j hj),by omega⟩;show Ending.returned (.tuple #[.pointer (some ⟨g,0,none⟩),.bool (p.1.2&&decide (p.2.lastF.2<=s.hard.term))])=_;rw[e]
theorem Fu(id n:Int)(ha:aN c q)(hE:cP aa q w (.slice A1 m1 c1) s.entries)(hD:bP aa q w (.slice Ad md cd) s.snap.data)(qm:m1<=100000)(ly:s.snap.data.length=md)(gM:∀j,j<w.heap.size->¬aX aa c j) :
  Calls prog 14 #[.int .i64 id,.int .i64 n,.agg (eQ s Ad A1 md cd m1 c1)] w fun e w'=>nQ aa c q w (Rf.new id n s) e w':=by
 by_cases h:0<=id/\0<=n
 ·obtain⟨N,rfl⟩:∃N:Nat,n=N:=⟨n.toNat,by omega⟩;obtain⟨I,rfl⟩:∃I:Nat,id=I:=⟨id.toNat,by omega⟩;exact Dj I N ha hE hD qm ly gM
 ·have aI:Below w.heap.size w (w.alloc (.cells (eQ s Ad A1 md cd m1 c1) 29)):=zb.alloc zl _;have gK:=ao.new w 29 (eQ s Ad A1 md cd m1 c1);refine cV (args:=[.int .i64 id,.int .i64 n,.agg (eQ s Ad A1 md cd m1 c1)]) 191 func14 (by kernel_rfl) ntmps14 (by simp) fun la jL fQ=>?_
  refine aJ (by kernel_rfl) (X7 ⟨jL,fQ 0 _ rfl,fQ 1 _ rfl,fQ 2 _ rfl⟩ fun l0 j3=>?_);refine aJ (by kernel_rfl) (CX gK (by omega) j3 ?_);refine⟨aI,.inl ⟨rY fun hm=>?_,none,rfl⟩⟩;obtain⟨k1,k2,k3,k4,k5⟩:=hm;omega
end
end Go.Proofs.YtjcninheccmpoaaGreat
