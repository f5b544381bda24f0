import Derived.Test.YtjcninheccmpoaaGreatU5
set_option maxRecDepth 100000
set_option maxHeartbeats 8000000
set_option linter.all false
namespace Go.Proofs.YtjcninheccmpoaaGreat
open Go.RowKit Go.Proofs.Tryz
section
open Go.MapKept
section
variable {aa:Nat->Nat}{b g:Nat}{w w':World}{R:Rf}{v:Rw}
theorem av.yesAs(h:av aa b w g R v){l:List Int}(hl:∀k,k∈R.yes↔k∈l)(cH:R.yes≠[]):av aa b w g {R with yes:=l} v:=by
 refine⟨h.s,h.sl,h.t,h.p,h.q,?_,h.d,h.gd,h.e,h.c,h.n,h.r,h.m⟩;rcases h.y with⟨_,h0⟩|⟨bm,es,clock,h1,h2,h3,h4,h5,h6⟩
 ·exact absurd h0 cH
 ·exact .inr ⟨bm,es,clock,h1,h2,h3,h4,h5,fun k=>(hl k).symm.trans (h6 k)⟩
theorem aq.yesAs(h:aq aa b w g R w'){l:List Int}(hl:∀k,k∈R.yes↔k∈l)(cH:R.yes≠[]):aq aa b w g {R with yes:=l} w':=by
 obtain⟨ac,v',h1,h2,h3,h4⟩:=h;exact⟨ac,v',h1.yesAs hl cH,h2,h3,h4⟩
theorem wQ{K M:Nat}(h:av aa b w g R v)(hk:Ok K M R)(hK:K<=10000000000)(hM:M<=7000000000) :
  Calls prog 105 #[.pointer (some ⟨g,0,none⟩)] w fun e w'=>e=.returned (.tuple #[])/\aq aa b w g R.leads w':=
 B5 h hk.id.2.2 (by have:=hk.trk;omega) (by have:=hk.ms;omega) (by have:=hk.es;omega) (by have:=hk.cs;omega) hk.cm.1 (by have:=hk.cm;omega) hk.dat hk.dat0
theorem rz{K M:Nat}(h:av aa b w g R v)(hk:Ok K M R)(hK:K<=9000000000)(hM:M<=6000000000)(ht:R.hard.term<1099511627776) :
  Calls prog 99 #[.pointer (some ⟨g,0,none⟩)] w fun e w'=>e=.returned (.tuple #[])/\aq aa b w g R.stands w':=by
 have bV:=h.s.lt;obtain⟨c4,c6,-⟩:=h.s.cs [4,6];simp only[bt,vi,Zx]at c4 c6;obtain⟨k4,k6⟩:=rQ [g] c4 c6;have c7':=h.s.cell 7;have c22':=h.s.cell 22;obtain⟨f6,f7,f22,-⟩:=h.s.fs [6,7,22];simp only[bt,vi,Zx]at c7' c22';obtain⟨w1,bM⟩:=zN ((((w.setCell ⟨g,6,none⟩ (.int .i64 (R.hard.term+1))).setCell ⟨g,7,none⟩ (.int .i64 R.id)).setCell ⟨g,22,none⟩ (.bool true)).drew);have pG:Fr (fun j=>j=g) w w1:=by rw[<-bM];exact(((Fr.set g 6 _).trans (Fr.set g 7 _) fun _ h=>.inl h).trans (Fr.set g 22 _) fun _ h=>.inl h).trans (Fr.of_below (X:=fun j=>j=g) (zb.drew)) fun _ h=>.inl h
 have uT:ay w1 g 107 (bt {R with hard:=⟨R.hard.term+1,R.id⟩,out:={R.out with save:=true}} v):=by
  rw[<-bM];have s:=((h.s.set_ 6 (.int .i64 (R.hard.term+1))).set_ 7 (.int .i64 R.id)).set_ 22 (.bool true);simp only[bt,Zy]at s;exact s
 have h1:=h.nums (R':={R with hard:=⟨R.hard.term+1,R.id⟩,out:={R.out with save:=true}}) uT pG rfl rfl rfl rfl rfl rfl rfl rfl rfl rfl rfl;have nS:=hk.id;have IN:=hk.tm;have qg:Calls prog 96 #[.pointer (some ⟨g,0,none⟩),.int .i64 2] w1 fun e w'=>e=.returned (.tuple #[])/\aq aa b w1 g (ic R) w':=sE 2 h1 (by show R.id<=1000;omega)
 have Bq:Fr (aH aa b) w w1:=pG.mono fun j e=>by rw[e];exact⟨by have:=h.sl;omega,by have:=h.sl;omega⟩
 replace Bq:=zH Bq;have cz:=hk.standing ht;obtain⟨RS,Dc⟩:=zN (R.stands2.says R.id);have um:R.stands=if RS.won then RS.leads else RS:=by unfold Rf.stands;rw[Dc]
 rw[Dc]at cz;replace um:=zH um;replace Dc:=zH Dc;replace cz:=zH cz;clear h uT pG h1;have EP:=gK R;have hN:R.track.L.length<=100000000000:=by have:=hk.trk;omega
 have JQ:=hk.ms;obtain⟨l,hl⟩:=zN (R.others);have Di:(ic R).others=l:=hl;obtain⟨n,iW⟩:=zN (l.length);rw[hl,iW]at EP;replace hl:=zH hl;replace iW:=zH iW;replace hk:=zH hk;go_enter func99,ntmps99;go_wp2_with fail;refine qY [g] w [] ([0,1,2,3,4,5,6,7,8,9,10,11,12,13],14) ?_;refine aE ?_;simp only[af,Zx];repeat go_big_quiet_step(fail)
 apply wpQuiet_nil;go_wp2_with fail;try rw[bM]
 refine qg.mono ?_;rintro e w2 ⟨rfl,bK,v2,h2,p1,p2,p3⟩;clear qg bM c4 c6 k4 k6 c7' c22' f6 f7 f22;have d8:=h2.s.cell 8;simp only[bt,vi,Zx]at d8;have ci:=iy h2.t hN;obtain⟨l1,dm⟩:∃l,R.track.lastF.1=l:=⟨_,rfl⟩;obtain⟨l2,fB⟩:∃l,R.track.lastF.2=l:=⟨_,rfl⟩;rw[show(ic R).track=R.track from rfl,dm,fB]at ci;replace dm:=zH dm;replace fB:=zH fB;go_wp2_with fail;refine ci.mono ?_;rintro e w3 ⟨rfl,cv⟩;have h3:=h2.fresh cv;have qq:=mM h3 nS.2.2;rw[Di,iW.out]at qq;clear ci h2;go_wp2_with fail;refine qq.mono ?_;rintro e w4 ⟨A,c,rfl,aJ,dV⟩;have Qn:=dV.size;have h4:=h3.fresh dV;obtain⟨Sz,M8⟩:=zN (relab (relab bK w2.heap.size b) w3.heap.size b);clear qq h3;go_wp2_with fail
 go_loopw [37] (fun i wr=>∃k:Nat,k<=n/\i=.int .i64 k/\aq (relab (relab bK w2.heap.size b) w3.heap.size b) b w4 g (gz (ic R) (kt l1 l2) k) wr) (fun i _=>n-(intOf i).toNat)
 case atStart=>exact⟨0,Nat.zero_le _,rfl,by rw[rp];exact⟨_,_,h4,fun _ _ _=>rfl,fun _ _ h=>h,Fr.refl _ _⟩⟩
 case round=>
  obtain⟨k,hk,rfl,hQ⟩:=hrel;by_cases bh:k<n
  ·obtain⟨q,x,rfl,ww,BS,hx,c0⟩:=uD aJ bh;obtain⟨s,hs,rfl⟩:∃s:Nat,l[k]?=some s/\(s:Int)=x:=by
    unfold wM at hx;rw[List.getElem?_map]at hx;cases nb:l[k]? with
    | none=>rw[nb]at hx;cases hx
    | some s=>rw[nb]at hx;exact⟨s,rfl,Option.some.inj hx⟩
   have c1:=(World.cell?_of_block (a:=⟨q,k,none⟩) (hQ.new ww BS)).trans c0;have dM:=ro (RB:=ic R) (f:=kt l1 l2) (k:=k) (s:=s) (by rw[Di];exact hs);have ab:=lU (ic R) (kt l1 l2) k;have aP:=hQ.call (fun bK v2 h2=>fL (kt l1 l2 s) rfl rfl h2 (by have:(ic R).out.msgs.length=R.out.msgs.length:=rfl;omega));rw[dM]at aP;unfold iw at aP;simp only[vi,kt,fx]at aP;have bi:=zH (show n-(k+1)<n-k by omega);clear hQ dM ab hx hs aJ;go_wp2_with fail;refine aP.mono ?_;rintro e w5 ⟨rfl,hQ⟩;clear aP;go_wp2_with fail;exact⟨⟨k+1,bh,by go_num,hQ⟩,by simp[intOf];exact bi.out⟩
  ·obtain rfl:n=k:=by omega
   have yO:=lU (ic R) (kt l1 l2) n;have nt:=hQ.call (fun ar v1 h=>rk (R.id:Int) h (by omega) (by omega) (by show[(R.id:Int)]≠[];simp) (by show[(R.id:Int)].length<=_;simp));obtain⟨dz,v5,h5,_⟩:=id hQ;have d4:=h5.s.cell 4;simp only[bt,vi,Zx]at d4;have d4':wr.cell? ⟨g,4,none⟩=some (.int .i64 R.id):=d4;have aO:=zQ R (k:=n) dm.out fB.out (by rw[hl.out,iW.out];exact Nat.le_refl _);rw[Dc.out]at aO;have hw:((gz (ic R) (kt l1 l2) n).says R.id).won=RS.won:=by
    rw[<-aO];exact lV fun s=>by show s∈[(R.id:Int)]++[(R.id:Int)]↔s∈[(R.id:Int)];simp
   rw[hw]at nt;have iu:∀w9,aq (relab (relab bK w2.heap.size b) w3.heap.size b) b w4 g ((gz (ic R) (kt l1 l2) n).says R.id) w9->aq (relab (relab bK w2.heap.size b) w3.heap.size b) b w4 g RS w9:=fun w9 hP=>by
    rw[<-aO];exact hP.yesAs (fun s=>by show s∈[(R.id:Int)]++[(R.id:Int)]↔s∈[(R.id:Int)];simp) (by show[(R.id:Int)]++[(R.id:Int)]≠[];simp)
   replace iu:=zH iu;clear hQ hw aO h5 d4 aJ;have ci:∀wE,aq (relab (relab bK w2.heap.size b) w3.heap.size b) b w4 g R.stands wE->aq aa b w g R.stands wE:=fun wE hP=>((((hP.fresh dV).fresh cv).next p1 p2 p3).next (fun _ _ _=>rfl) (fun _ _ h=>h) Bq.out)
   replace ci:=zH ci;obtain⟨x,hx⟩:=zN (RS.won);rw[hx]at nt;have bP:=zH (show R.stands=if x=true then RS.leads else RS by rw[um.out,hx]);clear hx;go_wp2_with fail;refine nt.mono ?_;rintro e w5 ⟨rfl,hP⟩;have pq:=iu.out _ hP;clear nt hP;cases x
   ·have hQ:=zH (show aq aa b w g R.stands w5 from ci.out _ (by rw[bP.out];exact pq));clear pq;go_wp2_with fail;exact ai rfl rfl ⟨rfl,hQ.out⟩
   ·have aP:=pq.call (fun ar v1 h=>wQ h cz.out (by omega) (by omega));clear pq;go_wp2_with fail;refine aP.mono ?_;rintro e w6 ⟨rfl,sd⟩;have hQ:=zH (show aq aa b w g R.stands w6 from ci.out _ (by rw[bP.out];exact sd));clear aP sd;go_wp2_with fail;exact ai rfl rfl ⟨rfl,hQ.out⟩
end
end
section
open Go.MapKept
section
variable {aa:Nat->Nat}{b g:Nat}{w w':World}{R:Rf}{v:Rw}
theorem DB{K M:Nat}(h:av aa b w g R v)(hk:Ok K M R)(hK:K<=8000000000)(hM:M<=5000000000)(ht:R.hard.term<1099511627776) :
  Calls prog 51 #[.pointer (some ⟨g,0,none⟩)] w fun e w'=>e=.returned (.tuple #[])/\aq aa b w g R.asks w':=by
 have bV:=h.s.lt;have c6:=h.s.cell 6;simp only[bt,vi,Zx]at c6;have nS:=hk.id;have IN:=hk.tm;have qg:Calls prog 96 #[.pointer (some ⟨g,0,none⟩),.int .i64 1] w fun e w'=>e=.returned (.tuple #[])/\aq aa b w g (pe R) w':=sE 1 h (by omega)
 have cz:=hk.asking;obtain⟨RS,Dc⟩:=zN (R.asks2.says R.id);have D7:R.asks=if RS.won then RS.stands else RS:=by unfold Rf.asks;rw[Dc]
 have P6:RS.hard.term<1099511627776:=by rw[<-Dc,lK];exact ht
 replace P6:=zH P6;rw[Dc]at cz;replace D7:=zH D7;replace Dc:=zH Dc;replace cz:=zH cz;clear h;have EP:=gK R;have hN:R.track.L.length<=100000000000:=by have:=hk.trk;omega
 have JQ:=hk.ms;obtain⟨l,hl⟩:=zN (R.others);have Di:(pe R).others=l:=hl;obtain⟨n,iW⟩:=zN (l.length);rw[hl,iW]at EP;replace hl:=zH hl;replace iW:=zH iW;replace hk:=zH hk;go_enter func51,ntmps51;go_wp2_with fail;refine qg.mono ?_;rintro e w2 ⟨rfl,bK,v2,h2,p1,p2,p3⟩;clear qg c6;have d8:=h2.s.cell 8;simp only[bt,vi,Zx]at d8;have ci:=iy h2.t hN;obtain⟨l1,dm⟩:∃l,R.track.lastF.1=l:=⟨_,rfl⟩;obtain⟨l2,fB⟩:∃l,R.track.lastF.2=l:=⟨_,rfl⟩;rw[show(pe R).track=R.track from rfl,dm,fB]at ci;replace dm:=zH dm;replace fB:=zH fB;go_wp2_with fail;refine ci.mono ?_;rintro e w3 ⟨rfl,cv⟩;have h3:=h2.fresh cv;have qq:=mM h3 nS.2.2;rw[Di,iW.out]at qq;clear ci h2;go_wp2_with fail;refine qq.mono ?_;rintro e w4 ⟨A,c,rfl,aJ,dV⟩;have Qn:=dV.size;have h4:=h3.fresh dV;obtain⟨Sz,M8⟩:=zN (relab (relab bK w2.heap.size b) w3.heap.size b);clear qq h3;go_wp2_with fail
 go_loopw [25] (fun i wr=>∃k:Nat,k<=n/\i=.int .i64 k/\aq (relab (relab bK w2.heap.size b) w3.heap.size b) b w4 g (gz (pe R) (pg R.hard.term l1 l2) k) wr) (fun i _=>n-(intOf i).toNat)
 case atStart=>exact⟨0,Nat.zero_le _,rfl,by rw[rp];exact⟨_,_,h4,fun _ _ _=>rfl,fun _ _ h=>h,Fr.refl _ _⟩⟩
 case round=>
  obtain⟨k,hk,rfl,hQ⟩:=hrel;by_cases bh:k<n
  ·obtain⟨q,x,rfl,ww,BS,hx,c0⟩:=uD aJ bh;obtain⟨s,hs,rfl⟩:∃s:Nat,l[k]?=some s/\(s:Int)=x:=by
    unfold wM at hx;rw[List.getElem?_map]at hx;cases nb:l[k]? with
    | none=>rw[nb]at hx;cases hx
    | some s=>rw[nb]at hx;exact⟨s,rfl,Option.some.inj hx⟩
   obtain⟨dz,v5,h5,_⟩:=id hQ;have d6:=h5.s.cell 6;simp only[bt,vi,Zx]at d6;have d6':wr.cell? ⟨g,6,none⟩=some (.int .i64 R.hard.term):=d6;have c1:=(World.cell?_of_block (a:=⟨q,k,none⟩) (hQ.new ww BS)).trans c0;have dM:=ro (RB:=pe R) (f:=pg R.hard.term l1 l2) (k:=k) (s:=s) (by rw[Di];exact hs);have ab:=lU (pe R) (pg R.hard.term l1 l2) k;have aP:=hQ.call (fun bK v2 h2=>fL (pg R.hard.term l1 l2 s) rfl rfl h2 (by have:(pe R).out.msgs.length=R.out.msgs.length:=rfl;omega));rw[dM]at aP;unfold iw at aP;simp only[vi,pg,fx]at aP;have bi:=zH (show n-(k+1)<n-k by omega);clear hQ dM ab hx hs aJ h5 d6;go_wp2_with fail;refine aP.mono ?_;rintro e w5 ⟨rfl,hQ⟩;clear aP;go_wp2_with fail;exact⟨⟨k+1,bh,by go_num,hQ⟩,by simp[intOf];exact bi.out⟩
  ·obtain rfl:n=k:=by omega
   have yO:=lU (pe R) (pg R.hard.term l1 l2) n;have nt:=hQ.call (fun ar v1 h=>rk (R.id:Int) h (by omega) (by omega) (by show[(R.id:Int)]≠[];simp) (by show[(R.id:Int)].length<=_;simp));obtain⟨dz,v5,h5,_⟩:=id hQ;have d4:=h5.s.cell 4;simp only[bt,vi,Zx]at d4;have d4':wr.cell? ⟨g,4,none⟩=some (.int .i64 R.id):=d4;have aO:=Dz R (k:=n) dm.out fB.out (by rw[hl.out,iW.out];exact Nat.le_refl _);rw[Dc.out]at aO;have hw:((gz (pe R) (pg R.hard.term l1 l2) n).says R.id).won=RS.won:=by
    rw[<-aO];exact lV fun s=>by show s∈[(R.id:Int)]++[(R.id:Int)]↔s∈[(R.id:Int)];simp
   rw[hw]at nt;have iu:∀w9,aq (relab (relab bK w2.heap.size b) w3.heap.size b) b w4 g ((gz (pe R) (pg R.hard.term l1 l2) n).says R.id) w9->aq (relab (relab bK w2.heap.size b) w3.heap.size b) b w4 g RS w9:=fun w9 hP=>by
    rw[<-aO];exact hP.yesAs (fun s=>by show s∈[(R.id:Int)]++[(R.id:Int)]↔s∈[(R.id:Int)];simp) (by show[(R.id:Int)]++[(R.id:Int)]≠[];simp)
   replace iu:=zH iu;clear hQ hw aO h5 d4 aJ;have ci:∀wE,aq (relab (relab bK w2.heap.size b) w3.heap.size b) b w4 g R.asks wE->aq aa b w g R.asks wE:=fun wE hP=>((((hP.fresh dV).fresh cv).next p1 p2 p3))
   replace ci:=zH ci;obtain⟨x,hx⟩:=zN (RS.won);rw[hx]at nt;have bP:=zH (show R.asks=if x=true then RS.stands else RS by rw[D7.out,hx]);clear hx;go_wp2_with fail;refine nt.mono ?_;rintro e w5 ⟨rfl,hP⟩;have pq:=iu.out _ hP;clear nt hP;cases x
   ·have hQ:=zH (show aq aa b w g R.asks w5 from ci.out _ (by rw[bP.out];exact pq));clear pq;go_wp2_with fail;exact ai rfl rfl ⟨rfl,hQ.out⟩
   ·have aP:=pq.call (fun ar v1 h=>rz h cz.out (by omega) (by omega) P6.out);clear pq;go_wp2_with fail;refine aP.mono ?_;rintro e w6 ⟨rfl,sd⟩;have hQ:=zH (show aq aa b w g R.asks w6 from ci.out _ (by rw[bP.out];exact sd));clear aP sd;go_wp2_with fail;exact ai rfl rfl ⟨rfl,hQ.out⟩
end
end
section
open Go.MapKept
structure Ox where
 ea:Option Addr
 ec:Nat
 ca:Option Addr
 cc:Nat
 sp:Option Addr
 ra:Option Addr
 rc:Nat
 ma:Option Addr
 mc:Nat
def kv:Ox:=⟨none,0,none,0,none,none,0,none,0⟩
def aK(O:Ot)(X:Ox):Array Value:=#[.bool O.save,.bool O.reset,.int .i64 O.hard.term,.int .i64 O.hard.vote,.slice X.ea O.entries.length X.ec,.slice X.ca O.commits.length X.cc,.pointer X.sp,.slice X.ra O.reads.length X.rc,.slice X.ma O.msgs.length X.mc]
def fd(aa:Nat->Nat)(i:Nat)(w:World)(O:Ot)(X:Ox):Prop:=Gy aa i w O (.slice X.ea O.entries.length X.ec) (.slice X.ca O.commits.length X.cc) (.pointer X.sp) (.slice X.ra O.reads.length X.rc) (.slice X.ma O.msgs.length X.mc)
theorem fd.keep{aa:Nat->Nat}{i:Nat}{w w':World}{O:Ot}{X:Ox}(h:fd aa i w O X)(hk:∀j,aa j=i->j<w.heap.size->w'.heap[j]?=w.heap[j]?):fd aa i w' O X:=
 ⟨h.e.keep hk hk,h.c.keep hk hk,h.s.keep hk,h.r.keep hk,h.m.keep hk hk⟩
theorem fd.zero(aa:Nat->Nat)(i:Nat)(w:World):fd aa i w eO kv:=⟨ee.nil _ _ _ _,ee.nil _ _ _ _,rfl,aX.nil _ _ _ _ _,gW.nil _ _ _ _⟩
def bQ(w:World)(q:Nat)(O:Ot)(X:Ox):World:=
 ((((((((w.setCell ⟨q,0,none⟩ (.bool O.save)).setCell ⟨q,1,none⟩ (.bool O.reset)).setCell ⟨q,2,none⟩ (.int .i64 O.hard.term)).setCell ⟨q,3,none⟩ (.int .i64 O.hard.vote)).setCell ⟨q,4,none⟩ (.slice X.ea O.entries.length X.ec)).setCell ⟨q,5,none⟩ (.slice X.ca O.commits.length X.cc)).setCell ⟨q,6,none⟩ (.pointer X.sp)).setCell ⟨q,7,none⟩ (.slice X.ra O.reads.length X.rc)).setCell ⟨q,8,none⟩ (.slice X.ma O.msgs.length X.mc)
theorem fD(w:World)(q:Nat)(O:Ot)(X:Ox):Fr (fun j=>j=q) w (bQ w q O X):=
 have e:∀{a b:World},Fr (fun j=>j=q) w a->Fr (fun j=>j=q) a b->Fr (fun j=>j=q) w b:=fun h h'=>h.trans h' fun _ h=>.inl h
 e (e (e (e (e (e (e (e (Fr.set q _ _) (Fr.set q _ _)) (Fr.set q _ _)) (Fr.set q _ _)) (Fr.set q _ _)) (Fr.set q _ _)) (Fr.set q _ _)) (Fr.set q _ _)) (Fr.set q _ _)
def aV:Array Value:=#[.bool false,.bool false,.int .i64 0,.int .i64 0,.slice none 0 0,.slice none 0 0,.pointer none,.slice none 0 0,.slice none 0 0]
theorem nJ{w:World}{q:Nat}{T:TypeId}(O:Ot)(X:Ox)(h:ay w q T aV):ay (bQ w q O X) q T (aK O X):=by
 have s:=((((((((h.set_ 0 (.bool O.save)).set_ 1 (.bool O.reset)).set_ 2 (.int .i64 O.hard.term)).set_ 3 (.int .i64 O.hard.vote)).set_ 4 (.slice X.ea O.entries.length X.ec)).set_ 5 (.slice X.ca O.commits.length X.cc)).set_ 6 (.pointer X.sp)).set_ 7 (.slice X.ra O.reads.length X.rc)).set_ 8 (.slice X.ma O.msgs.length X.mc);simp only[aV,Zy]at s;exact s
def cV(aa:Nat->Nat)(b i:Nat)(w:World)(g:Nat)(O:Ot)(R':Rf)(X:Ox)(w':World):Prop:=
 ∃(ac:Nat->Nat) (v':Rw),av ac b w' g R' v'/\fd ac i w' O X/\(∀j,j<w.heap.size->¬ba aa b j->ac j=aa j)/\(∀j,j<w.heap.size->ba aa b j->ba ac b j\/ac j=i)/\Fr (aH aa b) w w'
section
variable {aa ar:Nat->Nat}{b g i q:Nat}{w w' w1 w2:World}{R R' R1:Rf}{v:Rw}{O:Ot}{X:Ox}{cs:Array Value}
theorem gJ(h1:∀j,j<w.heap.size->¬aH aa b j->ar j=aa j){j:Nat}(hj:j<w.heap.size)(hm:aH ar b j):aH aa b j:=by
 rcases Classical.em (aH aa b j)with h|h
 ·exact h
 ·unfold aH at hm h;rw[h1 j hj h]at hm;exact absurd hm h
theorem cV.next(h:cV ar b i w1 g O R' X w2)(h1:∀j,j<w.heap.size->¬aH aa b j->ar j=aa j)(h2:∀j,j<w.heap.size->aH aa b j->aH ar b j)(hF:Fr (aH aa b) w w1):cV aa b i w g O R' X w2:=by
 obtain⟨ac,v',q1,q2,q3,q4,q5⟩:=h;have hs:=hF.size;have hx:∀j,j<w.heap.size->¬aH aa b j->ar j=aa j:=h1;refine⟨ac,v',q1,q2,fun j hj hm=>?_,fun j hj hm=>q4 j (by omega) ?_,hF.trans q5 fun j hj=>?_⟩
 ·have e:=h1 j hj fun h=>hm ⟨h.1,by have:=h.2;omega⟩
  rw[q3 j (by omega) fun h=>hm (by unfold ba at h ⊢;rw[e]at h;exact h)];exact e
 ·rcases Classical.em (aH aa b j)with h|h
  ·have:=h2 j hj h;exact⟨this.1,by have:=this.2;omega⟩
  ·unfold ba at hm ⊢;rw[hx j hj h];exact hm
 ·rcases Nat.lt_or_ge j w.heap.size with hl|hl
  ·exact .inl (gJ h1 hl hj)
  ·exact .inr hl
theorem FU(i:Nat)(h:av aa b w g R v) :
  Calls prog 52 #[.pointer (some ⟨g,0,none⟩)] w fun e w'=>∃X,e=.returned (.agg (aK R.tell.1 X))/\cV aa b i w g R.tell.1 R.tell.2 X w':=by
 refine(xv i h).mono ?_;rintro e w' ⟨rfl,h1,h2,h3⟩;obtain⟨_,⟨A1,d1,GG,_⟩,_⟩:=id h2.e;obtain⟨_,⟨A2,d2,GH,_⟩,_⟩:=id h2.c;obtain⟨A3,GI⟩:∃p,v.snp=.pointer p:=by
  have hn:=h2.s;cases hx:R.tell.1.snap with
  | none=>rw[hx]at hn;exact⟨_,hn⟩
  | some s=>rw[hx]at hn;obtain⟨q,vd,e,_⟩:=hn;exact⟨_,e⟩
 obtain⟨A4,d4,GJ,_⟩:=id h2.r;obtain⟨_,⟨A5,d5,GK,_⟩,_⟩:=id h2.m;rw[GG,GH,GI,GJ,GK]at h2;refine⟨⟨A1,d1,A2,d2,A3,A4,d4,A5,d5⟩,?_,_,_,h1,h2,fun j hj hm=>?_,fun j hj hm=>?_,h3⟩
 ·rw[GG,GH,GI,GJ,GK];rfl
 ·unfold cC;rw[if_neg];unfold ba at hm;omega
 ·by_cases hc:aa j=b+8\/aa j=b+9\/aa j=b+11\/aa j=b+12\/aa j=b+13
  ·exact .inr (if_pos hc)
  ·refine .inl ?_;have e:cC aa b i j=aa j:=if_neg hc;unfold ba at hm ⊢;rw[e];exact hm
theorem aq.take(i:Nat)(h:aq aa b w g R1 w1) :
  Calls prog 52 #[.pointer (some ⟨g,0,none⟩)] w1 fun e w'=>∃X,e=.returned (.agg (aK R1.tell.1 X))/\cV aa b i w g R1.tell.1 R1.tell.2 X w':=by
 obtain⟨ar,v1,h1,q1,q2,q3⟩:=h;refine(FU i h1).mono ?_;rintro e w' ⟨X,rfl,hT⟩;exact⟨X,rfl,hT.next q1 q2 q3⟩
theorem cV.kept(h:cV (relab aa w.heap.size b) b i w1 g O R' X w2)(hq:w.heap.size<=q)(hk:ay w1 q 49 cs):ay w2 q 49 cs:=by
 obtain⟨ac,v',q1,q2,q3,q4,q5⟩:=h;refine(q5.block q hk.lt fun hm=>?_).trans hk;unfold aH at hm;rw[aA hq]at hm;omega
theorem cV.put9(h:cV (relab aa w.heap.size b) b i w1 g O R' X w2)(hb:Below w.heap.size w w1)(hq:w.heap.size<=q)(hk:ay w1 q 49 aV)(kF:i≠b) :
  ay (bQ w2 q O X) q 49 (aK O X)/\cV aa b i w g O R' X (bQ w2 q O X):=by
 have iq:=h.kept hq hk;obtain⟨ac,v',q1,q2,q3,q4,q5⟩:=h;have hF:=fD w2 q O X;have hs:=hb.size;have hn:¬ba (relab aa w.heap.size b) b q:=fun hm=>by
  unfold ba at hm;rw[aA hq]at hm;omega
 have so:ac q=b:=(q3 q hk.lt hn).trans (aA hq);have xT:∀j,j<w.heap.size->(aH (relab aa w.heap.size b) b j↔aH aa b j):=fun j hj=>by
  unfold aH;rw[ae hj]
 have hm:∀j,j<w.heap.size->(ba (relab aa w.heap.size b) b j↔ba aa b j):=fun j hj=>by
  unfold ba;rw[ae hj]
 refine⟨nJ O X iq,ac,v',q1.keep fun j hj hl=>hF.block j hl fun e=>?_,q2.keep fun j hj hl=>hF.block j hl fun e=>kF ?_,fun j hj hx=>?_,fun j hj hx=>q4 j (by omega) ((hm j hj).2 hx),?_⟩
 ·unfold ba at hj;rw[e,so]at hj;omega
 ·rw[<-hj,e];exact so
 ·rw[q3 j (by omega) fun h=>hx ((hm j hj).1 h)];exact ae hj
 ·refine((Fr.of_below (X:=aH aa b) hb).trans q5 fun j hj=>?_).trans hF fun j e=>.inr (by omega)
  rcases Nat.lt_or_ge j w.heap.size with hl|hl
  ·exact .inl ((xT j hl).1 hj)
  ·exact .inr hl
end
end
section
open Go.MapKept
section
variable {aa:Nat->Nat}{b g:Nat}{w w':World}{R:Rf}{v:Rw}
theorem GA(h:av aa b w g R v)(ht:1099511627776<=R.hard.term) :
  Calls prog 51 #[.pointer (some ⟨g,0,none⟩)] w fun e w'=>e=.returned (.tuple #[])/\aq aa b w g R w':=by
 have bV:=h.s.lt;have c6:=h.s.cell 6;simp only[bt,vi,Zx]at c6;have hP:=zH (show aq aa b w g R w from⟨aa,v,h,fun _ _ _=>rfl,fun _ _ h=>h,Fr.refl _ _⟩);clear h;go_enter func51,ntmps51;go_wp2_with fail;exact bf rfl rfl ⟨rfl,hP.out⟩
theorem xA{K M:Nat}(i:Nat)(draw:Int)(h:av aa b w g R v)(hk:Ok K M R)(hK:K<=7000000000)(hM:M<=4000000000)(kF:i≠b)(sM:-9223372036854775808<=draw)(sN:draw<=9223372036854775807) :
  Calls prog 17 #[.pointer (some ⟨g,0,none⟩),.int .i64 draw] w fun e w'=>∃X,e=.returned (.agg (aK (R.tick draw).1 X))/\cV aa b i w g (R.tick draw).1 (R.tick draw).2 X w':=by
 have bV:=h.s.lt;have aU:Below w.heap.size w (w.alloc (.cells aV 49)):=zb.alloc zl _;have cA:=ay.new w 49 aV;have h1:=h.fresh aU;have kW:=hk.ck;obtain⟨w1,bM⟩:=zN (w.alloc (.cells #[.bool false,.bool false,.int .i64 0,.int .i64 0,.slice none 0 0,.slice none 0 0,.pointer none,.slice none 0 0,.slice none 0 0] 49));rw[show w.alloc (.cells aV 49)=w1 from bM]at aU cA h1;have g4:g<w1.heap.size:=h1.s.lt;obtain⟨c1,c13,c15,c16,-⟩:=h1.s.cs [1,13,15,16];simp only[bt,vi,Zx]at c1 c13 c15 c16;obtain⟨f1,f15,f16,-⟩:=h1.s.fs [1,15,16];have d7:(R.role=3/\2<=R.clock+1)\/(R.role=3/\¬2<=R.clock+1)\/R.role≠3:=by omega
 rcases d7 with⟨hr,hc⟩|⟨hr,hc⟩|hr
 ·have wg:=zH (show R.tick draw=Rf.tell (Rf.all {R with clock:=0,round:=R.round+1}) by unfold Rf.tick Rf.beats;simp only;rw[if_pos hr,if_pos hc]);have cz:Ok (K+1) M {R with clock:=0,round:=R.round+1}:={hk.mono (Nat.le_succ K) (Nat.le_refl M)with ck:=⟨Int.le_refl 0,Int.natCast_nonneg _,by show 0<=R.round+1;omega,by show R.round+1<=_;omega⟩};obtain⟨w3,fX⟩:=zN (((w1.setCell ⟨g,15,none⟩ (.int .i64 (R.clock+1))).setCell ⟨g,15,none⟩ (.int .i64 0)).setCell ⟨g,1,none⟩ (.int .i64 (R.round+1)));have dW:Fr (fun j=>j=g) w1 w3:=by rw[<-fX];exact((Fr.set g 15 _).trans (Fr.set g 15 _) fun _ h=>.inl h).trans (Fr.set g 1 _) fun _ h=>.inl h
  have pH:ay w3 g 107 (bt {R with clock:=0,round:=R.round+1} v):=by
   rw[<-fX];have s:=((h1.s.set_ 15 (.int .i64 (R.clock+1))).set_ 15 (.int .i64 0)).set_ 1 (.int .i64 (R.round+1));simp only[bt,Zy]at s;exact s
  have hP:=aq.nums (R':={R with clock:=0,round:=R.round+1}) h1 pH dW rfl rfl rfl rfl rfl rfl rfl rfl rfl rfl rfl;have eS:=hP.call (fun ar v1 h=>jR h (cz.peers hr (by omega)) (by have:=cz.ms;omega));replace cz:=zH cz;rw[hr]at c13;clear h h1 pH dW hP;go_enter func17,ntmps17;go_wp2_with fail;refine eS.mono ?_;rintro e w4 ⟨rfl,hP⟩;clear eS;obtain⟨O,hO⟩:=zN (Rf.tell (Rf.all {R with clock:=0,round:=R.round+1}));have dw:=hP.take i;rw[show(Rf.tell (Rf.all {R with clock:=0,round:=R.round+1}))=O from hO]at dw;replace hO:=zH hO;unfold aK at dw;go_wp2_with fail;refine dw.mono ?_;rintro e w8 ⟨X,rfl,hT⟩;have dZ:=hT.kept zl cA;obtain⟨z0,z1,z2,z3,z4,z5,z6,z7,z8,-⟩:=dZ.cs [0,1,2,3,4,5,6,7,8];simp only[aV,Zx]at z0 z1 z2 z3 z4 z5 z6 z7 z8;obtain⟨y0,y1,y2,y3,y4,y5,y6,y7,y8,-⟩:=dZ.fs [0,1,2,3,4,5,6,7,8];obtain⟨nZ,fN⟩:=hT.put9 aU zl cA kF;replace fN:=zH fN;clear hT dw dZ;go_wp2_with fail;show bodyPost _ _ _ _ _ (bQ w8 w.heap.size O.1 X);generalize bQ w8 w.heap.size O.1 X=w9 at *;obtain⟨r0,r1,r2,r3,r4,r5,r6,r7,r8,-⟩:=nZ.cs [0,1,2,3,4,5,6,7,8];simp only[aK,Zx]at r0 r1 r2 r3 r4 r5 r6 r7 r8;exact bodyPost_ret (v:=.agg (aK O.1 X)) (by simp[results,results17,go_sem,aK,r0,r1,r2,r3,r4,r5,r6,r7,r8]) rfl ⟨X,by rw[wg.out,hO.out],by rw[wg.out,hO.out];exact fN.out⟩
 ·have wg:=zH (show R.tick draw=Rf.tell {R with clock:=R.clock+1} by unfold Rf.tick Rf.beats;simp only;rw[if_pos hr,if_neg hc]);obtain⟨w3,fX⟩:=zN (w1.setCell ⟨g,15,none⟩ (.int .i64 (R.clock+1)));have dW:Fr (fun j=>j=g) w1 w3:=by rw[<-fX];exact Fr.set g 15 _
  have pH:ay w3 g 107 (bt {R with clock:=R.clock+1} v):=by
   rw[<-fX];have s:=h1.s.set_ 15 (.int .i64 (R.clock+1));simp only[bt,Zy]at s;exact s
  have hP:=aq.nums (R':={R with clock:=R.clock+1}) h1 pH dW rfl rfl rfl rfl rfl rfl rfl rfl rfl rfl rfl;obtain⟨d13,d15,-⟩:=pH.cs [13,15];simp only[bt,vi,Zx]at d13 d15;rw[hr]at c13;have d13':w3.cell? ⟨g,13,none⟩=some (.int .i64 3):=by rw[d13,hr]
  clear h h1 pH dW d13;go_enter func17,ntmps17;go_wp2_with fail;obtain⟨O,hO⟩:=zN (Rf.tell {R with clock:=R.clock+1});have dw:=hP.take i;rw[show(Rf.tell {R with clock:=R.clock+1})=O from hO]at dw;replace hO:=zH hO;unfold aK at dw;go_wp2_with fail;refine dw.mono ?_;rintro e w8 ⟨X,rfl,hT⟩;have dZ:=hT.kept zl cA;obtain⟨z0,z1,z2,z3,z4,z5,z6,z7,z8,-⟩:=dZ.cs [0,1,2,3,4,5,6,7,8];simp only[aV,Zx]at z0 z1 z2 z3 z4 z5 z6 z7 z8;obtain⟨y0,y1,y2,y3,y4,y5,y6,y7,y8,-⟩:=dZ.fs [0,1,2,3,4,5,6,7,8];obtain⟨nZ,fN⟩:=hT.put9 aU zl cA kF;replace fN:=zH fN;clear hT dw dZ;go_wp2_with fail;show bodyPost _ _ _ _ _ (bQ w8 w.heap.size O.1 X);generalize bQ w8 w.heap.size O.1 X=w9 at *;obtain⟨r0,r1,r2,r3,r4,r5,r6,r7,r8,-⟩:=nZ.cs [0,1,2,3,4,5,6,7,8];simp only[aK,Zx]at r0 r1 r2 r3 r4 r5 r6 r7 r8;exact bodyPost_ret (v:=.agg (aK O.1 X)) (by simp[results,results17,go_sem,aK,r0,r1,r2,r3,r4,r5,r6,r7,r8]) rfl ⟨X,by rw[wg.out,hO.out],by rw[wg.out,hO.out];exact fN.out⟩
 ·obtain⟨wt,E4⟩:=zN ((if R.wait=0 then lH draw else R.wait));have hb:R.beats draw=if wt<=R.clock+1 then if R.hard.term<gU then(Rf.rest {R with clock:=R.clock+1,wait:=wt}).asks else Rf.rest {R with clock:=R.clock+1,wait:=wt}else {R with clock:=R.clock+1,wait:=wt}:=by
   unfold Rf.beats;simp only;rw[if_neg hr];by_cases h0:R.wait=0
   ·rw[if_pos h0]at E4 ⊢;rw[E4]
   ·rw[if_neg h0]at E4 ⊢;rw[<-E4]
  have OS:(R.role==3)=false:=by simp;exact hr
  have cz:Ok (K+1) M (Rf.rest {R with clock:=R.clock+1,wait:=wt}):={hk.mono (Nat.le_succ K) (Nat.le_refl M)with ck:=⟨Int.le_refl 0,Int.natCast_nonneg _,kW.2.2.1,by show R.round<=_;omega⟩};have kn:=F3 draw;have fJ:∃ws,aq (relab aa w.heap.size b) b w1 g {R with clock:=R.clock+1,wait:=wt} ws/\ay ws g 107 (bt {R with clock:=R.clock+1,wait:=wt} v)/\
    ((R.wait=0/\wt=lH draw/\(w1.setCell ⟨g,15,none⟩ (.int .i64 (R.clock+1))).setCell ⟨g,16,none⟩ (.int .i64 wt)=ws)\/((wt==0)=false/\w1.setCell ⟨g,15,none⟩ (.int .i64 (R.clock+1))=ws)):=by
   by_cases h0:R.wait=0
   ·rw[if_pos h0]at E4;have s:=(h1.s.set_ 15 (.int .i64 (R.clock+1))).set_ 16 (.int .i64 wt);simp only[bt,Zy]at s;exact⟨_,aq.nums (R':={R with clock:=R.clock+1,wait:=wt}) h1 s ((Fr.set g 15 _).trans (Fr.set g 16 _) fun _ h=>.inl h) rfl rfl rfl rfl rfl rfl rfl rfl rfl rfl rfl,s,.inl ⟨h0,E4.symm,rfl⟩⟩
   ·rw[if_neg h0]at E4;have s:=h1.s.set_ 15 (.int .i64 (R.clock+1));simp only[bt,Zy]at s;rw[E4]at s;exact⟨_,aq.nums (R':={R with clock:=R.clock+1,wait:=wt}) h1 s (Fr.set g 15 _) rfl rfl rfl rfl rfl rfl rfl rfl rfl rfl rfl,s,.inr ⟨by rw[<-E4];simp;exact h0,rfl⟩⟩
  obtain⟨ws,Ou,P9,Uq⟩:=fJ;have bY:=P9.lt;obtain⟨d13,d15,d16,-⟩:=P9.cs [13,15,16];simp only[bt,vi,Zx]at d13 d15 d16;have G4:=d13;have G6:=d16;obtain⟨k15,k16⟩:=rQ [g] d15 d16;replace Ou:=zH Ou;replace cz:=zH cz;clear h h1 P9 d15 d16 d13;replace G4:=zH G4;replace G6:=zH G6;by_cases fQ:wt<=R.clock+1
  ·rw[if_pos fQ]at hb;have yx:=(Ou.out.below (w2:=ws.drew) (zb.drew)).call (fun ar v1 h=>qW h);have aO:∃RB,R.tick draw=Rf.tell RB/\∀wr,aq (relab aa w.heap.size b) b w1 g (Rf.rest {R with clock:=R.clock+1,wait:=wt}) wr->Calls prog 51 #[.pointer (some ⟨g,0,none⟩)] wr fun e w'=>e=.returned (.tuple #[])/\aq (relab aa w.heap.size b) b w1 g RB w':=by
    by_cases ht:R.hard.term<gU
    ·rw[if_pos ht]at hb;exact⟨_,by unfold Rf.tick;rw[hb],fun wr hP=>hP.call fun ar v1 h=>DB h cz.out (by omega) (by omega) ht⟩
    ·rw[if_neg ht]at hb;exact⟨_,by unfold Rf.tick;rw[hb],fun wr hP=>hP.call fun ar v1 h=>GA h (Int.not_lt.1 ht)⟩
   obtain⟨RB,wg,aP⟩:=aO;replace wg:=zH wg;replace aP:=zH aP;clear hb;obtain⟨Mp,Mq,_,_⟩:=kW;rcases Uq with⟨h0,NW,HB⟩|⟨h0,HB⟩
   ·have kn:=kn (w1.setCell ⟨g,15,none⟩ (.int .i64 (R.clock+1))) sM sN;rw[<-NW]at kn;rw[h0]at c16;clear NW E4 h0;go_enter func17,ntmps17;go_wp2_with fail;refine kn.mono ?_;rintro e w2 ⟨rfl,rfl⟩;clear kn;go_wp2_with fail;try rw[HB]
    refine gj [g] ws [] [0,1,2,3,4,5,6,7,8] ?_;refine an ?_;simp only[af,Zx];repeat go_big_quiet_step(fail)
    apply wpQuiet_nil;go_wp2_with fail;refine yx.mono ?_;rintro e w4 ⟨rfl,H9⟩;have Gd:=aP.out _ H9;clear H9;go_wp2_with fail;refine Gd.mono ?_;rintro e w5 ⟨rfl,hP⟩;clear Gd;obtain⟨O,hO⟩:=zN (Rf.tell RB);have dw:=hP.take i;rw[show(Rf.tell RB)=O from hO]at dw;replace hO:=zH hO;unfold aK at dw;go_wp2_with fail;refine dw.mono ?_;rintro e w8 ⟨X,rfl,hT⟩;have dZ:=hT.kept zl cA;obtain⟨z0,z1,z2,z3,z4,z5,z6,z7,z8,-⟩:=dZ.cs [0,1,2,3,4,5,6,7,8];simp only[aV,Zx]at z0 z1 z2 z3 z4 z5 z6 z7 z8;obtain⟨y0,y1,y2,y3,y4,y5,y6,y7,y8,-⟩:=dZ.fs [0,1,2,3,4,5,6,7,8];obtain⟨nZ,fN⟩:=hT.put9 aU zl cA kF;replace fN:=zH fN;clear hT dw dZ;go_wp2_with fail;show bodyPost _ _ _ _ _ (bQ w8 w.heap.size O.1 X);generalize bQ w8 w.heap.size O.1 X=w9 at *;obtain⟨r0,r1,r2,r3,r4,r5,r6,r7,r8,-⟩:=nZ.cs [0,1,2,3,4,5,6,7,8];simp only[aK,Zx]at r0 r1 r2 r3 r4 r5 r6 r7 r8;exact bodyPost_ret (v:=.agg (aK O.1 X)) (by simp[results,results17,go_sem,aK,r0,r1,r2,r3,r4,r5,r6,r7,r8]) rfl ⟨X,by rw[wg.out,hO.out],by rw[wg.out,hO.out];exact fN.out⟩
   ·have d13:=G4.out;have d16:=G6.out;clear kn;go_enter func17,ntmps17;go_wp2_with fail;try rw[HB]
    refine gj [g] ws [] [0,1,2,3,4,5,6,7,8] ?_;refine an ?_;simp only[af,Zx];repeat go_big_quiet_step(fail)
    apply wpQuiet_nil;go_wp2_with fail;refine yx.mono ?_;rintro e w4 ⟨rfl,H9⟩;have Gd:=aP.out _ H9;clear H9;go_wp2_with fail;refine Gd.mono ?_;rintro e w5 ⟨rfl,hP⟩;clear Gd;obtain⟨O,hO⟩:=zN (Rf.tell RB);have dw:=hP.take i;rw[show(Rf.tell RB)=O from hO]at dw;replace hO:=zH hO;unfold aK at dw;go_wp2_with fail;refine dw.mono ?_;rintro e w8 ⟨X,rfl,hT⟩;have dZ:=hT.kept zl cA;obtain⟨z0,z1,z2,z3,z4,z5,z6,z7,z8,-⟩:=dZ.cs [0,1,2,3,4,5,6,7,8];simp only[aV,Zx]at z0 z1 z2 z3 z4 z5 z6 z7 z8;obtain⟨y0,y1,y2,y3,y4,y5,y6,y7,y8,-⟩:=dZ.fs [0,1,2,3,4,5,6,7,8];obtain⟨nZ,fN⟩:=hT.put9 aU zl cA kF;replace fN:=zH fN;clear hT dw dZ;go_wp2_with fail;show bodyPost _ _ _ _ _ (bQ w8 w.heap.size O.1 X);generalize bQ w8 w.heap.size O.1 X=w9 at *;obtain⟨r0,r1,r2,r3,r4,r5,r6,r7,r8,-⟩:=nZ.cs [0,1,2,3,4,5,6,7,8];simp only[aK,Zx]at r0 r1 r2 r3 r4 r5 r6 r7 r8;exact bodyPost_ret (v:=.agg (aK O.1 X)) (by simp[results,results17,go_sem,aK,r0,r1,r2,r3,r4,r5,r6,r7,r8]) rfl ⟨X,by rw[wg.out,hO.out],by rw[wg.out,hO.out];exact fN.out⟩
  ·rw[if_neg fQ]at hb;have yx:=Ou.out.below (w2:=ws.drew) (zb.drew);have wg:=zH (show R.tick draw=Rf.tell {R with clock:=R.clock+1,wait:=wt} by unfold Rf.tick;rw[hb]);clear hb;obtain⟨Mp,Mq,_,_⟩:=kW;rcases Uq with⟨h0,NW,HB⟩|⟨h0,HB⟩
   ·have kn:=kn (w1.setCell ⟨g,15,none⟩ (.int .i64 (R.clock+1))) sM sN;rw[<-NW]at kn;rw[h0]at c16;clear NW E4 h0;go_enter func17,ntmps17;go_wp2_with fail;refine kn.mono ?_;rintro e w2 ⟨rfl,rfl⟩;clear kn;go_wp2_with fail;try rw[HB]
    refine gj [g] ws [] [0,1,2,3,4,5,6,7,8] ?_;refine an ?_;simp only[af,Zx];repeat go_big_quiet_step(fail)
    apply wpQuiet_nil;go_wp2_with fail;obtain⟨O,hO⟩:=zN (Rf.tell {R with clock:=R.clock+1,wait:=wt});have dw:=yx.take i;rw[show(Rf.tell {R with clock:=R.clock+1,wait:=wt})=O from hO]at dw;replace hO:=zH hO;unfold aK at dw;go_wp2_with fail;refine dw.mono ?_;rintro e w8 ⟨X,rfl,hT⟩;have dZ:=hT.kept zl cA;obtain⟨z0,z1,z2,z3,z4,z5,z6,z7,z8,-⟩:=dZ.cs [0,1,2,3,4,5,6,7,8];simp only[aV,Zx]at z0 z1 z2 z3 z4 z5 z6 z7 z8;obtain⟨y0,y1,y2,y3,y4,y5,y6,y7,y8,-⟩:=dZ.fs [0,1,2,3,4,5,6,7,8];obtain⟨nZ,fN⟩:=hT.put9 aU zl cA kF;replace fN:=zH fN;clear hT dw dZ;go_wp2_with fail;show bodyPost _ _ _ _ _ (bQ w8 w.heap.size O.1 X);generalize bQ w8 w.heap.size O.1 X=w9 at *;obtain⟨r0,r1,r2,r3,r4,r5,r6,r7,r8,-⟩:=nZ.cs [0,1,2,3,4,5,6,7,8];simp only[aK,Zx]at r0 r1 r2 r3 r4 r5 r6 r7 r8;exact bodyPost_ret (v:=.agg (aK O.1 X)) (by simp[results,results17,go_sem,aK,r0,r1,r2,r3,r4,r5,r6,r7,r8]) rfl ⟨X,by rw[wg.out,hO.out],by rw[wg.out,hO.out];exact fN.out⟩
   ·have d13:=G4.out;have d16:=G6.out;clear kn;go_enter func17,ntmps17;go_wp2_with fail;try rw[HB]
    refine gj [g] ws [] [0,1,2,3,4,5,6,7,8] ?_;refine an ?_;simp only[af,Zx];repeat go_big_quiet_step(fail)
    apply wpQuiet_nil;go_wp2_with fail;obtain⟨O,hO⟩:=zN (Rf.tell {R with clock:=R.clock+1,wait:=wt});have dw:=yx.take i;rw[show(Rf.tell {R with clock:=R.clock+1,wait:=wt})=O from hO]at dw;replace hO:=zH hO;unfold aK at dw;go_wp2_with fail;refine dw.mono ?_;rintro e w8 ⟨X,rfl,hT⟩;have dZ:=hT.kept zl cA;obtain⟨z0,z1,z2,z3,z4,z5,z6,z7,z8,-⟩:=dZ.cs [0,1,2,3,4,5,6,7,8];simp only[aV,Zx]at z0 z1 z2 z3 z4 z5 z6 z7 z8;obtain⟨y0,y1,y2,y3,y4,y5,y6,y7,y8,-⟩:=dZ.fs [0,1,2,3,4,5,6,7,8];obtain⟨nZ,fN⟩:=hT.put9 aU zl cA kF;replace fN:=zH fN;clear hT dw dZ;go_wp2_with fail;show bodyPost _ _ _ _ _ (bQ w8 w.heap.size O.1 X);generalize bQ w8 w.heap.size O.1 X=w9 at *;obtain⟨r0,r1,r2,r3,r4,r5,r6,r7,r8,-⟩:=nZ.cs [0,1,2,3,4,5,6,7,8];simp only[aK,Zx]at r0 r1 r2 r3 r4 r5 r6 r7 r8;exact bodyPost_ret (v:=.agg (aK O.1 X)) (by simp[results,results17,go_sem,aK,r0,r1,r2,r3,r4,r5,r6,r7,r8]) rfl ⟨X,by rw[wg.out,hO.out],by rw[wg.out,hO.out];exact fN.out⟩
end
end
section
open Go.MapKept
def nT(aa:Nat->Nat)(b:Nat)(w:World)(g:Nat)(R':Rf)(v:Rw)(w':World):Prop:=
 ∃ac:Nat->Nat,av ac b w' g R' v/\(∀j,j<w.heap.size->ac j=aa j)/\Fr (aH aa b) w w'
def bX(aa:Nat->Nat)(b:Nat)(w:World)(g:Nat)(R1:Rf)(N:Nat)(wX:World):Prop:=
 ∃(ac:Nat->Nat) (v':Rw),av ac b wX g R1 v'/\(∀j,j<w.heap.size->¬aH aa b j->ac j=aa j)/\(∀j,j<w.heap.size->aH aa b j->aH ac b j)/\Fr (aH aa b) w wX/\
  ∀j,w.heap.size<=j->j<w.heap.size+N->j<wX.heap.size/\ac j=b
def cD(B N:Nat)(w w':World):Prop:=∀j,B<=j->j<B+N->w'.heap[j]?=w.heap[j]?
section
variable {aa ar:Nat->Nat}{b g i q N:Nat}{w w' w1 w2 wX:World}{R R' R1 R2:Rf}{v:Rw}
theorem nT.post(h:nT aa b w g R' v w'):aq aa b w g R' w':=by
 obtain⟨ac,h1,h2,h3⟩:=h;exact⟨ac,v,h1,fun j hj _=>h2 j hj,fun j hj hm=>by unfold aH at hm ⊢;rw[h2 j hj];exact hm,h3⟩
theorem nT.blk(h:nT aa b w g R' v w'):ay w' g 107 (bt R' v):=by
 obtain⟨ac,h1,h2,h3⟩:=h;exact h1.s
theorem bX.start(h:av aa b w g R v)(hb:Below w.heap.size w w1)(hN:w.heap.size+N<=w1.heap.size):bX aa b w g R N w1:=
 ⟨_,v,h.fresh hb,fun j hj _=>ae hj,fun j hj hm=>by unfold aH at hm ⊢;rw[ae hj];exact hm,Fr.of_below hb,fun j h1 h2=>⟨by omega,aA h1⟩⟩
theorem bX.post(h:bX aa b w g R1 N wX):aq aa b w g R1 wX:=by
 obtain⟨ac,v',h1,h2,h3,h4,_⟩:=h;exact⟨ac,v',h1,h2,h3,h4⟩
theorem gO(h2:∀j,j<w.heap.size->¬aH aa b j->ar j=aa j)(h3:∀j,j<w.heap.size->aH aa b j->aH ar b j)(h4:Fr (aH aa b) w wX)(h5:∀j,w.heap.size<=j->j<w.heap.size+N->j<wX.heap.size/\ar j=b)
  (hP:aq ar b wX g R2 w'):bX aa b w g R2 N w'/\cD w.heap.size N wX w':=by
 obtain⟨bK,v2,q1,q2,q3,q4⟩:=hP;have gn:=h4.size;have Av:∀j,w.heap.size<=j->j<w.heap.size+N->¬aH ar b j:=fun j ha hb hm=>by
  unfold aH at hm;rw[(h5 j ha hb).2]at hm;omega
 refine⟨⟨bK,v2,q1,fun j hj hm=>?_,fun j hj hm=>q3 j (by omega) (h3 j hj hm),h4.trans q4 fun j hj=>?_,fun j ha hb=>?_⟩,fun j ha hb=>q4.block j (h5 j ha hb).1 (Av j ha hb)⟩
 ·rw[q2 j (by omega) fun h=>hm (gJ h2 hj h)];exact h2 j hj hm
 ·rcases Nat.lt_or_ge j w.heap.size with hl|hl
  ·exact .inl (gJ h2 hl hj)
  ·exact .inr hl
 ·have:=h5 j ha hb;have hq:=q4.size;exact⟨by omega,(q2 j this.1 (Av j ha hb)).trans this.2⟩
theorem bX.act{f:Nat}{args:Array Value}{E:Ending}(h:bX aa b w g R1 N wX)(hs:∀ar v1,av ar b wX g R1 v1->Calls prog f args wX fun e w'=>e=E/\aq ar b wX g R2 w') :
  Calls prog f args wX fun e w'=>e=E/\bX aa b w g R2 N w'/\cD w.heap.size N wX w':=by
 obtain⟨ar,v1,h1,h2,h3,h4,h5⟩:=h;refine(hs ar v1 h1).mono ?_;rintro e w' ⟨rfl,hP⟩;exact⟨rfl,gO h2 h3 h4 h5 hP⟩
theorem bX.below(h:bX aa b w g R1 N wX)(hb:Below wX.heap.size wX w'):bX aa b w g R1 N w'/\cD w.heap.size N wX w':=by
 obtain⟨ar,v1,h1,h2,h3,h4,h5⟩:=h;exact gO h2 h3 h4 h5 ((aq.below (w1:=wX) ⟨ar,v1,h1,fun _ _ _=>rfl,fun _ _ h=>h,Fr.refl _ _⟩ hb))
theorem bX.set(h:bX aa b w g R1 N wX){j:Nat}(ha:w.heap.size<=j)(hb:j<w.heap.size+N)(hF:Fr (fun k=>k=j) wX w'):bX aa b w g R1 N w':=by
 obtain⟨ar,v1,h1,h2,h3,h4,h5⟩:=h;have hs:=hF.size;refine⟨ar,v1,h1.keep fun k hk hl=>hF.block k hl fun e=>?_,h2,h3,h4.trans hF fun k e=>.inr (by omega),fun k ka kb=>⟨by have:=(h5 k ka kb).1;omega,(h5 k ka kb).2⟩⟩;unfold ba at hk;rw[e,(h5 j ha hb).2]at hk;omega
theorem bX.byt{mi:Nat}{x:Value}{l:List UInt8}(h:bX aa b w g R1 N wX)(hm:mi<=b\/b+13<mi)(he:cT aa mi w x l):∃ar v1,av ar b wX g R1 v1/\cT ar mi wX x l:=by
 obtain⟨ar,v1,h1,h2,h3,h4,h5⟩:=h;have hn:∀j,aa j=mi->¬aH aa b j:=fun j e hx=>by unfold aH at hx;omega
 refine⟨ar,v1,h1,(he.relabel (ac:=ar) (k:=mi) fun j hl e=>(h2 j hl (hn j e)).trans e).keep fun j hj uf=>h4.block j uf fun hx=>?_⟩;have h6:=h3 j uf hx;have hj:ar j=mi:=hj;unfold aH at h6;omega
theorem bX.ens2{mi:Nat}{x:Value}{L:List En}(h:bX aa b w g R1 N wX)(hm:mi<=b\/b+13<mi)(he:da aa mi w x L) :
  ∃ar v1,av ar b wX g R1 v1/\da ar mi wX x L/\∀w' R2,aq ar b wX g R2 w'->bX aa b w g R2 N w'/\cD w.heap.size N wX w':=by
 obtain⟨ar,v1,h1,h2,h3,h4,h5⟩:=h;have hn:∀j,aa j=mi->¬aH aa b j:=fun j e hx=>by unfold aH at hx;omega
 refine⟨ar,v1,h1,?_,fun w' R2 hP=>gO h2 h3 h4 h5 hP⟩;refine(he.relabel (ac:=ar) (k:=mi) fun j hl e=>(h2 j hl (hn j e)).trans e).keep fun j hj uf=>h4.block j uf fun hx=>?_
 have h6:=h3 j uf hx;have hj:ar j=mi:=hj;unfold aH at h6;omega
theorem bX.raft(h:bX aa b w g R1 N wX):∃ar v1,av ar b wX g R1 v1/\∀w' R2,aq ar b wX g R2 w'->bX aa b w g R2 N w'/\cD w.heap.size N wX w':=by
 obtain⟨ar,v1,h1,h2,h3,h4,h5⟩:=h;exact⟨ar,v1,h1,fun w' R2 hP=>gO h2 h3 h4 h5 hP⟩
theorem cD.trans(h:cD q N w w1)(h':cD q N w1 w2):cD q N w w2:=fun j ha hb=>(h' j ha hb).trans (h j ha hb)
theorem cD.blk{T:TypeId}{cs:Array Value}{k:Nat}(h:cD q N w w1)(ha:q<=k)(hb:k<q+N)(hk:ay w k T cs):ay w1 k T cs:=(h k ha hb).trans hk
theorem FY(i:Int)(h:av aa b w g R v)(hN:R.track.L.length<=100000000000) :
  Calls prog 127 #[v.trk,.int .i64 i] w fun e w'=>e=.returned (.int .i64 (R.track.dropF i).1)/\nT aa b w g {R with track:=(R.track.dropF i).2} v w':=by
 obtain⟨gt,S,A,n,c,zs,hv,hT,hl⟩:=id h.t;rw[hv];refine(tD i hT (by have:=hT.len.1;omega) zz).mono ?_;rintro e w' ⟨rfl,hP⟩;obtain⟨ac,q1,q2,q3,q4⟩:=nN (q:=b) hT hl hP (by obtain⟨_,_,_,_,_,_,_,_,_,hF⟩:=hP;exact hF.size);rw[<-hv]at q3;obtain⟨h1,h2⟩:=h.track q1 q3 q4;exact⟨rfl,ac,h1,q1,h2⟩
theorem xB(S2:Nat->Prop)(idx tm:Int)(A2:Option Addr)(m c2:Nat)(ys:List (Value×En))(h:av aa b w g R v)(hN:R.track.L.length<=100000000000)(hr:im w A2 m ys)(hd:bA S2 w ys)
  (hm:m<=10000000000) (uY:m<=c2) (iU:c2<=maxLen) (kh:∀j,S2 j->aa j≠b+2) (lM:0<m->∀j,aR A2 j->aa j≠b+2) :
  Calls prog 43 #[v.trk,.int .i64 idx,.int .i64 tm,.slice A2 m c2] w fun e w'=>
   e=.returned (.tuple #[.int .i64 (R.track.takeF idx tm (ys.map (·.2))).1.1,.bool (R.track.takeF idx tm (ys.map (·.2))).1.2])/\nT aa b w g {R with track:=(R.track.takeF idx tm (ys.map (·.2))).2} v w':=by
 obtain⟨gt,S,A,n,c,zs,hv,hT,hl⟩:=id h.t;rw[hv];refine(CT S2 idx tm A2 m c2 ys hT (by have:=hT.len.1;omega) zz hr hd hm uY iU (fun j hj e=>kh j hj (hl j (.inl e))) fun h0 j hj e=>lM h0 j hj (hl j (.inl e))).mono ?_;rintro e w' ⟨rfl,hP⟩;obtain⟨ac,q1,q2,q3,q4⟩:=nN (q:=b) hT hl hP (by obtain⟨_,_,_,_,_,_,_,_,_,hF⟩:=hP;exact hF.size);rw[<-hv]at q3;obtain⟨h1,h2⟩:=h.track q1 q3 q4;exact⟨rfl,ac,h1,q1,h2⟩
end
end
section
open Go.MapKept
theorem tS(t:bv):∀{l r:List En} {x:En},t.findDiff l=some (x,r)->r.length+1<=l.length:=by
 intro l;induction l with
 | nil=>intro r x h;cases h
 | cons y l ih=>
  intro r x h;unfold bv.findDiff at h;split at h
  ·have:=ih h;simp;omega
  ·injection h with h;injection h with h1 h2;subst h2;simp
theorem jg(t:bv)(i tm:Int)(l:List En):(t.takeF i tm l).2.index=t.index/\(t.takeF i tm l).2.L.length<=t.L.length+l.length/\((t.takeF i tm l).1.2=false->(t.takeF i tm l).2=t):=by
 unfold bv.takeF;split
 ·cases hd:t.findDiff l with
  | none=>exact⟨rfl,Nat.le_add_right _ _,fun h=>by cases h⟩
  | some p=>
   obtain⟨x,r⟩:=p;have:=tS t hd;refine⟨rfl,?_,fun h=>by cases h⟩;show(t.L.take _++x::r).length<=_;rw[List.length_append,List.length_take,List.length_cons];omega
 ·exact⟨rfl,Nat.le_add_right _ _,fun _=>rfl⟩
theorem gH{gs:List Nat}{w w':World}{j k:Nat}{u:Value}(h:cr gs w w')(hj:∀q∈gs,q≠j)(hl:∀q∈gs,q<w'.heap.size):cr gs w (w'.setCell ⟨j,k,none⟩ u):=by
 obtain⟨⟨w',hx⟩,rfl⟩:=h;exact aT fun q hq=>((Fr.set j k u).block q (hl q hq) (hj q hq)).trans (hx q hq)
section
variable {aa:Nat->Nat}{b g:Nat}{w w2:World}{R:Rf}{v:Rw}
theorem xq{A:Option Addr}{n c:Nat}{zs:List (Value×En)}{L:List En}(h:av aa b w g R v)(hE:fG w.heap.size w2 A n c zs L)(hb:Below w.heap.size w w2)(hn:n<=10000000000)(hN:R.out.entries.length<=10000000000) :
  Calls prog 67 #[.pointer (some ⟨g,0,none⟩),.slice A n c] w2 fun e w'=>e=.returned (.tuple #[])/\aq aa b w g (R.save L) w':=by
 have bV:=h.s.lt;have h2:=h.fresh' (b+13) hb;refine(oz A n c zs h2 (cj.of_own hE.1) (hE.2.1.mono fun j hj e=>aA e.1) (fun _ j hj e=>?_) hn hN).mono ?_
 ·have:=(aI hE.1 A c rfl j hj).2.1;omega
 ·rintro e w' ⟨rfl,hP⟩;rw[hE.2.2]at hP;exact⟨rfl,hP.fresh' hb⟩
def vE(k dst idx round:Int)(rej:Bool)(off tot:Int):Array Value:=#[.int .i64 k,.int .i64 0,.int .i64 dst,.int .i64 0,.int .i64 idx,.int .i64 0,.int .i64 0,.int .i64 round,.bool rej,.int .i64 off,.int .i64 tot,.slice none 0 0,.slice none 0 0]
def x8(k dst idx round:Int)(rej:Bool)(off tot:Int):Mg:={fx with kind:=k,tgt:=dst,idx:=idx,round:=round,reject:=rej,offset:=off,total:=tot}
theorem jO(k dst idx round:Int)(rej:Bool)(off tot:Int)(h:av aa b w g R v)(hn:R.out.msgs.length<=10000000000) :
  Calls prog 97 #[.pointer (some ⟨g,0,none⟩),.agg (vE k dst idx round rej off tot)] w fun e w'=>e=.returned (.tuple #[])/\aq aa b w g (R.send (x8 k dst idx round rej off tot)) w':=
 fL (x8 k dst idx round rej off tot) rfl rfl h hn
theorem vH{K M:Nat}(m:Mg)(A1 A2:Option Addr)(n c n2 c2 mi:Nat)(h:av aa b w g R v)(hk:Ok K M R)(hK:K<=10000000000)(hM:M<=6000000000)(pK:mi<=b\/b+13<mi)(he:da aa mi w (.slice A1 n c) m.entries)(hn:n=m.entries.length)(Le:n<=6)
  (wG:0<=m.idx) (yW:m.idx<=1099511627776) (fO:0<=m.commit) (fP:m.commit<=1099511627776) :
  Calls prog 107 #[.pointer (some ⟨g,0,none⟩),iw m (.slice A1 n c) (.slice A2 n2 c2)] w fun e w'=>e=.returned (.tuple #[])/\aq aa b w g (R.appends m) w':=by
 have bV:=h.s.lt;have aU:=(iz w 39 39 #[.int .i64 m.kind,.int .i64 m.frm,.int .i64 m.tgt,.int .i64 m.term,.int .i64 m.idx,.int .i64 m.logTerm,.int .i64 m.commit,.int .i64 m.round,.bool m.reject,.int .i64 m.offset,.int .i64 m.total,.slice A1 n c,.slice A2 n2 c2] #[.int .i64 6,.int .i64 0,.int .i64 m.frm,.int .i64 0,.int .i64 0,.int .i64 0,.int .i64 0,.int .i64 m.round,.bool false,.int .i64 0,.int .i64 0,.slice none 0 0,.slice none 0 0]);obtain⟨aU,cA,yE⟩:=aU;obtain⟨w2,eh⟩:=zN (((w.alloc (.cells #[.int .i64 m.kind,.int .i64 m.frm,.int .i64 m.tgt,.int .i64 m.term,.int .i64 m.idx,.int .i64 m.logTerm,.int .i64 m.commit,.int .i64 m.round,.bool m.reject,.int .i64 m.offset,.int .i64 m.total,.slice A1 n c,.slice A2 n2 c2] 39)).alloc (.cells #[.int .i64 6,.int .i64 0,.int .i64 m.frm,.int .i64 0,.int .i64 0,.int .i64 0,.int .i64 0,.int .i64 m.round,.bool false,.int .i64 0,.int .i64 0,.slice none 0 0,.slice none 0 0] 39)));rw[eh]at aU cA yE;have hX:=bX.start (N:=2) h aU (by have:=yE.lt;omega);obtain⟨y1,y4,y5,y6,y7,y11,-⟩:=cA.cs [1,4,5,6,7,11];simp only[Zx]at y1 y4 y5 y6 y7 y11;obtain⟨c8,c12,-⟩:=h.s.cs [8,12];simp only[bt,vi,Zx]at c8 c12;have c12':=(aU.cell (aG c12)).trans c12;have c8':=(aU.cell (aG c8)).trans c8;have jo:g<w2.heap.size:=by have:=aU.size;omega
 have bY:∀q∈[g,w.heap.size],q<w2.heap.size:=by simp;exact⟨jo,cA.lt⟩
 obtain⟨q12,q4,q5,q11⟩:=IY [g,w.heap.size] c12' y4 y5 y11;obtain⟨a0,a1,a2,a3,a4,a5,a6,a7,a8,a9,a10,a11,a12,-⟩:=yE.cs [0,1,2,3,4,5,6,7,8,9,10,11,12];simp only[Zx]at a0 a1 a2 a3 a4 a5 a6 a7 a8 a9 a10 a11 a12;obtain⟨u4,u8,-⟩:=yE.fs [4,8];have TV:=hk.cm;have JQ:=hk.ms;have ww:w.heap.size+1<w2.heap.size:=yE.lt;replace hn:=zH hn;replace eh:=zH eh;unfold iw;simp only[vi];by_cases bh:m.idx<R.commit
 ·have hA:=zH (show R.appends m=R.send (x8 6 m.frm R.commit m.round false 0 0) by unfold Rf.appends;rw[if_pos bh];rfl);have LX:=((hX.set (j:=w.heap.size+1) (by omega) (by omega) (Fr.set (w:=w2) (w.heap.size+1) 4 (.int .i64 R.commit))).below (w':=(w2.setCell ⟨w.heap.size+1,4,none⟩ (.int .i64 R.commit)).drew) (zb.drew)).1;have hs:=LX.act (fun ar v1 h=>jO 6 m.frm R.commit m.round false 0 0 h (by omega));unfold vE at hs;replace hk:=zH hk;clear h hX LX he;go_enter func107,ntmps107;go_wp2_with fail;rw[eh.out];refine gj [g,w.heap.size] w2 [] [0,1,2,3,4,5,6] ?_;refine an ?_;simp only[af,Zx];repeat go_big_quiet_step(fail)
  apply wpQuiet_nil;go_wp2_with fail;refine hs.mono ?_;rintro e w9 ⟨rfl,iR,_⟩;have hQ:=zH (show aq aa b w g (R.appends m) w9 from by rw[hA.out];exact iR.post);clear hs iR;go_wp2_with fail;exact bf rfl rfl ⟨rfl,hQ.out⟩
 ·have sf:=(hX.below (w':=w2.drew) (zb.drew)).1;have LY:=(sf.below (w':=w2.drew.drew) (zb.drew)).1;obtain⟨ar,v1,h1,Ik,eX⟩:=LY.ens2 pK he;obtain⟨A,n',c',zs,e0,e1,e2,e3,e4,e5,e6⟩:=Ik;injection e0 with e00 e01 e02;subst e00;subst e01;subst e02;have Oq:=xB (aL ar mi) m.idx m.logTerm A1 n c zs h1 (by have:=hk.trk;omega) e1 e2 (by omega) e4 e5 (fun j e=>by have e:ar j=mi:=e;omega) (fun h0 j hj=>by have:=e6 h0 j hj;omega);rw[e3]at Oq;have oT:=jg R.track m.idx m.logTerm m.entries;obtain⟨pf,NA⟩:=zN (R.track.takeF m.idx m.logTerm m.entries);rw[NA]at Oq oT;have hA:R.appends m=if pf.1.2=false then R.send {fx with kind:=6,tgt:=m.frm,reject:=true,idx:=R.track.hintF m.idx m.logTerm,round:=m.round}else
    ((if 0<pf.1.1 then({R with track:=pf.2}:Rf).save (pf.2.sliceF pf.1.1 m.entries.length)else {R with track:=pf.2}).commits (min m.commit (m.idx+m.entries.length))).send {fx with kind:=6,tgt:=m.frm,idx:=m.idx+m.entries.length,round:=m.round}:=by
   unfold Rf.appends;rw[if_neg bh,<-NA]
  have d8:=h1.s.cell 8;simp only[bt,vi,Zx]at d8;have d8':w2.cell? ⟨g,8,none⟩=some v1.trk:=d8;have q8:=ak (w:=w2.drew) (gs:=[g,w.heap.size]) d8' (by simp);have p4:=ak (w:=w2.drew) (gs:=[g,w.heap.size]) y4 (by simp);have p5:=ak (w:=w2.drew) (gs:=[g,w.heap.size]) y5 (by simp);have p11:=ak (w:=w2.drew) (gs:=[g,w.heap.size]) y11 (by simp);replace hk:=zH hk;have fQ:=Int.not_lt.1 bh;have eC:=h1.s;clear h hX sf LY he h1 e1 e2 e3 d8 c8 c8' c12;go_enter func107,ntmps107;go_wp2_with fail;rw[eh.out];refine gj [g,w.heap.size] w2 [] [0,1,2,3,4,5,6] ?_;refine an ?_;simp only[af,Zx];repeat go_big_quiet_step(fail)
  apply wpQuiet_nil;go_wp2_with fail;refine bo (C:=cr [g,w.heap.size] w2.drew) [([0,1,2,3,4,5,6,7,8,9],10)] [11,12,13,14,15] (by kernel_rfl) (by kernel_rfl) (fun _ _ _ _ e h=>⟨e.symm.trans h.1,h.2⟩) az ?_;refine aC fun K1 cF=>?_
  simp only[af,Zx];repeat go_big_quiet_step(fail)
  apply wpQuiet_nil;go_wp2_with fail;refine Oq.mono ?_;rintro e w3 ⟨rfl,hT⟩;clear Oq;go_wp2_with fail;have ip:w3.heap[g]?=w2.heap[g]?:=hT.blk.trans eC.symm;obtain⟨se,cv⟩:=eX w3 _ hT.post;refine⟨dc ip (cv _ zl (by omega)),cF _ _ ?_⟩;refine an ?_;simp only[af,Zx];repeat go_big_quiet_step(fail)
  apply wpQuiet_nil;have GV:ay w3 w.heap.size 39 _:=cv.blk zl (by omega) cA;have Ji:ay w3 (w.heap.size+1) 39 _:=cv.blk (by omega) (by omega) yE;clear y1 y4 y5 y6 y7 y11 c12' q12 q4 q5 q11 q8 p4 p5 p11 a0 a1 a2 a3 a4 a5 a6 a7 a8 a9 a10 a11 a12 u4 u8 hT d8' cA yE jo bY ww eC;obtain⟨dX,v3,h3,gG⟩:=(se.below (w':=w3.drew) (zb.drew)).1.raft;have QR:g<w3.heap.size:=h3.s.lt;have d8:=h3.s.cell 8;simp only[bt,vi,Zx]at d8;have d8':w3.cell? ⟨g,8,none⟩=some v3.trk:=d8;obtain⟨y4,y5,y6,y11,-⟩:=GV.cs [4,5,6,11];simp only[Zx]at y4 y5 y6 y11;obtain⟨q4,q5,q11,q8⟩:=IY [g,w.heap.size] y4 y5 y11 d8';have bY:∀q∈[g,w.heap.size],q<w3.heap.size:=by simp;exact⟨QR,GV.lt⟩
  cases cz:pf.1.2
  ·have xL:=zH (show R.appends m=R.send (x8 6 m.frm (R.track.hintF m.idx m.logTerm) m.round true 0 0) by rw[hA,if_pos cz];rfl);have ht:=oT.2.2 cz;have Ew:=F2 m.idx m.logTerm h3.t (by show pf.2.L.length<=_;rw[ht];have:=hk.out.trk;omega);rw[show({R with track:=pf.2}:Rf).track=pf.2 from rfl,ht]at Ew;obtain⟨hi,Q7⟩:=zN (R.track.hintF m.idx m.logTerm);rw[Q7]at Ew xL;replace se:bX aa b w g R 2 w3:=by rw[ht]at se;exact se
   clear hA h3 oT ht Q7 gG eX d8;go_wp2_with fail;refine gj [g,w.heap.size] w3 [([0,1,2,3,4,5,6,7,9],8),([],10),([11],12)] [] ?_;refine aC fun K4 tW=>?_
   simp only[af,Zx];repeat go_big_quiet_step(fail)
   apply wpQuiet_nil;go_wp2_with fail;refine Ew.mono ?_;rintro e w4 ⟨rfl,dV⟩;go_wp2_with fail;have pu:Below w3.heap.size w3 w4:=(zb.drew).trans dV;refine⟨aw bY pu,tW _ _ ?_⟩;have Mb:=Ji.kept pu;obtain⟨a0,a1,a2,a3,a4,a5,a6,a7,a8,a9,a10,a11,a12,-⟩:=Mb.cs [0,1,2,3,4,5,6,7,8,9,10,11,12];simp only[Zx]at a0 a1 a2 a3 a4 a5 a6 a7 a8 a9 a10 a11 a12;obtain⟨u4,u8,-⟩:=Mb.fs [4,8];refine aC fun K5 Bu=>?_
   simp only[af,Zx];apply wpQuiet_nil;go_wp2_with fail;have cH:∀q∈[g,w.heap.size],q≠w.heap.size+1:=by simp;omega
   have JF:∀q∈[g,w.heap.size],q<w4.heap.size:=fun q hq=>Nat.lt_of_lt_of_le (bY q hq) pu.size
   refine⟨gH (aw bY pu) cH JF,Bu _ _ ?_⟩;refine aC fun K6 Bv=>?_
   simp only[af,Zx];repeat go_big_quiet_step(fail)
   apply wpQuiet_nil;go_wp2_with fail;refine⟨gH (gH (aw bY pu) cH JF) cH (by simpa[World.setCell]using JF),Bv _ _ ?_⟩;refine an ?_;simp only[af];apply wpQuiet_nil;have KS:=(se.below pu).1;have mW:=(KS.set (j:=w.heap.size+1) (by omega) (by omega) ((Fr.set (w:=w4) (w.heap.size+1) 8 (.bool true)).trans (Fr.set (w.heap.size+1) 4 (.int .i64 hi)) fun _ h=>.inl h));have hs:=mW.act (fun ar v1 h=>jO 6 m.frm hi m.round true 0 0 h (by omega));unfold vE at hs;go_wp2_with fail;refine hs.mono ?_;rintro e w9 ⟨rfl,iR,_⟩;have hQ:=zH (show aq aa b w g (R.appends m) w9 from by rw[xL.out];exact iR.post);clear hs iR;go_wp2_with fail;exact bf rfl rfl ⟨rfl,hQ.out⟩
  ·have TP:=hA;rw[cz,if_neg (by simp)]at hA;have Ua:=hn.out;have Zk:pf.2.L.length<=20000000000:=by have:=oT.2.1;have:=hk.out.trk;omega
   rw[<-Ua]at hA;clear Ua;rcases Int.lt_or_le 0 pf.1.1 with hf|hf
   ·rw[if_pos hf]at hA;have BE:0<=R.commit/\R.commit<=4000000000000:=by omega
    have mf:=oB pf.1.1 n h3.t (by show pf.2.L.length<=_;omega);obtain⟨R4,rO⟩:=zN (({R with track:=pf.2}:Rf).save (pf.2.sliceF pf.1.1 n));have PX:R4.track.L.length<=100000000000:=by rw[<-rO];show pf.2.L.length<=_;omega
    have Pw:R4.out.commits.length<=100000000000:=by rw[<-rO];have:=hk.out.cs;show R.out.commits.length<=_;omega
    have Wg:R4.out.msgs.length<=6000000000:=by rw[<-rO];show R.out.msgs.length<=_;omega
    rw[show R.commit=R4.commit by rw[<-rO];rfl]at BE;have iS:=zH (show ∀w4 A4 n4 c4 z4,fG w3.heap.size w4 A4 n4 c4 z4 (pf.2.sliceF pf.1.1 n)->Below w3.drew.heap.size w3.drew w4->Calls prog 67 #[.pointer (some ⟨g,0,none⟩),.slice A4 n4 c4] w4 fun e w'=>e=.returned (.tuple #[])/\bX aa b w g R4 2 w'/\cD w.heap.size 2 w3.drew w' from fun w4 A4 n4 c4 z4 hE hb=>by
     have px:n4<=10000000000:=by
      have e1:=hE.len.1;have e2:=congrArg List.length hE.2.2;rw[List.length_map,e1]at e2;have e3:(pf.2.sliceF pf.1.1 n).length<=n:=by unfold bv.sliceF;split <;> simp;omega
      omega
     refine(xq h3 hE hb px (by show R.out.entries.length<=_;have:=hk.out.es;omega)).mono ?_;rintro e w' ⟨rfl,hP⟩;rw[rO]at hP;exact⟨rfl,gG _ _ hP⟩)
    rw[rO]at hA;replace xL:=zH hA;replace Im:=hf;clear hA TP h3 oT gG eX d8 rO;go_wp2_with fail;refine qY [g,w.heap.size] w3 [([0,1,2,3,4,5,6,7,8],9)] ([],10) ?_;refine au fun K4 tW=>?_
    simp only[af,Zx];repeat go_big_quiet_step(fail)
    apply wpQuiet_nil;go_wp2_with fail;refine mf.mono ?_;rintro e w4 ⟨A4,n4,c4,z4,rfl,LG,dV⟩;go_wp2_with fail;have pu:Below w3.heap.size w3 w4:=(zb.drew).trans dV;have NO:=iS.out _ _ _ _ _ LG dV;refine⟨aw bY pu,tW _ _ ?_⟩;refine aE ?_;simp only[af,Zx];repeat go_big_quiet_step(fail)
    apply wpQuiet_nil;clear mf LG iS;go_wp2_with fail;refine NO.mono ?_;rintro e w5 ⟨rfl,mW,dp⟩;clear NO;have dZ:ay w5 w.heap.size 39 _:=dp.blk zl (by omega) GV;have GS:ay w5 (w.heap.size+1) 39 _:=dp.blk (by omega) (by omega) Ji;obtain⟨m4,m6,m11,-⟩:=dZ.cs [4,6,11];simp only[Zx]at m4 m6 m11;obtain⟨z0,z1,z2,z3,z4,z5,z6,z7,z8,z9,z10,z11,z12,-⟩:=GS.cs [0,1,2,3,4,5,6,7,8,9,10,11,12];simp only[Zx]at z0 z1 z2 z3 z4 z5 z6 z7 z8 z9 z10 z11 z12;have u4:=GS.free 4;have LZ:=(mW.set (j:=w.heap.size+1) (by omega) (by omega) (Fr.set (w:=w5) (w.heap.size+1) 4 (.int .i64 (m.idx+n))));have tY:=LZ.act (fun ar v1 h=>(kT (min m.commit (m.idx+n)) h (by omega) (by omega) BE.1 BE.2 PX Pw).mono (fun e w' hh=>⟨hh.1,hh.2.1⟩));clear se;go_wp2_with fail;refine tY.mono ?_;rintro e w7 ⟨rfl,D3,mX⟩;have nr:=GS.set_ 4 (.int .i64 (m.idx+n));simp only[Zy]at nr;have D8:ay w7 (w.heap.size+1) 39 _:=mX.blk (by omega) (by omega) nr;clear tY LZ dZ GS nr m4 m6 m11 z0 z1 z2 z3 z4 z5 z6 z7 z8 z9 z10 z11 z12 u4;obtain⟨z0,z1,z2,z3,z4,z5,z6,z7,z8,z9,z10,z11,z12,-⟩:=D8.cs [0,1,2,3,4,5,6,7,8,9,10,11,12];simp only[Zx]at z0 z1 z2 z3 z4 z5 z6 z7 z8 z9 z10 z11 z12;have hs:=D3.act (fun ar v1 h=>jO 6 m.frm (m.idx+n) m.round false 0 0 h (by unfold Rf.commits;split <;> (show R4.out.msgs.length<=_;omega)));unfold vE at hs;clear D3 D8;go_wp2_with fail;refine hs.mono ?_;rintro e w9 ⟨rfl,iR,_⟩;have hQ:=zH (show aq aa b w g (R.appends m) w9 from by rw[xL.out];exact iR.post);clear hs iR;go_wp2_with fail;exact ai rfl rfl ⟨rfl,hQ.out⟩
   ·rw[if_neg (Int.not_lt.2 hf)]at hA;obtain⟨R4,rO⟩:=zN (({R with track:=pf.2}:Rf));have BE:0<=R4.commit/\R4.commit<=4000000000000:=by rw[<-rO];show 0<=R.commit/\R.commit<=_;omega
    have PX:R4.track.L.length<=100000000000:=by rw[<-rO];show pf.2.L.length<=_;omega
    have Pw:R4.out.commits.length<=100000000000:=by rw[<-rO];have:=hk.out.cs;show R.out.commits.length<=_;omega
    have Wg:R4.out.msgs.length<=6000000000:=by rw[<-rO];show R.out.msgs.length<=_;omega
    rw[rO]at hA se;replace xL:=zH hA;have ob:cD w.heap.size 2 w3 w3:=fun _ _ _=>rfl
    have KS:=se;clear hA TP h3 oT gG eX d8 rO;have dZ:ay w3 w.heap.size 39 _:=ob.blk zl (by omega) GV;have GS:ay w3 (w.heap.size+1) 39 _:=ob.blk (by omega) (by omega) Ji;obtain⟨m4,m6,m11,-⟩:=dZ.cs [4,6,11];simp only[Zx]at m4 m6 m11;obtain⟨z0,z1,z2,z3,z4,z5,z6,z7,z8,z9,z10,z11,z12,-⟩:=GS.cs [0,1,2,3,4,5,6,7,8,9,10,11,12];simp only[Zx]at z0 z1 z2 z3 z4 z5 z6 z7 z8 z9 z10 z11 z12;have u4:=GS.free 4;have LZ:=(KS.set (j:=w.heap.size+1) (by omega) (by omega) (Fr.set (w:=w3) (w.heap.size+1) 4 (.int .i64 (m.idx+n))));have tY:=LZ.act (fun ar v1 h=>(kT (min m.commit (m.idx+n)) h (by omega) (by omega) BE.1 BE.2 PX Pw).mono (fun e w' hh=>⟨hh.1,hh.2.1⟩));clear se;go_wp2_with fail;refine tY.mono ?_;rintro e w7 ⟨rfl,D3,mX⟩;have nr:=GS.set_ 4 (.int .i64 (m.idx+n));simp only[Zy]at nr;have D8:ay w7 (w.heap.size+1) 39 _:=mX.blk (by omega) (by omega) nr;clear tY LZ dZ GS nr m4 m6 m11 z0 z1 z2 z3 z4 z5 z6 z7 z8 z9 z10 z11 z12 u4;obtain⟨z0,z1,z2,z3,z4,z5,z6,z7,z8,z9,z10,z11,z12,-⟩:=D8.cs [0,1,2,3,4,5,6,7,8,9,10,11,12];simp only[Zx]at z0 z1 z2 z3 z4 z5 z6 z7 z8 z9 z10 z11 z12;have hs:=D3.act (fun ar v1 h=>jO 6 m.frm (m.idx+n) m.round false 0 0 h (by unfold Rf.commits;split <;> (show R4.out.msgs.length<=_;omega)));unfold vE at hs;clear D3 D8;go_wp2_with fail;refine hs.mono ?_;rintro e w9 ⟨rfl,iR,_⟩;have hQ:=zH (show aq aa b w g (R.appends m) w9 from by rw[xL.out];exact iR.post);clear hs iR;go_wp2_with fail;exact ai rfl rfl ⟨rfl,hQ.out⟩
end
end
section
open Go.MapKept
theorem kP(R:Rf):∃(k:Int) (cs:List En),R.agrees={R with commit:=k,out:={R.out with commits:=cs}}:=by
 unfold Rf.agrees;split
 ·unfold Rf.commits;split
  ·exact⟨_,_,rfl⟩
  ·exact⟨R.commit,R.out.commits,rfl⟩
 ·exact⟨R.commit,R.out.commits,rfl⟩
theorem oN(R:Rf):R.agrees.role=R.role:=by
 obtain⟨k,cs,e⟩:=kP R;rw[e]
theorem gZ(R:Rf)(s:Nat)(p p':Pr):(R.setPeer s p).setPeer s p'=R.setPeer s p':=by
 unfold Rf.setPeer;simp only[List.set_set]
theorem eV(R:Rf)(s:Nat)(p:Pr)(hs:s<R.peers.length):(R.setPeer s p).peer s=p:=by
 unfold Rf.setPeer Rf.peer;simp only;rw[List.getElem?_set_self hs];rfl
def Fn(R:Rf)(p:Pr):Prop:=(0<=p.mat/\p.mat<=1099511627776)/\(1<=p.next/\p.next<=1099511627777)/\0<=p.offset/\p.offset<=R.snap.data.length
theorem Ok.setPeer{K M:Nat}{R:Rf}(h:Ok K M R)(s:Nat){p:Pr}(hp:Fn R p):Ok K M (R.setPeer s p):=
 {h with ld:=fun hr=>⟨by show(R.peers.set s p).length=_;rw[List.length_set];exact(h.ld hr).1,fun x hx=>by
   rcases List.mem_or_eq_of_mem_set (show x∈R.peers.set s p from hx)with hx|rfl
   ·exact(h.ld hr).2 x hx
   ·exact hp⟩}
theorem Ok.peer{K M:Nat}{R:Rf}(h:Ok K M R)(hr:R.role=3){s:Nat}(hs:s<=R.n):s<R.peers.length/\Fn R (R.peer s):=by
 obtain⟨h1,h2⟩:=h.ld hr;refine⟨by omega,h2 _ ?_⟩;unfold Rf.peer;rw[List.getElem?_eq_getElem (by omega)];exact List.getElem_mem _
def pt(R:Rf)(s:Nat)(index:Int):Pr:=
 ⟨max (R.peer s).next (max (R.peer s).mat (min index R.track.lastF.1)+1),max (R.peer s).mat (min index R.track.lastF.1),if R.track.index<=max (R.peer s).mat (min index R.track.lastF.1)then 0 else(R.peer s).offset,(R.peer s).round⟩
theorem D6(R:Rf)(s:Nat)(index:Int):R.has s index=if(pt R s index).next<=R.track.lastF.1 then(R.setPeer s (pt R s index)).agrees.lacks s else(R.setPeer s (pt R s index)).agrees:=rfl
theorem An{K M:Nat}{R:Rf}(h:Ok K M R){s:Nat}(index:Int)(hp:Fn R (R.peer s)):Fn R (pt R s index):=by
 obtain⟨h1,h2,h3⟩:=hp;have h4:=h.tr.last;have h5:=h.tr.room;have h6:=h.tr.b;have hx:max (R.peer s).mat (min index R.track.lastF.1)<=1099511627776:=by omega
 refine⟨⟨by show 0<=max _ _;omega,hx⟩,⟨by show 1<=max _ _;omega,by show max _ _<=_;omega⟩,?_⟩;show 0<=(if _ then _ else _:Int)/\(if _ then _ else _:Int)<=_;split
 ·exact⟨Int.le_refl 0,Int.natCast_nonneg _⟩
 ·exact h3
theorem Ok.has{K M:Nat}{R:Rf}(h:Ok K M R)(hr:R.role=3){s:Nat}(hs:s<=R.n)(index:Int):Ok K (M+K+1) (R.has s index):=by
 rw[D6];have h1:=(h.setPeer s (An h index (h.peer hr hs).2)).agrees;split
 ·exact h1.lacks s
 ·exact h1.mono zl (Nat.le_succ _)
section
variable {aa:Nat->Nat}{b g:Nat}{w:World}{R:Rf}{v:Rw}
theorem nu{K M:Nat}(s:Nat)(h:av aa b w g R v)(hk:Ok K M R)(hr:R.role=3)(hs:s<=R.n)(hK:K<=10000000000)(hM:M<=9000000000) :
  Calls prog 95 #[.pointer (some ⟨g,0,none⟩),.int .i64 s] w fun e w'=>e=.returned (.tuple #[])/\aq aa b w g (R.lacks s) w':=by
 obtain⟨h1,h2,h3,h4⟩:=hk.peer hr hs;exact tf s h h1 (by have:=hk.ms;omega) (by have:=hk.trk;omega) h3.1 (by omega) h4.1 h4.2 hk.dat hk.dat0
theorem av.setPeer{s j q c:Nat}{u:Value}{p':Pr}(h:av aa b w g R v)(hs:s<R.peers.length)(hq:v.peers=.slice (some ⟨q,0,none⟩) R.peers.length c)(hj:j<4)(hp:xh p'=(xh (R.peer s)).set j u) :
  av aa b (w.setCell ⟨q,s*4+j,none⟩ u) g (R.setPeer s p') v/\Fr (fun k=>k=q) w (w.setCell ⟨q,s*4+j,none⟩ u)/\aa q=b+3:=by
 obtain⟨A,c',e,aJ,hl⟩:=id h.p;rw[hq]at e;injection e with e1 e2 e3;subst e1;subst e3;have so:=hl q ⟨_,rfl,rfl⟩;have hF:=Fr.set (w:=w) q (s*4+j) u;have K0:g≠q:=fun e=>by have:=h.sl;rw[e,so]at this;omega
 have RW:ay (w.setCell ⟨q,s*4+j,none⟩ u) g 107 (bt (R.setPeer s p') v):=(hF.block g h.s.lt K0).trans h.s;have bP:=(aJ.stored (s*4+j) u).1;have QV:R.peers[s]?=some (R.peer s):=by unfold Rf.peer;rw[List.getElem?_eq_getElem hs];rfl
 rw[jA lR hj hp QV]at bP;refine⟨h.turn [3] RW (fun _ _ _ _ _ _ e=>e) (by simp) (hF.mono fun k e=>.inr ⟨3,by simp,by rw[e];exact so⟩) tI (.inl ?_) tI tI tI tI tI tI tI tI tI,hF,so⟩;rw[hq];have e:(R.setPeer s p').peers.length=R.peers.length:=List.length_set;rw[e];exact⟨_,_,rfl,bP,hl⟩
theorem av.peer_cells{s q c n:Nat}{P:Pr}(h:av aa b w g R v)(hs:s<R.peers.length)(hv:v.peers=.slice (some ⟨q,0,none⟩) n c)(hP:R.peer s=P) :
  (w.cell? ⟨q,s*4,none⟩=some (.int .i64 P.next)/\w.cell? ⟨q,s*4+1,none⟩=some (.int .i64 P.mat)/\w.cell? ⟨q,s*4+2,none⟩=some (.int .i64 P.offset)/\w.cell? ⟨q,s*4+3,none⟩=some (.int .i64 P.round))/\
  (w.frozen? ⟨q,s*4,none⟩=false/\w.frozen? ⟨q,s*4+1,none⟩=false/\w.frozen? ⟨q,s*4+2,none⟩=false/\w.frozen? ⟨q,s*4+3,none⟩=false)/\q<w.heap.size:=by
 obtain⟨q',c',e,h1,h2,p0,p1,p2,p3,pf⟩:=h.peer_at hs;rw[hv]at e;injection e with e1 _ _;injection e1 with e1;injection e1 with e1;subst e1;rw[hP]at p0 p1 p2 p3;exact⟨⟨p0,p1,p2,p3⟩,⟨pf _,pf _,pf _,pf _⟩,h2⟩
theorem b7(R:Rf)(s:Nat)(p:Pr):(R.setPeer s p).peers.length=R.peers.length:=List.length_set
theorem GR{K M:Nat}(s:Nat)(index:Int)(h:av aa b w g R v)(hk:Ok K M R)(hr:R.role=3)(hs:s<=R.n)(hK:K<=1000000000)(hM:M<=6000000000) :
  Calls prog 138 #[.pointer (some ⟨g,0,none⟩),.int .i64 s,.int .i64 index] w fun e w'=>e=.returned (.tuple #[])/\aq aa b w g (R.has s index) w':=by
 have bV:=h.s.lt;obtain⟨mf,uk⟩:=hk.peer hr hs;obtain⟨q,c,hv,so,fR,p0,p1,p2,p3,pf⟩:=h.peer_at mf;have cz:=An hk index uk;have hN:R.track.L.length<=100000000000:=by have:=hk.trk;omega
 have ci:=iy h.t hN;have bD:=nM h.t;obtain⟨c0,c8,-⟩:=h.s.cs [0,8];simp only[bt,vi,Zx]at c0 c8;rw[hv]at c0;obtain⟨l1,dm⟩:∃l,R.track.lastF.1=l:=⟨_,rfl⟩;obtain⟨P,hP⟩:=zN (R.peer s);obtain⟨i1,xR⟩:∃i,R.track.index=i:=⟨_,rfl⟩;rw[hP]at p0 p1 p2 p3 uk;have Dm:pt R s index=⟨max P.next (max P.mat (min index l1)+1),max P.mat (min index l1),if i1<=max P.mat (min index l1)then 0 else P.offset,P.round⟩:=by unfold pt;rw[hP,dm,xR]
 have he:=D6 R s index;rw[dm]at he;have qm:=hk.tr.last;have jE:=hk.tr.room;have kF:=hk.tr.b;rw[dm]at qm;have Hp:0<=l1/\l1<=1099511627776:=by omega
 rw[xR]at bD;obtain⟨mt,Gk⟩:∃x,max P.mat (min index l1)=x:=⟨_,rfl⟩;have Xo:0<=mt/\mt<=1099511627776:=by have:=uk.1;omega
 have Nl:=uk.2.1;rw[Gk]at Dm;obtain⟨nx,dM⟩:∃x,max P.next (mt+1)=x:=⟨_,rfl⟩;rw[dM]at Dm;have hH:=zH h;have sT:=zH hk;replace Gk:=zH Gk;replace dM:=zH dM;replace Dm:=zH Dm;replace he:=zH he;replace dm:=zH dm;replace xR:=zH xR;replace hP:=zH hP;clear h hk qm jE kF;go_enter func138,ntmps138;go_wp2_with fail;refine bD.mono ?_;rintro e w1 ⟨rfl,bH⟩;have c8':=(bH.cell bV).trans c8;have Er:=iy (hH.out.below bH).t hN;rw[dm.out]at Er;clear bD ci;go_wp2_with fail;refine Er.mono ?_;rintro e w2 ⟨rfl,bU⟩;clear Er;have dS:=aj bH bU zl;have h2:=hH.out.fresh dS;have p0':=(dS.cell fR).trans p0;have p1':=(dS.cell fR).trans p1;have p2':=(dS.cell fR).trans p2;have RM:q<w2.heap.size:=Nat.lt_of_lt_of_le fR dS.size;have f2:∀j,w2.frozen? ⟨q,j,none⟩=false:=fun j=>(dS.frozen fR).trans (pf j)
 have f2a:=f2 (s*4);have f2b:=f2 (s*4+1);have f2c:=f2 (s*4+2);clear c8 c8' f2;go_wp2_with fail;rw[Gk.out];have Ue:xh (R.peer s)=[vi P.next,vi P.mat,vi P.offset,vi P.round]:=by rw[hP.out];rfl
 obtain⟨h3,dW,_⟩:=h2.setPeer (s:=s) (j:=1) (u:=.int .i64 mt) (p':={P with mat:=mt}) mf hv (by omega) (by rw[Ue];rfl);obtain⟨w3,fX⟩:=zN (w2.setCell ⟨q,s*4+1,none⟩ (.int .i64 mt));rw[fX]at h3 dW ⊢;have e3:=eV R s {P with mat:=mt} mf;obtain⟨⟨x0,x1,x2,_⟩,⟨y0,y1,y2,_⟩,ZC⟩:=h3.peer_cells (by rw[b7];exact mf) hv e3;obtain⟨k0,k1⟩:=rQ [q] x0 x1;obtain⟨h4,mo,_⟩:=h3.setPeer (s:=s) (j:=0) (u:=.int .i64 nx) (p':={P with mat:=mt,next:=nx}) (by rw[b7];exact mf) (by rw[b7];exact hv) (by omega) (by rw[e3];rfl);rw[gZ,Nat.add_zero]at h4;rw[Nat.add_zero]at mo;obtain⟨w4,gi⟩:=zN (w3.setCell ⟨q,s*4,none⟩ (.int .i64 nx));rw[gi]at h4 mo;have e4:=eV R s {P with mat:=mt,next:=nx} mf;obtain⟨⟨z0,z1,z2,_⟩,⟨_,_,v2,_⟩,XI⟩:=h4.peer_cells (by rw[b7];exact mf) hv e4;obtain⟨h5,V5,_⟩:=h4.setPeer (s:=s) (j:=2) (u:=.int .i64 0) (p':={P with mat:=mt,next:=nx,offset:=0}) (by rw[b7];exact mf) (by rw[b7];exact hv) (by omega) (by rw[e4];rfl);rw[gZ]at h5;have wm:relab aa w.heap.size b q=b+3:=(ae fR).trans so;have Pz:Fr (fun k=>k=q) w2 (w4.setCell ⟨q,s*4+2,none⟩ (.int .i64 0)):=(dW.trans mo fun _ h=>.inl h).trans V5 fun _ h=>.inl h
 have Py:Fr (fun k=>k=q) w2 w4:=dW.trans mo fun _ h=>.inl h
 replace fX:=zH fX;replace gi:=zH gi;clear h2 h3 p0' p1' p2' f2a f2b f2c Ue;replace h4:=zH h4;replace h5:=zH h5;refine qY [q] w3 [([0,1,2,3,4,5,6,7,8,9],10)] ([11,12],13) ?_;refine au fun K1 cF=>?_
 simp only[af,Zx];repeat go_big_quiet_step(fail)
 apply wpQuiet_nil;go_wp2_with fail;rw[dM.out];refine⟨az,cF _ _ ?_⟩;refine aE ?_;simp only[af,Zx];repeat go_big_quiet_step(fail)
 apply wpQuiet_nil;by_cases hc:i1<=mt
 ·obtain⟨W,D2⟩:=zN (((w3.setCell ⟨q,s*4,none⟩ (.int .i64 nx)).setCell ⟨q,s*4+2,none⟩ (.int .i64 0)).drew);have hW:av (relab aa w.heap.size b) b W g (R.setPeer s (pt R s index)) v:=by
   rw[<-D2,gi.out,Dm.out,if_pos hc];have:=h5.out.below (w':=(w4.setCell ⟨q,s*4+2,none⟩ (.int .i64 0)).drew) (zb.drew);exact this
  have Gb:Fr (fun k=>k=q) w2 W:=by
   rw[<-D2,gi.out];exact Pz.trans (Fr.of_below (X:=fun k=>k=q) (zb.drew)) fun _ h=>.inl h
  have zW:W.cell? ⟨q,s*4,none⟩=some (.int .i64 nx):=(hW.peer_cells (by rw[b7];exact mf) hv (eV R s _ mf)).1.1.trans (by rw[Dm.out]);replace D2:=zH D2;have Bt:Fr (aH (relab aa w.heap.size b) b) w2 W:=Gb.mono fun k e=>by rw[e];exact⟨by omega,by omega⟩
  obtain⟨RA,Bz⟩:=zN ((R.setPeer s (pt R s index)).agrees);have kY:=(sT.out.setPeer s cz);have yQ:Ok K (M+K) RA:=by rw[<-Bz];exact kY.agrees
  have Ll:RA.role=3:=by rw[<-Bz,oN];exact hr
  have Lf:RA.n=R.n:=by obtain⟨k,cs,e⟩:=kP (R.setPeer s (pt R s index));rw[<-Bz,e];rfl
  have ki:=jQ hW ((kY.ld hr).1) kY.id.2.2 kY.cm.1 (by have:=kY.cm.2;omega) (by have:=kY.trk;omega) (by have:=kY.cs;omega);rw[Bz]at ki;have G7:R.has s index=if nx<=l1 then RA.lacks s else RA:=by rw[he.out,Bz];rw[Dm.out]
  have QU:g≠q:=fun e=>by have:=hW.sl;rw[e,wm]at this;omega
  have RL:q<W.heap.size:=aG zW;replace G7:=zH G7;replace yQ:=zH yQ;replace wm:=zH wm;clear hW kY Bz cz uk Dm;go_wp2_with fail;rw[D2.out];refine ki.mono ?_;rintro e w6 ⟨rfl,sd,mq⟩;have z6:w6.cell? ⟨q,s*4,none⟩=some (.int .i64 nx):=(World.cell?_of_block (mq.block q RL fun hx=>by rcases hx with hx|hx;exact QU hx.symm;rw[wm.out]at hx;omega)).trans zW;clear ki mq;by_cases fQ:nx<=l1
  ·have nb:=sd.call (fun ar v1 h=>nu s h yQ.out Ll (by rw[Lf];exact hs) (by omega) (by omega));have Jv:=zH (show R.has s index=RA.lacks s by rw[G7.out,if_pos fQ]);clear sd;go_wp2_with fail;refine nb.mono ?_;rintro e w7 ⟨rfl,DZ⟩;have hQ:=zH (show aq aa b w g (R.has s index) w7 by rw[Jv.out];exact(DZ.next (fun _ _ _=>rfl) (fun _ _ h=>h) Bt).fresh dS);clear nb DZ;go_wp2_with fail;exact ai rfl rfl ⟨rfl,hQ.out⟩
  ·have hQ:=zH (show aq aa b w g (R.has s index) w6 by rw[G7.out,if_neg fQ];exact(sd.next (fun _ _ _=>rfl) (fun _ _ h=>h) Bt).fresh dS);replace fQ:=Int.not_le.1 fQ;clear sd;go_wp2_with fail;exact ai rfl rfl ⟨rfl,hQ.out⟩
 ·obtain⟨W,D2⟩:=zN ((w3.setCell ⟨q,s*4,none⟩ (.int .i64 nx)).drew);have hW:av (relab aa w.heap.size b) b W g (R.setPeer s (pt R s index)) v:=by
   rw[<-D2,gi.out,Dm.out,if_neg hc];exact h4.out.below (w':=w4.drew) (zb.drew)
  have Gb:Fr (fun k=>k=q) w2 W:=by
   rw[<-D2,gi.out];exact Py.trans (Fr.of_below (X:=fun k=>k=q) (zb.drew)) fun _ h=>.inl h
  have zW:W.cell? ⟨q,s*4,none⟩=some (.int .i64 nx):=(hW.peer_cells (by rw[b7];exact mf) hv (eV R s _ mf)).1.1.trans (by rw[Dm.out]);replace D2:=zH D2;replace hc:=Int.not_le.1 hc;have Bt:Fr (aH (relab aa w.heap.size b) b) w2 W:=Gb.mono fun k e=>by rw[e];exact⟨by omega,by omega⟩
  obtain⟨RA,Bz⟩:=zN ((R.setPeer s (pt R s index)).agrees);have kY:=(sT.out.setPeer s cz);have yQ:Ok K (M+K) RA:=by rw[<-Bz];exact kY.agrees
  have Ll:RA.role=3:=by rw[<-Bz,oN];exact hr
  have Lf:RA.n=R.n:=by obtain⟨k,cs,e⟩:=kP (R.setPeer s (pt R s index));rw[<-Bz,e];rfl
  have ki:=jQ hW ((kY.ld hr).1) kY.id.2.2 kY.cm.1 (by have:=kY.cm.2;omega) (by have:=kY.trk;omega) (by have:=kY.cs;omega);rw[Bz]at ki;have G7:R.has s index=if nx<=l1 then RA.lacks s else RA:=by rw[he.out,Bz];rw[Dm.out]
  have QU:g≠q:=fun e=>by have:=hW.sl;rw[e,wm]at this;omega
  have RL:q<W.heap.size:=aG zW;replace G7:=zH G7;replace yQ:=zH yQ;replace wm:=zH wm;clear hW kY Bz cz uk Dm;go_wp2_with fail;rw[D2.out];refine ki.mono ?_;rintro e w6 ⟨rfl,sd,mq⟩;have z6:w6.cell? ⟨q,s*4,none⟩=some (.int .i64 nx):=(World.cell?_of_block (mq.block q RL fun hx=>by rcases hx with hx|hx;exact QU hx.symm;rw[wm.out]at hx;omega)).trans zW;clear ki mq;by_cases fQ:nx<=l1
  ·have nb:=sd.call (fun ar v1 h=>nu s h yQ.out Ll (by rw[Lf];exact hs) (by omega) (by omega));have Jv:=zH (show R.has s index=RA.lacks s by rw[G7.out,if_pos fQ]);clear sd;go_wp2_with fail;refine nb.mono ?_;rintro e w7 ⟨rfl,DZ⟩;have hQ:=zH (show aq aa b w g (R.has s index) w7 by rw[Jv.out];exact(DZ.next (fun _ _ _=>rfl) (fun _ _ h=>h) Bt).fresh dS);clear nb DZ;go_wp2_with fail;exact ai rfl rfl ⟨rfl,hQ.out⟩
  ·have hQ:=zH (show aq aa b w g (R.has s index) w6 by rw[G7.out,if_neg fQ];exact(sd.next (fun _ _ _=>rfl) (fun _ _ h=>h) Bt).fresh dS);replace fQ:=Int.not_le.1 fQ;clear sd;go_wp2_with fail;exact ai rfl rfl ⟨rfl,hQ.out⟩
end
end
section
open Go.MapKept
def pW(R:Rf)(s:Nat)(m:Mg):Pr:={R.peer s with round:=max (R.peer s).round (min m.round R.round)}
theorem oO{R:Rf}{s:Nat}{m:Mg}(hs:s<R.peers.length)(hf:m.frm=(s:Int)):R.answered m=
  if m.kind=8/\0<m.total then(if m.idx=R.snap.idx/\(R.peer s).next-1<R.snap.idx then(R.setPeer s {pW R s m with offset:=min m.offset R.snap.data.length}).lacks s else R.setPeer s (pW R s m))
  else if m.kind=6/\m.reject=true then(R.setPeer s {pW R s m with next:=max ((R.peer s).mat+1) (min ((R.peer s).next-1) (m.idx+1))}).lacks s else(R.setPeer s (pW R s m)).has s m.idx:=by
 have e:m.frm.toNat=s:=by rw[hf];rfl
 unfold Rf.answered;simp only;rw[e];have e2:(R.setPeer s {R.peer s with round:=max (R.peer s).round (min m.round R.round)}).peer s=pW R s m:=eV R s _ hs;rw[e2];unfold pW;simp only[gZ]
section
variable {aa:Nat->Nat}{b g:Nat}{w:World}{R:Rf}{v:Rw}
theorem nj{K M:Nat}(m:Mg)(ve vd:Value)(s:Nat)(h:av aa b w g R v)(hk:Ok K M R)(hr:R.role=3)(hf:m.frm=(s:Int))(hs:s<=R.n)(hK:K<=1000000000)(hM:M<=5000000000)
  (fT:0<=m.idx) (xR:m.idx<=1099511627776) (RC:0<=m.offset) :
  Calls prog 109 #[.pointer (some ⟨g,0,none⟩),iw m ve vd] w fun e w'=>e=.returned (.tuple #[])/\aq aa b w g (R.answered m) w':=by
 have bV:=h.s.lt;obtain⟨mf,uk⟩:=hk.peer hr hs;have KN:=oO mf hf;have aU:Below w.heap.size w (w.alloc (.cells #[.int .i64 m.kind,.int .i64 m.frm,.int .i64 m.tgt,.int .i64 m.term,.int .i64 m.idx,.int .i64 m.logTerm,.int .i64 m.commit,.int .i64 m.round,.bool m.reject,.int .i64 m.offset,.int .i64 m.total,ve,vd] 39)):=zb.alloc zl _;have cA:=ay.new w 39 #[.int .i64 m.kind,.int .i64 m.frm,.int .i64 m.tgt,.int .i64 m.term,.int .i64 m.idx,.int .i64 m.logTerm,.int .i64 m.commit,.int .i64 m.round,.bool m.reject,.int .i64 m.offset,.int .i64 m.total,ve,vd];obtain⟨w1,bM⟩:=zN (w.alloc (.cells #[.int .i64 m.kind,.int .i64 m.frm,.int .i64 m.tgt,.int .i64 m.term,.int .i64 m.idx,.int .i64 m.logTerm,.int .i64 m.commit,.int .i64 m.round,.bool m.reject,.int .i64 m.offset,.int .i64 m.total,ve,vd] 39));rw[bM]at aU cA;obtain⟨y0,y1,y2,y3,y4,y5,y6,y7,y8,y9,yA,yB,yC,-⟩:=cA.cs [0,1,2,3,4,5,6,7,8,9,10,11,12];simp only[Zx]at y0 y1 y2 y3 y4 y5 y6 y7 y8 y9 yA yB yC;obtain⟨k0,k1,k2,k3,k4,k5,k6,k7,k8,k9,kA,kB,kC⟩:=Aa [w.heap.size,g] y0 y1 y2 y3 y4 y5 y6 y7 y8 y9 yA yB yC;rw[hf]at cA bM;have h1:=h.fresh aU;obtain⟨q,c,hv,so,fR,p0,p1,p2,p3,pf⟩:=h1.peer_at mf;obtain⟨P,hP⟩:=zN (R.peer s);rw[hP]at p0 p1 p2 p3 uk;obtain⟨c0,c1,c9,c11,-⟩:=h1.s.cs [0,1,9,11];simp only[bt,vi,Zx]at c0 c1 c9 c11;rw[hv]at c0;rw[hf]at k1;have XM:q≠g:=fun e=>by have:=h1.sl;rw[e]at so;omega
 have Lk:q≠w.heap.size:=fun e=>by rw[e,aA zl]at so;omega
 have j0:=IX [w.heap.size,g] c0;have l1:=ak (w:=w1.drew) (gs:=[w.heap.size,g,q]) c1 (by simp);have l7:=ak (w:=w1.drew) (gs:=[w.heap.size,g,q]) y7 (by simp);have l3:=ak (w:=w1.drew) (gs:=[w.heap.size,g,q]) p3 (by simp);obtain⟨rd,eb⟩:∃x,max P.round (min m.round R.round)=x:=⟨_,rfl⟩;have KO:pW R s m={P with round:=rd}:=by unfold pW;rw[hP,eb]
 obtain⟨h2,pj,_⟩:=h1.setPeer (s:=s) (j:=3) (u:=.int .i64 rd) (p':={P with round:=rd}) mf hv (by omega) (by rw[hP];rfl);obtain⟨w2,eh⟩:=zN (((w1.setCell ⟨q,s*4+3,none⟩ (.int .i64 rd)).drew).drew);have pJ:ay w2 w.heap.size 39 #[.int .i64 m.kind,.int .i64 (s:Int),.int .i64 m.tgt,.int .i64 m.term,.int .i64 m.idx,.int .i64 m.logTerm,.int .i64 m.commit,.int .i64 m.round,.bool m.reject,.int .i64 m.offset,.int .i64 m.total,ve,vd]:=by
  rw[<-eh];exact(pj.block w.heap.size cA.lt fun e=>Lk e.symm).trans cA
 have xK:av (relab aa w.heap.size b) b w2 g (R.setPeer s {P with round:=rd}) v:=by
  rw[<-eh];exact(h2.below (w':=(w1.setCell ⟨q,s*4+3,none⟩ (.int .i64 rd)).drew) (zb.drew)).below (w':=((w1.setCell ⟨q,s*4+3,none⟩ (.int .i64 rd)).drew).drew) (zb.drew)
 have Bt:Fr (aH (relab aa w.heap.size b) b) w1 w2:=by
  rw[<-eh];refine Fr.mono (X:=fun k=>k=q) ?_ fun k e=>by rw[e];exact⟨by omega,by omega⟩
  exact(pj.trans (Fr.of_below (X:=fun k=>k=q) (zb.drew)) fun _ h=>.inl h).trans (Fr.of_below (X:=fun k=>k=q) (zb.drew)) fun _ h=>.inl h
 replace eb:=zH eb;replace eh:=zH eh;replace KO:=zH KO;replace KN:=zH KN;have sT:=zH hk;clear h h1 h2 pj hk;unfold iw;simp only[vi];rw[hf];go_enter func109,ntmps109;go_wp2_with fail;refine gj [w.heap.size,g] w1 [] [0,1,2,3,4,5,6,7,8] ?_;refine an ?_;simp only[af,Zx];repeat go_big_quiet_step(fail)
 apply wpQuiet_nil;go_wp2_with fail;refine bz (C:=cr [w.heap.size,g,q] w1.drew) [([0,1,2,3,4,5,6,7,8,9,10,11],12),([],13)] ([14,15],16) (by kernel_rfl) (by kernel_rfl) (fun _ _ _ _ e h=>⟨e.symm.trans h.1,h.2⟩) az ?_;refine au fun K1 cF=>?_
 simp only[af,Zx];repeat go_big_quiet_step(fail)
 apply wpQuiet_nil;go_wp2_with fail;refine⟨az,cF _ _ ?_⟩;refine au fun K2 jl=>?_
 simp only[af,Zx];apply wpQuiet_nil;go_wp2_with fail;rw[eb.out];refine⟨az,jl _ _ ?_⟩;refine aE ?_;simp only[af,Zx];repeat go_big_quiet_step(fail)
 apply wpQuiet_nil;obtain⟨pf0,pf1,pf2,pf3⟩:=(⟨pf (s*4),pf (s*4+1),pf (s*4+2),pf (s*4+3)⟩:_/\_/\_/\_);obtain⟨m0,m1,m4,m8,m9,m10,-⟩:=pJ.cs [0,1,4,8,9,10];simp only[Zx]at m0 m1 m4 m8 m9 m10;obtain⟨d9,d11,-⟩:=xK.s.cs [9,11];simp only[bt,vi,Zx]at d9 d11;have e2:=eV R s {P with round:=rd} mf;obtain⟨⟨z0,z1,z2,_⟩,⟨u0,u1,u2,_⟩,BS⟩:=xK.peer_cells (by rw[b7];exact mf) hv e2;have Am:w.heap.size<w2.heap.size:=pJ.lt;have jo:g<w2.heap.size:=xK.s.lt;obtain⟨Ad,cd,Gq,_⟩:=id xK.d;have d11':w2.cell? ⟨g,11,none⟩=some (.slice Ad R.snap.data.length cd):=by rw[d11,Gq];rfl
 replace d9:w2.cell? ⟨g,9,none⟩=some (.int .i64 R.snap.idx):=d9;clear d11 Gq;obtain⟨XE,XF⟩:=uk.2.1;obtain⟨XC,XD⟩:=uk.1;by_cases h8:m.kind=8/\0<m.total
 ·have e8:(m.kind==8)=true:=by simp[h8.1]
  have e10:=h8.2;by_cases hi:m.idx=R.snap.idx/\P.next-1<R.snap.idx
  ·have MQ:=hi.1;have Hh:=hi.2;rw[<-MQ]at d9 Hh c9;clear MQ;replace hi:=zH hi;replace h8:=zH h8;obtain⟨of,JV⟩:∃x,min m.offset (R.snap.data.length:Int)=x:=⟨_,rfl⟩;have RD:0<=of/\of<=R.snap.data.length:=by omega
   obtain⟨h3,dW,_⟩:=xK.setPeer (s:=s) (j:=2) (u:=.int .i64 of) (p':={P with round:=rd,offset:=of}) (by rw[b7];exact mf) (by rw[b7];exact hv) (by omega) (by rw[e2];rfl);rw[gZ]at h3;obtain⟨W,hW⟩:=zN (((w2.setCell ⟨q,s*4+2,none⟩ (.int .i64 of)).drew).drew);have yt:av (relab aa w.heap.size b) b W g (R.setPeer s {P with round:=rd,offset:=of}) v:=by
    rw[<-hW];exact(h3.below (w':=(w2.setCell ⟨q,s*4+2,none⟩ (.int .i64 of)).drew) (zb.drew)).below (w':=((w2.setCell ⟨q,s*4+2,none⟩ (.int .i64 of)).drew).drew) (zb.drew)
   have yu:Fr (fun k=>k=q) w2 W:=by
    rw[<-hW];exact(dW.trans (Fr.of_below (X:=fun k=>k=q) (zb.drew)) fun _ h=>.inl h).trans (Fr.of_below (X:=fun k=>k=q) (zb.drew)) fun _ h=>.inl h
   have Gb:Fr (aH (relab aa w.heap.size b) b) w1 W:=Bt.trans (yu.mono (X':=aH (relab aa w.heap.size b) b) fun k e=>by rw[e];exact⟨by omega,by omega⟩) fun k h=>.inl h
   have Xl:W.cell? ⟨w.heap.size,1,none⟩=some (.int .i64 s):=(World.cell?_of_block (yu.block w.heap.size Am fun e=>Lk e.symm)).trans m1;have aP:=nu s yt (sT.out.setPeer s (p:={P with round:=rd,offset:=of}) ⟨uk.1,uk.2.1,RD⟩) hr hs (by omega) (by omega);obtain⟨r4,r9,r0⟩:=C3 [w.heap.size,g,q] m4 d9 z0;have s9:=ak (w:=w2.drew) (gs:=[w.heap.size,g]) m9 (by simp);have s11:=ak (w:=w2.drew) (gs:=[w.heap.size,g]) d11' (by simp);replace JV:=zH JV;replace hW:=zH hW;clear h3 yt dW yu xK;go_wp2_with fail;rw[eh.out];refine gj [w.heap.size,g,q] w2 [] [0,1,2,3,4,5,6,7,8,9,10,11,12,13,14,15,16,17,18,19,20] ?_;refine an ?_;simp only[af,Zx];repeat go_big_quiet_step(fail)
   apply wpQuiet_nil;go_wp2_with fail;refine bz (C:=cr [w.heap.size,g] w2.drew) [([0,1,2,3,4,5,6,7,8],9)] ([10,11],12) (by kernel_rfl) (by kernel_rfl) (fun _ _ _ _ e h=>⟨e.symm.trans h.1,h.2⟩) az ?_;refine au fun K3 jS=>?_
   simp only[af,Zx];repeat go_big_quiet_step(fail)
   apply wpQuiet_nil;go_wp2_with fail;rw[JV.out];refine⟨az,jS _ _ ?_⟩;refine aE ?_;simp only[af,Zx];repeat go_big_quiet_step(fail)
   apply wpQuiet_nil;go_wp2_with fail;rw[hW.out];refine aP.mono ?_;rintro e w9 ⟨rfl,mV⟩;have hQ:=zH (show aq aa b w g (R.answered m) w9 by rw[KN.out,if_pos h8.out,hP,if_pos hi.out,KO.out,JV.out];exact(mV.next (fun _ _ _=>rfl) (fun _ _ h=>h) Gb).fresh aU);clear aP mV;go_wp2_with fail;exact ai rfl rfl ⟨rfl,hQ.out⟩
  ·have Gb:=Bt;have lp:aq (relab aa w.heap.size b) b w2 g (R.setPeer s {P with round:=rd}) w2:=⟨_,v,xK,fun _ _ _=>rfl,fun _ _ h=>h,Fr.refl _ _⟩;have hQ:=zH (show aq aa b w g (R.answered m) w2 by rw[KN.out,if_pos h8,hP,if_neg hi,KO.out];exact(lp.next (fun _ _ _=>rfl) (fun _ _ h=>h) Bt).fresh aU);have Tp:=zH (show aq aa b w g (R.answered m) w2.drew from hQ.out.below (zb.drew));obtain⟨r4,r9,r0⟩:=C3 [w.heap.size,g,q] m4 d9 z0;replace h8:=zH h8;clear xK lp;by_cases hx:m.idx=R.snap.idx
   ·have BX:R.snap.idx<=P.next-1:=by
     rcases Int.lt_or_le (P.next-1) R.snap.idx with h|h
     ·exact absurd ⟨hx,h⟩ hi
     ·exact h
    have Ya:(m.idx==R.snap.idx)=true:=by simp[hx]
    replace hx:=zH hx;replace hi:=zH hi;go_wp2_with fail;rw[eh.out];refine gj [w.heap.size,g,q] w2 [] [0,1,2,3,4,5,6,7,8,9,10,11,12,13,14,15,16,17,18,19,20] ?_;refine an ?_;simp only[af,Zx];repeat go_big_quiet_step(fail)
    apply wpQuiet_nil;go_wp2_with fail;exact ai rfl rfl ⟨rfl,Tp.out⟩
   ·have Ya:(m.idx==R.snap.idx)=false:=by simp[hx]
    replace hx:=zH hx;replace hi:=zH hi;go_wp2_with fail;rw[eh.out];refine gj [w.heap.size,g,q] w2 [] [0,1,2,3,4,5,6,7,8,9,10,11,12,13,14,15,16,17,18,19,20] ?_;refine an ?_;simp only[af,Zx];repeat go_big_quiet_step(fail)
    apply wpQuiet_nil;go_wp2_with fail;exact ai rfl rfl ⟨rfl,Tp.out⟩
 ·by_cases h6:m.kind=6/\m.reject=true
  ·have e8:(m.kind==8)=false:=by simp[h6.1]
   have e6:(m.kind==6)=true:=by simp[h6.1]
   have er:=h6.2;obtain⟨nx,dM⟩:∃x,max (P.mat+1) (min (P.next-1) (m.idx+1))=x:=⟨_,rfl⟩;have ZB:=uk.1;have Ax:=uk.2.1;have Nl:1<=nx/\nx<=1099511627777:=by omega
   obtain⟨h3,dW,_⟩:=xK.setPeer (s:=s) (j:=0) (u:=.int .i64 nx) (p':={P with round:=rd,next:=nx}) (by rw[b7];exact mf) (by rw[b7];exact hv) (by omega) (by rw[e2];rfl);rw[gZ,Nat.add_zero]at h3;rw[Nat.add_zero]at dW;obtain⟨W,hW⟩:=zN ((w2.setCell ⟨q,s*4,none⟩ (.int .i64 nx)).drew);have yt:av (relab aa w.heap.size b) b W g (R.setPeer s {P with round:=rd,next:=nx}) v:=by
    rw[<-hW];exact h3.below (w':=(w2.setCell ⟨q,s*4,none⟩ (.int .i64 nx)).drew) (zb.drew)
   have yu:Fr (fun k=>k=q) w2 W:=by
    rw[<-hW];exact dW.trans (Fr.of_below (X:=fun k=>k=q) (zb.drew)) fun _ h=>.inl h
   have Gb:Fr (aH (relab aa w.heap.size b) b) w1 W:=Bt.trans (yu.mono (X':=aH (relab aa w.heap.size b) b) fun k e=>by rw[e];exact⟨by omega,by omega⟩) fun k h=>.inl h
   have Xl:W.cell? ⟨w.heap.size,1,none⟩=some (.int .i64 s):=(World.cell?_of_block (yu.block w.heap.size Am fun e=>Lk e.symm)).trans m1;have aP:=nu s yt (sT.out.setPeer s (p:={P with round:=rd,next:=nx}) ⟨uk.1,Nl,uk.2.2⟩) hr hs (by omega) (by omega);obtain⟨r4,r1,r0⟩:=C3 [w.heap.size,g,q] m4 z1 z0;replace dM:=zH dM;replace hW:=zH hW;replace h6:=zH h6;replace h8:=zH h8;clear h3 yt dW yu xK;go_wp2_with fail;rw[eh.out];refine qY [w.heap.size,g,q] w2 [([0,1,2,3,4,5,6,7,8,9,10,11,12,13],14),([],15)] ([16,17],18) ?_;refine au fun K3 jS=>?_
   simp only[af,Zx];repeat go_big_quiet_step(fail)
   apply wpQuiet_nil;go_wp2_with fail;refine⟨az,jS _ _ ?_⟩;refine au fun K4 tW=>?_
   simp only[af,Zx];apply wpQuiet_nil;go_wp2_with fail;rw[dM.out];refine⟨az,tW _ _ ?_⟩;refine aE ?_;simp only[af,Zx];repeat go_big_quiet_step(fail)
   apply wpQuiet_nil;go_wp2_with fail;rw[hW.out];refine aP.mono ?_;rintro e w9 ⟨rfl,mV⟩;have hQ:=zH (show aq aa b w g (R.answered m) w9 by rw[KN.out,if_neg h8.out,if_pos h6.out,hP,KO.out,dM.out];exact(mV.next (fun _ _ _=>rfl) (fun _ _ h=>h) Gb).fresh aU);clear aP mV;go_wp2_with fail;exact ai rfl rfl ⟨rfl,hQ.out⟩
  ·have aP:=GR s m.idx xK (sT.out.setPeer s (p:={P with round:=rd}) ⟨uk.1,uk.2.1,uk.2.2⟩) hr hs (by omega) (by omega);have Gb:=Bt;have fA:((m.kind==8)=true/\(m.kind==6)=false/\m.total<=0)\/((m.kind==8)=false/\(m.kind==6)=true/\m.reject=false)\/((m.kind==8)=false/\(m.kind==6)=false):=by
    by_cases a:m.kind=8
    ·refine .inl ⟨by simp[a],by simp[a],?_⟩;rcases Int.lt_or_le 0 m.total with h|h
     ·exact absurd ⟨a,h⟩ h8
     ·exact h
    ·by_cases c:m.kind=6
     ·refine .inr (.inl ⟨by simp[a],by simp[c],?_⟩);cases oU:m.reject with
      | false=>rfl
      | true=>exact absurd ⟨c,oU⟩ h6
     ·exact .inr (.inr ⟨by simp[a],by simp[c]⟩)
   replace h6:=zH h6;replace h8:=zH h8;clear xK;rcases fA with⟨e8,e6,et⟩|⟨e8,e6,er⟩|⟨e8,e6⟩
   all_goals
    go_wp2_with fail;rw[eh.out];refine aP.mono ?_;rintro e w9 ⟨rfl,mV⟩;have hQ:=zH (show aq aa b w g (R.answered m) w9 by rw[KN.out,if_neg h8.out,if_neg h6.out,KO.out];exact(mV.next (fun _ _ _=>rfl) (fun _ _ h=>h) Gb).fresh aU);clear aP mV;go_wp2_with fail;exact ai rfl rfl ⟨rfl,hQ.out⟩
end
end
section
open Go.MapKept
theorem mE(i t:Int)(A:Option Addr)(n c:Nat)(l:List UInt8)(w:World)(hl:Rd w A n l)(hn:n<=1000000000000) :
  Calls prog 39 #[.agg #[.int .i64 i,.int .i64 t,.slice A n c]] w fun e w'=>∃A' c',e=.returned (.agg #[.int .i64 i,.int .i64 t,.slice A' n c'])/\w'.ownsRow w.heap.size 5 1 (.slice A' n c') n (l.map vb)/\Below w.heap.size w w':=by
 obtain⟨aU,cw,iq⟩:=iz w 26 26 #[.int .i64 i,.int .i64 t,.slice A n c] #[.int .i64 0,.int .i64 0,.slice none 0 0];obtain⟨w2,eh⟩:=zN ((w.alloc (.cells #[.int .i64 i,.int .i64 t,.slice A n c] 26)).alloc (.cells #[.int .i64 0,.int .i64 0,.slice none 0 0] 26));rw[eh]at aU cw iq;have gf:=nV A n c l w2 (hl.below aU) hn;obtain⟨c0,c1,c2,-⟩:=cw.cs [0,1,2];simp only[Zx]at c0 c1 c2;replace eh:=zH eh;go_enter func39,ntmps39;go_wp2_with fail;rw[eh.out];go_wp2_with fail;refine gf.mono ?_;rintro e w3 ⟨A',c',rfl,aJ,cv⟩;clear gf;have oo:w.heap.size+1<w2.heap.size:=iq.lt;have Hi:=cw.kept cv;have Hk:=iq.kept cv;obtain⟨d0,d1,d2,-⟩:=Hi.cs [0,1,2];simp only[Zx]at d0 d1 d2;obtain⟨e0,e1,e2,-⟩:=Hk.cs [0,1,2];simp only[Zx]at e0 e1 e2;have f2:=Hi.free 2;obtain⟨g0,g1,g2,-⟩:=Hk.fs [0,1,2];have eI:=aj aU cv zl;go_wp2_with fail;obtain⟨w4,gi⟩:=zN ((((w3.setCell ⟨w.heap.size,2,none⟩ (.slice A' n c')).setCell ⟨w.heap.size+1,0,none⟩ (.int .i64 i)).setCell ⟨w.heap.size+1,1,none⟩ (.int .i64 t)).setCell ⟨w.heap.size+1,2,none⟩ (.slice A' n c'));have mo:Fr (fun j=>j=w.heap.size\/j=w.heap.size+1) w3 w4:=by
  rw[<-gi];exact((((Fr.set w.heap.size 2 _).mono (X':=fun j=>j=w.heap.size\/j=w.heap.size+1) fun _ h=>.inl h).trans ((Fr.set (w.heap.size+1) 0 _).mono (X':=fun j=>j=w.heap.size\/j=w.heap.size+1) fun _ h=>.inr h) fun _ h=>.inl h).trans ((Fr.set (w.heap.size+1) 1 _).mono (X':=fun j=>j=w.heap.size\/j=w.heap.size+1) fun _ h=>.inr h) fun _ h=>.inl h).trans ((Fr.set (w.heap.size+1) 2 _).mono (X':=fun j=>j=w.heap.size\/j=w.heap.size+1) fun _ h=>.inr h) fun _ h=>.inl h
 have LA:ay w4 (w.heap.size+1) 26 #[.int .i64 i,.int .i64 t,.slice A' n c']:=by
  rw[<-gi];have s0:ay (w3.setCell ⟨w.heap.size,2,none⟩ (.slice A' n c')) (w.heap.size+1) 26 #[.int .i64 0,.int .i64 0,.slice none 0 0]:=((Fr.set (w:=w3) w.heap.size 2 (.slice A' n c')).block (w.heap.size+1) Hk.lt (by omega)).trans Hk;have s:=((s0.set_ 0 (.int .i64 i)).set_ 1 (.int .i64 t)).set_ 2 (.slice A' n c');simp only[Zy]at s;exact s
 have gp:w4.ownsRow w.heap.size 5 1 (.slice A' n c') n (l.map vb):=fY (dG aJ fun j hj hl=>mo.block j hl fun e=>by
  have:=(aI aJ A' c' rfl j hj).2.1;omega) (by omega)
 have dV:Below w.heap.size w w4:=eI.trans (mo.below (by intro j e;omega) (by have:=eI.size;omega));rw[gi];obtain⟨r0,r1,r2,-⟩:=LA.cs [0,1,2];simp only[Zx]at r0 r1 r2;exact bodyPost_ret (v:=.agg #[.int .i64 i,.int .i64 t,.slice A' n c']) (by simp[results,results39,go_sem,r0,r1,r2]) rfl ⟨A',c',rfl,gp,dV⟩
theorem AT{i tm:Int}(hb:kQ i tm=true)(aa:Nat->Nat)(q:Nat)(w:World):Calls prog 38 #[.int .i64 i,.int .i64 tm] w fun e w'=>e=.returned (.pointer (some ⟨w.heap.size,0,none⟩))/\rL (relab aa w.heap.size q) q w' (.pointer (some ⟨w.heap.size,0,none⟩)) ⟨i,tm,[]⟩/\Below w.heap.size w w':=by
 refine(HU hb w).mono ?_;rintro e w' ⟨rfl,hk,Jn⟩;refine⟨rfl,⟨w.heap.size,fun _=>False,none,0,0,[],rfl,⟨hk,ek _ _,fun z hz=>(by cases hz),rfl,⟨?_,fun i x hx=>(by cases hx),fun x hx=>(by cases hx),fun i x hx=>(by cases hx)⟩,Nat.zero_le _,fun j h=>h.elim⟩,fun j hj=>?_⟩,Jn⟩
 ·unfold kQ fF at hb;simp only[Bool.or_eq_true,Bool.and_eq_true,decide_eq_true_eq]at hb;show(i=0/\tm=0)\/(1<=i/\i<=_/\1<=tm/\tm<=_);omega
 ·rcases hj with rfl|⟨_,e,_⟩|h
  ·exact aA zl
  ·cases e
  ·exact h.elim
end
section
open Go.MapKept
section
variable {aa dX:Nat->Nat}{b g p n c c':Nat}{w w3 w7:World}{R R1:Rf}{v v' v3:Rw}{A A':Option Addr}
def qz(R1:Rf)(x:x7):Rf:={R1 with snap:=x,commit:=x.idx,gath:=HZ,out:={R1.out with snap:=some x,save:=true}}
theorem yq{R':Rf}(h:ay w g 107 (bt R v))(h':ay w g 107 (bt R' v')):v.gat=v'.gat:=by
 have a:=h.cell 21;have a':=h'.cell 21;simp only[bt,Zx]at a a';rw[a]at a';exact Option.some.inj a'
theorem tc(i t:Int)(h:av dX b w3 g R1 v3)(hv:v3.gat=.slice A n c)(hn:n=R1.gath.data.length)(ug:n<=65536)(hS:ay w7 g 107 (bt (qz R1 ⟨i,t,R1.gath.data⟩) {v3 with dat:=.slice A n c,gat:=.slice none 0 0,snp:=.pointer (some ⟨p,0,none⟩)}))
  (hF:Fr (fun j=>j=g) w3 w7) (hp:w3.heap.size<=p) (hk:ay w7 p 26 #[.int .i64 i,.int .i64 t,.slice A' n c']) (ho:w7.ownsRow w3.heap.size 5 1 (.slice A' n c') n (R1.gath.data.map vb)):aq dX b w3 g (qz R1 ⟨i,t,R1.gath.data⟩) w7:=by
 obtain⟨A0,c0,e0,aJ,ir⟩:=id h.gd;rw[hv]at e0;injection e0 with e1 e2 e3;subst e1;subst e3;have L:∀j,j<w3.heap.size->(if w3.heap.size<=j then b+13 else if dX j=b+7 then b+6 else if dX j=b+6 then b+7 else dX j)=if dX j=b+7 then b+6 else if dX j=b+6 then b+7 else dX j:=fun j hj=>if_neg (by omega)
 have jV:=aZ ho;have ob:=aZ aJ;refine⟨fun j=>if w3.heap.size<=j then b+13 else if dX j=b+7 then b+6 else if dX j=b+6 then b+7 else dX j,_,h.turn [6,7] hS (fun k j h0 h1 hX hj e=>?_) (by simp) (hF.mono fun j e=>.inl e)
  tI tI tI tI (.inl ?_) (.inl (aX.nil _ _ _ _ _)) tI tI (.inl ?_) tI tI,fun j hj hm=>?_,fun j hj hm=>?_,hF.mono fun j e=>?_⟩
 ·show(if w3.heap.size<=j then b+13 else if dX j=b+7 then b+6 else if dX j=b+6 then b+7 else dX j)=b+k;rw[L j hj,if_neg fun h=>hX (by simp;omega),if_neg fun h=>hX (by simp;omega)];exact e
 ·have bh:∀j,aR A j->j<w3.heap.size:=fun j hj=>(aI aJ A c rfl j hj).1
  have jD:=dG aJ fun j hj hl=>hF.block j hl fun e=>by
   have a:=ir j hj;rw[e]at a;have:=h.sl;omega
  refine⟨A,c,(show Value.slice A n c=.slice A R1.gath.data.length c by rw[hn]),cj.of_own jD,ob.1,ob.2,fun _ ad e=>?_⟩;show(if w3.heap.size<=ad.block then b+13 else if dX ad.block=b+7 then b+6 else if dX ad.block=b+6 then b+7 else dX ad.block)=b+6;rw[L _ (bh _ ⟨ad,e,rfl⟩),if_pos (ir _ ⟨ad,e,rfl⟩)]
 ·refine⟨p,.slice A' n c',rfl,if_pos hp,hk,?_⟩;subst hn;exact⟨⟨A',c',rfl,cj.of_own ho,jV.1,jV.2,fun _ ad e=>if_pos (aI ho A' c' rfl _ ⟨ad,e,rfl⟩).2.1⟩,Aj.of_own ho⟩
 ·show(if w3.heap.size<=j then b+13 else if dX j=b+7 then b+6 else if dX j=b+6 then b+7 else dX j)=dX j;unfold aH at hm;rw[L j hj,if_neg (by omega),if_neg (by omega)]
 ·unfold aH at hm ⊢;simp only;rw[L j hj];split
  ·omega
  ·split
   ·omega
   ·exact hm
 ·rw[e];have:=h.sl;exact⟨by omega,by omega⟩
theorem mK(R:Rf)(x:x7):R.install x=qz (if R.track.termF x.idx=(x.term,0)then {R with track:=(R.track.dropF x.idx).2}else {R with track:=⟨x.idx,x.term,[]⟩,out:={R.out with reset:=true}}) x:=rfl
theorem wL{K M:Nat}(i t:Int)(h:av aa b w g R v)(hk:Ok K M R)(hK:K<=10000000000)(fT:1<=i)(xR:i<=1099511627776)(BU:1<=t)(pL:t<=1099511627776)(hn:n=R.gath.data.length)(hv:v.gat=.slice A n c) :
  Calls prog 137 #[.pointer (some ⟨g,0,none⟩),.agg #[.int .i64 i,.int .i64 t,.slice A n c]] w fun e w'=>e=.returned (.tuple #[])/\aq aa b w g (R.install ⟨i,t,R.gath.data⟩) w':=by
 have bV:=h.s.lt;have aU:Below w.heap.size w (w.alloc (.cells #[.int .i64 i,.int .i64 t,.slice A n c] 26)):=zb.alloc zl _;have cA:=ay.new w 26 #[.int .i64 i,.int .i64 t,.slice A n c];obtain⟨w1,bM⟩:=zN (w.alloc (.cells #[.int .i64 i,.int .i64 t,.slice A n c] 26));rw[bM]at aU cA;have hX:=bX.start (N:=1) h aU (by have:=cA.lt;omega);obtain⟨ar,v1,h1,qo⟩:=hX.raft;have aM:v1.gat=.slice A n c:=(yq h1.s (h.below aU).s).trans hv;have hN:R.track.L.length<=100000000000:=by have:=hk.trk;omega
 have BH:=hk.gat;rw[<-hn]at BH;obtain⟨y0,y1,y2,-⟩:=cA.cs [0,1,2];simp only[Zx]at y0 y1 y2;have c8:=h1.s.cell 8;simp only[bt,vi,Zx]at c8;obtain⟨k0,k8⟩:=rQ [g,w.heap.size] y0 c8;have g4:g<w1.heap.size:=h1.s.lt;have bY:∀q∈[g,w.heap.size],q<w1.heap.size:=by simp;exact⟨g4,cA.lt⟩
 have cl:=lG i (h1.below (w':=w1.drew) (zb.drew)).t hN;obtain⟨tt,pM⟩:=zN (R.track.termF i);rw[pM]at cl;have hI:=mK R ⟨i,t,R.gath.data⟩;rw[show R.track.termF (x7.mk i t R.gath.data).idx=tt from pM]at hI;have Ih:=mQ R.track i;rw[pM]at Ih;replace hI:=zH hI;replace hn:=zH hn;replace bM:=zH bM;clear h hX pM;go_enter func137,ntmps137;go_wp2_with fail;rw[bM.out];refine gj [g,w.heap.size] w1 [([0,1,2,3,4,5],6)] [7,8,9,10,11] ?_;refine aC fun K1 cF=>?_
 simp only[af,Zx];repeat go_big_quiet_step(fail)
 apply wpQuiet_nil;go_wp2_with fail;refine cl.mono ?_;rintro e w2 ⟨rfl,bU⟩;clear cl;go_wp2_with fail;have cI:Below w1.heap.size w1 w2:=(zb.drew).trans bU;refine⟨aw bY cI,cF _ _ ?_⟩;refine an ?_;simp only[af,Zx];repeat go_big_quiet_step(fail)
 apply wpQuiet_nil;have h2:=h1.below cI;obtain⟨xN,yF⟩:=qo w2 R ⟨ar,v1,h2,fun _ _ _=>rfl,fun _ _ h=>h,Fr.of_below cI⟩;have pJ:=cA.kept cI;by_cases hc:tt=(t,0)
 ·have gE:=zH (hI.out.trans (by rw[if_pos hc]):R.install ⟨i,t,R.gath.data⟩=qz {R with track:=(R.track.dropF i).2} ⟨i,t,R.gath.data⟩);have e1:(tt.2==0)=true:=by simp[hc]
  have e2:(tt.1==t)=true:=by simp[hc]
  have sR:=FY i (h2.below (w':=w2.drew) (zb.drew)) hN;have d8:=h2.s.cell 8;simp only[bt,vi,Zx]at d8;obtain⟨o0,o1,-⟩:=pJ.cs [0,1];simp only[Zx]at o0 o1;obtain⟨r8,r0⟩:=rQ [g,w.heap.size] d8 o0;replace hc:=zH hc;clear hI;go_wp2_with fail;refine qY [g,w.heap.size] w2 [] ([0,1,2,3,4,5],6) ?_;refine aE ?_;simp only[af,Zx];repeat go_big_quiet_step(fail)
  apply wpQuiet_nil;go_wp2_with fail;refine sR.mono ?_;rintro e w3 ⟨rfl,hT⟩;clear sR d8 o0 o1 r8 r0;obtain⟨Qe,_,EN⟩:=(⟨xN,yF,fun w' R2 (hP:aq ar b w2 g R2 w')=>qo w' R2 (hP.behind cI)⟩:bX aa b w g R 1 w2/\_/\∀w' R2,aq ar b w2 g R2 w'->bX aa b w g R2 1 w'/\cD w.heap.size 1 w1 w');obtain⟨se,ky⟩:=EN w3 _ (hT.post.behind (w:=w2) (zb.drew));have Oz:=hT.blk;obtain⟨R1,jT⟩:=zN (({R with track:=(R.track.dropF i).2}:Rf));have uc:R1.gath.data=R.gath.data:=by rw[<-jT]
  rw[jT]at se Oz gE;obtain⟨dX,v3,h3,gG⟩:=se.raft;have bb:v3.gat=.slice A n c:=(yq h3.s Oz).trans aM;have As:ay w3 w.heap.size 26 #[.int .i64 i,.int .i64 t,.slice A n c]:=ky.blk zl (by omega) cA;clear hT Oz se xN Qe EN qo h1 h2 jT yF ky y0 y1 y2 c8 k0 k8 pJ cA e1 e2;have JC:g≠w.heap.size:=by omega
  obtain⟨m0,m1,m2,-⟩:=As.cs [0,1,2];simp only[Zx]at m0 m1 m2;obtain⟨s9,s10,s11,s12,s17,s18,s19,s20,s21,s22,s28,-⟩:=h3.s.cs [9,10,11,12,17,18,19,20,21,22,28];simp only[bt,vi,Zx]at s9 s10 s11 s12 s17 s18 s19 s20 s21 s22 s28;obtain⟨f9,f10,f11,f12,f17,f18,f19,f20,f21,-⟩:=h3.s.fs [9,10,11,12,17,18,19,20,21];obtain⟨q0,q1,q2⟩:=C3 [w.heap.size] m0 m1 m2;have e:∀{a b:World},Fr (fun j=>j=g) w3 a->Fr (fun j=>j=g) a b->Fr (fun j=>j=g) w3 b:=fun h h'=>h.trans h' fun _ h=>.inl h
  have Bs:=e (e (Fr.set (w:=w3) g 9 (.int .i64 i)) (Fr.set g 10 (.int .i64 t))) (Fr.set g 11 (.slice A n c));have Gc:=e Bs (Fr.set g 12 (.int .i64 i));have LK:=e (e (e (e (e Gc (Fr.set g 17 (.int .i64 0))) (Fr.set g 18 (.int .i64 0))) (Fr.set g 19 (.int .i64 0))) (Fr.set g 20 (.int .i64 0))) (Fr.set g 21 (.slice none 0 0));have tX:=((((((((h3.s.set_ 9 (.int .i64 i)).set_ 10 (.int .i64 t)).set_ 11 (.slice A n c)).set_ 12 (.int .i64 i)).set_ 17 (.int .i64 0)).set_ 18 (.int .i64 0)).set_ 19 (.int .i64 0)).set_ 20 (.int .i64 0)).set_ 21 (.slice none 0 0);simp only[bt,Zy]at tX;obtain⟨w4,gi⟩:=zN ((((((((((w3.setCell ⟨g,9,none⟩ (.int .i64 i)).setCell ⟨g,10,none⟩ (.int .i64 t)).setCell ⟨g,11,none⟩ (.slice A n c)).setCell ⟨g,12,none⟩ (.int .i64 i)).setCell ⟨g,17,none⟩ (.int .i64 0)).setCell ⟨g,18,none⟩ (.int .i64 0)).setCell ⟨g,19,none⟩ (.int .i64 0)).setCell ⟨g,20,none⟩ (.int .i64 0)).setCell ⟨g,21,none⟩ (.slice none 0 0)).drew);have mo:Fr (fun j=>j=g) w3 w4:=by rw[<-gi];exact e LK (Fr.of_below (zb.drew))
  replace tX:=tX.kept (zb.drew);rw[gi]at tX;replace tX:=(show ay w4 g 107 (bt {R1 with snap:=⟨i,t,R1.gath.data⟩,commit:=i,gath:=HZ} {v3 with dat:=.slice A n c,gat:=.slice none 0 0})from tX);have ig:w.heap.size<w3.heap.size:=As.lt;have Rp:ay w4 w.heap.size 26 #[.int .i64 i,.int .i64 t,.slice A n c]:=(mo.block w.heap.size ig (fun e=>JC e.symm)).trans As;have P5:Rd w4 A n R1.gath.data:=by
   obtain⟨A0,c0,e0,aJ,ir⟩:=id h3.gd;rw[bb]at e0;injection e0 with e1 e2 e3;subst e1;subst e3;have ab:n=R1.gath.data.length:=e2;have:=dG aJ fun j hj hl=>mo.block j hl fun e=>by
    have a:=ir j hj;rw[e]at a;have:=h3.sl;omega
   rw[ab];exact cj.of_own this
  have Ek:=mE i t A n c R1.gath.data w4 P5 (by omega);have JS:n=R1.gath.data.length:=by rw[uc];exact hn.out
  obtain⟨x0,x1,x2,-⟩:=Rp.cs [0,1,2];simp only[Zx]at x0 x1 x2;replace gi:=zH gi;replace JS:=zH JS;clear e;go_wp2_with fail;refine qY [w.heap.size] w3 [([0,1,2,3,4,5,6,7,8],9),([10,11],12)] ([13,14],15) ?_;refine au fun K5 Bu=>?_
  simp only[af,Zx];repeat go_big_quiet_step(fail)
  apply wpQuiet_nil;go_wp2_with fail;refine⟨db (Bs.block w.heap.size ig fun e=>JC e.symm),Bu _ _ ?_⟩;refine au fun K6 Bv=>?_
  simp only[af,Zx];repeat go_big_quiet_step(fail)
  apply wpQuiet_nil;go_wp2_with fail;refine⟨db (Gc.block w.heap.size ig fun e=>JC e.symm),Bv _ _ ?_⟩;refine aE ?_;simp only[af,Zx];repeat go_big_quiet_step(fail)
  apply wpQuiet_nil;go_wp2_with fail;rw[gi.out];go_wp2_with fail;refine Ek.mono ?_;rintro e w5 ⟨A',c',rfl,cX,dp⟩;clear Ek m0 m1 m2 q0 q1 q2 f9 f10 f11 f12 f17 f18 f19 f20 f21 s9 s10 s11 s12 s17 s18 s19 s20 s21 s22 s28 x0 x1 x2 Bs Gc LK;have uU:=tX.kept dp;have lN:g<w5.heap.size:=uU.lt;have np:Below w5.heap.size w5 (w5.alloc (.cells #[.int .i64 i,.int .i64 t,.slice A' n c'] 26)):=zb.alloc zl _;have jv:=ay.new w5 26 #[.int .i64 i,.int .i64 t,.slice A' n c'];have jm:=uU.kept np;have kZ:=bF cX np;obtain⟨w6,mJ⟩:=zN (w5.alloc (.cells #[.int .i64 i,.int .i64 t,.slice A' n c'] 26));rw[mJ]at np jv jm kZ;obtain⟨u22,u28,-⟩:=jm.cs [22,28];simp only[bt,vi,Zx]at u22 u28;obtain⟨n22,n28,-⟩:=jm.fs [22,28];obtain⟨p,hp⟩:=zN (w5.heap.size);have ER:p≠g:=by omega
  have Hu:w3.heap.size<=p:=by have:=mo.size;have:=dp.size;omega
  rw[hp]at jv;have BA:=(jm.set_ 28 (.pointer (some ⟨p,0,none⟩))).set_ 22 (.bool true);simp only[bt,Zy]at BA;have DX:Fr (fun j=>j=g) w6 ((w6.setCell ⟨g,28,none⟩ (.pointer (some ⟨p,0,none⟩))).setCell ⟨g,22,none⟩ (.bool true)):=(Fr.set g 28 _).trans (Fr.set g 22 _) fun _ h=>.inl h
  have yv:=tc i t h3 bb JS.out BH BA (((mo.trans (Fr.of_below (X:=fun j=>j=g) dp) fun _ h=>.inl h).trans (Fr.of_below (X:=fun j=>j=g) np) fun _ h=>.inl h).trans DX fun _ h=>.inl h) Hu ((DX.block p jv.lt ER).trans jv)
   (fY (dG kZ fun j hj hl=>DX.block j hl fun e=>by
    have:=(aI kZ A' c' rfl j hj).2.1;have:=tX.lt;omega) mo.size)
  have hQ:=zH (show aq aa b w g (R.install ⟨i,t,R.gath.data⟩) _ from by rw[gE.out,<-uc];exact(gG _ _ yv).1.post);clear yv BA DX jm kZ jv cX tX uU h3 gG;go_wp2_with fail;exact ai rfl rfl ⟨rfl,hQ.out⟩
 ·have gE:=zH (hI.out.trans (by rw[if_neg hc]):R.install ⟨i,t,R.gath.data⟩=qz {R with track:=⟨i,t,[]⟩,out:={R.out with reset:=true}} ⟨i,t,R.gath.data⟩);have fA:(tt.2==0)=false\/((tt.2==0)=true/\(tt.1==t)=false):=by
   by_cases e1:tt.2=0
   ·refine .inr ⟨by simp[e1],?_⟩;have:tt.1≠t:=fun e=>hc (by rw[<-e,<-e1])
    simp[this]
   ·exact .inl (by simp[e1])
  have iA:kQ i t=true:=by
   unfold kQ fF;simp only[Bool.or_eq_true,Bool.and_eq_true,decide_eq_true_eq];omega
  have Dl:=AT iA ar (b+2) w2;obtain⟨o0,o1,-⟩:=pJ.cs [0,1];simp only[Zx]at o0 o1;have jo:g<w2.heap.size:=h2.s.lt;obtain⟨R1,jT⟩:=zN (({R with track:=⟨i,t,[]⟩,out:={R.out with reset:=true}}:Rf));have uc:R1.gath.data=R.gath.data:=by rw[<-jT]
  rw[jT]at gE;have fJ:=zH (show ∀w9,rL (relab ar w2.heap.size (b+2)) (b+2) w9 (.pointer (some ⟨w2.heap.size,0,none⟩)) ⟨i,t,[]⟩->Below w2.heap.size w2 w9->
    ∃dX v3,av dX b ((w9.setCell ⟨g,8,none⟩ (.pointer (some ⟨w2.heap.size,0,none⟩))).setCell ⟨g,23,none⟩ (.bool true)) g R1 v3/\v3.gat=.slice A n c/\(∀w' R2,aq dX b ((w9.setCell ⟨g,8,none⟩ (.pointer (some ⟨w2.heap.size,0,none⟩))).setCell ⟨g,23,none⟩ (.bool true)) g R2 w'->aq aa b w g R2 w')/\ay ((w9.setCell ⟨g,8,none⟩ (.pointer (some ⟨w2.heap.size,0,none⟩))).setCell ⟨g,23,none⟩ (.bool true)) w.heap.size 26 #[.int .i64 i,.int .i64 t,.slice A n c]from fun w9 fN mY=>by
   have Wn:=h2.s.kept mY;have GO:Fr (fun j=>j=g) w9 ((w9.setCell ⟨g,8,none⟩ (.pointer (some ⟨w2.heap.size,0,none⟩))).setCell ⟨g,23,none⟩ (.bool true)):=(Fr.set g 8 _).trans (Fr.set g 23 _) fun _ h=>.inl h
   have LT:=(Wn.set_ 8 (.pointer (some ⟨w2.heap.size,0,none⟩))).set_ 23 (.bool true);simp only[bt,Zy]at LT;replace LT:ay ((w9.setCell ⟨g,8,none⟩ (.pointer (some ⟨w2.heap.size,0,none⟩))).setCell ⟨g,23,none⟩ (.bool true)) g 107 (bt R1 {v1 with trk:=.pointer (some ⟨w2.heap.size,0,none⟩)}):=by rw[<-jT];exact LT
   have mV:aq ar b w2 g R1 ((w9.setCell ⟨g,8,none⟩ (.pointer (some ⟨w2.heap.size,0,none⟩))).setCell ⟨g,23,none⟩ (.bool true)):=by
    refine aq.turn (ac:=relab ar w2.heap.size (b+2)) [2] h2 LT (fun j hj=>ae hj) (by simp) (((Fr.of_below (X:=fun j=>j=g) mY).trans GO fun _ h=>.inl h).mono fun j e=>.inl e) (.inl ?_)
     (.inr ⟨by simp,rfl,by rw[<-jT]⟩) (.inr ⟨by simp,rfl,by rw[<-jT]⟩) (.inr ⟨by simp,rfl,by rw[<-jT]⟩) (.inr ⟨by simp,rfl,by rw[<-jT]⟩) (.inr ⟨by simp,rfl,by rw[<-jT]⟩) (.inr ⟨by simp,rfl,by rw[<-jT]⟩) (.inr ⟨by simp,rfl,by rw[<-jT]⟩) (.inr ⟨by simp,rfl,by rw[<-jT]⟩) (.inr ⟨by simp,rfl,by rw[<-jT]⟩) (.inr ⟨by simp,rfl,by rw[<-jT]⟩)
    rw[show R1.track=⟨i,t,[]⟩ by rw[<-jT]];refine fN.keep fun j hj hl=>GO.block j hl fun e=>?_
    rw[e,ae jo]at hj;have:=h2.sl;omega
   obtain⟨iR,Qw⟩:=qo _ _ (mV.behind cI);obtain⟨dX,v3,h3,gG⟩:=iR.raft;exact⟨dX,v3,h3,(yq h3.s LT).trans aM,fun w' R2 hP=>(gG w' R2 hP).1.post,Qw.blk zl (by omega) cA⟩)
  obtain⟨Ii,Js,-⟩:=h2.s.cs [8,23];simp only[bt,vi,Zx]at Ii Js;obtain⟨QN,QM,-⟩:=h2.s.fs [8,23];replace hc:=zH hc;clear hI h2 qo h1 xN yF pJ cA y0 y1 y2 c8 k0 k8 jT Ih;rcases fA with e1|⟨e1,e2⟩
  all_goals
   go_wp2_with fail;refine Dl.mono ?_;rintro e w9 ⟨rfl,fN,mY⟩;obtain⟨dX,v3,h3,bb,gG,As⟩:=fJ.out w9 fN mY;have a8:=(mY.cell (aG Ii)).trans Ii;have a23:=(mY.cell (aG Js)).trans Js;have b8:=(mY.frozen (p:=⟨g,8,none⟩) jo).trans QN;have b23:=(mY.frozen (p:=⟨g,23,none⟩) jo).trans QM;clear Dl fN fJ;obtain⟨w3,fX⟩:=zN ((w9.setCell ⟨g,8,none⟩ (.pointer (some ⟨w2.heap.size,0,none⟩))).setCell ⟨g,23,none⟩ (.bool true));rw[fX]at h3 gG As;replace fX:=zH fX;have JC:g≠w.heap.size:=by omega
   obtain⟨m0,m1,m2,-⟩:=As.cs [0,1,2];simp only[Zx]at m0 m1 m2;obtain⟨s9,s10,s11,s12,s17,s18,s19,s20,s21,s22,s28,-⟩:=h3.s.cs [9,10,11,12,17,18,19,20,21,22,28];simp only[bt,vi,Zx]at s9 s10 s11 s12 s17 s18 s19 s20 s21 s22 s28;obtain⟨f9,f10,f11,f12,f17,f18,f19,f20,f21,-⟩:=h3.s.fs [9,10,11,12,17,18,19,20,21];obtain⟨q0,q1,q2⟩:=C3 [w.heap.size] m0 m1 m2;have e:∀{a b:World},Fr (fun j=>j=g) w3 a->Fr (fun j=>j=g) a b->Fr (fun j=>j=g) w3 b:=fun h h'=>h.trans h' fun _ h=>.inl h
   have Bs:=e (e (Fr.set (w:=w3) g 9 (.int .i64 i)) (Fr.set g 10 (.int .i64 t))) (Fr.set g 11 (.slice A n c));have Gc:=e Bs (Fr.set g 12 (.int .i64 i));have LK:=e (e (e (e (e Gc (Fr.set g 17 (.int .i64 0))) (Fr.set g 18 (.int .i64 0))) (Fr.set g 19 (.int .i64 0))) (Fr.set g 20 (.int .i64 0))) (Fr.set g 21 (.slice none 0 0));have tX:=((((((((h3.s.set_ 9 (.int .i64 i)).set_ 10 (.int .i64 t)).set_ 11 (.slice A n c)).set_ 12 (.int .i64 i)).set_ 17 (.int .i64 0)).set_ 18 (.int .i64 0)).set_ 19 (.int .i64 0)).set_ 20 (.int .i64 0)).set_ 21 (.slice none 0 0);simp only[bt,Zy]at tX;obtain⟨w4,gi⟩:=zN ((((((((((w3.setCell ⟨g,9,none⟩ (.int .i64 i)).setCell ⟨g,10,none⟩ (.int .i64 t)).setCell ⟨g,11,none⟩ (.slice A n c)).setCell ⟨g,12,none⟩ (.int .i64 i)).setCell ⟨g,17,none⟩ (.int .i64 0)).setCell ⟨g,18,none⟩ (.int .i64 0)).setCell ⟨g,19,none⟩ (.int .i64 0)).setCell ⟨g,20,none⟩ (.int .i64 0)).setCell ⟨g,21,none⟩ (.slice none 0 0)).drew);have mo:Fr (fun j=>j=g) w3 w4:=by rw[<-gi];exact e LK (Fr.of_below (zb.drew))
   replace tX:=tX.kept (zb.drew);rw[gi]at tX;replace tX:=(show ay w4 g 107 (bt {R1 with snap:=⟨i,t,R1.gath.data⟩,commit:=i,gath:=HZ} {v3 with dat:=.slice A n c,gat:=.slice none 0 0})from tX);have ig:w.heap.size<w3.heap.size:=As.lt;have Rp:ay w4 w.heap.size 26 #[.int .i64 i,.int .i64 t,.slice A n c]:=(mo.block w.heap.size ig (fun e=>JC e.symm)).trans As;have P5:Rd w4 A n R1.gath.data:=by
    obtain⟨A0,c0,e0,aJ,ir⟩:=id h3.gd;rw[bb]at e0;injection e0 with e1 e2 e3;subst e1;subst e3;have ab:n=R1.gath.data.length:=e2;have:=dG aJ fun j hj hl=>mo.block j hl fun e=>by
     have a:=ir j hj;rw[e]at a;have:=h3.sl;omega
    rw[ab];exact cj.of_own this
   have Ek:=mE i t A n c R1.gath.data w4 P5 (by omega);have JS:n=R1.gath.data.length:=by rw[uc];exact hn.out
   obtain⟨x0,x1,x2,-⟩:=Rp.cs [0,1,2];simp only[Zx]at x0 x1 x2;replace gi:=zH gi;replace JS:=zH JS;clear e;go_wp2_with fail;rw[fX.out];refine qY [w.heap.size] w3 [([0,1,2,3,4,5,6,7,8],9),([10,11],12)] ([13,14],15) ?_;refine au fun K5 Bu=>?_
   simp only[af,Zx];repeat go_big_quiet_step(fail)
   apply wpQuiet_nil;go_wp2_with fail;refine⟨db (Bs.block w.heap.size ig fun e=>JC e.symm),Bu _ _ ?_⟩;refine au fun K6 Bv=>?_
   simp only[af,Zx];repeat go_big_quiet_step(fail)
   apply wpQuiet_nil;go_wp2_with fail;refine⟨db (Gc.block w.heap.size ig fun e=>JC e.symm),Bv _ _ ?_⟩;refine aE ?_;simp only[af,Zx];repeat go_big_quiet_step(fail)
   apply wpQuiet_nil;go_wp2_with fail;rw[gi.out];go_wp2_with fail;refine Ek.mono ?_;rintro e w5 ⟨A',c',rfl,cX,dp⟩;clear Ek m0 m1 m2 q0 q1 q2 f9 f10 f11 f12 f17 f18 f19 f20 f21 s9 s10 s11 s12 s17 s18 s19 s20 s21 s22 s28 x0 x1 x2 Bs Gc LK;have uU:=tX.kept dp;have lN:g<w5.heap.size:=uU.lt;have np:Below w5.heap.size w5 (w5.alloc (.cells #[.int .i64 i,.int .i64 t,.slice A' n c'] 26)):=zb.alloc zl _;have jv:=ay.new w5 26 #[.int .i64 i,.int .i64 t,.slice A' n c'];have jm:=uU.kept np;have kZ:=bF cX np;obtain⟨w6,mJ⟩:=zN (w5.alloc (.cells #[.int .i64 i,.int .i64 t,.slice A' n c'] 26));rw[mJ]at np jv jm kZ;obtain⟨u22,u28,-⟩:=jm.cs [22,28];simp only[bt,vi,Zx]at u22 u28;obtain⟨n22,n28,-⟩:=jm.fs [22,28];obtain⟨p,hp⟩:=zN (w5.heap.size);have ER:p≠g:=by omega
   have Hu:w3.heap.size<=p:=by have:=mo.size;have:=dp.size;omega
   rw[hp]at jv;have BA:=(jm.set_ 28 (.pointer (some ⟨p,0,none⟩))).set_ 22 (.bool true);simp only[bt,Zy]at BA;have DX:Fr (fun j=>j=g) w6 ((w6.setCell ⟨g,28,none⟩ (.pointer (some ⟨p,0,none⟩))).setCell ⟨g,22,none⟩ (.bool true)):=(Fr.set g 28 _).trans (Fr.set g 22 _) fun _ h=>.inl h
   have yv:=tc i t h3 bb JS.out BH BA (((mo.trans (Fr.of_below (X:=fun j=>j=g) dp) fun _ h=>.inl h).trans (Fr.of_below (X:=fun j=>j=g) np) fun _ h=>.inl h).trans DX fun _ h=>.inl h) Hu ((DX.block p jv.lt ER).trans jv)
    (fY (dG kZ fun j hj hl=>DX.block j hl fun e=>by
     have:=(aI kZ A' c' rfl j hj).2.1;have:=tX.lt;omega) mo.size)
   have hQ:=zH (show aq aa b w g (R.install ⟨i,t,R.gath.data⟩) _ from by rw[gE.out,<-uc];exact gG _ _ yv);clear yv BA DX jm kZ jv cX tX uU h3 gG;go_wp2_with fail;exact ai rfl rfl ⟨rfl,hQ.out⟩
end
end
section
open Go.MapKept
theorem oC{w:World}{ops:Array Oper}{rest:List Oper}{o:Oper}{a:Act}{Q:Exit->Act->World->Prop}(iJ:o.guard=none)(s x:Operand)
  (ho:o.op=.call {callee:=.builtin .append,args:=#[s,x],argTypes:=#[24,24]})
  (base:Nat) {A:Option Addr} {n c:Nat} {l:List UInt8} (hs:a.eval s=.slice A n c) (aJ:w.ownsRow base 5 1 (.slice A n c) n (l.map vb))
  {B:Option Addr} {m d:Nat} {r:List UInt8} (hx:a.eval x=.slice B m d) (hr:Rd w B m r) (hb:n+m<=1000000000000) (bD:base<=w.heap.size)
  (h:∀A' c' w',w'.ownsRow base 5 1 (.slice A' (n+m) c') (n+m) ((l++r).map vb)->Fr (aR A) w w'->(∀j,aR A' j->aR A j\/w.heap.size<=j)->wpList prog ops Q rest (a.put o.dst (.slice A' (n+m) c')) w'):wpList prog ops Q (o::rest) a w:=by
 obtain⟨i0,fT,gv,fC,fK⟩:=info_parts nP;refine bj w iJ s x 24 ho base 5 i0 _ 1 1 underlying24 fT gv fC fK rfl (by omega) (.slice A n c) n _ hs aJ B m d _ hx hr (fun u hu=>zY u hu) (by unfold maxLen;omega) (by omega) bD fun A' c' w' h3 h4 h5=>?_
 exact h A' c' w' (by rw[List.map_append];exact h3) (Fr.grown h4) (iP h5)
section
variable {aa:Nat->Nat}{b g n m c c':Nat}{w w5:World}{R:Rf}{v:Rw}{A A':Option Addr}{r:List UInt8}
theorem Bl(h:av aa b w g R v)(hv:v.gat=.slice A n c)(hm:m=r.length)(ho:w5.ownsRow 0 5 1 (.slice A' (n+m) c') (n+m) ((R.gath.data++r).map vb))(hF:Fr (aR A) w w5)(hr:∀j,aR A' j->aR A j\/w.heap.size<=j) :
  aq aa b w g {R with gath:={R.gath with data:=R.gath.data++r}} (w5.setCell ⟨g,21,none⟩ (.slice A' (n+m) c'))/\ay (w5.setCell ⟨g,21,none⟩ (.slice A' (n+m) c')) g 107 (bt R {v with gat:=.slice A' (n+m) c'})/\ay w5 g 107 (bt R v)/\Fr (fun j=>aa j=b+7\/j=g) w w5:=by
 obtain⟨A0,c0,e0,aJ,ir⟩:=id h.gd;rw[hv]at e0;injection e0 with e1 e2 e3;subst e1;subst e2;subst e3;have Ha:¬aR A g:=fun hh=>by have:=ir g hh;have:=h.sl;omega
 have uU:ay w5 g 107 (bt R v):=(hF.block g h.s.lt Ha).trans h.s;have du:=Fr.set (w:=w5) g 21 (.slice A' (R.gath.data.length+m) c');have jm:=uU.set_ 21 (.slice A' (R.gath.data.length+m) c');simp only[bt,Zy]at jm;have Ja:ay (w5.setCell ⟨g,21,none⟩ (.slice A' (R.gath.data.length+m) c')) g 107 (bt R {v with gat:=.slice A' (R.gath.data.length+m) c'}):=jm;refine⟨?_,Ja,uU,hF.mono fun j hj=>.inl (ir j hj)⟩;refine aq.turn (v':={v with gat:=.slice A' (R.gath.data.length+m) c'}) (ac:=relab aa w.heap.size (b+7)) [7] h Ja (fun j hj=>ae hj) (by simp) ((hF.mono (X':=fun j=>j=g\/∃i,i∈[7]/\aa j=b+i) fun j e=>.inr ⟨7,by simp,ir j e⟩).trans du fun j e=>.inl (.inl e))
  tI tI tI tI tI (.inl ?_) tI tI tI tI tI
 show aX _ _ _ _ _ _ (R.gath.data++r).length _;rw[List.length_append,<-hm];have g9:∀j,aR A' j->relab aa w.heap.size (b+7) j=b+7:=fun j hj=>by
  rcases hr j hj with h6|h6
  ·exact(ae (aI aJ A c rfl j h6).1).trans (ir j h6)
  ·exact aA h6
 refine aX.keep (w:=w5) ⟨A',c',rfl,ho,g9⟩ fun j hj hl=>du.block j hl fun e=>?_
 rw[e,ae h.s.lt]at hj;have:=h.sl;omega
theorem DT(f i t k:Int)(h:av aa b w g R v):av aa b (((((w.setCell ⟨g,17,none⟩ (.int .i64 f)).setCell ⟨g,18,none⟩ (.int .i64 i)).setCell ⟨g,19,none⟩ (.int .i64 t)).setCell ⟨g,20,none⟩ (.int .i64 k)).setCell ⟨g,21,none⟩ (.slice none 0 0)) g {R with gath:=⟨f,i,t,k,[]⟩} {v with gat:=.slice none 0 0}/\
  Fr (fun j=>j=g) w (((((w.setCell ⟨g,17,none⟩ (.int .i64 f)).setCell ⟨g,18,none⟩ (.int .i64 i)).setCell ⟨g,19,none⟩ (.int .i64 t)).setCell ⟨g,20,none⟩ (.int .i64 k)).setCell ⟨g,21,none⟩ (.slice none 0 0)):=by
 have e:∀{a b:World},Fr (fun j=>j=g) w a->Fr (fun j=>j=g) a b->Fr (fun j=>j=g) w b:=fun h h'=>h.trans h' fun _ h=>.inl h
 have hF:=e (e (e (e (Fr.set (w:=w) g 17 (.int .i64 f)) (Fr.set g 18 (.int .i64 i))) (Fr.set g 19 (.int .i64 t))) (Fr.set g 20 (.int .i64 k))) (Fr.set g 21 (.slice none 0 0));have s:=((((h.s.set_ 17 (.int .i64 f)).set_ 18 (.int .i64 i)).set_ 19 (.int .i64 t)).set_ 20 (.int .i64 k)).set_ 21 (.slice none 0 0);simp only[bt,Zy]at s;exact⟨h.turn [7] s (fun _ _ _ _ _ _ e=>e) (by simp) (hF.mono fun j e=>.inl e)
  tI tI tI tI tI (.inl (aX.nil _ _ _ _ _)) tI tI tI tI tI,hF⟩
end
end
end Go.Proofs.YtjcninheccmpoaaGreat
