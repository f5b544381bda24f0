import Derived.Test.YtjcninheccmpoaaGreatV7
set_option maxRecDepth 100000
set_option maxHeartbeats 8000000
set_option linter.all false
namespace Go.Proofs.YtjcninheccmpoaaGreat
open Go.RowKit Go.Proofs.Tryz
section
open Go.MapKept
def qR(aa:Nat->Nat)(b i:Nat)(w:World)(g:Nat)(O:Ot)(R':Rf)(X:Ox)(vy:Value)(fs:List Fa)(w':World):Prop:=
 ∃(ak:Nat->Nat) (v':Rw),ax ak b w' g R' v'/\gq ak i w' O X/\aG (aM ak i) w' vy fs/\(∀j,j<w.heap.size->¬bw aa b j->ak j=aa j)/\(∀j,j<w.heap.size->bw aa b j->bw ak b j\/ak j=i)/\Fr (aS aa b) w w'
def kj(aa:Nat->Nat)(b:Nat)(w:World)(g:Nat)(R1:Rf)(N:Nat)(wX:World)(p:Nat)(vy:Value)(x:En):Prop:=
 ∃(ak:Nat->Nat) (v':Rw),ax ak b wX g R1 v'/\(∀j,j<w.heap.size->¬aS aa b j->ak j=aa j)/\(∀j,j<w.heap.size->aS aa b j->aS ak b j)/\Fr (aS aa b) w wX/\
  (∀j,w.heap.size<=j->j<w.heap.size+N->j<wX.heap.size/\ak j=b)/\aG (aM ak (b+13)) wX vy x.facts/\ao wX p 59 (cl (vy,x)).toArray/\¬bw ak b p/\w.heap.size+N<=p
section
variable {aa ag:Nat->Nat}{b g i p q N:Nat}{w w' w1 w2 wX wr:World}{R R' R1 R2:Rf}{v v1:Rw}{O:Ot}{X:Ox}{vy:Value}{x:En}{fs:List Fa}
theorem dI.nofacts(h:dI aa b i w g O R' X w'):qR aa b i w g O R' X (.slice none 0 0) [] w':=by
 obtain⟨ak,v',h1,h2,h3,h4,h5⟩:=h;exact⟨ak,v',h1,h2,aG.nil _ _,h3,h4,h5⟩
theorem HW(h2:∀j,j<w.heap.size->¬aS aa b j->ag j=aa j)(h3:∀j,j<w.heap.size->aS aa b j->aS ag b j)(h4:Fr (aS aa b) w wX)(h5:∀j,w.heap.size<=j->j<w.heap.size+N->j<wX.heap.size/\ag j=b)
  (hN:w.heap.size+N<=wX.heap.size) (hM:gP ag b wX g R' v1 wr p vy x.facts (cl (vy,x)).toArray):kj aa b w g R' N wr p vy x/\boxes w.heap.size N wX wr:=by
 obtain⟨bs,q1,q2,q3,q4,q5,q6,q7⟩:=hM;have fU:=h4.size;have mU:=q3.size;refine⟨⟨bs,v1,q1,fun j hj hm=>(q2 j (by omega)).trans (h2 j hj hm),fun j hj hm=>?_,h4.trans q3 fun j hj=>?_,fun j ha hb=>?_,q4,q5,q6,by omega⟩,fun j ha hb=>q3.block j (h5 j ha hb).1 fun hm=>?_⟩
 ·have:=h3 j hj hm;unfold aS at this ⊢;rw[q2 j (by omega)];exact this
 ·rcases Nat.lt_or_ge j w.heap.size with hl|hl
  ·exact .inl (gX h2 hl hj)
  ·exact .inr hl
 ·have:=h5 j ha hb;exact⟨by omega,(q2 j this.1).trans this.2⟩
 ·unfold aS at hm;rw[(h5 j ha hb).2]at hm;omega
theorem kj.rbox(h:kj aa b w g R1 N wX p vy x):cT aa b w g R1 N wX:=by
 obtain⟨ag,v1,h1,h2,h3,h4,h5,_⟩:=h;exact⟨ag,v1,h1,h2,h3,h4,h5⟩
theorem kj.blk(h:kj aa b w g R1 N wX p vy x):ao wX p 59 (cl (vy,x)).toArray:=by
 obtain⟨ag,v1,h1,h2,h3,h4,h5,h6,h7,_⟩:=h;exact h7
theorem uM(h2:∀j,j<w.heap.size->¬aS aa b j->ag j=aa j)(h3:∀j,j<w.heap.size->aS aa b j->aS ag b j)(h4:Fr (aS aa b) w wX)(h5:∀j,w.heap.size<=j->j<w.heap.size+N->j<wX.heap.size/\ag j=b)
  (h6:aG (aM ag (b+13)) wX vy x.facts) (h7:ao wX p 59 (cl (vy,x)).toArray) (h8:¬bw ag b p) (h9:w.heap.size+N<=p) (hP:ap ag b wX g R2 w'):kj aa b w g R2 N w' p vy x/\boxes w.heap.size N wX w':=by
 obtain⟨bs,v2,q1,q2,q3,q4,q5⟩:=hP.facts h6;have fU:=h4.size;have qo:∀j,w.heap.size<=j->j<w.heap.size+N->¬aS ag b j:=fun j ha hb hm=>by
  unfold aS at hm;rw[(h5 j ha hb).2]at hm;omega
 have Sz:¬aS ag b p:=fun hm=>h8 ⟨hm.1,by have:=hm.2;omega⟩
 refine⟨⟨bs,v2,q1,fun j hj hm=>?_,fun j hj hm=>q3 j (by omega) (h3 j hj hm),h4.trans q4 fun j hj=>?_,fun j ha hb=>?_,q5,(q4.block p h7.lt Sz).trans h7,fun hm=>h8 ?_,h9⟩,fun j ha hb=>q4.block j (h5 j ha hb).1 (qo j ha hb)⟩
 ·rw[q2 j (by omega) fun h=>hm (gX h2 hj h)];exact h2 j hj hm
 ·rcases Nat.lt_or_ge j w.heap.size with hl|hl
  ·exact .inl (gX h2 hl hj)
  ·exact .inr hl
 ·have:=h5 j ha hb;have hq:=q4.size;exact⟨by omega,(q2 j this.1 (qo j ha hb)).trans this.2⟩
 ·unfold bw at hm ⊢;rw[q2 p h7.lt Sz]at hm;exact hm
theorem kj.act{f:Nat}{args:Array Value}{E:Ending}(h:kj aa b w g R1 N wX p vy x)(hs:∀ag v1,ax ag b wX g R1 v1->aG (aM ag (b+13)) wX vy x.facts->Calls prog f args wX fun e w'=>e=E/\ap ag b wX g R2 w') :
  Calls prog f args wX fun e w'=>e=E/\kj aa b w g R2 N w' p vy x/\boxes w.heap.size N wX w':=by
 obtain⟨ag,v1,h1,h2,h3,h4,h5,h6,h7,h8,h9⟩:=h;refine(hs ag v1 h1 h6).mono ?_;rintro e w' ⟨rfl,hP⟩;exact⟨rfl,uM h2 h3 h4 h5 h6 h7 h8 h9 hP⟩
theorem kj.below(h:kj aa b w g R1 N wX p vy x)(hb:Below wX.heap.size wX w'):kj aa b w g R1 N w' p vy x/\boxes w.heap.size N wX w':=by
 obtain⟨ag,v1,h1,h2,h3,h4,h5,h6,h7,h8,h9⟩:=h;exact uM h2 h3 h4 h5 h6 h7 h8 h9 (ap.below (w1:=wX) ⟨ag,v1,h1,fun _ _ _=>rfl,fun _ _ h=>h,Fr.refl _ _⟩ hb)
theorem kj.saves(h:kj aa b w g R1 N wX p vy x)(hN:R1.out.entries.length<=100000) :
  Calls prog 67 #[.pointer (some ⟨g,0,none⟩),.slice (some ⟨wX.heap.size,0,none⟩) 1 1] (wX.alloc (.cells (cl (vy,x)).toArray 59)) fun e w2=>e=.returned (.tuple #[])/\kj aa b w g (R1.save [x]) N w2 p vy x/\boxes w.heap.size N wX w2:=by
 have hb:Below wX.heap.size wX (wX.alloc (.cells (cl (vy,x)).toArray 59)):=(Below.refl wX.heap.size wX).alloc zl _;obtain⟨h',fu⟩:=h.below hb;obtain⟨cz,v0,SG,_⟩:=id h;have cW:=SG.s.lt;refine(h'.act (R2:=R1.save [x]) (E:=.returned (.tuple #[])) fun ag v1 h1 h4=>?_).mono ?_
 ·refine(pk (some ⟨wX.heap.size,0,none⟩) 1 1 [(vy,x)] h1 (ff.one (ao.new _ _ _)) (fun z hz=>?_) (fun _ j hj e=>?_) (by omega) hN).mono ?_
  ·rw[List.mem_singleton.1 hz];exact h4
  ·obtain⟨ad,e1,e2⟩:=hj;cases e1;have e2:wX.heap.size=j:=e2;omega
  ·rintro e w2 ⟨rfl,hP⟩;exact⟨rfl,hP⟩
 ·rintro e w2 ⟨rfl,hP,bQ⟩;exact⟨rfl,hP,fu.trans bQ⟩
theorem KA(i:Nat)(h:ax aa b w g R v) :
  Calls prog 52 #[.pointer (some ⟨g,0,none⟩)] w fun e w'=>∃X v',e=.returned (.agg (be R.tell.1 X))/\ax (dg aa b i) b w' g R.tell.2 v'/\gq (dg aa b i) i w' R.tell.1 X/\Fr (aS aa b) w w':=by
 refine(zY i h).mono ?_;rintro e w' ⟨rfl,h1,h2,h3⟩;obtain⟨_,⟨A1,d1,E7,_⟩,_⟩:=id h2.e;obtain⟨_,⟨A2,d2,E8,_⟩,_⟩:=id h2.c;obtain⟨A3,Ja⟩:∃p,v.snp=.pointer p:=by
  have hn:=h2.s;cases hx:R.tell.1.snap with
  | none=>rw[hx]at hn;exact⟨_,hn⟩
  | some s=>rw[hx]at hn;obtain⟨q,vd,e,_⟩:=hn;exact⟨_,e⟩
 obtain⟨A4,d4,Jb,_⟩:=id h2.r;obtain⟨_,⟨A5,d5,Jc,_⟩,_⟩:=id h2.m;rw[E7,E8,Ja,Jb,Jc]at h2;refine⟨⟨A1,d1,A2,d2,A3,A4,d4,A5,d5⟩,_,?_,h1,h2,h3⟩;rw[E7,E8,Ja,Jb,Jc];rfl
theorem kj.take(i:Nat)(h:kj aa b w g R1 N wX p vy x)(lS:i≠b) :
  Calls prog 52 #[.pointer (some ⟨g,0,none⟩)] wX fun e w'=>∃X,e=.returned (.agg (be R1.tell.1 X))/\boxes w.heap.size N wX w'/\w'.heap[p]?=wX.heap[p]?/\
   ∀w'',Fr (fun k=>w.heap.size<=k/\k<w.heap.size+N) w' w''->qR aa b i w g R1.tell.1 R1.tell.2 X vy x.facts w'':=by
 obtain⟨ag,v1,h1,h2,h3,h4,h5,h6,h7,h8,h9⟩:=h;refine(KA i h1).mono ?_;rintro e w' ⟨X,v',rfl,q1,q2,q3⟩;have fU:=h4.size;have mU:=q3.size;have qo:∀j,w.heap.size<=j->j<w.heap.size+N->¬aS ag b j:=fun j ha hb hm=>by
  unfold aS at hm;rw[(h5 j ha hb).2]at hm;omega
 have Sz:¬aS ag b p:=fun hm=>h8 ⟨hm.1,by have:=hm.2;omega⟩
 have xp:∀k,w.heap.size<=k->k<w.heap.size+N->dg ag b i k=b:=fun k ha hb=>by
  have e:=(h5 k ha hb).2;unfold dg;rw[if_neg (by omega)];exact e
 refine⟨X,rfl,fun j ha hb=>q3.block j (h5 j ha hb).1 (qo j ha hb),q3.block p h7.lt Sz,fun w'' hF=>?_⟩;have hk:∀j,¬dg ag b i j=b->j<w'.heap.size->w''.heap[j]?=w'.heap[j]?:=fun j hj hl=>hF.block j hl fun e=>hj (xp j e.1 e.2)
 refine⟨dg ag b i,v',q1.keep fun j hj hl=>hk j (fun e=>by unfold bw at hj;omega) hl,q2.keep fun j hj hl=>hk j (fun e=>lS (hj.symm.trans e)) hl,?_,fun j hj hm=>?_,fun j hj hm=>?_,(h4.trans q3 fun j hj=>?_).trans hF fun j hj=>.inr hj.1⟩
 ·have pH:aG (aM (dg ag b i) i) wX vy x.facts:=h6.mono fun j hj e=>ml (q:=13) e (by omega)
  have qz:aG (aM ag (b+13)) w' vy x.facts:=h6.keep fun j hj hl=>q3.block j hl fun hm=>by
   have hj:ag j=b+13:=hj;unfold aS at hm;omega
  exact(qz.mono (S':=aM (dg ag b i) i) fun j hj e=>ml (q:=13) e (by omega)).keep fun j hj hl=>hk j (fun e=>lS (hj.symm.trans e)) hl
 ·have e:=h2 j hj fun h=>hm ⟨h.1,by have:=h.2;omega⟩
  rw[<-e];unfold dg;rw[if_neg];unfold bw at hm;rw[<-e]at hm;omega
 ·have qm:bw ag b j:=by
   rcases Classical.em (aS aa b j)with h|h
   ·have:=h3 j hj h;exact⟨this.1,by have:=this.2;omega⟩
   ·unfold bw at hm ⊢;rw[h2 j hj h];exact hm
  by_cases hc:ag j=b+8\/ag j=b+9\/ag j=b+11\/ag j=b+12\/ag j=b+13
  ·exact .inr (if_pos hc)
  ·refine .inl ?_;have e:dg ag b i j=ag j:=if_neg hc;unfold bw at qm ⊢;rw[e];exact qm
 ·rcases Nat.lt_or_ge j w.heap.size with hl|hl
  ·exact .inl (gX h2 hl hj)
  ·exact .inr hl
theorem uZ(w:World)(T1 T2 T3:TypeId)(c1 c2 c3:Array Value):Below w.heap.size w (((w.alloc (.cells c1 T1)).alloc (.cells c2 T2)).alloc (.cells c3 T3))/\ao (((w.alloc (.cells c1 T1)).alloc (.cells c2 T2)).alloc (.cells c3 T3)) w.heap.size T1 c1/\
  ao (((w.alloc (.cells c1 T1)).alloc (.cells c2 T2)).alloc (.cells c3 T3)) (w.heap.size+1) T2 c2/\ao (((w.alloc (.cells c1 T1)).alloc (.cells c2 T2)).alloc (.cells c3 T3)) (w.heap.size+1+1) T3 c3:=by
 obtain⟨h1,h2,h3⟩:=gE w T1 T2 c1 c2;have hs:((w.alloc (.cells c1 T1)).alloc (.cells c2 T2)).heap.size=w.heap.size+1+1:=by simp
 have h4:=ao.new ((w.alloc (.cells c1 T1)).alloc (.cells c2 T2)) T3 c3;rw[hs]at h4;exact⟨h1.alloc (by omega) _,h2.alloc _,h3.alloc _,h4⟩
end
end
section
open Go.MapKept
def iD:Array Value:=#[.int .i64 0,.int .i64 0,.int .i64 0,.int .i64 0,.int .i64 0,.slice none 0 0]
theorem sn{R:Rf}(x:En)(h:R.role≠3):R.propose x=((gc,40,gk),R):=if_pos h
theorem pQ{R:Rf}{x:En}{pf:(En×Int)×bD}(h:R.role=3)(hp:R.track.putF R.hard.term x=pf)(h2:pf.1.2≠0):R.propose x=((gc,pf.1.2,gk),{R with track:=pf.2}):=by
 unfold Rf.propose;rw[if_neg (fun e=>e h)];simp only[hp];rw[if_pos h2]
theorem so{R:Rf}{x:En}{pf:(En×Int)×bD}{O:Ot×Rf}(h:R.role=3)(hp:R.track.putF R.hard.term x=pf)(h2:pf.1.2=0)(hO:Rf.tell (({R with track:=pf.2}:Rf).save [pf.1.1]).all.agrees=O):R.propose x=((pf.1.1,0,O.1),O.2):=by
 unfold Rf.propose;rw[if_neg (fun e=>e h)];simp only[hp];rw[if_neg (fun e=>e h2),<-hO]
section
variable {aa ag:Nat->Nat}{b g i p q N:Nat}{w w' wX:World}{R R1:Rf}{v:Rw}{O:Ot}{X:Ox}{vy:Value}{x:En}
theorem cT.nought(h:cT aa b w g R1 3 wX)(QU:ao wX (w.heap.size+1) 59 iD)(Lg:ao wX (w.heap.size+1+1) 49 bL)(lS:i≠b) :
  ao (cE (set6 wX (w.heap.size+1) (.slice none 0 0,gc)) (w.heap.size+1+1) gk pX) (w.heap.size+1) 59 (cl (.slice none 0 0,gc)).toArray/\ao (cE (set6 wX (w.heap.size+1) (.slice none 0 0,gc)) (w.heap.size+1+1) gk pX) (w.heap.size+1+1) 49 (be gk pX)/\
   qR aa b i w g gk R1 pX (.slice none 0 0) gc.facts (cE (set6 wX (w.heap.size+1) (.slice none 0 0,gc)) (w.heap.size+1+1) gk pX)/\ao (set6 wX (w.heap.size+1) (.slice none 0 0,gc)) (w.heap.size+1+1) 49 bL:=by
 have kV:=Fr.set6 wX (w.heap.size+1) (.slice none 0 0,gc);have fP:=(eT (.slice none 0 0,gc) QU rfl).1;have BG:ao (set6 wX (w.heap.size+1) (.slice none 0 0,gc)) (w.heap.size+1+1) 49 bL:=(kV.block _ Lg.lt (by omega)).trans Lg;have Ji:=h.set (j:=w.heap.size+1) (by omega) (by omega) kV;obtain⟨hB,hT⟩:=Ji.zero (i:=i) (j:=w.heap.size+1+1) (by omega) (by omega) BG lS;have IB:=kS (set6 wX (w.heap.size+1) (.slice none 0 0,gc)) (w.heap.size+1+1) gk pX;exact⟨(IB.block _ fP.lt (by omega)).trans fP,hB,hT.nofacts,BG⟩
theorem cT.same(h:cT aa b w g R1 N wX):qR aa b i w g gk R1 pX (.slice none 0 0) gc.facts wX:=by
 obtain⟨ag,v1,h1,h2,h3,h4,h5⟩:=h;refine⟨ag,v1,h1,gq.zero _ _ _,aG.nil _ _,fun j hj hm=>h2 j hj fun h=>hm ⟨h.1,by have:=h.2;omega⟩,fun j hj hm=>.inl ?_,h4⟩;rcases Classical.em (aS aa b j)with h|h
 ·have:=h3 j hj h;exact⟨this.1,by have:=this.2;omega⟩
 ·unfold bw at hm ⊢;rw[h2 j hj h];exact hm
theorem AU{w9:World}{q:Nat}(QU:ao w9 (q+1) 59 iD)(Lg:ao w9 (q+1+1) 49 bL)(vy:Value)(x:En)(O:Ot)(X:Ox) :
  ao (cE (set6 w9 (q+1) (vy,x)) (q+1+1) O X) (q+1) 59 (cl (vy,x)).toArray/\ao (cE (set6 w9 (q+1) (vy,x)) (q+1+1) O X) (q+1+1) 49 (be O X)/\ao (set6 w9 (q+1) (vy,x)) (q+1+1) 49 bL/\
   Fr (fun k=>q<=k/\k<q+3) w9 (cE (set6 w9 (q+1) (vy,x)) (q+1+1) O X):=by
 have kV:=Fr.set6 w9 (q+1) (vy,x);have fP:=(eT (vy,x) QU rfl).1;have BG:ao (set6 w9 (q+1) (vy,x)) (q+1+1) 49 bL:=(kV.block _ Lg.lt (by omega)).trans Lg;have IB:=kS (set6 w9 (q+1) (vy,x)) (q+1+1) O X;refine⟨(IB.block _ fP.lt (by omega)).trans fP,oF O X BG,BG,(kV.mono fun j e=>by omega).trans (IB.mono (X':=fun k=>q<=k/\k<q+3) fun j e=>by omega) fun j e=>.inl e⟩
theorem zy{K M:Nat}(i:Nat)(x:En)(V:Option Addr)(m d mi:Nat)(h:ax aa b w g R v)(hk:Ok K M R)(hK:K<=8000)(hM:M<=10000)(lS:i≠b)(ut:mi<=b\/b+13<mi)(hf:aG (aM aa mi) w (.slice V m d) x.facts)(hm:m<=maxLen) :
  Calls prog 21 #[.pointer (some ⟨g,0,none⟩),.agg #[.int .i64 x.op,.int .i64 x.sess,.int .i64 x.seq,.slice V m d]] w fun e w'=>∃X A1 n1 c1,e=.returned (.tuple #[mM (R.propose x).1.1 (.slice A1 n1 c1),.int .i64 (R.propose x).1.2.1,.agg (be (R.propose x).1.2.2 X)])/\
   qR aa b i w g (R.propose x).1.2.2 (R.propose x).2 X (.slice A1 n1 c1) (R.propose x).1.1.facts w':=by
 have cW:=h.s.lt;have cw13:=h.s.cell 13;simp only[bV,vi,Zx]at cw13;obtain⟨aI,oa,CE,gH⟩:=uZ w 42 59 49 #[.int .i64 x.op,.int .i64 x.sess,.int .i64 x.seq,.slice V m d] iD bL;obtain⟨w3,jm⟩:=zN (((w.alloc (.cells #[.int .i64 x.op,.int .i64 x.sess,.int .i64 x.seq,.slice V m d] 42)).alloc (.cells #[.int .i64 0,.int .i64 0,.int .i64 0,.int .i64 0,.int .i64 0,.slice none 0 0] 59)).alloc (.cells #[.bool false,.bool false,.int .i64 0,.int .i64 0,.slice none 0 0,.slice none 0 0,.pointer none,.slice none 0 0,.slice none 0 0] 49));rw[show((w.alloc (.cells #[.int .i64 x.op,.int .i64 x.sess,.int .i64 x.seq,.slice V m d] 42)).alloc (.cells iD 59)).alloc (.cells bL 49)=w3 from jm]at aI oa CE gH;have hX:=cT.start (N:=3) h aI (by have:=gH.lt;omega);have jM:w.heap.size+1+1<w3.heap.size:=gH.lt;obtain⟨ag,v1,h1,h2,h3,h4,h5⟩:=(hX.below (w':=w3.drew) (zb.drew)).1;have OD:ax ag b w3 g R v1:=h1.keep fun _ _ _=>rfl
 obtain⟨c13,c8,c6,-⟩:=OD.s.cs [13,8,6];simp only[bV,vi,Zx]at c13 c8 c6;have iy:g<w3.heap.size:=OD.s.lt;replace jm:=zH jm;by_cases hr:R.role=3
 ·obtain⟨pf,jq⟩:=zN (R.track.putF R.hard.term x);have hn:∀j,aa j=mi->¬aS aa b j:=fun j e hx=>by unfold aS at hx;omega
  have pH:aG (aM ag mi) w3.drew (.slice V m d) x.facts:=(hf.mono (S':=aM ag mi) fun j hj e=>(h2 j hj (hn j e)).trans e).keep fun j hj hl=>h4.block j hl fun hx=>by
   have h6:=h3 j hl hx;have hj:ag j=mi:=hj;unfold aS at h6;omega
  have cx:=hk.trk;have ey:=oJ (aM ag mi) R.hard.term x V m d h1 (by omega) pH hm (fun j (hj:ag j=mi)=>by omega);have jZ:Below w3.drew.heap.size w3.drew (w3.drew.alloc (.cells #[.int .i64 0,.int .i64 0,.int .i64 0,.int .i64 0,.int .i64 0,.slice none 0 0] 59)):=zb.alloc zl _;have ez:=oJ (aM (aj ag w3.drew.heap.size b) mi) R.hard.term x V m d (h1.fresh jZ) (by omega) ((pH.mono (S':=aM (aj ag w3.drew.heap.size b) mi) fun j hj e=>(ac hj).trans e).keep (bA.below jZ)) hm (fun j (hj:aj ag w3.drew.heap.size b j=mi)=>by omega);rw[jq]at ey ez;have GJ:∀wr p A1 n1 c1,gP ag b w3.drew g {R with track:=pf.2} v1 wr p (.slice A1 n1 c1) pf.1.1.facts (cl (.slice A1 n1 c1,pf.1.1)).toArray->kj aa b w g {R with track:=pf.2} 3 wr p (.slice A1 n1 c1) pf.1.1/\boxes w.heap.size 3 w3 wr:=fun wr p A1 n1 c1 hM=>by
   have hp:=HW (N:=3) (wX:=w3.drew) h2 h3 h4 h5 (by show _<=w3.heap.size;omega) hM;exact⟨hp.1,hp.2⟩
  have JY:ag w.heap.size=b:=(h5 w.heap.size zl (by omega)).2;have Fh:w.heap.size<w3.heap.size:=by omega
  have oo:∀w5 vy fs,lD ag b w3.drew g {R with track:=pf.2} v1 w5 vy fs->w5.heap[g]?=w3.heap[g]?/\w5.heap[w.heap.size]?=w3.heap[w.heap.size]?:=fun w5 vy fs hT=>by
   obtain⟨dU,a1,a2,a3,a4⟩:=hT;exact⟨a1.s.trans OD.s.symm,a3.block w.heap.size Fh fun hm=>by unfold aS at hm;omega⟩
  have kM:∀w5 vy fs,lD (aj ag w3.drew.heap.size b) b (w3.drew.alloc (.cells #[.int .i64 0,.int .i64 0,.int .i64 0,.int .i64 0,.int .i64 0,.slice none 0 0] 59)) g {R with track:=pf.2} v1 w5 vy fs->w5.heap[g]?=w3.heap[g]?/\w5.heap[w.heap.size]?=w3.heap[w.heap.size]?:=fun w5 vy fs hT=>by
   obtain⟨dU,a1,a2,a3,a4⟩:=hT;refine⟨a1.s.trans OD.s.symm,(a3.block w.heap.size (Nat.lt_of_lt_of_le Fh jZ.size) fun hm=>?_).trans (jZ.block _ Fh)⟩;unfold aS at hm;rw[ac (show w.heap.size<w3.drew.heap.size from Fh),JY]at hm;omega
  obtain⟨y0,y1,y2,y3,-⟩:=oa.cs [0,1,2,3];simp only[Zx]at y0 y1 y2 y3;obtain⟨k8,k6,u0,u1,u2,u3⟩:=Pb [g,w.heap.size] c8 c6 y0 y1 y2 y3;have e1:(R.role !=3)=false:=by simp[hr]
  have JF:g≠w.heap.size:=by omega
  have QD:g≠w.heap.size+1:=by omega
  have QE:g≠w.heap.size+1+1:=by omega
  have QF:g<w.heap.size+1:=by omega
  have QG:g<w.heap.size+1+1:=by omega
  replace hk:=zH hk;replace jq:=zH jq;replace hr:=zH hr;clear h h1 h2 h3 h4 h5 hf pH cx hX;go_enter func21,ntmps21;go_wp2_with fail;rw[jm.out]
  go_cut [7,8] (fun s7 s8 wr=>∃p A1 n1 c1,s7=.pointer (some ⟨p,0,none⟩)/\s8=.int .i64 pf.1.2/\kj aa b w g {R with track:=pf.2} 3 wr p (.slice A1 n1 c1) pf.1.1/\boxes w.heap.size 3 w3 wr)
  case first=>
   refine Sq [g,w.heap.size] w3 (.two [0,1,2,3,4,5,6,7,8,9] 10 14 (.one [11,12,13] 14 (.one [] 15 (.last [16]))) (.one [] 10 (.one [11,12,13] 15 (.last [16])))) ?_;refine ie fun K1 K2 cQ iu=>?_
   simp only[ah,Zx];repeat go_big_quiet_step(fail)
   apply wpQuiet_nil;constructor
   ·go_wp2_with fail;refine ey.mono ?_;rintro e w5 ⟨A1,n1,c1,rfl,hT⟩;go_wp2_with fail;have jl:=oo _ _ _ hT;refine⟨bO jl.1 jl.2,cQ _ _ ?_⟩;clear ey ez;refine bF fun K3 jY=>?_
    simp only[ah,Zx];repeat go_big_quiet_step(fail)
    apply wpQuiet_nil;go_wp2_with fail;have hM:=hT.boxed #[.int .i64 0,.int .i64 0,.int .i64 0,.int .i64 0,.int .i64 0,.slice none 0 0];have MF:Below w5.heap.size w5 (w5.alloc (.cells #[.int .i64 0,.int .i64 0,.int .i64 0,.int .i64 0,.int .i64 0,.slice none 0 0] 59)):=zb.alloc zl _;have ln:∀j,j=g\/j=w.heap.size->(w5.alloc (.cells #[.int .i64 0,.int .i64 0,.int .i64 0,.int .i64 0,.int .i64 0,.slice none 0 0] 59)).heap[j]?=w3.heap[j]?:=fun j hj=>by
     rcases hj with rfl|rfl
     ·exact(MF.block _ (by rw[Array.getElem?_eq_getElem iy]at jl;exact aV jl.1)).trans jl.1
     ·exact(MF.block _ (by rw[Array.getElem?_eq_getElem Fh]at jl;exact aV jl.2)).trans jl.2
    generalize Fl:w5.alloc (.cells #[.int .i64 0,.int .i64 0,.int .i64 0,.int .i64 0,.int .i64 0,.slice none 0 0] 59)=w6 at *;generalize uw:w5.heap.size=p at *;refine⟨bO (ln g (.inl rfl)) (ln _ (.inr rfl)),jY _ _ ?_⟩;refine bF fun K4 ro=>?_
    simp only[ah,Zx];apply wpQuiet_nil;obtain⟨fP,rG,nd⟩:=hM.blk;obtain⟨z0,z1,z2,z3,z4,z5,-⟩:=fP.cs [0,1,2,3,4,5];simp only[Zx]at z0 z1 z2 z3 z4 z5;obtain⟨f0,f1,f2,f3,f4,f5,-⟩:=fP.fs [0,1,2,3,4,5];have Lm:p≠w.heap.size:=by
     obtain⟨_,_,_,_,_,_,_,e⟩:=id hM;have e:w3.heap.size<=p:=e;omega
    have fh:=Fr.set6 w6 p (.slice A1 n1 c1,pf.1.1);have uj:(set6 w6 p (.slice A1 n1 c1,pf.1.1)).heap[g]?=w3.heap[g]?:=(fh.block g nd.lt fun e=>rG e.symm).trans (ln g (.inl rfl));have S9:(set6 w6 p (.slice A1 n1 c1,pf.1.1)).heap[w.heap.size]?=w3.heap[w.heap.size]?:=(fh.block _ (aV ((ln w.heap.size (.inr rfl)).trans oa)) fun e=>Lm e.symm).trans (ln _ (.inr rfl));have nY:=hM.set pf.1.1 rfl;go_wp2_with fail;refine⟨bO uj S9,ro _ _ ?_⟩;show eD _ _ _ _ _ _ (set6 w6 p (.slice A1 n1 c1,pf.1.1));have aE:=zH (GJ _ _ _ _ _ nY);generalize set6 w6 p (.slice A1 n1 c1,pf.1.1)=w7 at *;clear hM nY fP z0 z1 z2 z3 z4 z5 f0 f1 f2 f3 f4 f5 fh nd hT oo kM GJ;refine dx ?_;simp only[ah,Zx];repeat go_big_quiet_step(fail)
    apply wpQuiet_nil;go_wp2_with fail
    go_meet
    exact⟨p,A1,n1,c1,rfl,rfl,aE.out.1,aE.out.2⟩
   ·go_wp2_with fail;refine⟨bO (jZ.block g iy) (jZ.block _ Fh),iu _ _ ?_⟩;refine bF fun K3 jY=>?_
    simp only[ah,Zx];apply wpQuiet_nil;go_wp2_with fail;refine ez.mono ?_;rintro e w6 ⟨A1,n1,c1,rfl,hT⟩;go_wp2_with fail;have jl:=kM _ _ _ hT;have hM:=hT.box;have DV:w3.drew.heap.size=w3.heap.size:=rfl;rw[DV]at hM;refine⟨bO jl.1 jl.2,jY _ _ ?_⟩;clear ey ez;refine bF fun K4x Bl=>?_
    simp only[ah,Zx];repeat go_big_quiet_step(fail)
    apply wpQuiet_nil;obtain⟨fP,rG,nd⟩:=hM.blk;have Lm:w3.heap.size≠w.heap.size:=by omega
    generalize w3.heap.size=p at *;obtain⟨z0,z1,z2,z3,z4,z5,-⟩:=fP.cs [0,1,2,3,4,5];simp only[Zx]at z0 z1 z2 z3 z4 z5;obtain⟨f0,f1,f2,f3,f4,f5,-⟩:=fP.fs [0,1,2,3,4,5];have fh:=Fr.set6 w6 p (.slice A1 n1 c1,pf.1.1);have uj:(set6 w6 p (.slice A1 n1 c1,pf.1.1)).heap[g]?=w3.heap[g]?:=(fh.block g nd.lt fun e=>rG e.symm).trans jl.1;have S9:(set6 w6 p (.slice A1 n1 c1,pf.1.1)).heap[w.heap.size]?=w3.heap[w.heap.size]?:=(fh.block _ (aV (jl.2.trans oa)) fun e=>Lm e.symm).trans jl.2;have nY:=hM.set pf.1.1 rfl;go_wp2_with fail;refine⟨bO uj S9,Bl _ _ ?_⟩;show eD _ _ _ _ _ _ (set6 w6 p (.slice A1 n1 c1,pf.1.1));have aE:=zH (GJ _ _ _ _ _ nY);generalize set6 w6 p (.slice A1 n1 c1,pf.1.1)=w7 at *;clear hM nY fP z0 z1 z2 z3 z4 z5 f0 f1 f2 f3 f4 f5 fh nd hT oo kM GJ;refine dx ?_;simp only[ah,Zx];repeat go_big_quiet_step(fail)
    apply wpQuiet_nil;go_wp2_with fail
    go_meet
    exact⟨p,A1,n1,c1,rfl,rfl,aE.out.1,aE.out.2⟩
  case rest=>
   obtain⟨p,A1,n1,c1,Tc,VD,PG,fu⟩:=hcut;subst Tc;subst VD
   rename World=>wc
   clear ey ez jZ GJ oo kM c13 c8 c6 cw13 k8 k6 u0 u1 u2 u3 y0 y1 y2 y3 OD oa;have DJ:ao wc (w.heap.size+1) 59 iD:=fu.blk (by omega) (by omega) CE;have DU:ao wc (w.heap.size+1+1) 49 bL:=fu.blk (by omega) (by omega) gH;have OP:=DJ.lt;have uu:=DU.lt;by_cases hz:pf.1.2=0
   ·have xz:(pf.1.2 !=0)=false:=by simp[hz]
    have tF:=PG.blk;have pc:=PG.saves (by have:=hk.out.es;show R.out.entries.length<=_;omega);obtain⟨R5,xg⟩:=zN ((({R with track:=pf.2}:Rf).save [pf.1.1]));rw[xg]at pc;have tH:Ok (K+1) (M+1) R5:=by
     rw[<-xg];have:=hk.out.put R.hard.term x;rw[jq.out]at this;exact this.save [pf.1.1]
    have DY:R5.role=3:=by rw[<-xg];exact hr.out
    obtain⟨O,hO⟩:=zN (Rf.tell R5.all.agrees);have fS:=so hr.out jq.out hz (by rw[xg,hO]);have SH:R5.all.role=3/\R5.all.peers=R5.peers/\R5.all.n=R5.n:=by
     obtain⟨ms,e,_⟩:=fA R5.others R5;have e':R5.all=_:=e;rw[e'];exact⟨DY,rfl,rfl⟩
    have o6:=tH.all;have o9:=tH.peers DY (by omega);have GG:R5.all.peers.length=R5.all.n+1:=by rw[SH.2.1,SH.2.2];exact o9.len
    replace fS:=zH fS;replace hO:=zH hO;replace tH:=zH tH;replace o6:=zH o6;replace o9:=zH o9;replace SH:=zH SH;replace GG:=zH GG;obtain⟨z0,z1,z2,z3,z4,z5,-⟩:=tF.cs [0,1,2,3,4,5];simp only[cl,vi,Zx]at z0 z1 z2 z3 z4 z5;simp only[cl,vi]at pc;clear PG tF DJ DU xg hz DY;go_wp2_with fail;refine pc.mono ?_;rintro e w7 ⟨rfl,Bp,iw⟩;have fl:=Bp.act (R2:=R5.all) (E:=.returned (.tuple #[])) fun bs v2 h2 _=>mr h2 o9.out (by have:=tH.out.ms;omega)
    clear pc Bp z0 z1 z2 z3 z4 z5;go_wp2_with fail;refine fl.mono ?_;rintro e w8 ⟨rfl,PF,vO⟩;have gw:=PF.act (R2:=R5.all.agrees) (E:=.returned (.tuple #[])) fun bs v2 h2 _=>(kp h2 GG.out (by have:=o6.out.id;omega) o6.out.cm.1 (by have:=o6.out.cm;omega) (by have:=o6.out.trk;omega) (by have:=o6.out.cs;omega)).mono fun e w' h=>⟨h.1,h.2.1⟩
    clear fl PF;go_wp2_with fail;refine gw.mono ?_;rintro e w9 ⟨rfl,mA,kX⟩;clear gw;have Up:=((fu.trans iw).trans vO).trans kX;have cx:=(mA.below (w':=w9.drew) (zb.drew)).1.take i lS;have yz:=mA.blk;have Lm:w.heap.size+3<=p:=by obtain⟨_,_,_,_,_,_,_,_,_,_,e⟩:=mA;exact e
    have nA:=yz.lt;rw[hO.out]at cx;unfold be at cx;obtain⟨z0,z1,z2,z3,z4,z5,-⟩:=yz.cs [0,1,2,3,4,5];simp only[cl,vi,Zx]at z0 z1 z2 z3 z4 z5;obtain⟨k0,k1,k2,k3,k4,k5⟩:=Pb [p] z0 z1 z2 z3 z4 z5;clear mA yz;go_wp2_with fail;refine nj [p] w9 [([0,1],2),([],3)] ([4],5) ?_;refine aq fun K1 cQ=>?_
    simp only[ah,Zx];repeat go_big_quiet_step(fail)
    apply wpQuiet_nil;go_wp2_with fail;refine cx.mono ?_;rintro e wT ⟨X,rfl,OI,GU,yf⟩;have OI:boxes w.heap.size 3 w9 wT:=OI;have GU:wT.heap[p]?=w9.heap[p]?:=GU;have Qc:=Up.trans OI;have Gu:ao wT (w.heap.size+1) 59 iD:=Qc.blk (by omega) (by omega) CE;have GR:ao wT (w.heap.size+1+1) 49 bL:=Qc.blk (by omega) (by omega) gH;obtain⟨FZ,F0,vY,Az⟩:=AU Gu GR (.slice A1 n1 c1) pf.1.1 O.1 X;have ye:=yf _ Az;obtain⟨wE,dL⟩:=zN (cE (set6 wT (w.heap.size+1) (.slice A1 n1 c1,pf.1.1)) (w.heap.size+1+1) O.1 X);rw[dL]at FZ F0 ye;replace dL:=zH dL;replace ye:=zH ye;have OP:=Gu.lt;have uu:=GR.lt;obtain⟨q0,q1,q2,q3,q4,q5,-⟩:=Gu.cs [0,1,2,3,4,5];simp only[iD,vi,Zx]at q0 q1 q2 q3 q4 q5;obtain⟨f0,f1,f2,f3,f4,f5,-⟩:=Gu.fs [0,1,2,3,4,5];obtain⟨y0,y1,y2,y3,y4,y5,y6,y7,y8,-⟩:=GR.cs [0,1,2,3,4,5,6,7,8];simp only[bL,vi,Zx]at y0 y1 y2 y3 y4 y5 y6 y7 y8;obtain⟨u0,u1,u2,u3,u4,u5,u6,u7,u8,-⟩:=GR.fs [0,1,2,3,4,5,6,7,8];have kV:=Fr.set6 wT (w.heap.size+1) (.slice A1 n1 c1,pf.1.1);have ux:(set6 wT (w.heap.size+1) (.slice A1 n1 c1,pf.1.1)).heap[p]?=w9.heap[p]?:=(kV.block p (by rw[Array.getElem?_eq_getElem nA]at GU;exact aV GU) (by omega)).trans GU;clear cx yf Az Gu GR;go_wp2_with fail;refine⟨cy GU,cQ _ _ ?_⟩;refine aq fun K2 iu=>?_
    simp only[ah,Zx];apply wpQuiet_nil;go_wp2_with fail;refine⟨cy ux,iu _ _ ?_⟩;refine aC ?_;simp only[ah,Zx];repeat go_big_quiet_step(fail)
    apply wpQuiet_nil;go_wp2_with fail;show bodyPost _ _ _ _ _ (cE (set6 wT (w.heap.size+1) (.slice A1 n1 c1,pf.1.1)) (w.heap.size+1+1) O.1 X);rw[dL.out];obtain⟨r0,r1,r2,r3,r4,r5,-⟩:=FZ.cs [0,1,2,3,4,5];simp only[cl,vi,Zx]at r0 r1 r2 r3 r4 r5;obtain⟨t0,t1,t2,t3,t4,t5,t6,t7,t8,-⟩:=F0.cs [0,1,2,3,4,5,6,7,8];simp only[be,vi,Zx]at t0 t1 t2 t3 t4 t5 t6 t7 t8;exact bodyPost_ret (v:=.tuple #[.agg #[.int .i64 pf.1.1.idx,.int .i64 pf.1.1.term,.int .i64 pf.1.1.op,.int .i64 pf.1.1.sess,.int .i64 pf.1.1.seq,.slice A1 n1 c1],.int .i64 0,.agg (be O.1 X)]) (by simp[results,results21,go_sem,be,r0,r1,r2,r3,r4,r5,t0,t1,t2,t3,t4,t5,t6,t7,t8]) rfl ⟨X,A1,n1,c1,by rw[fS.out];rfl,by rw[fS.out];exact ye.out⟩
   ·have xz:(pf.1.2 !=0)=true:=by simp[hz]
    have fS:=zH (pQ hr.out jq.out hz);obtain⟨FZ,F0,yf,vY⟩:=PG.rbox.nought (i:=i) DJ DU lS;obtain⟨wE,dL⟩:=zN (cE (set6 wc (w.heap.size+1) (.slice none 0 0,gc)) (w.heap.size+1+1) gk pX);rw[dL]at FZ F0 yf;replace dL:=zH dL;obtain⟨z0,z1,z2,z3,z4,z5,-⟩:=DJ.cs [0,1,2,3,4,5];simp only[iD,vi,Zx]at z0 z1 z2 z3 z4 z5;obtain⟨f0,f1,f2,f3,f4,f5,-⟩:=DJ.fs [0,1,2,3,4,5];obtain⟨y0,y1,y2,y3,y4,y5,y6,y7,y8,-⟩:=DU.cs [0,1,2,3,4,5,6,7,8];simp only[bL,vi,Zx]at y0 y1 y2 y3 y4 y5 y6 y7 y8;obtain⟨u0,u1,u2,u3,u4,u5,u6,u7,u8,-⟩:=DU.fs [0,1,2,3,4,5,6,7,8];replace yf:=zH yf;clear PG DJ DU vY hz;go_wp2_with fail;show bodyPost _ _ _ _ _ (cE (set6 wc (w.heap.size+1) (.slice none 0 0,gc)) (w.heap.size+1+1) gk pX);rw[dL.out];obtain⟨r0,r1,r2,r3,r4,r5,-⟩:=FZ.cs [0,1,2,3,4,5];simp only[cl,gc,vi,Zx]at r0 r1 r2 r3 r4 r5;obtain⟨t0,t1,t2,t3,t4,t5,t6,t7,t8,-⟩:=F0.cs [0,1,2,3,4,5,6,7,8];simp only[be,vi,Zx]at t0 t1 t2 t3 t4 t5 t6 t7 t8;exact bodyPost_ret (v:=.tuple #[.agg #[.int .i64 0,.int .i64 0,.int .i64 0,.int .i64 0,.int .i64 0,.slice none 0 0],.int .i64 pf.1.2,.agg (be gk pX)]) (by simp[results,results21,go_sem,be,r0,r1,r2,r3,r4,r5,t0,t1,t2,t3,t4,t5,t6,t7,t8]) rfl ⟨pX,none,0,0,by rw[fS.out];rfl,by rw[fS.out];exact yf.out⟩
 ·have e1:(R.role !=3)=true:=by simp[hr]
  have fS:=zH (sn x hr);have yf:=zH (hX.same (i:=i));have JF:g≠w.heap.size:=by omega
  have QD:g≠w.heap.size+1:=by omega
  have QE:g≠w.heap.size+1+1:=by omega
  have QF:g<w.heap.size+1:=by omega
  have QG:g<w.heap.size+1+1:=by omega
  replace hr:=zH hr;replace hk:=zH hk;clear h h1 h2 h3 h4 h5 hf hX OD aI oa;go_enter func21,ntmps21;go_wp2_with fail;rw[jm.out];obtain⟨r0,r1,r2,r3,r4,r5,-⟩:=CE.cs [0,1,2,3,4,5];simp only[iD,vi,Zx]at r0 r1 r2 r3 r4 r5;obtain⟨t0,t1,t2,t3,t4,t5,t6,t7,t8,-⟩:=gH.cs [0,1,2,3,4,5,6,7,8];simp only[bL,vi,Zx]at t0 t1 t2 t3 t4 t5 t6 t7 t8;exact bodyPost_ret (v:=.tuple #[.agg #[.int .i64 0,.int .i64 0,.int .i64 0,.int .i64 0,.int .i64 0,.slice none 0 0],.int .i64 40,.agg (be gk pX)]) (by simp[results,results21,go_sem,be,gk,pX,r0,r1,r2,r3,r4,r5,t0,t1,t2,t3,t4,t5,t6,t7,t8]) rfl ⟨pX,none,0,0,by rw[fS.out];rfl,by rw[fS.out];exact yf.out⟩
end
end
def jN(id n:Int)(s:pZ):Prop:=(1<=n/\n<=7)/\(1<=id/\id<=n)/\(0<=s.hard.term/\s.hard.term<=1099511627776)/\(0<=s.hard.vote/\s.hard.vote<=n)/\eU s.snap=true
def fH(id n:Nat)(s:pZ)(t:bD):Rf:=Rf.mk id n s.hard t s.snap s.snap.idx 0 0 0 0 [] [] 0 [] Fq gk
theorem rY{id n:Int}{s:pZ}(h:¬jN id n s):Rf.new id n s=none:=if_pos h
theorem wI{id n:Nat}{s:pZ}(h:jN id n s){p:(Int×Bool)×bD}(hp:bD.takeF (bD.mk s.snap.idx s.snap.term []) s.snap.idx s.snap.term (s.entries.filter fun x=>decide (s.snap.idx<x.idx))=p) :
  Rf.new id n s=if p.1.2=false\/s.hard.term<p.2.lastF.2 then none else some (fH id n s p.2):=by
 unfold Rf.new;rw[if_neg (fun hn=>hn h)];simp only[hp];rfl
theorem su(k:Int):∀zs:List (Value×En),(bT k zs).map (·.2)=(zs.map (·.2)).filter fun x=>decide (k<x.idx)
 | []=>rfl
 | z::l=>by
  have ih:=su k l;unfold bT at ih ⊢;by_cases h:k<z.2.idx
  ·rw[List.filter_cons,if_pos (by simp[h]),List.map_cons,ih,List.map_cons,List.filter_cons,if_pos (by simp[h])]
  ·rw[List.filter_cons,if_neg (by simp[h]),ih,List.map_cons,List.filter_cons,if_neg (by simp[h])]
theorem nF{i t:Int}{l:List UInt8}(h:eU ⟨i,t,l⟩=true):iK i t=true/\l.length<=65536/\(0<i->0<l.length):=by
 unfold eU iQ at h;unfold iK eA;by_cases h0:i=0/\t=0
 ·rw[if_pos h0]at h;have h:=of_decide_eq_true h;simp only at h;obtain⟨rfl,rfl⟩:=h0;exact⟨by simp,by omega,by omega⟩
 ·rw[if_neg h0]at h;have h:=of_decide_eq_true h;simp only at h;refine⟨?_,by omega,by omega⟩;simp only[Bool.or_eq_true,Bool.and_eq_true,decide_eq_true_eq];exact .inr ⟨⟨by omega,by omega⟩,by omega,by omega⟩
def mq(aa:Nat->Nat)(b:Nat)(w:World)(o:Option Rf)(e:Ending)(w':World):Prop:=
 Below w.heap.size w w'/\((o=none/\e=.returned (.pointer none))\/∃(R:Rf) (g:Nat) (ak:Nat->Nat) (v':Rw),o=some R/\e=.returned (.pointer (some ⟨g,0,none⟩))/\ax ak b w' g R v'/\(∀j,j<w.heap.size->ak j=aa j)/\w.heap.size<=g)
section
variable {aa:Nat->Nat}{w:World}
theorem Kh(b:Nat)(id n:Int)(s:pZ)(Ad A1:Option Addr)(md cd m1 c1:Nat)(ly:s.snap.data.length=md)(dO:¬jN id n s) :
  Calls prog 13 #[.int .i64 id,.int .i64 n,.agg #[.int .i64 s.hard.term,.int .i64 s.hard.vote,.int .i64 s.snap.idx,.int .i64 s.snap.term,.slice Ad md cd,.slice A1 m1 c1]] w fun e w'=>mq aa b w (Rf.new id n s) e w':=by
 have oh:=zH (rY dO);have aI:Below w.heap.size w (w.alloc (.cells #[.int .i64 s.hard.term,.int .i64 s.hard.vote,.int .i64 s.snap.idx,.int .i64 s.snap.term,.slice Ad md cd,.slice A1 m1 c1] 29)):=zb.alloc zl _;have gK:=ao.new w 29 #[.int .i64 s.hard.term,.int .i64 s.hard.vote,.int .i64 s.snap.idx,.int .i64 s.snap.term,.slice Ad md cd,.slice A1 m1 c1];obtain⟨w1,ct⟩:=zN (w.alloc (.cells #[.int .i64 s.hard.term,.int .i64 s.hard.vote,.int .i64 s.snap.idx,.int .i64 s.snap.term,.slice Ad md cd,.slice A1 m1 c1] 29));rw[ct]at aI gK;obtain⟨y0,y1,y2,y3,y4,y5,-⟩:=gK.cs [0,1,2,3,4,5];simp only[Zx]at y0 y1 y2 y3 y4 y5;have h1:=rN (lo:=1) (hi:=7) (x:=n) w1;have h2:=rN (lo:=1) (hi:=n) (x:=id) w1;have h3:=rN (lo:=0) (hi:=1099511627776) (x:=s.hard.term) w1;have h4:=rN (lo:=0) (hi:=n) (x:=s.hard.vote) w1;have h5:=uD s.snap.idx s.snap.term Ad md cd s.snap.data w1 ly;obtain⟨x1,tL⟩:∃x,decide (1<=n/\n<=7)=x:=⟨_,rfl⟩;obtain⟨x2,xy⟩:∃x,decide (1<=id/\id<=n)=x:=⟨_,rfl⟩;obtain⟨x3,yM⟩:∃x,decide (0<=s.hard.term/\s.hard.term<=1099511627776)=x:=⟨_,rfl⟩;obtain⟨x4,O7⟩:∃x,decide (0<=s.hard.vote/\s.hard.vote<=n)=x:=⟨_,rfl⟩;obtain⟨x5,O8⟩:∃x,eU s.snap=x:=⟨_,rfl⟩;rw[tL]at h1;rw[xy]at h2;rw[yM]at h3;rw[O7]at h4;rw[show eU ⟨s.snap.idx,s.snap.term,s.snap.data⟩=x5 from O8]at h5;have fl:¬(x1=true/\x2=true/\x3=true/\x4=true/\x5=true):=by
  rintro⟨rfl,rfl,rfl,rfl,rfl⟩;exact dO ⟨of_decide_eq_true tL,of_decide_eq_true xy,of_decide_eq_true yM,of_decide_eq_true O7,O8⟩
 replace ct:=zH ct;replace ly:=zH ly;clear tL xy yM O7 O8 dO;cases x1
 ·clear fl;go_enter func13,ntmps13;go_wp2_with fail;rw[ct.out];try go_wp2_with fail
  refine h1.mono ?_;rintro e wA ⟨rfl,rfl⟩;go_wp2_with fail;go_ret;exact⟨aI,.inl ⟨oh.out,rfl⟩⟩
 ·skip
  cases x2
  ·clear fl;go_enter func13,ntmps13;go_wp2_with fail;rw[ct.out];try go_wp2_with fail
   refine h1.mono ?_;rintro e wA ⟨rfl,rfl⟩;go_wp2_with fail;refine h2.mono ?_;rintro e wA ⟨rfl,rfl⟩;go_wp2_with fail;go_ret;exact⟨aI,.inl ⟨oh.out,rfl⟩⟩
  ·skip
   cases x3
   ·clear fl;go_enter func13,ntmps13;go_wp2_with fail;rw[ct.out];try go_wp2_with fail
    refine h1.mono ?_;rintro e wA ⟨rfl,rfl⟩;go_wp2_with fail;refine h2.mono ?_;rintro e wA ⟨rfl,rfl⟩;go_wp2_with fail;refine h3.mono ?_;rintro e wA ⟨rfl,rfl⟩;go_wp2_with fail;go_ret;exact⟨aI,.inl ⟨oh.out,rfl⟩⟩
   ·skip
    cases x4
    ·clear fl;go_enter func13,ntmps13;go_wp2_with fail;rw[ct.out];try go_wp2_with fail
     refine h1.mono ?_;rintro e wA ⟨rfl,rfl⟩;go_wp2_with fail;refine h2.mono ?_;rintro e wA ⟨rfl,rfl⟩;go_wp2_with fail;refine h3.mono ?_;rintro e wA ⟨rfl,rfl⟩;go_wp2_with fail;refine h4.mono ?_;rintro e wA ⟨rfl,rfl⟩;go_wp2_with fail;go_ret;exact⟨aI,.inl ⟨oh.out,rfl⟩⟩
    ·skip
     cases x5
     ·clear fl;go_enter func13,ntmps13;go_wp2_with fail;rw[ct.out];try go_wp2_with fail
      refine h1.mono ?_;rintro e wA ⟨rfl,rfl⟩;go_wp2_with fail;refine h2.mono ?_;rintro e wA ⟨rfl,rfl⟩;go_wp2_with fail;refine h3.mono ?_;rintro e wA ⟨rfl,rfl⟩;go_wp2_with fail;refine h4.mono ?_;rintro e wA ⟨rfl,rfl⟩;go_wp2_with fail;refine h5.mono ?_;rintro e w5 ⟨rfl,cM⟩;go_wp2_with fail;go_ret;exact⟨ab aI cM zl,.inl ⟨oh.out,rfl⟩⟩
     ·skip
      exact absurd ⟨rfl,rfl,rfl,rfl,rfl⟩ fl
end
section
variable {aa:Nat->Nat}{w:World}
theorem HC(b mi:Nat)(id n:Nat)(s:pZ)(Ad A1:Option Addr)(md cd m1 c1:Nat)(hE:cP aa mi w (.slice A1 m1 c1) s.entries)(hD:bP aa mi w (.slice Ad md cd) s.snap.data)(ut:mi<=b\/b+13<mi)(qm:m1<=100000)(ly:s.snap.data.length=md)(gM:∀j,j<w.heap.size->¬bw aa b j)(mT:jN id n s) :
  Calls prog 13 #[.int .i64 id,.int .i64 n,.agg #[.int .i64 s.hard.term,.int .i64 s.hard.vote,.int .i64 s.snap.idx,.int .i64 s.snap.term,.slice Ad md cd,.slice A1 m1 c1]] w fun e w'=>mq aa b w (Rf.new id n s) e w':=by
 obtain⟨p,hp⟩:=zN (bD.takeF (bD.mk s.snap.idx s.snap.term []) s.snap.idx s.snap.term (s.entries.filter fun x=>decide (s.snap.idx<x.idx)));have gm:=wI mT hp;have aI:Below w.heap.size w (w.alloc (.cells #[.int .i64 s.hard.term,.int .i64 s.hard.vote,.int .i64 s.snap.idx,.int .i64 s.snap.term,.slice Ad md cd,.slice A1 m1 c1] 29)):=zb.alloc zl _;have gK:=ao.new w 29 #[.int .i64 s.hard.term,.int .i64 s.hard.vote,.int .i64 s.snap.idx,.int .i64 s.snap.term,.slice Ad md cd,.slice A1 m1 c1];obtain⟨w1,ct⟩:=zN (w.alloc (.cells #[.int .i64 s.hard.term,.int .i64 s.hard.vote,.int .i64 s.snap.idx,.int .i64 s.snap.term,.slice Ad md cd,.slice A1 m1 c1] 29));rw[ct]at aI gK;obtain⟨y0,y1,y2,y3,y4,y5,-⟩:=gK.cs [0,1,2,3,4,5];simp only[Zx]at y0 y1 y2 y3 y4 y5;have h1:=rM (show decide (1<=(n:Int)/\(n:Int)<=7)=true from decide_eq_true mT.1) w1;have h2:=rM (show decide (1<=(id:Int)/\(id:Int)<=n)=true from decide_eq_true mT.2.1) w1;have h3:=rM (show decide (0<=s.hard.term/\s.hard.term<=1099511627776)=true from decide_eq_true mT.2.2.1) w1;have h4:=rM (show decide (0<=s.hard.vote/\s.hard.vote<=n)=true from decide_eq_true mT.2.2.2.1) w1;have h5:=uD s.snap.idx s.snap.term Ad md cd s.snap.data w1 ly;have um:eU ⟨s.snap.idx,s.snap.term,s.snap.data⟩=true:=mT.2.2.2.2;rw[um]at h5;obtain⟨bE,Qo,Ju⟩:=nF um;have jb:=mT.2.1;have pI:=mT.1;obtain⟨Ae,ne,ce,zs,pL,Fk,Jx,CS,vX,oM,bS⟩:=hE;injection pL with e1 e2 e3;subst e1;subst e2;subst e3;obtain⟨Ab,cb,hvb,Fj,oa,bM,Xf⟩:=hD;injection hvb with e1 e2 e3;subst e1;subst e3;rw[ly]at Fj;replace ct:=zH ct;replace hp:=zH hp;replace gm:=zH gm;replace mT:=zH mT;replace jb:=zH jb;replace pI:=zH pI;replace Qo:=zH Qo;replace ly:=zH ly;clear um e2;go_enter func13,ntmps13;go_wp2_with fail;rw[ct.out];try go_wp2_with fail
 refine h1.mono ?_;rintro e wA ⟨rfl,rfl⟩;go_wp2_with fail;refine h2.mono ?_;rintro e wA ⟨rfl,rfl⟩;go_wp2_with fail;refine h3.mono ?_;rintro e wA ⟨rfl,rfl⟩;go_wp2_with fail;refine h4.mono ?_;rintro e wA ⟨rfl,rfl⟩;go_wp2_with fail;refine h5.mono ?_;rintro e w5 ⟨rfl,cM⟩;clear h1 h2 h3 h4 h5 y0 y1 y2 y3 y4 y5;have kE:=ab aI cM zl;have CF:=gK.kept cM;go_wp2_with fail;obtain⟨y0,y1,y2,y3,y4,y5,-⟩:=CF.cs [0,1,2,3,4,5];simp only[Zx]at y0 y1 y2 y3 y4 y5;obtain⟨k0,k1,k2,k3,k4⟩:=Ov [w.heap.size] y0 y1 y2 y3 y4;have QW:=CF.lt;have J5:=C9 bE (aj aa w.heap.size b) (b+2) w5.drew;refine eE [w.heap.size] w5 [([0,1,2,3,4,5,6,7,8,9,11,12,14,15,16],10),([],13),([17],18)] [19] ?_;refine aF fun K1 cQ=>?_
 simp only[ah,Zx];repeat go_big_quiet_step(fail)
 apply wpQuiet_nil;go_wp2_with fail;refine J5.mono ?_;rintro e w6 ⟨rfl,W7,iT⟩;have dA:∀q∈[w.heap.size],q<w5.heap.size:=by simp;exact QW
 have Jn:Below w5.heap.size w5 w6:=(zb.drew).trans iT;clear J5;go_wp2_with fail;refine⟨av dA Jn,cQ _ _ ?_⟩;refine aF fun K2 iu=>?_
 simp only[ah,Zx];apply wpQuiet_nil;have KT:=nt s.snap.idx s.snap.term Ad md cd s.snap.data w6 (cn.below (cn.below Fj kE) Jn) (by have:=Qo.out;have:=ly.out;omega);go_wp2_with fail;refine KT.mono ?_;rintro e w7 ⟨A7,c7,rfl,eH,iw⟩;have P0:Below w5.heap.size w5 w7:=ab Jn iw zl;clear KT;go_wp2_with fail;refine⟨av dA P0,iu _ _ ?_⟩;refine aF fun K3 jY=>?_
 simp only[ah,Zx];repeat go_big_quiet_step(fail)
 apply wpQuiet_nil;go_wp2_with fail;have Jp:Below w7.heap.size w7 (w7.alloc (.cells #[.slice none 0 0,.int .i64 0,.slice none 0 0,.map none,.int .i64 id,.int .i64 n,.int .i64 s.hard.term,.int .i64 s.hard.vote,.pointer (some ⟨w5.heap.size,0,none⟩),.int .i64 s.snap.idx,.int .i64 s.snap.term,.slice A7 md c7,.int .i64 s.snap.idx,.int .i64 0,.int .i64 0,.int .i64 0,.int .i64 0,.int .i64 0,.int .i64 0,.int .i64 0,.int .i64 0,.slice none 0 0,.bool false,.bool false,.int .i64 0,.int .i64 0,.slice none 0 0,.slice none 0 0,.pointer none,.slice none 0 0,.slice none 0 0] 107)):=zb.alloc zl _;have II:=ao.new w7 107 #[.slice none 0 0,.int .i64 0,.slice none 0 0,.map none,.int .i64 id,.int .i64 n,.int .i64 s.hard.term,.int .i64 s.hard.vote,.pointer (some ⟨w5.heap.size,0,none⟩),.int .i64 s.snap.idx,.int .i64 s.snap.term,.slice A7 md c7,.int .i64 s.snap.idx,.int .i64 0,.int .i64 0,.int .i64 0,.int .i64 0,.int .i64 0,.int .i64 0,.int .i64 0,.int .i64 0,.slice none 0 0,.bool false,.bool false,.int .i64 0,.int .i64 0,.slice none 0 0,.slice none 0 0,.pointer none,.slice none 0 0,.slice none 0 0];have Jo:=ab P0 Jp zl;refine⟨av dA Jo,jY _ _ ?_⟩;obtain⟨w8,Tg⟩:=zN (w7.alloc (.cells #[.slice none 0 0,.int .i64 0,.slice none 0 0,.map none,.int .i64 id,.int .i64 n,.int .i64 s.hard.term,.int .i64 s.hard.vote,.pointer (some ⟨w5.heap.size,0,none⟩),.int .i64 s.snap.idx,.int .i64 s.snap.term,.slice A7 md c7,.int .i64 s.snap.idx,.int .i64 0,.int .i64 0,.int .i64 0,.int .i64 0,.int .i64 0,.int .i64 0,.int .i64 0,.int .i64 0,.slice none 0 0,.bool false,.bool false,.int .i64 0,.int .i64 0,.slice none 0 0,.slice none 0 0,.pointer none,.slice none 0 0,.slice none 0 0] 107));rw[Tg]at Jp II Jo;replace Tg:=zH Tg;obtain⟨g,hg⟩:=zN (w7.heap.size);have Z3:=Jn.size;have Z4:=iw.size;have Z2:=kE.size;have Z5:w7.heap.size<w8.heap.size:=II.lt;have Mn:tb (aj (aj aa w.heap.size b) w5.heap.size (b+2)) (b+2) w6 (.pointer (some ⟨w5.heap.size,0,none⟩)) ⟨s.snap.idx,s.snap.term,[]⟩:=W7;have h8:ax (aj (aj (aj (aj aa w.heap.size b) w5.heap.size (b+2)) w6.heap.size (b+6)) w7.heap.size (b+1)) b w8 g (fH id n s ⟨s.snap.idx,s.snap.term,[]⟩)
   ⟨.slice none 0 0,.slice none 0 0,.map none,.pointer (some ⟨w5.heap.size,0,none⟩),.slice A7 md c7,.slice none 0 0,.slice none 0 0,.slice none 0 0,.pointer none,.slice none 0 0,.slice none 0 0⟩:=by
  refine⟨by rw[<-hg];exact II,by rw[<-hg];exact az zl,?_,bR.nil _ _ _ _ _,bR.nil _ _ _ _ _,.inl ⟨rfl,rfl⟩,?_,bR.nil _ _ _ _ _,dQ.nil _ _ _ _,dQ.nil _ _ _ _,rfl,bR.nil _ _ _ _ _,gI.nil _ _ _ _⟩
  ·refine tb.keep (Mn.relabel fun j hj e=>?_) fun j _ hl=>(ab iw Jp zl).block j hl
   rw[ac (by omega),ac hj];exact e
  ·have ti:=bB eH;have h9:bP (aj (aj (aj (aj aa w.heap.size b) w5.heap.size (b+2)) w6.heap.size (b+6)) w7.heap.size (b+1)) (b+6) w7 (.slice A7 md c7) s.snap.data:=by
    refine⟨A7,c7,by rw[ly.out],by rw[ly.out];exact cn.of_own eH,by rw[ly.out];exact ti.1,ti.2,fun _ ad e=>?_⟩;have:=aw eH A7 c7 rfl ad.block ⟨ad,e,rfl⟩;show aj _ _ _ _=_;rw[ac this.1];exact az this.2.1
   exact h9.keep fun j _ hl=>Jp.block j hl
 rw[Tg.out];refine al ?_;simp only[ah,Zx];repeat go_big_quiet_step(fail)
 apply wpQuiet_nil;have yk:=ab kE Jo zl;have cA:ao w8 w.heap.size 29 #[.int .i64 s.hard.term,.int .i64 s.hard.vote,.int .i64 s.snap.idx,.int .i64 s.snap.term,.slice Ad md cd,.slice A1 m1 c1]:=CF.kept Jo;obtain⟨z2,z5,-⟩:=cA.cs [2,5];simp only[Zx]at z2 z5;have Q8:=cA.lt;have eG:=AX (S:=aM aa mi) A1 m1 c1 zs (ff.below Fk yk) (Jx.keep (bA.below yk)) (by omega);replace Mn:=zH Mn;replace h8:=zH h8;clear W7 eH k0 k1 k2 k3 k4 y0 y1 y2 y3 y4 y5;try rw[hg]
 go_wp2_with fail;refine eG.mono ?_;rintro e w9 ⟨A9,c9,rfl,jz,kX⟩;clear eG;have gC:=(kX.cell (p:=⟨w.heap.size,2,none⟩) Q8).trans z2;have Gr:=xR (S:=fun j=>aa j=mi/\j<w.heap.size) s.snap.idx w8.heap.size w.heap.size m1 c9 A9 zs jz kX.size ((Jx.mono (S':=fun j=>aa j=mi/\j<w.heap.size) fun j hj e=>⟨e,hj⟩).keep fun j hj hl=>(ab yk kX zl).block j hj.2) (fun j hj=>by have:=hj.2;omega) Q8 gC (by omega);go_wp2_with fail;refine Gr.mono ?_;rintro e w10 ⟨A10,c10,rfl,RC,Rh,Qh,GZ,vM⟩;clear Gr jz;have Gi:Below w8.heap.size w8 w10:=kX.trans vM;have lO:=h8.out.fresh Gi;obtain⟨yX,uq⟩:=zN (aj (aj (aj (aj (aj aa w.heap.size b) w5.heap.size (b+2)) w6.heap.size (b+6)) w7.heap.size (b+1)) w8.heap.size b);rw[uq]at lO;have T6:∀j,j<w.heap.size->yX j=aa j:=fun j hj=>by
  rw[<-uq,ac (by omega),ac (by omega),ac (by omega),ac (by omega),ac hj]
 have hXq:yX w.heap.size=b:=by
  rw[<-uq,ac (by omega),ac (by omega),ac (by omega),ac QW];exact az zl
 have YQ:∀j,w8.heap.size<=j->yX j=b:=fun j hj=>by rw[<-uq];exact az hj
 replace uq:=zH uq;have Gf:=ab yk Gi zl;have IJ:ao w10 w.heap.size 29 #[.int .i64 s.hard.term,.int .i64 s.hard.vote,.int .i64 s.snap.idx,.int .i64 s.snap.term,.slice Ad md cd,.slice A1 m1 c1]:=cA.kept Gi;have xA:(bT s.snap.idx zs).length<=m1:=by have:=Et s.snap.idx zs;have:=Fk.len;omega
 have og:(bT s.snap.idx zs).map (·.2)=s.entries.filter fun x=>decide (s.snap.idx<x.idx):=by rw[su,CS]
 have cx:=Al (S2:=aM yX mi) s.snap.idx s.snap.term A10 (bT s.snap.idx zs).length c10 (bT s.snap.idx zs) (lO.below (w':=w10.drew) (zb.drew)) zz (ff.below RC (zb.drew))
  ((((Jx.mono (S':=aM yX mi) fun j hj e=>(T6 j hj).trans e).sub fun z hz=>(List.mem_filter.1 hz).1).mono (S':=fun j=>yX j=mi/\j<w.heap.size) fun j hj e=>⟨e,hj⟩).keep (w':=w10.drew) (fun j hj hl=>Gf.block j hj.2) |>.mono fun j _ e=>e.1) (by omega) Rh Qh (fun j e=>by have e:yX j=mi:=e;omega) (fun _ j hj=>by rw[YQ j (GZ j hj)];omega)
 have jq:=hp.out;rw[og]at cx;have RO:(fH id n s ⟨s.snap.idx,s.snap.term,[]⟩).track=bD.mk s.snap.idx s.snap.term []:=rfl;rw[RO,jq]at cx;have SG:({fH id n s ⟨s.snap.idx,s.snap.term,[]⟩with track:=p.2}:Rf)=fH id n s p.2:=rfl;rw[SG]at cx;have AK:p.2.L.length<=1000000:=by
  have hf:=eJ (bD.mk s.snap.idx s.snap.term []) s.snap.idx s.snap.term (s.entries.filter fun x=>decide (s.snap.idx<x.idx));rw[jq]at hf;have h1:=hf.2.1;have h2:(s.entries.filter fun x=>decide (s.snap.idx<x.idx)).length<=s.entries.length:=List.length_filter_le _ _;have h3:s.entries.length=m1:=by rw[<-CS,List.length_map];exact Fk.len
  have h4:(bD.mk s.snap.idx s.snap.term []).L.length=0:=rfl;omega
 obtain⟨z0,z2,z3,-⟩:=IJ.cs [0,2,3];simp only[Zx]at z0 z2 z3;have d8:=lO.s.cell 8;simp only[bV,vi,Zx]at d8;have Zr:=IJ.lt;have xn:=lO.s.lt;obtain⟨t2,t3,t8⟩:=tT [g,w.heap.size] z2 z3 d8;have qF:w10.heap[g]?=some (.cells (bV (fH id n s ⟨s.snap.idx,s.snap.term,[]⟩) ⟨.slice none 0 0,.slice none 0 0,.map none,.pointer (some ⟨w5.heap.size,0,none⟩),.slice A7 md c7,.slice none 0 0,.slice none 0 0,.slice none 0 0,.pointer none,.slice none 0 0,.slice none 0 0⟩) 107 (0,0)):=lO.s;have Bz:=zH gM;replace og:=zH og;replace jq:=zH jq;clear lO RC Rh Qh GZ SG RO gM;simp only at cx;go_wp2_with fail;refine eE [g,w.heap.size] w10 [([0,1,2,3,4,5,6,7,8,9,10],11)] [12,13,14,15,16] ?_;refine aF fun K4 ro=>?_
 simp only[ah,Zx];repeat go_big_quiet_step(fail)
 apply wpQuiet_nil;go_wp2_with fail;refine cx.mono ?_;rintro e w11 ⟨rfl,Sc,Ax,GD,Dw⟩;have Rz:w11.heap[w.heap.size]?=w10.heap[w.heap.size]?:=Dw.block w.heap.size Zr fun hm=>by unfold aS at hm;omega
 have RF:w.heap.size<=w10.heap.size:=Gf.size;have Gg:Below w.heap.size w w11:=Gf.trans (Fr.below (X:=aS yX b) ⟨Dw.os,Dw.tape,Dw.output,Dw.size,Dw.block⟩ (fun j hj=>by
  rcases Nat.lt_or_ge j w.heap.size with h|h
  ·have:=Bz.out j h;unfold aS at hj;unfold bw at this;rw[T6 j h]at hj;omega
  ·exact h) RF)
 have UG:w11.heap[g]?=w10.heap[g]?:=Ax.s.trans qF.symm;clear cx;go_wp2_with fail;refine⟨bO UG Rz,ro _ _ ?_⟩;refine al ?_;simp only[ah,Zx];repeat go_big_quiet_step(fail)
 apply wpQuiet_nil;have vT:ao w11 w.heap.size 29 #[.int .i64 s.hard.term,.int .i64 s.hard.vote,.int .i64 s.snap.idx,.int .i64 s.snap.term,.slice Ad md cd,.slice A1 m1 c1]:=Rz.trans IJ;by_cases cR:p.1.2=false
 ·have dO:=zH (show Rf.new id n s=none by rw[gm.out,if_pos (.inl cR)]);clear Ax;go_wp2_with fail;go_ret;exact⟨Gg,.inl ⟨dO.out,rfl⟩⟩
 ·replace cR:p.1.2=true:=by simpa using cR
  have bH:=i7 Ax.t (by exact AK);have d8:=Ax.s.cell 8;simp only[bV,vi,Zx]at d8;obtain⟨l1,cD⟩:∃l,p.2.lastF.1=l:=⟨_,rfl⟩;obtain⟨l2,dG⟩:∃l,p.2.lastF.2=l:=⟨_,rfl⟩;have KV:Calls prog 44 #[.pointer (some ⟨w5.heap.size,0,none⟩)] w11 fun e w'=>e=.returned (.tuple #[.int .i64 l1,.int .i64 l2])/\Below w11.heap.size w11 w':=by
   rw[<-cD,<-dG];exact bH
  replace cD:=zH cD;replace dG:=zH dG;have TC:=zH Ax;clear bH Ax;go_wp2_with fail;refine KV.mono ?_;rintro e w12 ⟨rfl,ef⟩;have Zn:=vT.kept ef;have c0:=Zn.cell 0;simp only[Zx]at c0;have KP:Below w.heap.size w w12:=Gg.trans (ef.mono Gg.size);clear KV;by_cases UO:s.hard.term<l2
  ·have dO:=zH (show Rf.new id n s=none by rw[gm.out,if_pos (.inr (by rw[dG.out];exact UO))]);go_wp2_with fail;go_ret;exact⟨KP,.inl ⟨dO.out,rfl⟩⟩
  ·have gB:=zH (show Rf.new id n s=some (fH id n s p.2) by
    rw[gm.out,if_neg];rintro(h|h)
    ·rw[cR]at h;cases h
    ·rw[dG.out]at h;exact UO h)
   go_wp2_with fail;go_ret;exact⟨KP,.inr ⟨fH id n s p.2,g,Sc,_,gB.out,rfl,TC.out.below ef,fun j hj=>(GD j (Nat.lt_of_lt_of_le hj RF)).trans (T6 j hj),by have:=iw.size;omega⟩⟩
theorem CW(b mi:Nat)(id n:Int)(s:pZ)(Ad A1:Option Addr)(md cd m1 c1:Nat)(hE:cP aa mi w (.slice A1 m1 c1) s.entries)(hD:bP aa mi w (.slice Ad md cd) s.snap.data)(ut:mi<=b\/b+13<mi)(qm:m1<=100000)(ly:s.snap.data.length=md)(gM:∀j,j<w.heap.size->¬bw aa b j) :
  Calls prog 13 #[.int .i64 id,.int .i64 n,.agg #[.int .i64 s.hard.term,.int .i64 s.hard.vote,.int .i64 s.snap.idx,.int .i64 s.snap.term,.slice Ad md cd,.slice A1 m1 c1]] w fun e w'=>mq aa b w (Rf.new id n s) e w':=by
 by_cases h:jN id n s
 ·have h1:=h.1;have h2:=h.2.1;obtain⟨N,rfl⟩:∃N:Nat,n=N:=⟨n.toNat,by omega⟩;obtain⟨I,rfl⟩:∃I:Nat,id=I:=⟨id.toNat,by omega⟩;exact HC b mi I N s Ad A1 md cd m1 c1 hE hD ut qm ly gM h
 ·exact Kh b id n s Ad A1 md cd m1 c1 ly h
end
theorem yU{i tm:Int}(hb:iK i tm=true):bD.Inv ⟨i,tm,[]⟩:=by
 refine⟨?_,fun j x h=>(by cases h),fun x h=>(by cases h),fun j x h=>(by cases h)⟩;unfold iK eA at hb;simp only[Bool.or_eq_true,Bool.and_eq_true,decide_eq_true_eq]at hb;show(i=0/\tm=0)\/_;rcases hb with h|⟨h1,h2⟩
 ·exact .inl h
 ·exact .inr ⟨h1.1,h1.2,h2.1,h2.2⟩
theorem zn{id n:Nat}{s:pZ}(h:jN id n s){p:(Int×Bool)×bD}(hp:bD.takeF (bD.mk s.snap.idx s.snap.term []) s.snap.idx s.snap.term (s.entries.filter fun x=>decide (s.snap.idx<x.idx))=p) :
  Ok (s.entries.length+1) 0 (fH id n s p.2)/\(fH id n s p.2).track.index<=(fH id n s p.2).commit:=by
 obtain⟨hn,jb,qG,iV,hk⟩:=h;obtain⟨hb,hd,Ju⟩:=nF (i:=s.snap.idx) (t:=s.snap.term) (l:=s.snap.data) hk;have QO:(bD.mk s.snap.idx s.snap.term []).Inv:=yU hb;have dJ:=QO.takeF s.snap.idx s.snap.term (s.entries.filter fun x=>decide (s.snap.idx<x.idx));have hf:=eJ (bD.mk s.snap.idx s.snap.term []) s.snap.idx s.snap.term (s.entries.filter fun x=>decide (s.snap.idx<x.idx));rw[hp]at dJ hf;have hi:p.2.index=s.snap.idx:=hf.1;have hl:p.2.L.length<=s.entries.length:=by
  have h1:p.2.L.length<=([]:List En).length+_:=hf.2.1;have h2:=List.length_filter_le (fun x:En=>decide (s.snap.idx<x.idx)) s.entries;simp only[List.length_nil]at h1;omega
 have iv:0<=s.snap.idx/\s.snap.idx<=1099511627776:=by
  unfold iK eA at hb;simp only[Bool.or_eq_true,Bool.and_eq_true,decide_eq_true_eq]at hb;omega
 refine⟨{id:=⟨?_,?_,?_⟩,tm:=qG,tr:=dJ,cm:=iv,dat:=hd,dat0:=?_,gat:=Nat.zero_le _,trk:=?_,ws:=Nat.zero_le _,yl:=Nat.zero_le _,ck:=⟨Int.le_refl _,?_,Int.le_refl _,?_⟩,ms:=Nat.le_refl _,es:=Nat.le_refl _,cs:=Nat.le_refl _,rs:=Nat.le_refl _,ys:=?_,ld:=?_},?_⟩
 ·show 1<=id;omega
 ·show id<=n;omega
 ·show n<=7;omega
 ·intro h;refine Ju ?_;rw[<-hi];exact h
 ·show p.2.L.length<=_;omega
 ·show(0:Int)<=_;omega
 ·show(0:Int)<=_;omega
 ·intro h;exact absurd (show(0:Int)=1\/(0:Int)=2 from h) (by omega)
 ·intro h;exact absurd (show(0:Int)=3 from h) (by omega)
 ·show p.2.index<=s.snap.idx;omega
def dz(R:Rf):Prop:=R.track.index<=R.commit
section
variable {R:Rf}
theorem dz.of{R':Rf}(h:dz R)(e1:R'.track.index=R.track.index)(e2:R.commit<=R'.commit):dz R':=by
 unfold dz at h ⊢;omega
theorem dz.all(h:dz R):dz R.all:=by
 obtain⟨ms,e,_⟩:=fA R.others R;have e':R.all=_:=e;rw[e'];exact h
theorem dz.lacks(h:dz R)(s:Nat):dz (R.lacks s):=by
 unfold Rf.lacks;split
 ·exact h
 ·exact h
theorem dz.commits(h:dz R)(k:Int):dz (R.commits k):=by
 unfold Rf.commits;split
 ·exact h.of rfl (by show R.commit<=k;omega)
 ·exact h
theorem dz.agrees(h:dz R):dz R.agrees:=by
 unfold Rf.agrees;split
 ·exact h.commits _
 ·exact h
theorem dz.leads1(h:dz R):dz R.leads1:=by
 have hp:=(g8 R.crown.track R.crown.hard.term gc).1;unfold Rf.leads1;simp only;split
 ·exact h.of (show(R.crown.track.putF R.crown.hard.term gc).2.index=R.track.index from hp) (Int.le_refl R.commit)
 ·exact h.of (show(R.crown.track.putF R.crown.hard.term gc).2.index=R.track.index from hp) (Int.le_refl R.commit)
theorem dz.leads(h:dz R):dz R.leads:=h.leads1.all.agrees
theorem dz.standing(h:dz R):dz (R.stands2.says R.id):=by
 have e:R.stands2=_:=gj (fun s:Nat=>{dh with kind:=3,tgt:=(s:Int),idx:=R.track.lastF.1,logTerm:=R.track.lastF.2}) R.stands1.others R.stands1;rw[e];exact h
theorem dz.stands(h:dz R):dz R.stands:=by
 unfold Rf.stands;split
 ·exact h.standing.leads
 ·exact h.standing
theorem dz.asking(h:dz R):dz (R.asks2.says R.id):=by
 have e:R.asks2=_:=gj (fun s:Nat=>{dh with kind:=1,tgt:=(s:Int),term:=R.hard.term+1,idx:=R.track.lastF.1,logTerm:=R.track.lastF.2}) R.asks1.others R.asks1;rw[e];exact h
theorem dz.asks(h:dz R):dz R.asks:=by
 unfold Rf.asks;split
 ·exact h.asking.stands
 ·exact h.asking
theorem dz.beats(h:dz R)(draw:Int):dz (R.beats draw):=by
 unfold Rf.beats;simp only;split
 ·split
  ·exact dz.all (R:={R with clock:=0,round:=R.round+1}) h
  ·exact h
 ·by_cases hw:R.wait=0
  ·simp only[hw,if_true];split
   ·split
    ·exact dz.asks (R:=Rf.rest {R with clock:=R.clock+1,wait:=gF draw}) h
    ·exact h
   ·exact h
  ·simp only[hw,if_false];split
   ·split
    ·exact dz.asks (R:=Rf.rest {R with clock:=R.clock+1}) h
    ·exact h
   ·exact h
theorem dz.tick(h:dz R)(draw:Int):dz (R.tick draw).2:=h.beats draw
theorem dz.propose(h:dz R)(x:En):dz (R.propose x).2:=by
 have hp:=(g8 R.track R.hard.term x).1;unfold Rf.propose;split
 ·exact h
 ·simp only;split
  ·exact h.of hp (Int.le_refl _)
  ·exact dz.agrees (dz.all (R:=({R with track:=(R.track.putF R.hard.term x).2}:Rf).save [(R.track.putF R.hard.term x).1.1]) (h.of hp (Int.le_refl _)))
theorem dz.follows(h:dz R)(t:Int):dz (R.follows t):=h
theorem dz.reads(h:dz R):dz R.reads:=h
theorem dz.setPeer(h:dz R)(s:Nat)(p:Pr):dz (R.setPeer s p):=h
theorem dz.has(h:dz R)(s:Nat)(i:Int):dz (R.has s i):=by
 unfold Rf.has;simp only;split
 ·exact((h.setPeer s _).agrees).lacks s
 ·exact(h.setPeer s _).agrees
theorem dz.answered(h:dz R)(m:Mg):dz (R.answered m):=by
 obtain⟨R1,iS⟩:=zN (R.setPeer m.frm.toNat {R.peer m.frm.toNat with round:=max (R.peer m.frm.toNat).round (min m.round R.round)});have h1:dz R1:=by rw[<-iS];exact h
 have e:R.answered m=if m.kind=8/\0<m.total then
   if m.idx=R.snap.idx/\(R1.peer m.frm.toNat).next-1<R.snap.idx then(R1.setPeer m.frm.toNat {R1.peer m.frm.toNat with offset:=min m.offset R.snap.data.length}).lacks m.frm.toNat else R1
  else if m.kind=6/\m.reject=true then(R1.setPeer m.frm.toNat {R1.peer m.frm.toNat with next:=max ((R1.peer m.frm.toNat).mat+1) (min ((R1.peer m.frm.toNat).next-1) (m.idx+1))}).lacks m.frm.toNat
  else R1.has m.frm.toNat m.idx:=by
  rw[<-iS];rfl
 rw[e];split
 ·split
  ·exact(h1.setPeer _ _).lacks _
  ·exact h1
 ·split
  ·exact(h1.setPeer _ _).lacks _
  ·exact h1.has _ _
theorem dz.appends(h:dz R)(m:Mg):dz (R.appends m):=by
 have ht:=(eJ R.track m.idx m.logTerm m.entries).1;unfold Rf.appends;split
 ·exact h
 ·simp only;split
  ·exact h
  ·split
   ·exact dz.commits (R:=({R with track:=(R.track.takeF m.idx m.logTerm m.entries).2}:Rf).save ((R.track.takeF m.idx m.logTerm m.entries).2.sliceF (R.track.takeF m.idx m.logTerm m.entries).1.1 m.entries.length)) (h.of (R':=({R with track:=(R.track.takeF m.idx m.logTerm m.entries).2}:Rf).save ((R.track.takeF m.idx m.logTerm m.entries).2.sliceF (R.track.takeF m.idx m.logTerm m.entries).1.1 m.entries.length)) ht (Int.le_refl _)) _
   ·exact dz.commits (R:=({R with track:=(R.track.takeF m.idx m.logTerm m.entries).2}:Rf)) (h.of (R':=({R with track:=(R.track.takeF m.idx m.logTerm m.entries).2}:Rf)) ht (Int.le_refl _)) _
theorem dz.install(R:Rf)(x:tU):dz (R.install x):=by
 unfold Rf.install;simp only;split
 ·rename_i ht;show(R.track.dropF x.idx).2.index<=x.idx;unfold bD.dropF;rw[if_neg (by rw[ht];show ¬(0:Int)=33;omega),if_neg (by rw[ht];show ¬(0:Int)=34;omega)];exact Int.le_refl _
 ·exact Int.le_refl x.idx
theorem dz.send(h:dz R)(m:Mg):dz (R.send m):=h
theorem dz.piece(h:dz R)(m:Mg):dz (R.piece m):=by
 unfold Rf.piece;split
 ·exact h
 ·split
  ·exact h.send _
  ·simp only;split
   ·exact dz.send (R:={R with gath:=R.gath1 m}) h _
   ·exact(dz.install _ _).send _
theorem dz.votes(h:dz R)(m:Mg):dz (R.votes m):=by
 unfold Rf.votes;split
 ·exact h
 ·exact h
theorem dz.asked(h:dz R)(m:Mg):dz (R.asked m):=by
 unfold Rf.asked;split
 ·exact h
 ·exact h
theorem dz.says(h:dz R)(s:Int):dz (R.says s):=h
theorem dz.hears(h:dz R)(m:Mg):dz (R.hears m):=h
theorem dz.does(h:dz R)(m:Mg):dz (R.does m):=by
 unfold Rf.does;split
 ·exact h.asked m
 ·split
  ·split
   ·split
    ·exact(h.says _).stands
    ·exact h.says _
   ·exact h
  ·split
   ·exact h.votes m
   ·split
    ·split
     ·split
      ·exact(h.says _).leads
      ·exact h.says _
     ·exact h
    ·split
     ·split
      ·exact(h.hears m).appends m
      ·exact h
     ·split
      ·split
       ·exact(h.hears m).piece m
       ·exact h
      ·split
       ·exact h
       ·split
        ·exact h.answered m
        ·exact h
theorem dz.late(h:dz R)(m:Mg):dz (R.late m):=by
 unfold Rf.late;split
 ·exact h
 ·exact h
theorem dz.step(h:dz R)(m:Mg):dz (R.step m).2:=by
 unfold Rf.step;split
 ·exact h
 ·simp only;generalize iS:(if R.hard.term<m.term/\m.kind≠1/\(m.kind≠2\/m.reject=true)then R.follows m.term else R)=R1;have h1:dz R1:=by
   rw[<-iS];split
   ·exact h.follows _
   ·exact h
  split
  ·exact h1.late m
  ·generalize ja:R1.does m=R2;have h2:dz R2:=by rw[<-ja];exact h1.does m
   split
   ·exact h2.reads
   ·exact h2
end
def dt(R:Rf):Prop:=(0<=R.wait/\R.wait<=100)/\R.peers.length<=8/\R.n<=7
section
variable {R:Rf}
theorem Ix(d:Int):0<=gF d/\gF d<=100:=by unfold gF;omega
theorem dt.all(h:dt R):dt R.all:=by
 obtain⟨ms,e,_⟩:=fA R.others R;have e':R.all=_:=e;rw[e'];exact h
theorem dt.lacks(h:dt R)(s:Nat):dt (R.lacks s):=by
 unfold Rf.lacks;split
 ·exact h
 ·exact h
theorem dt.commits(h:dt R)(k:Int):dt (R.commits k):=by
 unfold Rf.commits;split
 ·exact h
 ·exact h
theorem dt.agrees(h:dt R):dt R.agrees:=by
 unfold Rf.agrees;split
 ·exact h.commits _
 ·exact h
theorem dt.crown(h:dt R):dt R.crown:=⟨h.1,by show(List.replicate (R.n+1) _).length<=8;rw[List.length_replicate];have:=h.2.2;omega,h.2.2⟩
theorem dt.leads1(h:dt R):dt R.leads1:=by
 have hc:=h.crown;unfold Rf.leads1;simp only;split
 ·exact hc
 ·exact hc
theorem dt.rest(h:dt R):dt R.rest:=⟨⟨Int.le_refl 0,by show(0:Int)<=100;omega⟩,h.2⟩
theorem dt.leads(h:dt R):dt R.leads:=h.leads1.all.agrees
theorem dt.standing(h:dt R):dt (R.stands2.says R.id):=by
 have e:R.stands2=_:=gj (fun s:Nat=>{dh with kind:=3,tgt:=(s:Int),idx:=R.track.lastF.1,logTerm:=R.track.lastF.2}) R.stands1.others R.stands1;rw[e];exact h
theorem dt.stands(h:dt R):dt R.stands:=by
 unfold Rf.stands;split
 ·exact h.standing.leads
 ·exact h.standing
theorem dt.asking(h:dt R):dt (R.asks2.says R.id):=by
 have e:R.asks2=_:=gj (fun s:Nat=>{dh with kind:=1,tgt:=(s:Int),term:=R.hard.term+1,idx:=R.track.lastF.1,logTerm:=R.track.lastF.2}) R.asks1.others R.asks1;rw[e];exact h
theorem dt.asks(h:dt R):dt R.asks:=by
 unfold Rf.asks;split
 ·exact h.asking.stands
 ·exact h.asking
theorem dt.beats(h:dt R)(draw:Int):dt (R.beats draw):=by
 have cZ:=Ix draw;unfold Rf.beats;simp only;split
 ·split
  ·exact dt.all (R:={R with clock:=0,round:=R.round+1}) h
  ·exact h
 ·by_cases hw:R.wait=0
  ·simp only[hw,if_true];have h1:dt {R with clock:=R.clock+1,wait:=gF draw}:=⟨cZ,h.2⟩;split
   ·split
    ·exact h1.rest.asks
    ·exact h1.rest
   ·exact h1
  ·simp only[hw,if_false];have h1:dt {R with clock:=R.clock+1}:=h;split
   ·split
    ·exact h1.rest.asks
    ·exact h1.rest
   ·exact h1
theorem dt.tick(h:dt R)(draw:Int):dt (R.tick draw).2:=h.beats draw
theorem dt.propose(h:dt R)(x:En):dt (R.propose x).2:=by
 unfold Rf.propose;split
 ·exact h
 ·simp only;split
  ·exact h
  ·exact dt.agrees (dt.all (R:=({R with track:=(R.track.putF R.hard.term x).2}:Rf).save [(R.track.putF R.hard.term x).1.1]) h)
theorem dt.follows(h:dt R)(t:Int):dt (R.follows t):=h
theorem dt.reads(h:dt R):dt R.reads:=h
theorem dt.setPeer(h:dt R)(s:Nat)(p:Pr):dt (R.setPeer s p):=⟨h.1,by show(R.peers.set s p).length<=8;rw[List.length_set];exact h.2.1,h.2.2⟩
theorem dt.has(h:dt R)(s:Nat)(i:Int):dt (R.has s i):=by
 unfold Rf.has;simp only;split
 ·exact((h.setPeer s _).agrees).lacks s
 ·exact(h.setPeer s _).agrees
theorem dt.answered(h:dt R)(m:Mg):dt (R.answered m):=by
 obtain⟨R1,iS⟩:=zN (R.setPeer m.frm.toNat {R.peer m.frm.toNat with round:=max (R.peer m.frm.toNat).round (min m.round R.round)});have h1:dt R1:=by rw[<-iS];exact h.setPeer _ _
 have e:R.answered m=if m.kind=8/\0<m.total then
   if m.idx=R.snap.idx/\(R1.peer m.frm.toNat).next-1<R.snap.idx then(R1.setPeer m.frm.toNat {R1.peer m.frm.toNat with offset:=min m.offset R.snap.data.length}).lacks m.frm.toNat else R1
  else if m.kind=6/\m.reject=true then(R1.setPeer m.frm.toNat {R1.peer m.frm.toNat with next:=max ((R1.peer m.frm.toNat).mat+1) (min ((R1.peer m.frm.toNat).next-1) (m.idx+1))}).lacks m.frm.toNat
  else R1.has m.frm.toNat m.idx:=by
  rw[<-iS];rfl
 rw[e];split
 ·split
  ·exact(h1.setPeer _ _).lacks _
  ·exact h1
 ·split
  ·exact(h1.setPeer _ _).lacks _
  ·exact h1.has _ _
theorem dt.appends(h:dt R)(m:Mg):dt (R.appends m):=by
 unfold Rf.appends;split
 ·exact h
 ·simp only;split
  ·exact h
  ·split
   ·exact dt.commits (R:=({R with track:=(R.track.takeF m.idx m.logTerm m.entries).2}:Rf).save ((R.track.takeF m.idx m.logTerm m.entries).2.sliceF (R.track.takeF m.idx m.logTerm m.entries).1.1 m.entries.length)) h _
   ·exact dt.commits (R:=({R with track:=(R.track.takeF m.idx m.logTerm m.entries).2}:Rf)) h _
theorem dt.install(h:dt R)(x:tU):dt (R.install x):=by
 unfold Rf.install;simp only;split
 ·exact h
 ·exact h
theorem dt.send(h:dt R)(m:Mg):dt (R.send m):=h
theorem dt.piece(h:dt R)(m:Mg):dt (R.piece m):=by
 unfold Rf.piece;split
 ·exact h
 ·split
  ·exact h.send _
  ·simp only;split
   ·exact dt.send (R:={R with gath:=R.gath1 m}) h _
   ·exact(dt.install (R:={R with gath:=R.gath1 m}) h _).send _
theorem dt.votes(h:dt R)(m:Mg):dt (R.votes m):=by
 unfold Rf.votes;split
 ·exact h.rest
 ·exact h
theorem dt.asked(h:dt R)(m:Mg):dt (R.asked m):=by
 unfold Rf.asked;split
 ·exact h
 ·exact h
theorem dt.says(h:dt R)(s:Int):dt (R.says s):=h
theorem dt.hears(h:dt R)(m:Mg):dt (R.hears m):=h.rest
theorem dt.does(h:dt R)(m:Mg):dt (R.does m):=by
 unfold Rf.does;split
 ·exact h.asked m
 ·split
  ·split
   ·split
    ·exact(h.says _).stands
    ·exact h.says _
   ·exact h
  ·split
   ·exact h.votes m
   ·split
    ·split
     ·split
      ·exact(h.says _).leads
      ·exact h.says _
     ·exact h
    ·split
     ·split
      ·exact(h.hears m).appends m
      ·exact h
     ·split
      ·split
       ·exact(h.hears m).piece m
       ·exact h
      ·split
       ·exact h
       ·split
        ·exact h.answered m
        ·exact h
theorem dt.late(h:dt R)(m:Mg):dt (R.late m):=by
 unfold Rf.late;split
 ·exact h
 ·exact h
theorem dt.step(h:dt R)(m:Mg):dt (R.step m).2:=by
 unfold Rf.step;split
 ·exact h
 ·simp only;generalize iS:(if R.hard.term<m.term/\m.kind≠1/\(m.kind≠2\/m.reject=true)then R.follows m.term else R)=R1;have h1:dt R1:=by
   rw[<-iS];split
   ·exact h.follows _
   ·exact h
  split
  ·exact h1.late m
  ·generalize ja:R1.does m=R2;have h2:dt R2:=by rw[<-ja];exact h1.does m
   split
   ·exact h2.reads
   ·exact h2
theorem Ec{id n:Nat}{s:pZ}(h:jN id n s)(t:bD):dt (fH id n s t):=
 ⟨⟨Int.le_refl 0,by show(0:Int)<=100;omega⟩,Nat.zero_le 8,by have:=h.1;show n<=7;omega⟩
end
section
variable {K M:Nat}{R:Rf}
theorem Ok.told(h:Ok K M R):Ok K 0 R.tell.2:=
 {h with ms:=Nat.le_refl 0,es:=Nat.le_refl 0,cs:=Nat.le_refl 0,rs:=Nat.le_refl 0}
theorem Ok.clocked(h:Ok K M R)(t w:Int)(ht:t=0\/t=R.clock\/t=R.clock+1):Ok (K+1) M {R with clock:=t,wait:=w}:=
 {h.mono (Nat.le_succ K) (Nat.le_refl M)with
  ck:=have:=h.ck
   ⟨by show 0<=t;omega,by show t<=((K+1:Nat):Int);omega,this.2.2.1,by show R.round<=((K+1:Nat):Int);omega⟩}
theorem Ok.rounded(h:Ok K M R)(ws:List Wt)(hw:ws.length<=16):Ok (K+1) M {R with clock:=0,round:=R.round+1,waits:=ws}:=
 {h.mono (Nat.le_succ K) (Nat.le_refl M)with
  ws:=hw
  ck:=have:=h.ck
   ⟨Int.le_refl 0,Int.natCast_nonneg _,by show 0<=R.round+1;omega,by show R.round+1<=((K+1:Nat):Int);omega⟩}
theorem Ok.asks'(h:Ok K M R)(ht:R.hard.term<iQ):Ok (K+3) (M+K+40) R.asks:=h.asks ht
theorem Ok.beats(h:Ok K M R)(draw:Int):Ok (K+4) (M+K+60) (R.beats draw):=by
 unfold Rf.beats;simp only;split
 ·split
  ·exact((h.rounded R.waits h.ws).all).mono (by omega) (by omega)
  ·exact(h.clocked (R.clock+1) R.wait (.inr (.inr rfl))).mono (by omega) (by omega)
 ·have e:∀w:Int,Ok (K+4) (M+K+60) (if w<=R.clock+1 then if R.hard.term<iQ then Rf.asks {R with clock:=0,wait:=0}else {R with clock:=0,wait:=0}else {R with clock:=R.clock+1,wait:=w}):=by
   intro w;split
   ·split
    ·exact(Ok.asks' (R:={R with clock:=0,wait:=0}) (h.clocked 0 0 (.inl rfl)) (by assumption)).mono (by omega) (by omega)
    ·exact(h.clocked 0 0 (.inl rfl)).mono (by omega) (by omega)
   ·exact(h.clocked (R.clock+1) w (.inr (.inr rfl))).mono (by omega) (by omega)
  by_cases hw:R.wait=0
  ·simp only[hw,if_true];exact e (gF draw)
  ·simp only[hw,if_false];exact e R.wait
theorem Ok.ticked(h:Ok K 0 R)(draw:Int):Ok (K+11) 0 (R.tick draw).2:=((h.beats draw).told).mono (by omega) (by omega)
theorem Ok.reads(h:Ok K M R):Ok K (M+16) R.reads:=by
 have h':=h.mono (Nat.le_refl K) (Nat.le_add_right M 16);refine {h' with ws:=?_,rs:=?_}
 ·exact Nat.le_trans (List.length_filter_le _ _) h.ws
 ·have h1:=List.length_filter_le (fun x:Wt=>decide (x.round<=R.readsTo)) R.waits;have h2:=h.ws;have h3:=h.rs;show(R.out.reads++List.map (fun x:Wt=>(x.ctx,x.idx)) (R.waits.filter (fun x=>decide (x.round<=R.readsTo)))).length<=M+16;rw[List.length_append,List.length_map];omega
theorem Ok.late(h:Ok K M R)(m:Mg):Ok K (M+1) (R.late m):=by
 unfold Rf.late;split
 ·exact h.send _
 ·exact h.mono (Nat.le_refl K) (Nat.le_succ M)
theorem Ok.stepped(h:Ok K 0 R)(hK:1<=K)(m:Mg):Ok (K+11) 0 (R.step m).2:=by
 unfold Rf.step;split
 ·exact h.mono (by omega) (by omega)
 ·rename_i hr;have jp:xE R m:=sx (by cases hx:R.right m <;> simp_all);simp only;generalize iS:(if R.hard.term<m.term/\m.kind≠1/\(m.kind≠2\/m.reject=true)then R.follows m.term else R)=R1;have h1:Ok K 0 R1:=by
   rw[<-iS];split
   ·exact h.follows (by have:=jp.term;omega) (by have:=jp.term;omega)
   ·exact h
  have Nf:R1.n=R.n:=by rw[<-iS];split <;> rfl
  have BI:xE R1 m:=⟨jp.kind,by rw[Nf];exact jp.frm,jp.term,jp.idx,jp.lgt,jp.cmt,jp.rnd,jp.off,jp.tot,jp.el,jp.dl⟩;split
  ·exact((h1.late m).told).mono (by omega) (by omega)
  ·have h2:=h1.does hK BI;split
   ·exact(h2.reads.told).mono (by omega) (by omega)
   ·exact(h2.told).mono (by omega) (by omega)
theorem Ok.proposed(h:Ok K 0 R)(x:En):Ok (K+11) 0 (R.propose x).2:=by
 have hp:=h.put R.hard.term x;unfold Rf.propose;split
 ·exact h.mono (by omega) (by omega)
 ·simp only;split
  ·exact hp.mono (by omega) (by omega)
  ·exact(((hp.save [(R.track.putF R.hard.term x).1.1]).all).agrees.told).mono (by omega) (by omega)
end
structure Aw where
 trk:Value
 dat:Value
 yes:Value
 peers:Value
 waits:Value
 gat:Value
 ent:Value
 com:Value
 sd:Value
 rds:Value
 mgs:Value
def js(x:Option tU):Int:=match x with|none=>0|some s=>s.idx
def jt(x:Option tU):Int:=match x with|none=>0|some s=>s.term
def nK(x:Option tU):List UInt8:=match x with|none=>[] | some s=>s.data
def bu(R:Rf)(v:Aw):Array Value:=
 #[vi R.id,vi R.n,vi R.hard.term,vi R.hard.vote,v.trk,vi R.snap.idx,vi R.snap.term,v.dat,vi R.commit,vi R.role,vi R.leader,vi R.clock,vi R.wait,v.yes,v.peers,vi R.round,v.waits,
  vi R.gath.frm,vi R.gath.idx,vi R.gath.term,vi R.gath.total,v.gat,.bool R.out.save,.bool R.out.reset,vi R.out.hard.term,vi R.out.hard.vote,v.ent,v.com,.bool R.out.snap.isSome,vi (js R.out.snap),vi (jt R.out.snap),v.sd,v.rds,v.mgs]
def Dc(x:Wt):List Value:=[vi x.ctx,vi x.round,vi x.idx]
def Au(aa:Nat->Nat)(i q:Nat)(w:World)(v:Value)(t:bD):Prop:=
 ∃(g:Nat) (A:Option Addr) (n c:Nat) (zs:List (Value×En)),v=.pointer (some ⟨g,0,none⟩)/\cG (aM aa q) w g t A n c zs/\∀j,(j=g\/aA A j)->aa j=i
theorem Au.keep{aa:Nat->Nat}{i q:Nat}{w w':World}{v:Value}{t:bD}(h:Au aa i q w v t)(hk:∀j,aa j=i->j<w.heap.size->w'.heap[j]?=w.heap[j]?)(hq:∀j,aa j=q->j<w.heap.size->w'.heap[j]?=w.heap[j]?):Au aa i q w' v t:=by
 obtain⟨g,A,n,c,zs,h1,h2,h3⟩:=h;refine⟨g,A,n,c,zs,h1,h2.keep fun j hj hl=>?_,h3⟩;rcases hj with hj|hj|hj
 ·exact hk j (h3 j (.inl hj)) hl
 ·exact hk j (h3 j (.inr hj)) hl
 ·exact hq j hj hl
theorem Au.relabel{aa ak:Nat->Nat}{i q k r:Nat}{w:World}{v:Value}{t:bD}(h:Au aa i q w v t)(hl:∀j,j<w.heap.size->aa j=i->ak j=k)(hq:∀j,j<w.heap.size->aa j=q->ak j=r):Au ak k r w v t:=by
 obtain⟨g,A,n,c,zs,h1,h2,h3⟩:=h;refine⟨g,A,n,c,zs,h1,h2.mono hq,fun j hj=>hl j ?_ (h3 j hj)⟩;rcases hj with rfl|hj
 ·exact h2.b.lt
 ·exact h2.rowlt j hj
structure aK(aa:Nat->Nat)(c q:Nat)(w:World)(g:Nat)(R:Rf)(v:Aw):Prop where
 s:ao w g 122 (bu R v)
 sl:aa g=c+1
 t:Au aa (c+2) q w v.trk R.track
 y:bR aa (c+3) w 3 1 v.yes R.yes.length (R.yes.map vi)
 p:bR aa (c+4) w 171 4 v.peers R.peers.length (R.peers.flatMap mW)
 x:bR aa (c+5) w 173 3 v.waits R.waits.length (R.waits.flatMap Dc)
 d:bP aa q w v.dat R.snap.data
 gd:bP aa q w v.gat R.gath.data
 e:dQ aa (c+6) q w v.ent R.out.entries
 co:dQ aa (c+7) q w v.com R.out.commits
 sd:bP aa q w v.sd (nK R.out.snap)
 r:bR aa (c+8) w 135 2 v.rds R.out.reads.length (R.out.reads.flatMap qM)
 m:gI aa (c+9) q w v.mgs R.out.msgs
def dv(aa:Nat->Nat)(c q j:Nat):Prop:=(c<aa j/\aa j<=c+9)\/aa j=q
def aX(aa:Nat->Nat)(c j:Nat):Prop:=c<aa j/\aa j<=c+9
def aN(c q:Nat):Prop:=q<=c\/c+9<q
section
variable {aa ak ag:Nat->Nat}{c q g:Nat}{w w' w1 w2:World}{R R' R1 R2:Rf}{v v':Aw}
theorem aK.keep(h:aK aa c q w g R v)(hk:∀j,dv aa c q j->j<w.heap.size->w'.heap[j]?=w.heap[j]?):aK aa c q w' g R v:=by
 have k:∀i,0<i->i<=9->∀j,aa j=c+i->j<w.heap.size->w'.heap[j]?=w.heap[j]?:=fun i h0 h1 j hj hl=>hk j (.inl ⟨by omega,by omega⟩) hl
 have kq:∀j,aa j=q->j<w.heap.size->w'.heap[j]?=w.heap[j]?:=fun j hj hl=>hk j (.inr hj) hl
 exact⟨(k 1 (by omega) (by omega) g h.sl h.s.lt).trans h.s,h.sl,h.t.keep (k 2 (by omega) (by omega)) kq,h.y.keep (k 3 (by omega) (by omega)),h.p.keep (k 4 (by omega) (by omega)),h.x.keep (k 5 (by omega) (by omega)),
  h.d.keep kq,h.gd.keep kq,h.e.keep (k 6 (by omega) (by omega)) kq,h.co.keep (k 7 (by omega) (by omega)) kq,h.sd.keep kq,h.r.keep (k 8 (by omega) (by omega)),h.m.keep (k 9 (by omega) (by omega)) kq⟩
theorem aK.below(h:aK aa c q w g R v)(hb:Below w.heap.size w w'):aK aa c q w' g R v:=h.keep fun j _ hl=>hb.block j hl
theorem aK.relabel(h:aK aa c q w g R v)(hl:∀j,j<w.heap.size->dv aa c q j->ak j=aa j):aK ak c q w g R v:=by
 have k:∀i,0<i->i<=9->∀j,j<w.heap.size->aa j=c+i->ak j=c+i:=fun i h0 h1 j hj e=>(hl j hj (.inl ⟨by omega,by omega⟩)).trans e
 have kq:∀j,j<w.heap.size->aa j=q->ak j=q:=fun j hj e=>(hl j hj (.inr e)).trans e
 exact⟨h.s,k 1 (by omega) (by omega) g h.s.lt h.sl,h.t.relabel (k 2 (by omega) (by omega)) kq,h.y.relabel (k 3 (by omega) (by omega)),h.p.relabel (k 4 (by omega) (by omega)),h.x.relabel (k 5 (by omega) (by omega)),
  h.d.relabel kq,h.gd.relabel kq,h.e.relabel (k 6 (by omega) (by omega)) kq,h.co.relabel (k 7 (by omega) (by omega)) kq,h.sd.relabel kq,h.r.relabel (k 8 (by omega) (by omega)),h.m.relabel (k 9 (by omega) (by omega)) kq⟩
theorem aK.fresh(i:Nat)(h:aK aa c q w g R v)(hb:Below w.heap.size w w'):aK (aj aa w.heap.size i) c q w' g R v:=(h.relabel fun _ hj _=>ac hj).keep fun j hj hl=>hb.block j hl
def au(aa:Nat->Nat)(c q:Nat)(w:World)(g:Nat)(R':Rf)(w':World):Prop:=
 ∃(ak:Nat->Nat) (v':Aw),aK ak c q w' g R' v'/\(∀j,j<w.heap.size->ak j=aa j)/\Fr (aX aa c) w w'
theorem fE(hl:∀j,j<w.heap.size->ag j=aa j){j:Nat}(h:aX ag c j):aX aa c j\/w.heap.size<=j:=by
 rcases Nat.lt_or_ge j w.heap.size with hj|hj
 ·unfold aX at h ⊢;rw[hl j hj]at h;exact .inl h
 ·exact .inr hj
theorem au.next(h:au ag c q w1 g R2 w2)(hl:∀j,j<w.heap.size->ag j=aa j)(hF:Fr (aX aa c) w w1):au aa c q w g R2 w2:=by
 obtain⟨bs,v2,q1,q2,q3⟩:=h;have hs:=hF.size;exact⟨bs,v2,q1,fun j hj=>(q2 j (by omega)).trans (hl j hj),hF.trans q3 fun j hj=>fE hl hj⟩
theorem au.behind(h:au aa c q w1 g R2 w2)(hb:Below w.heap.size w w1):au aa c q w g R2 w2:=h.next (fun _ _=>rfl) (Fr.of_below hb)
theorem au.fresh(i:Nat)(h:au (aj aa w.heap.size i) c q w1 g R2 w2)(hb:Below w.heap.size w w1):au aa c q w g R2 w2:=h.next (fun _ hj=>ac hj) (Fr.of_below hb)
theorem au.refl(h:aK aa c q w g R v):au aa c q w g R w:=⟨aa,v,h,fun _ _=>rfl,Fr.refl _ _⟩
theorem au.below(h:au aa c q w g R1 w1)(hb:Below w1.heap.size w1 w2):au aa c q w g R1 w2:=by
 obtain⟨ag,v1,h1,h2,h3⟩:=h;exact⟨ag,v1,h1.below hb,h2,h3.trans (Fr.of_below (X:=aX aa c) hb) fun _ h=>.inl h⟩
theorem au.call{f:Nat}{args:Array Value}{E:Ending}(h:au aa c q w g R1 w1)(hc:∀ag v1,aK ag c q w1 g R1 v1->Calls prog f args w1 fun e w'=>e=E/\au ag c q w1 g R2 w') :
  Calls prog f args w1 fun e w'=>e=E/\au aa c q w g R2 w':=by
 obtain⟨ag,v1,h1,h2,h3⟩:=h;exact(hc ag v1 h1).mono fun e w' r=>⟨r.1,r.2.next h2 h3⟩
theorem au.blk{T:TypeId}{cs:Array Value}{p:Nat}(h:au aa c q w g R1 w1)(hn:¬aX aa c p)(hk:ao w p T cs):ao w1 p T cs:=by
 obtain⟨ag,v1,h1,h2,h3⟩:=h;exact(h3.block p hk.lt hn).trans hk
theorem aK.turn(X:List Nat)(ha:aN c q)(h:aK aa c q w g R v)(hs:ao w' g 122 (bu R' v'))(hl:∀j,j<w.heap.size->ak j=aa j)(hX:∀i∈X,1<i/\i<=9)(hF:Fr (fun j=>j=g\/∃i,i∈X/\aa j=c+i) w w')
  (t:Au ak (c+2) q w' v'.trk R'.track\/(2∉X/\v'.trk=v.trk/\R'.track=R.track))
  (y:bR ak (c+3) w' 3 1 v'.yes R'.yes.length (R'.yes.map vi)\/(3∉X/\v'.yes=v.yes/\R'.yes=R.yes))
  (p:bR ak (c+4) w' 171 4 v'.peers R'.peers.length (R'.peers.flatMap mW)\/(4∉X/\v'.peers=v.peers/\R'.peers=R.peers))
  (x:bR ak (c+5) w' 173 3 v'.waits R'.waits.length (R'.waits.flatMap Dc)\/(5∉X/\v'.waits=v.waits/\R'.waits=R.waits))
  (d:bP ak q w' v'.dat R'.snap.data\/(v'.dat=v.dat/\R'.snap.data=R.snap.data))
  (gd:bP ak q w' v'.gat R'.gath.data\/(v'.gat=v.gat/\R'.gath.data=R.gath.data))
  (e:dQ ak (c+6) q w' v'.ent R'.out.entries\/(6∉X/\v'.ent=v.ent/\R'.out.entries=R.out.entries))
  (co:dQ ak (c+7) q w' v'.com R'.out.commits\/(7∉X/\v'.com=v.com/\R'.out.commits=R.out.commits))
  (sd:bP ak q w' v'.sd (nK R'.out.snap)\/(v'.sd=v.sd/\R'.out.snap=R.out.snap))
  (r:bR ak (c+8) w' 135 2 v'.rds R'.out.reads.length (R'.out.reads.flatMap qM)\/(8∉X/\v'.rds=v.rds/\R'.out.reads=R.out.reads))
  (m:gI ak (c+9) q w' v'.mgs R'.out.msgs\/(9∉X/\v'.mgs=v.mgs/\R'.out.msgs=R.out.msgs)):aK ak c q w' g R' v':=by
 have h0:=h.relabel (ak:=aj aa w.heap.size (q+c+10)) fun j hj _=>ac hj
 have B:∀i j,i≠q+c+10->aj aa w.heap.size (q+c+10) j=i->j<w.heap.size/\aa j=i:=fun i j hi e=>by
  rcases Nat.lt_or_ge j w.heap.size with hj|hj
  ·exact⟨hj,(ac hj).symm.trans e⟩
  ·rw[az hj]at e;omega
 have L:∀i,i≠q+c+10->∀j,j<w'.heap.size->aj aa w.heap.size (q+c+10) j=i->ak j=i:=fun i hi j _ e=>(hl j (B i j hi e).1).trans (B i j hi e).2
 have K:∀i,1<i->i<=9->i∉X->∀j,aj aa w.heap.size (q+c+10) j=c+i->j<w.heap.size->w'.heap[j]?=w.heap[j]?:=fun i h0 h1 hX' j hj aU=>hF.block j aU fun hh=>by
  have hj:=(B (c+i) j (by omega) hj).2;rcases hh with rfl|⟨k,hk,hh⟩
  ·have:=h.sl;omega
  ·have:k=i:=by omega
   rw[this]at hk;exact hX' hk
 have KQ:∀j,aj aa w.heap.size (q+c+10) j=q->j<w.heap.size->w'.heap[j]?=w.heap[j]?:=fun j hj aU=>hF.block j aU fun hh=>by
  have hj:=(B q j (by omega) hj).2;unfold aN at ha;rcases hh with rfl|⟨k,hk,hh⟩
  ·have:=h.sl;omega
  ·have:=hX k hk;omega
 have LQ:=L q (by omega);refine⟨hs,(hl g h.s.lt).trans h.sl,?_,?_,?_,?_,?_,?_,?_,?_,?_,?_,?_⟩
 ·rcases t with t|⟨hX,e1,e2⟩
  ·exact t
  ·rw[e1,e2];exact(h0.t.keep (K 2 (by omega) (by omega) hX) KQ).relabel (L _ (by omega)) LQ
 ·rcases y with y|⟨hX,e1,e2⟩
  ·exact y
  ·rw[e1,e2];exact(h0.y.keep (K 3 (by omega) (by omega) hX)).relabel (L _ (by omega))
 ·rcases p with p|⟨hX,e1,e2⟩
  ·exact p
  ·rw[e1,e2];exact(h0.p.keep (K 4 (by omega) (by omega) hX)).relabel (L _ (by omega))
 ·rcases x with x|⟨hX,e1,e2⟩
  ·exact x
  ·rw[e1,e2];exact(h0.x.keep (K 5 (by omega) (by omega) hX)).relabel (L _ (by omega))
 ·rcases d with d|⟨e1,e2⟩
  ·exact d
  ·rw[e1,e2];exact(h0.d.keep KQ).relabel LQ
 ·rcases gd with gd|⟨e1,e2⟩
  ·exact gd
  ·rw[e1,e2];exact(h0.gd.keep KQ).relabel LQ
 ·rcases e with e|⟨hX,e1,e2⟩
  ·exact e
  ·rw[e1,e2];exact(h0.e.keep (K 6 (by omega) (by omega) hX) KQ).relabel (L _ (by omega)) LQ
 ·rcases co with co|⟨hX,e1,e2⟩
  ·exact co
  ·rw[e1,e2];exact(h0.co.keep (K 7 (by omega) (by omega) hX) KQ).relabel (L _ (by omega)) LQ
 ·rcases sd with sd|⟨e1,e2⟩
  ·exact sd
  ·rw[e1,e2];exact(h0.sd.keep KQ).relabel LQ
 ·rcases r with r|⟨hX,e1,e2⟩
  ·exact r
  ·rw[e1,e2];exact(h0.r.keep (K 8 (by omega) (by omega) hX)).relabel (L _ (by omega))
 ·rcases m with m|⟨hX,e1,e2⟩
  ·exact m
  ·rw[e1,e2];exact(h0.m.keep (K 9 (by omega) (by omega) hX) KQ).relabel (L _ (by omega)) LQ
theorem gu{X:List Nat}(h:aK aa c q w g R v)(hX:∀i∈X,1<i/\i<=9)(hF:Fr (fun j=>j=g\/∃i,i∈X/\aa j=c+i) w w'):Fr (aX aa c) w w':=hF.mono fun j hj=>by
 have:=h.sl;rcases hj with rfl|⟨i,hi,e⟩
 ·exact⟨by omega,by omega⟩
 ·have:=hX i hi;exact⟨by omega,by omega⟩
theorem aK.nums(ha:aN c q)(h:aK aa c q w g R v)(hs:ao w' g 122 (bu R' v))(hF:Fr (fun j=>j=g) w w')(e1:R'.track=R.track)(e2:R'.peers=R.peers)(e3:R'.waits=R.waits)(e4:R'.yes=R.yes)(e5:R'.snap.data=R.snap.data)(e6:R'.gath.data=R.gath.data)
  (e7:R'.out.entries=R.out.entries) (e8:R'.out.commits=R.out.commits) (e9:R'.out.snap=R.out.snap) (e10:R'.out.reads=R.out.reads) (e11:R'.out.msgs=R.out.msgs):aK aa c q w' g R' v:=
 h.turn [] ha hs (fun _ _=>rfl) (by simp) (hF.mono fun j e=>.inl e) (.inr ⟨by simp,rfl,e1⟩) (.inr ⟨by simp,rfl,e4⟩) (.inr ⟨by simp,rfl,e2⟩) (.inr ⟨by simp,rfl,e3⟩) (.inr ⟨rfl,e5⟩) (.inr ⟨rfl,e6⟩) (.inr ⟨by simp,rfl,e7⟩) (.inr ⟨by simp,rfl,e8⟩) (.inr ⟨rfl,e9⟩) (.inr ⟨by simp,rfl,e10⟩) (.inr ⟨by simp,rfl,e11⟩)
theorem aK.nums_post(ha:aN c q)(h:aK aa c q w g R v)(h':aK aa c q w' g R' v')(hF:Fr (fun j=>j=g) w w'):au aa c q w g R' w':=
 ⟨aa,v',h',fun _ _=>rfl,hF.mono fun j e=>by rw[e];have:=h.sl;exact⟨by omega,by omega⟩⟩
end
theorem cL{P:Program}{fn:Func}{R:Ending->World->Prop}{a:Act}{w:World}(hr:fn.results=#[])(hd:a.defers=[])(hR:R (.returned (.tuple #[])) w):bodyPost P fn R .normal a w:=
 bodyPost_end (by simp[results,hr]) hd hR
section
variable {aa:Nat->Nat}{c q g:Nat}{w:World}{R:Rf}{v:Aw}
theorem aK.setMsgs{w3:World}{v':Value}{ms:List Mg}(ha:aN c q)(h:aK aa c q w g R v)(hF:Fr (aM aa (c+9)) w w3)(hm:gI (aj aa w.heap.size (c+9)) (c+9) q w3 v' ms) :
  aK (aj aa w.heap.size (c+9)) c q (w3.setCell ⟨g,33,none⟩ v') g {R with out:={R.out with msgs:=ms}} {v with mgs:=v'}/\Fr (aX aa c) w (w3.setCell ⟨g,33,none⟩ v')/\ao w3 g 122 (bu R v):=by
 have mU:ao w3 g 122 (bu R v):=(hF.other (k:=c+1) (by omega) g h.sl h.s.lt).trans h.s;have fh:=Fr.set (w:=w3) g 33 v';have hS:=mU.set_ 33 v';simp only[bu,Zy]at hS;have dC:Fr (fun j=>j=g\/∃i,i∈[9]/\aa j=c+i) w (w3.setCell ⟨g,33,none⟩ v'):=(hF.mono (X':=fun j=>j=g\/∃i,i∈[9]/\aa j=c+i) fun j hj=>.inr ⟨9,by simp,hj⟩).trans fh fun j e=>.inl (.inl e)
 have hX:∀i∈[9],1<i/\i<=9:=by simp
 refine⟨h.turn [9] ha hS (fun j hj=>ac hj) hX dC tI tI tI tI (.inr ⟨rfl,rfl⟩) (.inr ⟨rfl,rfl⟩) tI tI (.inr ⟨rfl,rfl⟩) tI
  (.inl (hm.keep (fun j hj hl=>fh.block j hl fun e=>?_) fun j hj hl=>fh.block j hl fun e=>?_)),gu h hX dC,mU⟩
 ·rw[e,ac h.s.lt]at hj;have:=h.sl;omega
 ·rw[e,ac h.s.lt]at hj;have:=h.sl;unfold aN at ha;omega
theorem oS(m:Mg)(ve vd:Value)(ha:aN c q)(h:aK aa c q w g R v)(hm:jV aa q w ((ve,vd),m))(h1:ve.oneCell'=true/\vd.oneCell'=true)(hn:R.out.msgs.length<=100000) :
  Calls prog 63 #[.pointer (some ⟨g,0,none⟩),eI m ve vd] w fun e w'=>e=.returned (.tuple #[])/\au aa c q w g (R.send m) w':=by
 obtain⟨c0,c2,c33,-⟩:=h.s.cs [0,2,33];simp only[bu,vi,Zx]at c0 c2 c33;have cW:=h.s.lt;obtain⟨T,hT⟩:=zN ((if m.term=0 then R.hard.term else m.term));have dZ:=zH (show R.send m={R with out:={R.out with msgs:=R.out.msgs++[{m with frm:=R.id,term:=T}]}} by unfold Rf.send;rw[hT]);have aI:Below w.heap.size w (w.alloc (.cells #[.int .i64 m.kind,.int .i64 R.id,.int .i64 m.tgt,.int .i64 T,.int .i64 m.idx,.int .i64 m.logTerm,.int .i64 m.commit,.int .i64 m.round,.bool m.reject,.int .i64 m.offset,.int .i64 m.total,ve,vd] 39)):=zb.alloc zl _;have bM:=ao.new w 39 #[.int .i64 m.kind,.int .i64 R.id,.int .i64 m.tgt,.int .i64 T,.int .i64 m.idx,.int .i64 m.logTerm,.int .i64 m.commit,.int .i64 m.round,.bool m.reject,.int .i64 m.offset,.int .i64 m.total,ve,vd];obtain⟨w1,ct⟩:=zN (w.alloc (.cells #[.int .i64 m.kind,.int .i64 R.id,.int .i64 m.tgt,.int .i64 T,.int .i64 m.idx,.int .i64 m.logTerm,.int .i64 m.commit,.int .i64 m.round,.bool m.reject,.int .i64 m.offset,.int .i64 m.total,ve,vd] 39));rw[ct]at aI bM;have dX:Below w1.drew.heap.size w1.drew (w1.drew.alloc (.cells #[.int .i64 m.kind,.int .i64 R.id,.int .i64 m.tgt,.int .i64 T,.int .i64 m.idx,.int .i64 m.logTerm,.int .i64 m.commit,.int .i64 m.round,.bool m.reject,.int .i64 m.offset,.int .i64 m.total,ve,vd] 39)):=zb.alloc zl _;have IE:=ao.new w1.drew 39 (zj ((ve,vd),{m with frm:=R.id,term:=T})).toArray;have dF:Below w.heap.size w (w1.drew.alloc (.cells #[.int .i64 m.kind,.int .i64 R.id,.int .i64 m.tgt,.int .i64 T,.int .i64 m.idx,.int .i64 m.logTerm,.int .i64 m.commit,.int .i64 m.round,.bool m.reject,.int .i64 m.offset,.int .i64 m.total,ve,vd] 39)):=ab (ay aI 1) dX zl;have h2:=h.fresh (q+c+10) dF;have tG:jV (aj aa w.heap.size (q+c+10)) q _ ((ve,vd),{m with frm:=R.id,term:=T}):=(hm.relabel (ak:=aj aa w.heap.size (q+c+10)) (k:=q) fun j hj e=>(ac hj).trans e).keep fun j hj hl=>dF.block j hl
 obtain⟨zs,bS,cR,tn⟩:=id h2.m;obtain⟨y0,y1,y2,y3,y4,y5,y6,y7,y8,y9,y10,y11,y12,-⟩:=bM.cs [0,1,2,3,4,5,6,7,8,9,10,11,12];simp only[Zx]at y0 y1 y2 y3 y4 y5 y6 y7 y8 y9 y10 y11 y12;have c33':=(aI.cell (ar c33)).trans c33;obtain⟨k0,k1,k2,k3,k4,k5,k6,k7,k8,k9,kA,kB,kC⟩:=Ap [g,w.heap.size] y0 y1 y2 y3 y4 y5 y6 y7 y8 y9 y10 y11 y12;have kD:=EY [g,w.heap.size] c33';have dA:∀q∈[g,w.heap.size],q<w1.heap.size:=by simp;exact⟨by have:=aI.size;omega,bM.lt⟩
 unfold eI;simp only[vi];rcases(show(m.term=0/\R.hard.term=T)\/(m.term≠0/\m.term=T) by
  by_cases h0:m.term=0
  ·rw[if_pos h0]at hT;exact .inl ⟨h0,hT⟩
  ·rw[if_neg h0]at hT;exact .inr ⟨h0,hT⟩)with⟨ht,tf⟩|⟨ht,tf⟩
 all_goals
  clear hT;go_enter func63,ntmps63;go_wp2_with fail;try simp only[tf]
  try rw[ct]
  refine nj [g,w.heap.size] w1 [([0,1,2,3,4,5,6],7),([],8)] ([9,10,11],12) ?_;refine aq fun K1 cQ=>?_
  simp only[ah,Zx];repeat go_big_quiet_step(fail)
  apply wpQuiet_nil;go_wp2_with fail;refine⟨av dA (zb.drew.trans dX),cQ _ _ ?_⟩;refine aq fun K2 iu=>?_
  simp only[ah,Zx];repeat go_big_quiet_step(fail)
  apply wpQuiet_nil;go_wp2_with (at_builtin;refine kh rfl (.tmp 23) (.tmp 25) rfl rfl bS rfl IE h1 (Nat.le_trans hn (by omega)) ?_;intro A3 c3 w3 cJ cH dk uo);have iM:aj aa w.heap.size (q+c+10) g=c+1:=(ac cW).trans h.sl;have K9:aj aa w.heap.size (q+c+10) w.heap.size=q+c+10:=az zl;have iy:w3.heap[g]?=w1.heap[g]?:=(dk.other (k:=c+1) (by omega) g iM h2.s.lt).trans ((zb.drew.trans dX).block g (dA g (by simp)));have MX:w3.heap[w.heap.size]?=w1.heap[w.heap.size]?:=(dk.other (k:=q+c+10) (by omega) w.heap.size K9 (by have:=bM.lt;have:=dX.size;exact Nat.lt_of_lt_of_le bM.lt this)).trans ((zb.drew.trans dX).block _ bM.lt);refine⟨bO iy MX,iu _ _ ?_⟩;subst uo;obtain⟨w2,cZ⟩:=zN ((w1.drew.alloc (.cells #[.int .i64 m.kind,.int .i64 R.id,.int .i64 m.tgt,.int .i64 T,.int .i64 m.idx,.int .i64 m.logTerm,.int .i64 m.commit,.int .i64 m.round,.bool m.reject,.int .i64 m.offset,.int .i64 m.total,ve,vd] 39)));have cH:bR (aj (aj aa w.heap.size (q+c+10)) w2.heap.size (c+9)) (c+9) w3 39 13 (.slice A3 (R.out.msgs.length+1) c3) (R.out.msgs.length+1) ((zs++[((ve,vd),{m with frm:=R.id,term:=T})]).flatMap zj):=by rw[<-cZ];exact cH
  rw[cZ]at dF h2 tG cR;have dk:Fr (aM (aj aa w.heap.size (q+c+10)) (c+9)) w2 w3:=by rw[<-cZ];exact dk
  have XK:q≠c+9:=by unfold aN at ha;omega
  have lx:∀j,j<w3.heap.size->aj aa w.heap.size (q+c+10) j=q->aj (aj aa w.heap.size (q+c+10)) w2.heap.size (c+9) j=q:=fun j hj e=>by
   have hs:=dF.size;rcases Nat.lt_or_ge j w2.heap.size with hj|hj
   ·exact(ac hj).trans e
   ·rw[az (by omega)]at e;omega
  have GS:∀z∈zs++[((ve,vd),{m with frm:=R.id,term:=T})],jV (aj (aj aa w.heap.size (q+c+10)) w2.heap.size (c+9)) q w3 z:=fun z hz=>by
   rcases List.mem_append.1 hz with hz|hz
   ·exact((cR z hz).keep (dk.other (k:=q) XK)).relabel lx
   ·rw[List.mem_singleton.1 hz];exact(tG.keep (dk.other (k:=q) XK)).relabel lx
  have oZ:gI (aj (aj aa w.heap.size (q+c+10)) w2.heap.size (c+9)) (c+9) q w3 (.slice A3 (R.out.msgs.length+1) c3) (R.out.msgs++[{m with frm:=R.id,term:=T}]):=⟨_,by rw[List.length_append];exact cH,GS,by rw[List.map_append,tn];rfl⟩;obtain⟨PK,mz,Qx⟩:=h2.setMsgs ha dk oZ;have hP:=zH (show au aa c q w g (R.send m) (w3.setCell ⟨g,33,none⟩ (.slice A3 (R.out.msgs.length+1) c3))from au.next (ag:=aj aa w.heap.size (q+c+10)) ⟨_,_,(by rw[dZ.out];exact PK),fun j hj=>ac hj,mz⟩ (fun j hj=>ac hj) (Fr.of_below dF));have cg:=Qx.cell 33;have fg:=Qx.free 33;simp only[bu,vi,Zx]at cg;clear PK mz oZ GS cH dk;refine aC ?_;simp only[ah,Zx];repeat go_big_quiet_step(fail)
  apply wpQuiet_nil;go_wp2_with fail;exact cL rfl rfl ⟨rfl,hP.out⟩
theorem dm(m:Mg)(he:m.entries=[])(hd:m.data=[])(ha:aN c q)(h:aK aa c q w g R v)(hn:R.out.msgs.length<=100000) :
  Calls prog 63 #[.pointer (some ⟨g,0,none⟩),eI m (.slice none 0 0) (.slice none 0 0)] w fun e w'=>e=.returned (.tuple #[])/\au aa c q w g (R.send m) w':=
 oS m _ _ ha h ⟨by rw[he];exact nR.nil _ _ _,by rw[hd];exact np.nil _ _ _⟩ ⟨rfl,rfl⟩ hn
end
structure Oy where
 ea:Option Addr
 ec:Nat
 ca:Option Addr
 cc:Nat
 sa:Option Addr
 sc:Nat
 ra:Option Addr
 rc:Nat
 ma:Option Addr
 mc:Nat
def tq:Oy:=⟨none,0,none,0,none,0,none,0,none,0⟩
def bl(O:Ot)(Y:Oy):Array Value:=#[.bool O.save,.bool O.reset,.int .i64 O.hard.term,.int .i64 O.hard.vote,.slice Y.ea O.entries.length Y.ec,.slice Y.ca O.commits.length Y.cc,.bool O.snap.isSome,.int .i64 (js O.snap),.int .i64 (jt O.snap),.slice Y.sa (nK O.snap).length Y.sc,.slice Y.ra O.reads.length Y.rc,.slice Y.ma O.msgs.length Y.mc]
def aR:Array Value:=#[.bool false,.bool false,.int .i64 0,.int .i64 0,.slice none 0 0,.slice none 0 0,.bool false,.int .i64 0,.int .i64 0,.slice none 0 0,.slice none 0 0,.slice none 0 0]
structure IT(aa:Nat->Nat)(q:Nat)(w:World)(O:Ot)(ve vc vs vr vm:Value):Prop where
 e:dQ aa q q w ve O.entries
 c:dQ aa q q w vc O.commits
 s:bP aa q w vs (nK O.snap)
 r:bR aa q w 135 2 vr O.reads.length (O.reads.flatMap qM)
 m:gI aa q q w vm O.msgs
def im(aa:Nat->Nat)(q:Nat)(w:World)(O:Ot)(Y:Oy):Prop:=IT aa q w O (.slice Y.ea O.entries.length Y.ec) (.slice Y.ca O.commits.length Y.cc) (.slice Y.sa (nK O.snap).length Y.sc) (.slice Y.ra O.reads.length Y.rc) (.slice Y.ma O.msgs.length Y.mc)
theorem im.keep{aa:Nat->Nat}{q:Nat}{w w':World}{O:Ot}{Y:Oy}(h:im aa q w O Y)(hk:∀j,aa j=q->j<w.heap.size->w'.heap[j]?=w.heap[j]?):im aa q w' O Y:=
 ⟨h.e.keep hk hk,h.c.keep hk hk,h.s.keep hk,h.r.keep hk,h.m.keep hk hk⟩
theorem im.zero(aa:Nat->Nat)(q:Nat)(w:World):im aa q w gk tq:=⟨dQ.nil _ _ _ _,dQ.nil _ _ _ _,bP.nil _ _ _,bR.nil _ _ _ _ _,gI.nil _ _ _ _⟩
def iB(aa:Nat->Nat)(c q:Nat):Nat->Nat:=fun j=>if aa j=c+6\/aa j=c+7\/aa j=c+8\/aa j=c+9 then q else aa j
def Aw.told(v:Aw):Aw:={v with ent:=.slice none 0 0,com:=.slice none 0 0,sd:=.slice none 0 0,rds:=.slice none 0 0,mgs:=.slice none 0 0}
def cU(aa:Nat->Nat)(c q:Nat)(w:World)(g:Nat)(O:Ot)(R':Rf)(Y:Oy)(w':World):Prop:=
 ∃(ak:Nat->Nat) (v':Aw),aK ak c q w' g R' v'/\im ak q w' O Y/\(∀j,j<w.heap.size->¬aX aa c j->ak j=aa j)/\(∀j,j<w.heap.size->aX aa c j->aX ak c j\/ak j=q)/\Fr (aX aa c) w w'
section
variable {aa ag:Nat->Nat}{c q g:Nat}{w w' w1 w2:World}{R R' R1:Rf}{v:Aw}{O:Ot}{Y:Oy}
theorem fD(h1:∀j,j<w.heap.size->ag j=aa j){j:Nat}(hj:j<w.heap.size):aX ag c j↔aX aa c j:=by
 unfold aX;rw[h1 j hj]
theorem cU.next(h:cU ag c q w1 g O R' Y w2)(h1:∀j,j<w.heap.size->ag j=aa j)(hF:Fr (aX aa c) w w1):cU aa c q w g O R' Y w2:=by
 obtain⟨ak,v',q1,q2,q3,q4,q5⟩:=h;have hs:=hF.size;exact⟨ak,v',q1,q2,fun j hj hm=>(q3 j (by omega) fun h=>hm ((fD h1 hj).1 h)).trans (h1 j hj),fun j hj hm=>q4 j (by omega) ((fD h1 hj).2 hm),hF.trans q5 fun j hj=>fE h1 hj⟩
theorem EM{j i:Nat}(h:aa j=c+i)(hi:6<=i/\i<=9):iB aa c q j=q:=if_pos (by omega)
theorem Aa{j i:Nat}(h:aa j=c+i)(hi:i<=5):iB aa c q j=c+i:=(if_neg (by omega)).trans h
theorem KB(ha:aN c q){j:Nat}(h:aa j=q):iB aa c q j=q:=by
 unfold iB;split
 ·rfl
 ·exact h
theorem aK.tell(ha:aN c q)(h:aK aa c q w g R v)(hs:ao w' g 122 (bu R.tell.2 v.told))(hF:Fr (fun j=>j=g) w w') :
  aK (iB aa c q) c q w' g R.tell.2 v.told/\IT (iB aa c q) q w' R.tell.1 v.ent v.com v.sd v.rds v.mgs:=by
 have yw:∀j,(∃i,1<i/\i<=9/\aa j=c+i)\/aa j=q->¬j=g:=fun j hj e=>by
  have:=h.sl;unfold aN at ha;rw[e]at hj;rcases hj with⟨i,_,_,hj⟩|hj <;> omega
 have k:∀i,1<i->i<=9->∀j,aa j=c+i->j<w.heap.size->w'.heap[j]?=w.heap[j]?:=fun i h0 h1 j hj hl=>hF.block j hl (yw j (.inl ⟨i,h0,h1,hj⟩))
 have kq:∀j,aa j=q->j<w.heap.size->w'.heap[j]?=w.heap[j]?:=fun j hj hl=>hF.block j hl (yw j (.inr hj))
 have hy:∀i,6<=i/\i<=9->∀j,j<w'.heap.size->aa j=c+i->iB aa c q j=q:=fun i hi j _ e=>EM e hi
 have hn:∀i,i<=5->∀j,j<w'.heap.size->aa j=c+i->iB aa c q j=c+i:=fun i hi j _ e=>Aa e hi
 have hq:∀j,j<w'.heap.size->aa j=q->iB aa c q j=q:=fun j _ e=>KB ha e
 exact⟨⟨hs,Aa h.sl (by omega),(h.t.keep (k 2 (by omega) (by omega)) kq).relabel (hn 2 (by omega)) hq,(h.y.keep (k 3 (by omega) (by omega))).relabel (hn 3 (by omega)),(h.p.keep (k 4 (by omega) (by omega))).relabel (hn 4 (by omega)),(h.x.keep (k 5 (by omega) (by omega))).relabel (hn 5 (by omega)),
  (h.d.keep kq).relabel hq,(h.gd.keep kq).relabel hq,dQ.nil _ _ _ _,dQ.nil _ _ _ _,bP.nil _ _ _,bR.nil _ _ _ _ _,gI.nil _ _ _ _⟩,
  (h.e.keep (k 6 (by omega) (by omega)) kq).relabel (hy 6 (by omega)) hq,(h.co.keep (k 7 (by omega) (by omega)) kq).relabel (hy 7 (by omega)) hq,(h.sd.keep kq).relabel hq,(h.r.keep (k 8 (by omega) (by omega))).relabel (hy 8 (by omega)),(h.m.keep (k 9 (by omega) (by omega)) kq).relabel (hy 9 (by omega)) hq⟩
def eV(w:World)(g:Nat):World:=(((((((((((w.setCell ⟨g,22,none⟩ (.bool false)).setCell ⟨g,23,none⟩ (.bool false)).setCell ⟨g,24,none⟩ (.int .i64 0)).setCell ⟨g,25,none⟩ (.int .i64 0)).setCell ⟨g,26,none⟩ (.slice none 0 0)).setCell ⟨g,27,none⟩ (.slice none 0 0)).setCell ⟨g,28,none⟩ (.bool false)).setCell ⟨g,29,none⟩ (.int .i64 0)).setCell ⟨g,30,none⟩ (.int .i64 0)).setCell ⟨g,31,none⟩ (.slice none 0 0)).setCell ⟨g,32,none⟩ (.slice none 0 0)).setCell ⟨g,33,none⟩ (.slice none 0 0)
theorem Ek(w:World)(g:Nat):Fr (fun j=>j=g) w (eV w g):=
 have e:∀{a b:World},Fr (fun j=>j=g) w a->Fr (fun j=>j=g) a b->Fr (fun j=>j=g) w b:=fun h h'=>h.trans h' fun _ h=>.inl h
 e (e (e (e (e (e (e (e (e (e (e (Fr.set g _ _) (Fr.set g _ _)) (Fr.set g _ _)) (Fr.set g _ _)) (Fr.set g _ _)) (Fr.set g _ _)) (Fr.set g _ _)) (Fr.set g _ _)) (Fr.set g _ _)) (Fr.set g _ _)) (Fr.set g _ _)) (Fr.set g _ _)
theorem Iq(ha:aN c q)(h:aK aa c q w g R v)(X:Array Value) :
  ao (((eV w g).alloc (.cells X 52)).alloc (.cells X 52)) w.heap.size 52 X/\aK (iB aa c q) c q (((eV w g).alloc (.cells X 52)).alloc (.cells X 52)) g R.tell.2 v.told/\
   IT (iB aa c q) q (((eV w g).alloc (.cells X 52)).alloc (.cells X 52)) R.tell.1 v.ent v.com v.sd v.rds v.mgs/\Fr (aX aa c) w (((eV w g).alloc (.cells X 52)).alloc (.cells X 52)):=by
 have hS:ao (eV w g) g 122 (bu R.tell.2 v.told):=by
  have s:=(((((((((((h.s.set_ 22 (.bool false)).set_ 23 (.bool false)).set_ 24 (.int .i64 0)).set_ 25 (.int .i64 0)).set_ 26 (.slice none 0 0)).set_ 27 (.slice none 0 0)).set_ 28 (.bool false)).set_ 29 (.int .i64 0)).set_ 30 (.int .i64 0)).set_ 31 (.slice none 0 0)).set_ 32 (.slice none 0 0)).set_ 33 (.slice none 0 0);simp only[bu,Zy]at s;exact s
 have hF:=Ek w g;have fU:(eV w g).heap.size=w.heap.size:=by simp[eV,World.setCell]
 have bQ:Below (eV w g).heap.size (eV w g) (((eV w g).alloc (.cells X 52)).alloc (.cells X 52)):=(zb.alloc zl _).alloc (by simp) _;have hB:ao (((eV w g).alloc (.cells X 52)).alloc (.cells X 52)) w.heap.size 52 X:=by
  have:=(ao.new (eV w g) 52 X).alloc (.cells X 52);rw[fU]at this;exact this
 have dC:Fr (fun j=>j=g) w (((eV w g).alloc (.cells X 52)).alloc (.cells X 52)):=hF.trans (Fr.of_below (X:=fun j=>j=g) bQ) fun _ h=>.inl h
 obtain⟨h1,h2⟩:=h.tell ha (hS.kept bQ) dC;exact⟨hB,h1,h2,dC.mono fun j e=>by rw[e];exact⟨by have:=h.sl;omega,by have:=h.sl;omega⟩⟩
theorem Ak(ha:aN c q)(h:aK aa c q w g R v) :
  Calls prog 54 #[.pointer (some ⟨g,0,none⟩)] w fun e w'=>∃Y,e=.returned (.agg (bl R.tell.1 Y))/\cU aa c q w g R.tell.1 R.tell.2 Y w':=by
 obtain⟨c2,c3,c22,c23,c24,c25,c26,c27,c28,c29,c30,c31,c32,c33,-⟩:=h.s.cs [2,3,22,23,24,25,26,27,28,29,30,31,32,33];simp only[bu,vi,Zx]at c2 c3 c22 c23 c24 c25 c26 c27 c28 c29 c30 c31 c32 c33;obtain⟨f22,f23,f24,f25,f26,f27,f28,f29,f30,f31,f32,f33,-⟩:=h.s.fs [22,23,24,25,26,27,28,29,30,31,32,33];have cW:=h.s.lt;obtain⟨_,⟨A1,d1,E7,_⟩,_⟩:=id h.e;obtain⟨_,⟨A2,d2,E8,_⟩,_⟩:=id h.co;obtain⟨A3,d3,WO,_⟩:=id h.sd;obtain⟨A4,d4,WP,_⟩:=id h.r;obtain⟨_,⟨A5,d5,WQ,_⟩,_⟩:=id h.m;rw[E7]at c26;rw[E8]at c27;rw[WO]at c31;rw[WP]at c32;rw[WQ]at c33;have aE:=zH (fun X=>Iq ha h X);have fR:(∀j,j<w.heap.size->¬aX aa c j->iB aa c q j=aa j)/\(∀j,j<w.heap.size->aX aa c j->aX (iB aa c q) c j\/iB aa c q j=q):=by
  refine⟨fun j _ hn=>if_neg fun hh=>hn ?_,fun j _ hj=>?_⟩
  ·unfold aX;omega
  ·by_cases hh:aa j=c+6\/aa j=c+7\/aa j=c+8\/aa j=c+9
   ·exact .inr (if_pos hh)
   ·refine .inl ?_;have e:iB aa c q j=aa j:=if_neg hh;unfold aX at hj ⊢;rw[e];exact hj
 replace fR:=zH fR;have hT:R.tell.1={R.out with hard:=if R.out.save then R.hard else R.out.hard}:=rfl;have hY:∀(H:Hd),R.tell.1={R.out with hard:=H}->bl R.tell.1 ⟨A1,d1,A2,d2,A3,d3,A4,d4,A5,d5⟩=#[.bool R.out.save,.bool R.out.reset,.int .i64 H.term,.int .i64 H.vote,.slice A1 R.out.entries.length d1,.slice A2 R.out.commits.length d2,.bool R.out.snap.isSome,.int .i64 (js R.out.snap),.int .i64 (jt R.out.snap),.slice A3 (nK R.out.snap).length d3,.slice A4 R.out.reads.length d4,.slice A5 R.out.msgs.length d5]:=fun H e=>by rw[e];rfl
 have JV:∀(H:Hd),R.tell.1={R.out with hard:=H}->∀W,IT (iB aa c q) q W R.tell.1 v.ent v.com v.sd v.rds v.mgs->im (iB aa c q) q W R.tell.1 ⟨A1,d1,A2,d2,A3,d3,A4,d4,A5,d5⟩:=fun H e W ho=>by
  rw[E7,E8,WO,WP,WQ]at ho;unfold im;rw[e]at ho ⊢;exact ho
 replace JV:=zH JV;clear h;generalize iU:R.out.entries.length=n1 at *;generalize kJ:R.out.commits.length=n2 at *;generalize Fg:(nK R.out.snap).length=n3 at *;generalize DS:R.out.reads.length=n4 at *;generalize GO:R.out.msgs.length=n5 at *;clear iU kJ Fg DS GO;cases pc:R.out.save with
 | false=>
  rw[pc]at c22 hY;have tf:R.tell.1={R.out with hard:=R.out.hard}:=by rw[hT,pc];rfl
  have Mu:=hY _ tf;replace Mu:=zH Mu;have Mo:=zH tf;clear hT hY tf;go_enter func54,ntmps54;go_wp2_with fail;obtain⟨hB,q1,q2,q3⟩:=aE.out #[.bool false,.bool R.out.reset,.int .i64 R.out.hard.term,.int .i64 R.out.hard.vote,.slice A1 n1 d1,.slice A2 n2 d2,.bool R.out.snap.isSome,.int .i64 (js R.out.snap),.int .i64 (jt R.out.snap),.slice A3 n3 d3,.slice A4 n4 d4,.slice A5 n5 d5];show bodyPost _ _ _ _ _ (((eV w g).alloc (.cells #[.bool false,.bool R.out.reset,.int .i64 R.out.hard.term,.int .i64 R.out.hard.vote,.slice A1 n1 d1,.slice A2 n2 d2,.bool R.out.snap.isSome,.int .i64 (js R.out.snap),.int .i64 (jt R.out.snap),.slice A3 n3 d3,.slice A4 n4 d4,.slice A5 n5 d5] 52)).alloc (.cells #[.bool false,.bool R.out.reset,.int .i64 R.out.hard.term,.int .i64 R.out.hard.vote,.slice A1 n1 d1,.slice A2 n2 d2,.bool R.out.snap.isSome,.int .i64 (js R.out.snap),.int .i64 (jt R.out.snap),.slice A3 n3 d3,.slice A4 n4 d4,.slice A5 n5 d5] 52));generalize((eV w g).alloc (.cells #[.bool false,.bool R.out.reset,.int .i64 R.out.hard.term,.int .i64 R.out.hard.vote,.slice A1 n1 d1,.slice A2 n2 d2,.bool R.out.snap.isSome,.int .i64 (js R.out.snap),.int .i64 (jt R.out.snap),.slice A3 n3 d3,.slice A4 n4 d4,.slice A5 n5 d5] 52)).alloc (.cells #[.bool false,.bool R.out.reset,.int .i64 R.out.hard.term,.int .i64 R.out.hard.vote,.slice A1 n1 d1,.slice A2 n2 d2,.bool R.out.snap.isSome,.int .i64 (js R.out.snap),.int .i64 (jt R.out.snap),.slice A3 n3 d3,.slice A4 n4 d4,.slice A5 n5 d5] 52)=wF at *;obtain⟨r0,r1,r2,r3,r4,r5,r6,r7,r8,r9,r10,r11,-⟩:=hB.cs [0,1,2,3,4,5,6,7,8,9,10,11];simp only[Zx]at r0 r1 r2 r3 r4 r5 r6 r7 r8 r9 r10 r11;exact bodyPost_ret (v:=.agg #[.bool false,.bool R.out.reset,.int .i64 R.out.hard.term,.int .i64 R.out.hard.vote,.slice A1 n1 d1,.slice A2 n2 d2,.bool R.out.snap.isSome,.int .i64 (js R.out.snap),.int .i64 (jt R.out.snap),.slice A3 n3 d3,.slice A4 n4 d4,.slice A5 n5 d5]) (by simp[results,results54,go_sem,r0,r1,r2,r3,r4,r5,r6,r7,r8,r9,r10,r11]) rfl ⟨_,by rw[Mu.out],_,_,q1,JV.out _ Mo.out _ q2,fR.out.1,fR.out.2,q3⟩
 | true=>
  rw[pc]at c22 hY;have tf:R.tell.1={R.out with hard:=R.hard}:=by rw[hT,pc];rfl
  have Mu:=hY _ tf;replace Mu:=zH Mu;have Mo:=zH tf;clear hT hY tf;go_enter func54,ntmps54;go_wp2_with fail;obtain⟨hB,q1,q2,q3⟩:=aE.out #[.bool true,.bool R.out.reset,.int .i64 R.hard.term,.int .i64 R.hard.vote,.slice A1 n1 d1,.slice A2 n2 d2,.bool R.out.snap.isSome,.int .i64 (js R.out.snap),.int .i64 (jt R.out.snap),.slice A3 n3 d3,.slice A4 n4 d4,.slice A5 n5 d5];show bodyPost _ _ _ _ _ (((eV w g).alloc (.cells #[.bool true,.bool R.out.reset,.int .i64 R.hard.term,.int .i64 R.hard.vote,.slice A1 n1 d1,.slice A2 n2 d2,.bool R.out.snap.isSome,.int .i64 (js R.out.snap),.int .i64 (jt R.out.snap),.slice A3 n3 d3,.slice A4 n4 d4,.slice A5 n5 d5] 52)).alloc (.cells #[.bool true,.bool R.out.reset,.int .i64 R.hard.term,.int .i64 R.hard.vote,.slice A1 n1 d1,.slice A2 n2 d2,.bool R.out.snap.isSome,.int .i64 (js R.out.snap),.int .i64 (jt R.out.snap),.slice A3 n3 d3,.slice A4 n4 d4,.slice A5 n5 d5] 52));generalize((eV w g).alloc (.cells #[.bool true,.bool R.out.reset,.int .i64 R.hard.term,.int .i64 R.hard.vote,.slice A1 n1 d1,.slice A2 n2 d2,.bool R.out.snap.isSome,.int .i64 (js R.out.snap),.int .i64 (jt R.out.snap),.slice A3 n3 d3,.slice A4 n4 d4,.slice A5 n5 d5] 52)).alloc (.cells #[.bool true,.bool R.out.reset,.int .i64 R.hard.term,.int .i64 R.hard.vote,.slice A1 n1 d1,.slice A2 n2 d2,.bool R.out.snap.isSome,.int .i64 (js R.out.snap),.int .i64 (jt R.out.snap),.slice A3 n3 d3,.slice A4 n4 d4,.slice A5 n5 d5] 52)=wF at *;obtain⟨r0,r1,r2,r3,r4,r5,r6,r7,r8,r9,r10,r11,-⟩:=hB.cs [0,1,2,3,4,5,6,7,8,9,10,11];simp only[Zx]at r0 r1 r2 r3 r4 r5 r6 r7 r8 r9 r10 r11;exact bodyPost_ret (v:=.agg #[.bool true,.bool R.out.reset,.int .i64 R.hard.term,.int .i64 R.hard.vote,.slice A1 n1 d1,.slice A2 n2 d2,.bool R.out.snap.isSome,.int .i64 (js R.out.snap),.int .i64 (jt R.out.snap),.slice A3 n3 d3,.slice A4 n4 d4,.slice A5 n5 d5]) (by simp[results,results54,go_sem,r0,r1,r2,r3,r4,r5,r6,r7,r8,r9,r10,r11]) rfl ⟨_,by rw[Mu.out],_,_,q1,JV.out _ Mo.out _ q2,fR.out.1,fR.out.2,q3⟩
end
section
variable {aa ak:Nat->Nat}{c q g i j n:Nat}{w w' w1:World}{R:Rf}{v:Aw}{x:Value}{t:bD}
theorem Au.inv(h:Au aa i q w x t):t.Inv:=by
 obtain⟨gt,A,n,c,zs,hv,hT,hl⟩:=h;exact hT.i
theorem jF(h:Au aa i q w x t)(hN:t.L.length<=1000000):Calls prog 47 #[x] w fun e w'=>e=.returned (.tuple #[.int .i64 t.lastF.1,.int .i64 t.lastF.2])/\Below w.heap.size w w':=by
 obtain⟨gt,A,n,c,zs,rfl,hT,hl⟩:=h;exact zM hT (by have:=hT.len.1;omega)
theorem sR(k:Int)(h:Au aa i q w x t)(hN:t.L.length<=1000000):Calls prog 92 #[x,.int .i64 k] w fun e w'=>e=.returned (.tuple #[.int .i64 (t.termF k).1,.int .i64 (t.termF k).2])/\w=w':=by
 obtain⟨gt,A,n,c,zs,rfl,hT,hl⟩:=h;exact mF k hT (by have:=hT.len.1;omega)
theorem vh(k m:Int)(h:Au aa i q w x t)(hN:t.L.length<=1000000):Calls prog 133 #[x,.int .i64 k,.int .i64 m] w fun e w'=>∃(A':Option Addr) (n' c':Nat) (zs':List (Value×En)),e=.returned (.slice A' n' c')/\w'.ownsRow w.heap.size 59 6 (.slice A' n' c') n' (zs'.flatMap cl)/\bo (aM aa q) w' zs'/\zs'.map (·.2)=t.sliceF k m/\Below w.heap.size w w':=by
 obtain⟨gt,A,n,c,zs,rfl,hT,hl⟩:=h;refine(Ci k m hT (by have:=hT.len.1;omega)).mono ?_;rintro e w' ⟨A',n',c',zs',h1,h2,h3,h4,h5⟩;exact⟨A',n',c',zs',h1,h2,(hT.d.sub h3).keep (bA.below h5),h4,h5⟩
theorem cP.of_row{B n c:Nat}{A:Option Addr}{zs:List (Value×En)}{L:List En}(h:w.ownsRow B 59 6 (.slice A n c) n (zs.flatMap cl))(hd:bo (aM aa q) w zs)(hz:zs.map (·.2)=L)(hl:∀j,B<=j->j<w.heap.size->aa j=q):cP aa q w (.slice A n c) L:=by
 have hb:=bB h;refine⟨A,n,c,zs,rfl,cn.of_own h,hd,hz,hb.1,hb.2,fun _ j hj=>?_⟩;have:=aw h A c rfl j hj;exact hl j this.2.1 this.1
theorem aK.peer_at(h:aK aa c q w g R v){s:Nat}(hs:s<R.peers.length):∃p d,v.peers=.slice (some ⟨p,0,none⟩) R.peers.length d/\aa p=c+4/\p<w.heap.size/\
  w.cell? ⟨p,s*4,none⟩=some (.int .i64 (R.peer s).next)/\w.cell? ⟨p,s*4+1,none⟩=some (.int .i64 (R.peer s).mat)/\w.cell? ⟨p,s*4+2,none⟩=some (.int .i64 (R.peer s).offset)/\w.cell? ⟨p,s*4+3,none⟩=some (.int .i64 (R.peer s).round)/\
  ∀j,w.frozen? ⟨p,j,none⟩=false:=by
 obtain⟨p,d,h1,h2,h3,h4,h5,h6⟩:=h.p.at_ (by omega);have hp:R.peers[s]?=some (R.peer s):=by unfold Rf.peer;rw[List.getElem?_eq_getElem hs];rfl
 have key:∀j u,j<4->(mW (R.peer s))[j]?=some u->w.cell? ⟨p,s*4+j,none⟩=some u:=fun j u hj hu=>h5 _ _ ((dW jC hj hp).trans hu)
 exact⟨p,d,h1,h3,h4,key 0 _ (by omega) rfl,key 1 _ (by omega) rfl,key 2 _ (by omega) rfl,key 3 _ (by omega) rfl,h6⟩
theorem aK.trk_at(h:aK aa c q w g R v):∃gt,v.trk=.pointer (some ⟨gt,0,none⟩)/\aa gt=c+2/\gt<w.heap.size/\w.cell? ⟨gt,0,none⟩=some (.int .i64 R.track.index):=by
 obtain⟨gt,A,n,d,zs,hv,hT,hl⟩:=h.t;exact⟨gt,hv,hl gt (.inl rfl),hT.b.lt,hT.cells.1⟩
theorem qY(s:Nat)(ha:aN c q)(h:aK aa c q w g R v)(hs:s<R.peers.length)(hn:R.out.msgs.length<=100000)(hN:R.track.L.length<=1000000)
  (LI:1<=(R.peer s).next) (tL:(R.peer s).next<=4000000000000) (Nn:0<=(R.peer s).offset) (nP:(R.peer s).offset<=R.snap.data.length) (hd:R.snap.data.length<=65536) :
  Calls prog 100 #[.pointer (some ⟨g,0,none⟩),.int .i64 s] w fun e w'=>e=.returned (.tuple #[])/\au aa c q w g (R.lacks s) w':=by
 have cW:=h.s.lt;obtain⟨p,d,hv,nA,Rx,p0,p1,p2,p3,_⟩:=h.peer_at hs;obtain⟨gt,iV,AK,qq,rI⟩:=h.trk_at;obtain⟨c14,c4,-⟩:=h.s.cs [14,4];simp only[bu,vi,Zx]at c14 c4;rw[hv]at c14;rw[iV]at c4;obtain⟨nx,mt,o,rd,hP⟩:∃nx mt,∃(o:Nat),∃rd,R.peer s=⟨nx,mt,(o:Int),rd⟩:=⟨(R.peer s).next,(R.peer s).mat,(R.peer s).offset.toNat,(R.peer s).round,by rw[Int.toNat_of_nonneg Nn]⟩;rw[hP]at p0 p1 p2 p3 LI tL Nn nP;simp only at p0 p1 p2 p3 LI tL Nn nP;have aI:Below w.heap.size w (w.alloc (.cells #[.int .i64 nx,.int .i64 mt,.int .i64 (o:Int),.int .i64 rd] 171)):=zb.alloc zl _;have gK:=ao.new w 171 #[.int .i64 nx,.int .i64 mt,.int .i64 (o:Int),.int .i64 rd];obtain⟨w1,ct⟩:=zN (w.alloc (.cells #[.int .i64 nx,.int .i64 mt,.int .i64 (o:Int),.int .i64 rd] 171));rw[ct]at aI gK;have h1:=h.fresh (q+c+10) aI;obtain⟨d14,d4,d5,d6,d7,d8,d15,-⟩:=h1.s.cs [14,4,5,6,7,8,15];simp only[bu,vi,Zx]at d14 d4 d5 d6 d7 d8 d15;rw[iV]at d4;obtain⟨y0,y1,y2,y3,-⟩:=gK.cs [0,1,2,3];simp only[Zx]at y0 y1 y2 y3;have RM:=(aI.cell (p:=⟨gt,0,none⟩) qq).trans rI;have QW:=gK.lt;have iM:=h1.s.lt;have tl:=(Below.refl w1.heap.size w1).drew;have hH:=zH h;have WU:=zH h1;replace ct:=zH ct;have dA:∀x∈[g,w.heap.size],x<w1.heap.size:=by simp;exact⟨iM,QW⟩
 by_cases aU:nx-1<R.track.index
 ·obtain⟨l,hl⟩:=zN ((R.snap.data.drop o).take 160);have hL:=zH (show R.lacks s=R.send {dh with kind:=7,tgt:=(s:Int),idx:=R.snap.idx,logTerm:=R.snap.term,offset:=(o:Int),total:=R.snap.data.length,data:=l,round:=R.round} by unfold Rf.lacks;rw[hP];simp only;rw[if_pos aU,<-hl];rfl);obtain⟨Ad,cd,tK,gp,DH,U6,Li⟩:=id h1.d;rw[tK]at d7;obtain⟨N,F6⟩:=zN (R.snap.data.length);rw[F6]at d7 tK gp hd nP;obtain⟨t0,tt0,t4⟩:=tT [g,w.heap.size,gt] y0 RM d4;have k4:=ae (w:=w1.drew) (gs:=[g,w.heap.size]) d4 (by simp);have k5:=ae (w:=w1.drew) (gs:=[g,w.heap.size]) d5 (by simp);have k6:=ae (w:=w1.drew) (gs:=[g,w.heap.size]) d6 (by simp);have k7:=ae (w:=w1.drew) (gs:=[g,w.heap.size]) d7 (by simp);have k15:=ae (w:=w1.drew) (gs:=[g,w.heap.size]) d15 (by simp);have q2:=ae (w:=w1.drew) (gs:=[g,w.heap.size]) y2 (by simp);have Xd:Below w1.drew.heap.size w1.drew (w1.drew.drew.alloc (.cells #[.int .i64 0,.int .i64 0,.int .i64 0,.int .i64 0,.int .i64 0,.int .i64 0,.int .i64 0,.int .i64 0,.bool false,.int .i64 0,.int .i64 0,.slice none 0 0,.slice none 0 0] 39)):=((Below.refl w1.drew.heap.size w1.drew).drew).alloc zl _;go_enter func100,ntmps100;go_wp2_with fail;rw[ct.out];try go_wp2_with fail
  refine eE [g,w.heap.size,gt] w1 [] [0,1,2,3,4,5,6,7,8,9,10] ?_;refine al ?_;simp only[ah,Zx];repeat go_big_quiet_step(fail)
  apply wpQuiet_nil;go_wp2_with fail;refine cK (C:=dS [g,w.heap.size] w1.drew) [([0,1,2,3,4,5,6,7,8,9,10,11,12,13,14,15,16,17,18,19,20,21,22,23],24),([],25)] [] (by kernel_rfl) (by kernel_rfl) (fun _ _ _ _ e h=>⟨e.symm.trans h.1,h.2⟩) aQ ?_;refine aF fun K1 cQ=>?_
  simp only[ah,Zx];repeat go_big_quiet_step(fail)
  apply wpQuiet_nil;go_wp2_with fail;refine⟨av dA Xd,cQ _ _ ?_⟩;refine aF fun K2 iu=>?_
  simp only[ah,Zx];repeat go_big_quiet_step(fail)
  apply wpQuiet_nil;go_wp2_with fail;have P3:Below w1.drew.heap.size w1.drew (w1.drew.drew.alloc (.cells #[.int .i64 7,.int .i64 0,.int .i64 s,.int .i64 0,.int .i64 R.snap.idx,.int .i64 R.snap.term,.int .i64 0,.int .i64 R.round,.bool false,.int .i64 o,.int .i64 N,.slice none 0 0,.slice none 0 0] 39)):=((Below.refl w1.drew.heap.size w1.drew).drew).alloc zl _;have Mz:Below w1.heap.size w1 ((w1.alloc (.cells #[.int .i64 7,.int .i64 0,.int .i64 s,.int .i64 0,.int .i64 R.snap.idx,.int .i64 R.snap.term,.int .i64 0,.int .i64 R.round,.bool false,.int .i64 o,.int .i64 N,.slice none 0 0,.slice none 0 0] 39)).drew.drew):=((((Below.refl w1.heap.size w1).alloc zl _).drew).drew);have P4:ao ((w1.alloc (.cells #[.int .i64 7,.int .i64 0,.int .i64 s,.int .i64 0,.int .i64 R.snap.idx,.int .i64 R.snap.term,.int .i64 0,.int .i64 R.round,.bool false,.int .i64 o,.int .i64 N,.slice none 0 0,.slice none 0 0] 39)).drew.drew) w1.heap.size 39 #[.int .i64 7,.int .i64 0,.int .i64 s,.int .i64 0,.int .i64 R.snap.idx,.int .i64 R.snap.term,.int .i64 0,.int .i64 R.round,.bool false,.int .i64 o,.int .i64 N,.slice none 0 0,.slice none 0 0]:=ao.new w1 _ _;refine⟨av dA P3,iu _ _ ?_⟩;refine al ?_;simp only[ah];apply wpQuiet_nil;generalize(w1.alloc (.cells #[.int .i64 7,.int .i64 0,.int .i64 s,.int .i64 0,.int .i64 R.snap.idx,.int .i64 R.snap.term,.int .i64 0,.int .i64 R.round,.bool false,.int .i64 o,.int .i64 N,.slice none 0 0,.slice none 0 0] 39)).drew.drew=wM at *;clear Xd P3 k4 k5 k6 k7 k15 q2 t0 tt0 t4 Li;have Lh:l.length<=160/\o+l.length<=N/\(l.length<160->o+l.length=N):=by
   rw[<-hl,List.length_take,List.length_drop,F6];omega
  have GH:∀k,k<l.length->∃u,l[k]?=some u/\R.snap.data[o+k]?=some u:=fun k hk=>by
   refine⟨_,List.getElem?_eq_getElem hk,?_⟩;rw[<-List.getElem?_eq_getElem hk,<-hl,List.getElem?_take,if_pos (by omega),List.getElem?_drop]
  replace hl:=zH hl;have Ui:=gK.kept Mz;have z2:=Ui.cell 2;simp only[Zx]at z2;go_wp2_with fail
  go_loopw [6] (fun i wr=>∃(k:Nat) (A:Option Addr) (c':Nat),k<=l.length/\i=.int .i64 ((o+k:Nat):Int)/\ao wr w1.heap.size 39 #[.int .i64 7,.int .i64 0,.int .i64 s,.int .i64 0,.int .i64 R.snap.idx,.int .i64 R.snap.term,.int .i64 0,.int .i64 R.round,.bool false,.int .i64 o,.int .i64 N,.slice none 0 0,.slice A k c']/\wr.ownsRow (w1.heap.size+1) 5 1 (.slice A k c') k ((l.take k).map vb)/\Below w1.heap.size w1 wr) (fun i _=>o+l.length-(intOf i).toNat)
  case atStart=>exact⟨0,none,0,Nat.zero_le _,rfl,P4,bX _ _,Mz⟩
  case round=>
   clear P4 Mz;obtain⟨k,A,c',hk,rfl,bM,aB,hb⟩:=hrel;have hr:=h1.below hb;have Uj:=gK.kept hb;have x2:=Uj.cell 2;simp only[Zx]at x2;have e7:=hr.s.cell 7;simp only[bu,vi,Zx]at e7;rw[tK]at e7;by_cases kH:k<l.length
   ·have a1:(((o+k:Nat):Int)<(N:Int)):=by omega
    have a2:(((o+k:Nat):Int)<(o:Int)+160):=by omega
    obtain⟨u,hu,xw⟩:=GH k kH;obtain⟨ad,rfl,lQ⟩:=gp.2 (by omega);have OL:=lQ (o+k) (vb u) (by rw[List.getElem?_map,xw];rfl);have eG:=ar OL;have Xj:=(hb.cell (p:=ad.add (o+k)) eG).trans OL;have m12:=bM.cell 12;simp only[Zx]at m12;have SM:=hb.size;have ly:=bM.lt;have Y8:=hr.s.lt;obtain⟨j7,j12,jc⟩:=tT [g,w1.heap.size,(ad.add (o+k)).block] e7 m12 Xj;have dX:Below wr.heap.size wr ((wr.alloc (.cells #[vb u] 5)).drew):=((Below.refl wr.heap.size wr).alloc zl _).drew;have fo:Rd ((wr.alloc (.cells #[vb u] 5)).drew) (some ⟨wr.heap.size,0,none⟩) 1 [u]:=cn.one wr 5 (vb u);have pJ:=bf aB dX;have fw:k+1<=1000000000:=by omega
    have bE:w1.heap.size+1<=((wr.alloc (.cells #[vb u] 5)).drew).heap.size:=by have:=dX.size;omega
    have JG:∀x∈[g,w1.heap.size,(ad.add (o+k)).block],x<w1.heap.size+1:=by simp;exact⟨by omega,by have:=eG;omega⟩
    have cx:l.take (k+1)=l.take k++[u]:=by rw[List.take_add_one,hu];rfl
    have aO:=zH (show o+l.length-(o+(k+1))<o+l.length-(o+k) by omega);have aE:∀(A3:Option Addr) (c3:Nat) (w3:World),w3.ownsRow (w1.heap.size+1) 5 1 (.slice A3 (k+1) c3) (k+1) ((l.take k++[u]).map vb)->Below (w1.heap.size+1) ((wr.alloc (.cells #[vb u] 5)).drew) w3->
      ao w3 w1.heap.size 39 #[.int .i64 7,.int .i64 0,.int .i64 s,.int .i64 0,.int .i64 R.snap.idx,.int .i64 R.snap.term,.int .i64 0,.int .i64 R.round,.bool false,.int .i64 o,.int .i64 N,.slice none 0 0,.slice A k c']/\ao (w3.setCell ⟨w1.heap.size,12,none⟩ (.slice A3 (k+1) c3)) w1.heap.size 39 #[.int .i64 7,.int .i64 0,.int .i64 s,.int .i64 0,.int .i64 R.snap.idx,.int .i64 R.snap.term,.int .i64 0,.int .i64 R.round,.bool false,.int .i64 o,.int .i64 N,.slice none 0 0,.slice A3 (k+1) c3]/\(w3.setCell ⟨w1.heap.size,12,none⟩ (.slice A3 (k+1) c3)).ownsRow (w1.heap.size+1) 5 1 (.slice A3 (k+1) c3) (k+1) ((l.take (k+1)).map vb)/\Below w1.heap.size w1 (w3.setCell ⟨w1.heap.size,12,none⟩ (.slice A3 (k+1) c3))/\
      ∀x∈[g,w1.heap.size,(ad.add (o+k)).block],w3.heap[x]?=wr.heap[x]?:=fun A3 c3 w3 h3 bN=>by
     have jS:∀x,x<w1.heap.size+1->w3.heap[x]?=wr.heap[x]?:=fun x hx=>(bN.block x hx).trans (dX.block x (by omega))
     have oZ:ao w3 w1.heap.size 39 #[.int .i64 7,.int .i64 0,.int .i64 s,.int .i64 0,.int .i64 R.snap.idx,.int .i64 R.snap.term,.int .i64 0,.int .i64 R.round,.bool false,.int .i64 o,.int .i64 N,.slice none 0 0,.slice A k c']:=(jS _ (by omega)).trans bM;have s:=oZ.set_ 12 (.slice A3 (k+1) c3);simp only[Zy]at s;have fh:=Fr.set (w:=w3) w1.heap.size 12 (.slice A3 (k+1) c3);refine⟨oZ,s,?_,(hb.trans ((dX.mono (by omega)).trans (bN.mono (by omega)))).setCell zl _,fun x hx=>jS x (JG x hx)⟩;rw[cx];exact cN h3 fun j hj hl=>fh.block j hl (by have:=(aw h3 _ _ rfl j hj).2.1;omega)
    unfold vb at *;clear aB lQ hr h1 h;go_wp2_with fail;refine nj [g,w1.heap.size,(ad.add (o+k)).block] wr [([0,1,2,3,4,5,6,7,8,9],10),([],11)] ([12],13) ?_;refine aq fun K3 jY=>?_
    simp only[ah,Zx];repeat go_big_quiet_step(fail)
    apply wpQuiet_nil;go_wp2_with fail;refine⟨dT fun x hx=>dX.block x (by have:=JG x hx;omega),jY _ _ ?_⟩;refine aq fun K4 ro=>?_
    simp only[ah,Zx];repeat go_big_quiet_step(fail)
    apply wpQuiet_nil;go_wp2_with (at_builtin;refine lj rfl (.tmp 71) (.tmp 80) rfl (w1.heap.size+1) rfl pJ rfl fo fw bE ?_;intro A3 c3 w3 bY iy bN;obtain⟨oZ,mU,JU,Um,UX⟩:=aE A3 c3 w3 bY bN;clear aE bY iy bN);have m3:=oZ.cell 12;simp only[Zx]at m3;have mf3:=oZ.free 12;refine⟨dT UX,ro _ _ ?_⟩;refine aC ?_;simp only[ah,Zx];repeat go_big_quiet_step(fail)
    apply wpQuiet_nil;go_wp2_with fail;exact⟨⟨k+1,A3,c3,kH,by go_num,mU,JU,Um⟩,by simp[intOf];exact aO.out⟩
   ·obtain rfl:k=l.length:=by omega
    have hL':=hL;have PW:=ab aI hb zl;have hm:jV (aj aa w.heap.size q) q wr ((.slice none 0 0,.slice A l.length c'),{dh with kind:=7,tgt:=(s:Int),idx:=R.snap.idx,logTerm:=R.snap.term,offset:=(o:Int),total:=(N:Int),data:=l,round:=R.round}):=by
     rw[List.take_length]at aB;refine⟨nR.nil _ _ _,?_,Av.of_own aB⟩;have ti:=bB aB;refine⟨A,c',rfl,cn.of_own aB,ti.1,ti.2,fun _ ad e=>?_⟩;have:=aw aB A c' rfl ad.block ⟨ad,e,rfl⟩;exact az (by have:=aI.size;omega)
    have dZ:=oS _ _ _ ha (hH.out.fresh q PW) hm ⟨rfl,rfl⟩ hn;unfold eI at dZ;simp only[vi]at dZ;have MT:=zH (fun w4 (hP:au (aj aa w.heap.size q) c q wr g (R.send {dh with kind:=7,tgt:=(s:Int),idx:=R.snap.idx,logTerm:=R.snap.term,offset:=(o:Int),total:=(N:Int),data:=l,round:=R.round}) w4)=>show au aa c q w g (R.lacks s) w4 by rw[hL.out,F6];exact hP.fresh q PW);have Qk:(¬(((o+l.length:Nat):Int)<(N:Int)))\/((((o+l.length:Nat):Int)<(N:Int))/\¬(((o+l.length:Nat):Int)<(o:Int)+160)):=by
     by_cases hx:o+l.length<N
     ·exact .inr ⟨by omega,by omega⟩
     ·exact .inl (by omega)
    obtain⟨m0,m1,m2,m3,m4,m5,m6,m7,m8,m9,m10,m11,m12,-⟩:=bM.cs [0,1,2,3,4,5,6,7,8,9,10,11,12];simp only[Zx]at m0 m1 m2 m3 m4 m5 m6 m7 m8 m9 m10 m11 m12;clear hm aB hr h1 h GH Lh;rcases Qk with a1|⟨a1,a2⟩
    all_goals
     go_wp2_with fail;refine dZ.mono ?_;rintro e w4 ⟨rfl,hP⟩;have hQ:=MT.out w4 hP;replace hQ:=zH hQ;clear hP dZ;go_wp2_with fail;exact aP rfl rfl ⟨rfl,hQ.out⟩
 ·have cp:=sR (nx-1) (h1.below (w':=w1.drew.drew) (ay zb 2)).t hN;obtain⟨tt,mV⟩:∃x,R.track.termF (nx-1)=x:=⟨_,rfl⟩;rw[mV,iV]at cp;have lV:=vh nx 6 (h1.below (w':=w1.drew.drew.drew) (ay zb 3)).t hN;rw[iV]at lV;have fd:=Int.not_lt.1 aU;have hL:=zH (show R.lacks s=R.send {dh with kind:=5,tgt:=(s:Int),idx:=nx-1,logTerm:=tt.1,entries:=R.track.sliceF nx 6,commit:=R.commit,round:=R.round} by unfold Rf.lacks;rw[hP];simp only;rw[if_neg aU,mV]);replace mV:=zH mV;obtain⟨t0,tt0,t4⟩:=tT [g,w.heap.size,gt] y0 RM d4;have k4:=ae (w:=w1.drew) (gs:=[g,w.heap.size]) d4 (by simp);have q0:=ae (w:=w1.drew) (gs:=[g,w.heap.size]) y0 (by simp);clear h h1;go_enter func100,ntmps100;go_wp2_with fail;rw[ct.out];try go_wp2_with fail
  refine eE [g,w.heap.size,gt] w1 [] [0,1,2,3,4,5,6,7,8,9,10] ?_;refine al ?_;simp only[ah,Zx];repeat go_big_quiet_step(fail)
  apply wpQuiet_nil;go_wp2_with fail;refine cK (C:=dS [g,w.heap.size] w1.drew) [([0,1,2,3,4,5,6],7)] [8,9,10,11,12] (by kernel_rfl) (by kernel_rfl) (fun _ _ _ _ e h=>⟨e.symm.trans h.1,h.2⟩) aQ ?_;refine aF fun K1 cQ=>?_
  simp only[ah,Zx];repeat go_big_quiet_step(fail)
  apply wpQuiet_nil;go_wp2_with fail;refine cp.mono ?_;rintro e w2 ⟨rfl,rfl⟩;go_wp2_with fail;refine⟨av dA (ay zb 1),cQ _ _ ?_⟩;refine al ?_;simp only[ah,Zx];repeat go_big_quiet_step(fail)
  apply wpQuiet_nil;have k4:=ae (w:=w1.drew.drew) (gs:=[g,w.heap.size]) d4 (by simp);have q0:=ae (w:=w1.drew.drew) (gs:=[g,w.heap.size]) y0 (by simp);have k8:=ae (w:=w1.drew.drew) (gs:=[g,w.heap.size]) d8 (by simp);have k15:=ae (w:=w1.drew.drew) (gs:=[g,w.heap.size]) d15 (by simp);go_wp2_with fail;refine bU (C:=dS [g,w.heap.size] w1.drew.drew) [([0,1,2,3,4,5,6,7,8,9,10,11,13,14,15,16,17,18,19,20],12)] ([21],22) (by kernel_rfl) (by kernel_rfl) (fun _ _ _ _ e h=>⟨e.symm.trans h.1,h.2⟩) aQ ?_;refine aq fun K2 iu=>?_
  simp only[ah,Zx];repeat go_big_quiet_step(fail)
  apply wpQuiet_nil;go_wp2_with fail;refine lV.mono ?_;rintro e w3 ⟨A3,n3,c3,zs3,rfl,Md,Yr,LJ,bN⟩;go_wp2_with fail;have gl:Below w1.heap.size w1 w3:=(ay zb 3).trans bN;have eF:=ab aI gl zl;refine⟨av (w:=w1.drew.drew) dA ((ay zb 1).trans bN),iu _ _ ?_⟩;refine aC ?_;simp only[ah,Zx];repeat go_big_quiet_step(fail)
  apply wpQuiet_nil;have h3:=hH.out.fresh q eF;have na:∀j,j<w.heap.size->aj aa w.heap.size q j=aa j:=fun j hj=>ac hj
  have hm:jV (aj aa w.heap.size q) q w3 ((.slice A3 n3 c3,.slice none 0 0),{dh with kind:=5,tgt:=(s:Int),idx:=nx-1,logTerm:=tt.1,entries:=R.track.sliceF nx 6,commit:=R.commit,round:=R.round}):=by
   refine⟨⟨cP.of_row Md (Yr.mono fun j hj e=>?_) LJ fun j hj _=>az (by have:=aI.size;have:w1.drew.drew.drew.heap.size=w1.heap.size:=rfl;omega),Av.of_own Md⟩,np.nil _ _ _⟩;have e:aj aa w.heap.size (q+c+10) j=q:=e;show aj aa w.heap.size q j=q;rcases Nat.lt_or_ge j w.heap.size with h|h
   ·rw[ac h]at e ⊢;exact e
   ·exact az h
  have dZ:=oS _ _ _ ha h3 hm ⟨rfl,rfl⟩ hn;unfold eI at dZ;simp only[vi]at dZ;clear lV hm Md;go_wp2_with fail;refine dZ.mono ?_;rintro e w4 ⟨rfl,hP⟩;have hQ:=zH (show au aa c q w g (R.lacks s) w4 by rw[hL.out];exact hP.fresh q eF);go_wp2_with fail;exact cL rfl rfl ⟨rfl,hQ.out⟩
end
end Go.Proofs.YtjcninheccmpoaaGreat
