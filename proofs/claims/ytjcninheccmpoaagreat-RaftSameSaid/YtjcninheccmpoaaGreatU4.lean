import Derived.Test.YtjcninheccmpoaaGreatU3
import Derived.Maps.Keyed
set_option maxRecDepth 100000
set_option maxHeartbeats 8000000
set_option linter.all false
namespace Go.Proofs.YtjcninheccmpoaaGreat
open Go.RowKit Go.Proofs.Tryz
theorem dc{a b:Nat}{w w':World}(h1:w'.heap[a]?=w.heap[a]?)(h2:w'.heap[b]?=w.heap[b]?):cr [a,b] w w':=aT fun q hq=>by
 simp only[List.mem_cons,List.not_mem_nil,or_false]at hq;rcases hq with rfl|rfl
 ·exact h1
 ·exact h2
def ie(B:Nat)(S:Nat->Prop)(w:World)(g:Nat)(A:Option Addr)(t':bv)(M:Nat)(w':World):Prop:=
 ∃(A':Option Addr) (n' c':Nat) (zs':List (Value×En)) (S':Nat->Prop),cy B S' w' g t' A' n' c' zs'/\(∀j,S' j->S j\/(w.heap.size<=j/\j<M))/\(∀j,aR A' j->aR A j\/w.heap.size<=j)/\M<=w'.heap.size/\Fr (fun j=>j=g\/aR A j) w w'
section
variable {B:Nat}{S:Nat->Prop}{w w':World}{g n c:Nat}{t:bv}{A:Option Addr}{zs:List (Value×En)}
theorem ie.same(h:cy B S w g t A n c zs)(hb:Below w.heap.size w w'):ie B S w g A t w'.heap.size w':=
 ⟨A,n,c,zs,S,h.below hb,fun _ h=>.inl h,fun _ h=>.inl h,Nat.le_refl _,Fr.of_below hb⟩
theorem Cp{tm:Int}{x:En}(h:1099511627776<=t.lastF.1):t.putF tm x=((jx,41),t):=if_pos h
theorem FE{tm:Int}{x:En}(h:¬1099511627776<=t.lastF.1)(h2:tm<t.lastF.2\/di (nc (t.lastF.1+1) tm x)=false):t.putF tm x=((jx,1),t):=by unfold bv.putF;rw[if_neg h,if_pos h2]
theorem HR{tm:Int}{x:En}(h:¬1099511627776<=t.lastF.1)(h1:¬tm<t.lastF.2)(h2:di (nc (t.lastF.1+1) tm x)=true):t.putF tm x=((nc (t.lastF.1+1) tm x,0),{t with L:=t.L++[nc (t.lastF.1+1) tm x]}):=by
 unfold bv.putF;rw[if_neg h,if_neg (by rintro(h'|h');exact h1 h';rw[h2]at h';cases h')]
theorem cy.moveT{X:Nat->Prop}(h:cy B S w g t A n c zs)(hF:Fr X w w')(hg:¬X g)(hr:∀j,aR A j->¬X j)(hT:be TD w w'):cy B S w' g t A n c zs:=
 h.keep fun j hj hl=>by
  rcases hj with rfl|hj|hj
  ·exact hF.block _ hl hg
  ·exact hF.block _ hl (hr j hj)
  ·exact hT j (h.s j hj)
theorem Fr.set6(w:World)(g:Nat)(z:Value×En):Fr (fun j=>j=g) w (set6 w g z):=
 have k:∀j,j=g->j=g\/w.heap.size<=j:=fun _ h=>.inl h
 have e:∀{a b:World},Fr (fun j=>j=g) w a->Fr (fun j=>j=g) a b->Fr (fun j=>j=g) w b:=fun h h'=>h.trans h' k
 e (e (e (e (e (Fr.set g 0 _) (Fr.set g 1 _)) (Fr.set g 2 _)) (Fr.set g 3 _)) (Fr.set g 4 _)) (Fr.set g 5 _)
theorem cy.setRow{S7:Nat->Prop}{w7:World}{A7:Option Addr}{n7 c7:Nat}{zs7:List (Value×En)}{L7:List En}(hg:B<=g)(hk:ay w7 g 152 #[.int .i64 t.index,.int .i64 t.term,.slice A n c])
  (ho:w7.ownsRow B 59 6 (.slice A7 n7 c7) n7 (zs7.flatMap dE)) (hd:bA S7 w7 zs7) (hl:zs7.map (·.2)=L7) (hi:bv.Inv {t with L:=L7}) (hs:∀j,S7 j->pV TD w7 j) :
  cy B S7 (w7.setCell ⟨g,2,none⟩ (.slice A7 n7 c7)) g {t with L:=L7} A7 n7 c7 zs7 where
 b:=by simpa using hk.set_ 2 (.slice A7 n7 c7)
 o:=dG ho fun j hj hl=>(Fr.set g 2 _).block j hl fun e=>by
  obtain⟨_,_,cs,h⟩:=aI ho A7 c7 rfl j hj;rw[e]at h;unfold ay at hk;rw[hk]at h;injection h with h;injection h with _ h;exact absurd h (by decide)
 d:=hd.keep fun j hj hl=>be.set (L:=TD) hk (by decide) j (hs j hj)
 l:=hl
 i:=hi
 g:=hg
 s:=fun j hj=>(hs j hj).move (be.set hk (by decide))
theorem FX(S2:Nat->Prop)(tm:Int)(x:En)(V:Option Addr)(m d:Nat)(h:cy B S w g t A n c zs)(hn:n<=100000000000)(hB:B<=w.heap.size)(hf:aN S2 w (.slice V m d) x.facts)(hm:m<=maxLen)(kh:∀j,S2 j->¬(j=g\/aR A j)) :
  Calls prog 66 #[.pointer (some ⟨g,0,none⟩),.int .i64 tm,vK x (.slice V m d)] w fun e w'=>∃vy,e=.returned (.tuple #[rN (t.putF tm x).1.1 vy,.int .i64 (t.putF tm x).1.2])/\∃M,aN (bu TD M w') w' vy (t.putF tm x).1.1.facts/\w.heap.size<=M/\ie B S w g A (t.putF tm x).2 M w':=by
 have Gi:=h.i.last;have hb:=h.i.b;have hr:=h.i.room;rw[<-h.len.1]at Gi hr;have Dj:=h.i.lastB;have Ev:=zH (fun h1=>Cp (t:=t) (tm:=tm) (x:=x) h1);have D5:=zH (fun h1 h2=>FE (t:=t) (tm:=tm) (x:=x) h1 h2);have cz:=zH (fun h1 h2 h3=>HR (t:=t) (tm:=tm) (x:=x) h1 h2 h3);have BR:=zH (fun p q r=>h.i.put (x:=nc (t.lastF.1+1) tm x) p q r);obtain⟨aU,cw,iq⟩:=iz w 42 59 #[.int .i64 x.op,.int .i64 x.sess,.int .i64 x.seq,.slice V m d] #[.int .i64 0,.int .i64 0,.int .i64 0,.int .i64 0,.int .i64 0,.slice none 0 0];have hA:=h.below aU;have TL:=hf.keep (b5.below (S:=S2) aU);have ci:=mP hA hn;obtain⟨l2,fB⟩:=zN (t.lastF.2);obtain⟨l1,dm⟩:=zN (t.lastF.1);rw[dm]at Gi Ev D5 cz BR;rw[fB]at Dj D5 cz BR;rw[dm,fB]at ci;have Hp:0<=l1/\l1<=1099511627776:=by omega
 clear dm fB Gi hr;unfold vK;go_enter func66,ntmps66;go_wp2_with fail;generalize(w.alloc (.cells #[.int .i64 x.op,.int .i64 x.sess,.int .i64 x.seq,.slice V m d] 42)).alloc (.cells #[.int .i64 0,.int .i64 0,.int .i64 0,.int .i64 0,.int .i64 0,.slice none 0 0] 59)=w1 at *;refine ci.mono ?_;rintro e w2 ⟨rfl,bU⟩;clear ci;have h2:=hA.below bU;have BG:=TL.keep (b5.below (S:=S2) bU);have dS:=aj aU bU zl;have b1:=cw.kept bU;have b2:=iq.kept bU;obtain⟨c0,c1,c2,c3,-⟩:=b1.cs [0,1,2,3];simp only[Zx]at c0 c1 c2 c3;have eC:=b2.lt;clear hA TL cw iq bU b1;have Ed:Below w2.heap.size w2 (w2.alloc (.cells #[.int .i64 (l1+1),.int .i64 tm,.int .i64 x.op,.int .i64 x.sess,.int .i64 x.seq,.slice V m d] 59)):=zb.alloc zl _;have b3:=ay.new w2 59 #[.int .i64 (l1+1),.int .i64 tm,.int .i64 x.op,.int .i64 x.sess,.int .i64 x.seq,.slice V m d];have b2:=b2.kept Ed;have h3:=h2.below Ed;have MB:=BG.keep (b5.below (S:=S2) Ed);have eI:=aj dS Ed zl;go_upto_block 0 with fail
 generalize fX:w2.alloc (.cells #[.int .i64 (l1+1),.int .i64 tm,.int .i64 x.op,.int .i64 x.sess,.int .i64 x.seq,.slice V m d] 59)=w3 at *;clear fX Ed h2 BG c0 c1 c2 c3;have Dn:w.heap.size+1≠w2.heap.size:=by omega
 have O2:w.heap.size<=w2.heap.size:=by omega
 generalize w2.heap.size=g3 at *;clear dS eC;have bV:=h.b.lt;have qr:∀j,aR A j->j<w.heap.size:=fun j hj=>(aI h.o A c rfl j hj).1
 have fin:∀(w5 w6:World) (y:En) (v:Value),Below w.heap.size w w5->ay w5 (w.heap.size+1) 59 #[.int .i64 0,.int .i64 0,.int .i64 0,.int .i64 0,.int .i64 0,.slice none 0 0]->set6 w5 (w.heap.size+1) (v,y)=w6->
   ay w6 (w.heap.size+1) 59 #[.int .i64 y.idx,.int .i64 y.term,.int .i64 y.op,.int .i64 y.sess,.int .i64 y.seq,v]/\be TD w5 w6/\Below w.heap.size w w6/\Fr (fun j=>j=w.heap.size+1) w5 w6:=fun w5 w6 y v hb hk e=>by
  subst e;obtain⟨s1,s2,s3⟩:=iD (v,y) hk rfl;exact⟨s1,s2 _ (by decide),hb.trans (s3 _ (by omega)),Fr.set6 _ _ _⟩
 have finE:∀(w5 w6:World) (k:Int),cy B S w5 g t A n c zs->Below w.heap.size w w5->ay w5 (w.heap.size+1) 59 #[.int .i64 0,.int .i64 0,.int .i64 0,.int .i64 0,.int .i64 0,.slice none 0 0]->set6 w5 (w.heap.size+1) (.slice none 0 0,jx)=w6->t.putF tm x=((jx,k),t)->
   ay w6 (w.heap.size+1) 59 #[.int .i64 0,.int .i64 0,.int .i64 0,.int .i64 0,.int .i64 0,.slice none 0 0]/\
   ∃vy,Ending.returned (.tuple #[.agg #[.int .i64 0,.int .i64 0,.int .i64 0,.int .i64 0,.int .i64 0,.slice none 0 0],.int .i64 k])=.returned (.tuple #[rN (t.putF tm x).1.1 vy,.int .i64 (t.putF tm x).1.2])/\∃M,aN (bu TD M w6) w6 vy (t.putF tm x).1.1.facts/\w.heap.size<=M/\ie B S w g A (t.putF tm x).2 M w6:=fun w5 w6 k h5 hb hk e he=>by
  obtain⟨s1,s2,s3,s4⟩:=fin w5 w6 jx _ hb hk e;rw[he];refine⟨s1,.slice none 0 0,rfl,w6.heap.size,aN.nil _ _,s3.size,A,n,c,zs,S,?_,fun _ h=>.inl h,fun _ h=>.inl h,Nat.le_refl _,Fr.of_below s3⟩;exact h5.moveT s4 (by omega) (fun j hj=>by have:=qr j hj;omega) s2
 obtain⟨d0,d1,d2,d3,d4,d5,-⟩:=b2.cs [0,1,2,3,4,5];obtain⟨f0,f1,f2,f3,f4,f5,-⟩:=b2.fs [0,1,2,3,4,5];simp only[Zx]at d0 d1 d2 d3 d4 d5;by_cases i1:1099511627776<=l1
 ·have he:=Ev.out i1;have aO:=finE w3 _ 41 h3 eI b2 rfl he;have aO:=zH aO;clear he finE fin qr;go_wp2_with fail;replace aO:=aO.out;show bodyPost _ _ _ _ _ (set6 w3 (w.heap.size+1) (.slice none 0 0,jx));generalize set6 w3 (w.heap.size+1) (.slice none 0 0,jx)=w9 at *;obtain⟨q,aO⟩:=aO;obtain⟨r0,r1,r2,r3,r4,r5,-⟩:=q.cs [0,1,2,3,4,5];simp only[Zx]at r0 r1 r2 r3 r4 r5;exact bodyPost_ret (v:=.tuple #[.agg #[.int .i64 0,.int .i64 0,.int .i64 0,.int .i64 0,.int .i64 0,.slice none 0 0],.int .i64 41]) (by simp[results,results66,go_sem,r0,r1,r2,r3,r4,r5]) rfl aO
 ·by_cases i2:tm<l2
  ·have he:=D5.out (by omega) (.inl i2);have aO:=finE w3 _ 1 h3 eI b2 rfl he;have aO:=zH aO;clear he finE fin qr;go_wp2_with fail;replace aO:=aO.out;show bodyPost _ _ _ _ _ (set6 w3 (w.heap.size+1) (.slice none 0 0,jx));generalize set6 w3 (w.heap.size+1) (.slice none 0 0,jx)=w9 at *;obtain⟨q,aO⟩:=aO;obtain⟨r0,r1,r2,r3,r4,r5,-⟩:=q.cs [0,1,2,3,4,5];simp only[Zx]at r0 r1 r2 r3 r4 r5;exact bodyPost_ret (v:=.tuple #[.agg #[.int .i64 0,.int .i64 0,.int .i64 0,.int .i64 0,.int .i64 0,.slice none 0 0],.int .i64 1]) (by simp[results,results66,go_sem,r0,r1,r2,r3,r4,r5]) rfl aO
  ·have aP:=rF S2 (nc (l1+1) tm x) V m d w3 MB hm;obtain⟨bp,Ef⟩:=zN (di (nc (l1+1) tm x));rw[Ef]at aP;unfold rN nc at aP;dsimp only at aP;obtain⟨a0,a1,a2,a3,a4,a5,-⟩:=b3.cs [0,1,2,3,4,5];simp only[Zx]at a0 a1 a2 a3 a4 a5;go_wp2_with fail;refine aP.mono ?_;rintro e w4 ⟨rfl,dV⟩;have b2:=b2.kept dV;have b3:=b3.kept dV;have h4:=h3.below dV;have De:=MB.keep (b5.below (S:=S2) dV);have jU:=aj eI dV zl;clear h3 MB dV eI aP d0 d1 d2 d3 d4 d5 f0 f1 f2 f3 f4 f5 a0 a1 a2 a3 a4 a5;obtain⟨d0,d1,d2,d3,d4,d5,-⟩:=b2.cs [0,1,2,3,4,5];obtain⟨f0,f1,f2,f3,f4,f5,-⟩:=b2.fs [0,1,2,3,4,5];obtain⟨a0,a1,a2,a3,a4,a5,-⟩:=b3.cs [0,1,2,3,4,5];simp only[Zx]at d0 d1 d2 d3 d4 d5 a0 a1 a2 a3 a4 a5;cases bp with
   | false=>
    have he:=D5.out (by omega) (.inr Ef);have aO:=finE w4 _ 1 h4 jU b2 rfl he;have aO:=zH aO;clear he finE fin qr Ef;go_wp2_with fail;replace aO:=aO.out;show bodyPost _ _ _ _ _ (set6 w4 (w.heap.size+1) (.slice none 0 0,jx));generalize set6 w4 (w.heap.size+1) (.slice none 0 0,jx)=w9 at *;obtain⟨q,aO⟩:=aO;obtain⟨r0,r1,r2,r3,r4,r5,-⟩:=q.cs [0,1,2,3,4,5];simp only[Zx]at r0 r1 r2 r3 r4 r5;exact bodyPost_ret (v:=.tuple #[.agg #[.int .i64 0,.int .i64 0,.int .i64 0,.int .i64 0,.int .i64 0,.slice none 0 0],.int .i64 1]) (by simp[results,results66,go_sem,r0,r1,r2,r3,r4,r5]) rfl aO
   | true=>
    have he:=zH (cz.out (by omega) (by omega) Ef);have yU:=ly Ef;have Ef:=zH Ef;have aP:=nC S2 (nc (l1+1) tm x) V m d w4 De yU;unfold rN nc at aP;dsimp only at aP;have kg:=zK [g,g3] h4.cells.2.2 (by simp);obtain⟨k0,k1,k2,k3,k4,k5⟩:=O7 [g,g3] a0 a1 a2 a3 a4 a5;have QY:=h4.b.lt;have QX:=b3.lt;have bY:∀q∈[g,g3],q<w4.heap.size:=by simp;exact⟨QY,QX⟩
    clear finE d0 d1 d2 d3 d4 d5 f0 f1 f2 f3 f4 f5 Ev D5 cz;have aP:Calls prog 91 #[.agg #[.int .i64 (l1+1),.int .i64 tm,.int .i64 x.op,.int .i64 x.sess,.int .i64 x.seq,.slice V m d]] w4.drew fun e w'=>∃A' c',e=.returned (.agg #[.int .i64 (l1+1),.int .i64 tm,.int .i64 x.op,.int .i64 x.sess,.int .i64 x.seq,.slice A' m c'])/\aN (bu TD w4.heap.size w') w' (.slice A' m c') x.facts/\Below w4.heap.size w4 w':=
     (nC S2 (nc (l1+1) tm x) V m d w4.drew De yU).mono fun e w' h=>by
      obtain⟨A',c',h1,h2,h3⟩:=h;exact⟨A',c',h1,h2,(aY (Below.refl w4.heap.size w4) 1).trans h3⟩
    clear a0 a1 a2 a3 a4 a5;go_wp2_with fail;refine qY [g,g3] w4 [([0,1,2,3,4,5],6),([],7),([],8)] ([9,10],11) ?_;refine au fun K1 cF=>?_
    simp only[af,Zx];repeat go_big_quiet_step(fail)
    apply wpQuiet_nil;go_wp2_with fail;refine aP.mono ?_;rintro e w5 ⟨A5,d5,rfl,MC,dp⟩;clear aP;go_wp2_with fail;refine⟨aw bY dp,cF _ _ ?_⟩;have iA:Below w5.heap.size w5 (w5.alloc (.cells #[.int .i64 (l1+1),.int .i64 tm,.int .i64 x.op,.int .i64 x.sess,.int .i64 x.seq,.slice A5 m d5] 59)):=zb.alloc zl _;have eB:ay (w5.alloc (.cells #[.int .i64 (l1+1),.int .i64 tm,.int .i64 x.op,.int .i64 x.sess,.int .i64 x.seq,.slice A5 m d5] 59)) w5.heap.size 59 (dE (.slice A5 m d5,nc (l1+1) tm x)).toArray:=ay.new w5 59 (dE (.slice A5 m d5,nc (l1+1) tm x)).toArray;have tZ:=aj dp iA zl;have h6:=h4.below tZ;have oh:n+1<=1000000000000:=by omega
    have I4:B<=(w5.alloc (.cells #[.int .i64 (l1+1),.int .i64 tm,.int .i64 x.op,.int .i64 x.sess,.int .i64 x.seq,.slice A5 m d5] 59)).heap.size:=by have:=tZ.size;have:=jU.size;omega
    refine au fun K2 jl=>?_
    simp only[af,Zx];repeat go_big_quiet_step(fail)
    apply wpQuiet_nil;go_wp2_with fail;refine⟨aw bY tZ,jl _ _ ?_⟩;refine au fun K3 jS=>?_
    simp only[af,Zx];repeat go_big_quiet_step(fail)
    apply wpQuiet_nil;go_wp2_with (at_builtin;refine dg rfl (.tmp 39) (.tmp 42) rfl B rfl h6.o rfl (im.one eB) (fun y hy=>by rw[List.mem_singleton.1 hy];rfl) oh I4 ?_;intro A7 c7 w7 jD wh mX wy);obtain⟨w6,mJ⟩:=zN (w5.alloc (.cells #[.int .i64 (l1+1),.int .i64 tm,.int .i64 x.op,.int .i64 x.sess,.int .i64 x.seq,.slice A5 m d5] 59));rw[mJ]at iA eB tZ h6 wh wy I4;have Xt:¬aR A g:=fun hj=>by
     obtain⟨_,_,cs,h⟩:=aI h4.o A c rfl g hj;have hk:=h4.b;unfold ay at hk;rw[hk]at h;injection h with h;injection h with _ h;exact absurd h (by decide)
    have Rx:¬aR A g3:=fun hj=>by have:=qr _ hj;omega
    have yT:=tZ.size;have nr:ay w7 g 152 #[.int .i64 t.index,.int .i64 t.term,.slice A n c]:=(wh.block g h6.b.lt Xt).trans h6.b;have E5:ay w7 g3 59 #[.int .i64 (l1+1),.int .i64 tm,.int .i64 x.op,.int .i64 x.sess,.int .i64 x.seq,.slice V m d]:=(wh.block g3 (by omega) Rx).trans (b3.kept tZ);have eC:w.heap.size+1<w4.heap.size:=b2.lt;have Yi:ay w7 (w.heap.size+1) 59 #[.int .i64 0,.int .i64 0,.int .i64 0,.int .i64 0,.int .i64 0,.slice none 0 0]:=(wh.block _ (by omega) fun hj=>by have:=qr _ hj;omega).trans (b2.kept tZ);refine⟨dc (Eq.trans nr h4.b.symm) (Eq.trans E5 b3.symm),jS _ _ ?_⟩;have EX:be TD w6 w7:=be.row h6.o wh (by decide);have MD:aN (bu TD w4.heap.size w7) w7 (.slice A5 m d5) x.facts:=(MC.move (be.below iA)).move EX;have Tt:∀j,(S j\/bu TD w4.heap.size w7 j)->pV TD w7 j:=fun j hj=>hj.elim (fun hj=>(h6.s j hj).move EX) (fun hj=>hj.2)
    have Ii:bA (fun j=>S j\/bu TD w4.heap.size w7 j) w7 (zs++[(.slice A5 m d5,nc (l1+1) tm x)]):=
     ((h6.d.keep fun j hj _=>EX j (h6.s j hj)).mono fun j _ hj=>.inl hj).append fun z hz=>by
      rw[List.mem_singleton.1 hz];exact MD.mono fun j _ hj=>.inr hj
    have LA:B<=g:=h4.g;have h8:=cy.setRow (t:=t) LA nr jD Ii (L7:=t.L++[nc (l1+1) tm x]) (by rw[List.map_append,h4.l];rfl) (BR.out rfl Ef.out i2) Tt;have Eu:Fr (fun j=>j=g\/aR A j) w6 (w7.setCell ⟨g,2,none⟩ (.slice A7 (n+1) c7)):=(wh.mono fun j hj=>.inr hj).trans (Fr.set g 2 _) fun j hj=>.inl (.inl hj)
    have MH:Fr (fun j=>j=g\/aR A j) w (w7.setCell ⟨g,2,none⟩ (.slice A7 (n+1) c7)):=(Fr.of_below (aj jU tZ zl)).trans Eu fun j hj=>.inl hj
    have QN:aN S2 (w7.setCell ⟨g,2,none⟩ (.slice A7 (n+1) c7)) (.slice V m d) x.facts:=De.keep fun j hj hl=>(Eu.block j (by omega) (kh j hj)).trans (tZ.block j hl)
    have ZG:=E5.far (p:=⟨g,2,none⟩) (show g3≠g from fun e=>by rw[e]at E5;unfold ay at E5 nr;rw[nr]at E5;injection E5 with E5;injection E5 with _ E5;exact absurd E5 (by decide)) (.slice A7 (n+1) c7);have Yj:=Yi.far (p:=⟨g,2,none⟩) (show w.heap.size+1≠g by omega) (.slice A7 (n+1) c7);have ta:∀j,aR A7 j->aR A j\/w.heap.size<=j:=fun j hj=>(wy j hj).imp_right fun h=>by have:=jU.size;omega
    have hM:∀j,(S j\/bu TD w4.heap.size w7 j)->S j\/(w.heap.size<=j/\j<w7.heap.size):=fun j hj=>hj.imp_right fun hj=>by
     obtain⟨h1,cs,fz,ty,h2,_⟩:=hj;have h3:=aS h2;have:=jU.size;exact⟨by omega,h3⟩
    have Kf:(w7.setCell ⟨g,2,none⟩ (.slice A7 (n+1) c7)).heap.size=w7.heap.size:=by simp[World.setCell]
    have fg2:=nr.free 2;have cg2:=nr.cell 2;simp only[Zx]at cg2;have aP:Calls prog 91 #[.agg #[.int .i64 (l1+1),.int .i64 tm,.int .i64 x.op,.int .i64 x.sess,.int .i64 x.seq,.slice V m d]] (w7.setCell ⟨g,2,none⟩ (.slice A7 (n+1) c7)) fun e w'=>∃A' c',e=.returned (.agg #[.int .i64 (l1+1),.int .i64 tm,.int .i64 x.op,.int .i64 x.sess,.int .i64 x.seq,.slice A' m c'])/\aN (bu TD w7.heap.size w') w' (.slice A' m c') x.facts/\Below w7.heap.size (w7.setCell ⟨g,2,none⟩ (.slice A7 (n+1) c7)) w':=by
     rw[<-Kf];exact nC S2 (nc (l1+1) tm x) V m d _ QN yU
    obtain⟨e0,e1,e2,e3,e4,e5,-⟩:=E5.cs [0,1,2,3,4,5];simp only[Zx]at e0 e1 e2 e3 e4 e5;have cH:¬g3=g:=by omega
    refine aE ?_;simp only[af,Zx];repeat go_big_quiet_step(fail)
    apply wpQuiet_nil;go_wp2_with fail;refine aP.mono ?_;rintro e w9 ⟨A9,d9,rfl,WQ,mY⟩;have mY:Below (w7.setCell ⟨g,2,none⟩ (.slice A7 (n+1) c7)).heap.size (w7.setCell ⟨g,2,none⟩ (.slice A7 (n+1) c7)) w9:=by rw[Kf];exact mY
    have h9:=h8.below mY;have St:=Yj.kept mY;have Iq:=MH.trans (Fr.of_below (X:=fun _=>False) mY) fun _ h=>h.elim
    have WA:Below w.heap.size w9 w9:=Below.refl _ _;have VX:∀j,aR A7 j->j≠w.heap.size+1:=fun j hj e=>by
     obtain⟨_,_,cs,h⟩:=aI h9.o A7 c7 rfl j hj;rcases wy j hj with h'|h'
     ·have:=qr j h';omega
     ·omega
    have Wf:w7.heap.size<=w9.heap.size:=by rw[<-Kf];exact mY.size
    obtain⟨s1,s2,s3⟩:=iD (.slice A9 m d9,nc (l1+1) tm x) St rfl;have s4:=Fr.set6 w9 (w.heap.size+1) (.slice A9 m d9,nc (l1+1) tm x);have pE:=h9.moveT s4 (show ¬g=w.heap.size+1 by omega) (fun j hj e=>VX j hj e) (s2 _ (by decide));have QL:=WQ.move (s2 _ (by decide));have Ir:=Iq.trans s4 fun j hj=>.inr (by omega)
    have PY:w7.heap.size<=(set6 w9 (w.heap.size+1) (.slice A9 m d9,nc (l1+1) tm x)).heap.size:=Nat.le_trans Wf s4.size;have We:w.heap.size<=w7.heap.size:=by have:=Eu.size;have:=jU.size;omega
    have LR:=zH (show ie B S w g A {t with L:=t.L++[nc (l1+1) tm x]} w7.heap.size (set6 w9 (w.heap.size+1) (.slice A9 m d9,nc (l1+1) tm x))from
     ⟨A7,n+1,c7,_,_,pE,hM,ta,PY,Ir⟩)
    clear pE h9 hM ta Ir Iq h8 Ii Tt aP;obtain⟨d0,d1,d2,d3,d4,d5,-⟩:=St.cs [0,1,2,3,4,5];obtain⟨f0,f1,f2,f3,f4,f5,-⟩:=St.fs [0,1,2,3,4,5];simp only[Zx]at d0 d1 d2 d3 d4 d5;go_wp2_with fail;show bodyPost _ _ _ _ _ (set6 w9 (w.heap.size+1) (.slice A9 m d9,nc (l1+1) tm x));generalize set6 w9 (w.heap.size+1) (.slice A9 m d9,nc (l1+1) tm x)=w10 at *;obtain⟨r0,r1,r2,r3,r4,r5,-⟩:=s1.cs [0,1,2,3,4,5];simp only[dE,vi,nc,Zx]at r0 r1 r2 r3 r4 r5;exact bodyPost_ret (v:=.tuple #[.agg #[.int .i64 (l1+1),.int .i64 tm,.int .i64 x.op,.int .i64 x.sess,.int .i64 x.seq,.slice A9 m d9],.int .i64 0]) (by simp[results,results66,go_sem,r0,r1,r2,r3,r4,r5]) rfl ⟨.slice A9 m d9,by rw[he.out];rfl,w7.heap.size,by rw[he.out];exact QL,We,by rw[he.out];exact LR.out⟩
end
section
variable {B:Nat}{S:Nat->Prop}{w w':World}{g n c:Nat}{t:bv}{A:Option Addr}{zs:List (Value×En)}
theorem lL{w:World}{g j:Nat}{T T':TypeId}{cs ds:Array Value}{fz:Nat×Nat}(h:ay w g T cs)(h':w.heap[j]?=some (.cells ds T' fz))(ht:T≠T'):j≠g:=fun e=>by
 unfold ay at h;rw[e,h]at h';injection h' with h';injection h' with _ h';exact ht h'
theorem cy.setAll{S7:Nat->Prop}{w7:World}{A7:Option Addr}{n7 c7:Nat}{zs7:List (Value×En)}{L7:List En}{i tm:Int}(hg:B<=g)(hk:ay w7 g 152 #[.int .i64 t.index,.int .i64 t.term,.slice A n c])
  (ho:w7.ownsRow B 59 6 (.slice A7 n7 c7) n7 (zs7.flatMap dE)) (hd:bA S7 w7 zs7) (hl:zs7.map (·.2)=L7) (hi:bv.Inv ⟨i,tm,L7⟩) (hs:∀j,S7 j->pV TD w7 j) :
  cy B S7 (((w7.setCell ⟨g,2,none⟩ (.slice A7 n7 c7)).setCell ⟨g,0,none⟩ (.int .i64 i)).setCell ⟨g,1,none⟩ (.int .i64 tm)) g ⟨i,tm,L7⟩ A7 n7 c7 zs7:=by
 have k2:=hk.set_ 2 (.slice A7 n7 c7);have k0:=k2.set_ 0 (.int .i64 i);have k1:=k0.set_ 1 (.int .i64 tm);have hT:be TD w7 (((w7.setCell ⟨g,2,none⟩ (.slice A7 n7 c7)).setCell ⟨g,0,none⟩ (.int .i64 i)).setCell ⟨g,1,none⟩ (.int .i64 tm)):=((be.set hk (by decide)).trans (be.set k2 (by decide))).trans (be.set k0 (by decide));have hF:Fr (fun j=>j=g) w7 (((w7.setCell ⟨g,2,none⟩ (.slice A7 n7 c7)).setCell ⟨g,0,none⟩ (.int .i64 i)).setCell ⟨g,1,none⟩ (.int .i64 tm)):=((Fr.set g 2 _).trans (Fr.set g 0 _) fun _ h=>.inl h).trans (Fr.set g 1 _) fun _ h=>.inl h
 exact
 {b:=by simpa using k1
  o:=dG ho fun j hj hl=>hF.block j hl fun e=>by
   obtain⟨_,_,cs,h⟩:=aI ho A7 c7 rfl j hj;exact lL hk h (by decide) e
  d:=hd.keep fun j hj hl=>hT j (hs j hj)
  l:=hl
  i:=hi
  g:=hg
  s:=fun j hj=>(hs j hj).move hT}
theorem tD(i:Int)(h:cy B S w g t A n c zs)(hn:n<=100000000000)(hB:B<=w.heap.size):Calls prog 127 #[.pointer (some ⟨g,0,none⟩),.int .i64 i] w fun e w'=>e=.returned (.int .i64 (t.dropF i).1)/\ie B S w g A (t.dropF i).2 w'.heap.size w':=by
 have cl:=jh i h hn;have iV:=h.i.dropF i;obtain⟨v1,aM⟩:∃v,(t.termF i).1=v:=⟨_,rfl⟩;rcases mQ t i with h2|h2|h2
 ·have he:=zH (show t.dropF i=(0,t) by unfold bv.dropF;rw[h2];rfl);rw[h2,aM]at cl;clear iV aM h2;go_enter func127,ntmps127;go_wp2_with fail;refine cl.mono ?_;rintro e w1 ⟨rfl,bH⟩;go_wp2_with fail;go_ret;exact⟨by rw[he.out];rfl,by rw[he.out];exact ie.same h bH⟩
 ·have he:=zH (show t.dropF i=(33,t) by unfold bv.dropF;rw[h2];rfl);rw[h2,aM]at cl;clear iV aM h2;go_enter func127,ntmps127;go_wp2_with fail;refine cl.mono ?_;rintro e w1 ⟨rfl,bH⟩;go_wp2_with fail;go_ret;exact⟨by rw[he.out];rfl,by rw[he.out];exact ie.same h bH⟩
 ·obtain⟨h5,h6,_⟩:=iQ (t:=t) (i:=i) (term:=(t.termF i).1) (by rw[<-h2]);rw[<-h.len.1]at h6;have hb:=h.i.b;obtain⟨k,hk⟩:∃k:Nat,i-t.index=k:=⟨(i-t.index).toNat,by omega⟩;have Ep:t.dropF i=(0,⟨i,v1,t.L.drop k⟩):=by
   unfold bv.dropF;rw[h2,aM,hk];rfl
  rw[Ep]at iV;have he:=zH Ep;rw[h2,aM]at cl;have Iw:k<=n:=by omega
  clear aM h2 Ep;go_enter func127,ntmps127;go_wp2_with fail;refine cl.mono ?_;rintro e w1 ⟨rfl,bH⟩;have h1:=h.below bH;obtain⟨lO,eW⟩:=aZ h1.o;obtain⟨q0,q1,q2⟩:=h1.cells;obtain⟨k0,k2⟩:=rQ [g] q0 q2;have aD:=cj.cut (size:=6) h1.rd (k:=k) Iw lO;rw[<-jz gR]at aD;have TV:k<=c:=by omega
  have bV:=h1.b.lt;have Ub:n-k<=1000000000000:=by omega
  have qf:B<=w1.heap.size:=by have:=bH.size;omega
  have sO:bA S w1 (zs.drop k):=h1.d.sub fun y hy=>List.mem_of_mem_drop hy
  have hk:=zH hk;unfold maxLen at eW;have jp:=sO.one;by_cases kW:c=k
  all_goals
   have hk:=hk.out;simp only[kW,if_true,if_false]at aD;go_wp2_with fail;refine qY [g] w1 [([0,1,2,3,4,5,6,7,8,9,10,11],12)] ([13,14],15) ?_;refine au fun K1 cF=>?_
   simp only[af,Zx];repeat go_big_quiet_step(fail)
   apply wpQuiet_nil;have Nv:w1.drew.ownsRow w1.heap.size 59 6 (.slice none 0 0) 0 (([]:List (Value×En)).flatMap dE):=ek _ _;go_wp2_with (at_builtin;refine dg rfl (.const (.slice none 0 0)) (.tmp 30) rfl w1.heap.size rfl Nv rfl (ys:=zs.drop k) aD jp (by omega) zl ?_;intro A7 c7 w7 jD wh mX wy);simp only[Nat.zero_add,List.nil_append]at jD ⊢;have Eb:Below w1.heap.size w1 w7:=(aY (Below.refl w1.heap.size w1) 1).trans mX;have nr:=h1.b.kept Eb;refine⟨aw (by simp;exact bV) Eb,cF _ _ ?_⟩;have bP:=be.below (L:=TD) Eb;have pE:=cy.setAll (t:=t) (i:=i) (tm:=v1) h1.g nr (fY jD qf) (sO.keep fun j hj hl=>Eb.block j hl) (by rw[List.map_drop,h1.l]) iV (fun j hj=>(h1.s j hj).move bP);have hF:Fr (fun j=>j=g\/aR A j) w (((w7.setCell ⟨g,2,none⟩ (.slice A7 (n-k) c7)).setCell ⟨g,0,none⟩ (.int .i64 i)).setCell ⟨g,1,none⟩ (.int .i64 v1)):=
    (Fr.of_below (aj bH Eb zl)).trans (((Fr.set g 2 _).trans (Fr.set g 0 _) fun _ h=>.inl h).trans (Fr.set g 1 _) fun _ h=>.inl h) fun j hj=>.inl (.inl hj)
   have Ui:∀j,aR A7 j->aR A j\/w.heap.size<=j:=fun j hj=>.inr (by have:=(aI jD A7 c7 rfl j hj).2.1;have:=bH.size;omega)
   have hP:=zH (show ie B S w g A ⟨i,v1,t.L.drop k⟩ _ _ from⟨A7,n-k,c7,_,S,pE,fun _ h=>.inl h,Ui,Nat.le_refl _,hF⟩);obtain⟨d0,d1,d2,-⟩:=nr.cs [0,1,2];obtain⟨f0,f1,f2,-⟩:=nr.fs [0,1,2];simp only[Zx]at d0 d1 d2;clear pE hF Ui jD wh mX wy;refine aE ?_;simp only[af,Zx];repeat go_big_quiet_step(fail)
   apply wpQuiet_nil;go_wp2_with fail;go_ret;exact⟨by rw[he.out];rfl,by rw[he.out];exact hP.out⟩
end
def kO(S:Nat->Prop)(w5 wr:World)(g:Nat)(t:bv)(A':Option Addr)(k q c':Nat)(zk zq:List (Value×En))(M:List En):Prop:=
 ay wr g 152 #[.int .i64 t.index,.int .i64 t.term,.slice A' (k+q) c']/\ST w5.heap.size wr A' (k+q) c' (zk++zq)/\(0<q->wr.ownsRow w5.heap.size 59 6 (.slice A' (k+q) c') (k+q) ((zk++zq).flatMap dE))/\
  bA (fun j=>S j\/bu TD w5.heap.size wr j) wr (zk++zq)/\zq.map (·.2)=M.take q/\Fr (fun j=>j=g) w5 wr/\be TD w5 wr/\(∀j,aR A' j->j<wr.heap.size)
theorem kO.below{S:Nat->Prop}{w5 wr w6:World}{g:Nat}{t:bv}{A':Option Addr}{k q c':Nat}{zk zq:List (Value×En)}{M:List En}(h:kO S w5 wr g t A' k q c' zk zq M)(hb:Below wr.heap.size wr w6):kO S w5 w6 g t A' k q c' zk zq M:=by
 obtain⟨h1,h2,h3,h4,h5,h6,h7,h8⟩:=h;have hT:=be.below (L:=TD) hb;refine⟨h1.kept hb,?_,fun h=>bF (h3 h) hb,?_,h5,h6.trans (Fr.of_below (X:=fun _=>False) hb) fun _ h=>h.elim,h7.trans hT,fun j hj=>Nat.lt_of_lt_of_le (h8 j hj) hb.size⟩
 ·rcases h2 with⟨e,h2,xK⟩|h2
  ·exact .inl ⟨e,h2.below hb,xK⟩
  ·exact .inr (bF h2 hb)
 ·refine(h4.keep fun j hj hl=>hb.block j hl).mono fun j _ hj=>hj.imp_right fun hj=>⟨hj.1,hj.2.move hT⟩
theorem kO.next{S:Nat->Prop}{w5 w6 w7:World}{g:Nat}{t:bv}{A' A9:Option Addr}{k q c' c9:Nat}{zk zq:List (Value×En)}{M:List En}{z:Value×En}(hg:g<w5.heap.size)(hS:∀j,S j->pV TD w5 j)(h:kO S w5 w6 g t A' k q c' zk zq M)
  (mX:Below w5.heap.size w6 w7) (hs:∀L,59∉L->be L w6 w7) (ho:w7.ownsRow w5.heap.size 59 6 (.slice A9 (k+q+1) c9) (k+q+1) ((zk++zq++[z]).flatMap dE))
  (hz:aN (bu TD w5.heap.size w6) w6 z.1 z.2.facts) (hM:M.take (q+1)=M.take q++[z.2]):kO S w5 (w7.setCell ⟨g,2,none⟩ (.slice A9 (k+q+1) c9)) g t A9 k (q+1) c9 zk (zq++[z]) M:=by
 obtain⟨h1,h2,h3,h4,h5,h6,h7,h8⟩:=h;have k7:ay w7 g 152 #[.int .i64 t.index,.int .i64 t.term,.slice A' (k+q) c']:=h1.below mX hg;have hT:=hs TD (by decide);have Jb:be TD w7 (w7.setCell ⟨g,2,none⟩ (.slice A9 (k+q+1) c9)):=be.set k7 (by decide);have pj:Fr (fun j=>j=g) w7 (w7.setCell ⟨g,2,none⟩ (.slice A9 (k+q+1) c9)):=Fr.set g 2 _;have aD:=aI ho A9 c9 rfl;have sr:(w7.setCell ⟨g,2,none⟩ (.slice A9 (k+q+1) c9)).ownsRow w5.heap.size 59 6 (.slice A9 (k+q+1) c9) (k+q+1) ((zk++(zq++[z])).flatMap dE):=by
  rw[<-List.append_assoc];exact dG ho fun j hj hl=>pj.block j hl fun e=>by have:=(aD j hj).2.1;omega
 refine⟨by simpa[Nat.add_assoc]using k7.set_ 2 (.slice A9 (k+q+1) c9),.inr sr,fun _=>sr,?_,by rw[List.map_append,h5,hM];rfl,?_,(h7.trans hT).trans Jb,fun j hj=>Nat.lt_of_lt_of_le (aD j hj).1 pj.size⟩
 ·rw[<-List.append_assoc];have Qa:=hT.trans Jb;have e1:bA (fun j=>S j\/bu TD w5.heap.size w6 j) (w7.setCell ⟨g,2,none⟩ (.slice A9 (k+q+1) c9)) (zk++zq):=h4.keep fun j hj hl=>Qa j (hj.elim (fun hj=>(hS j hj).move h7) fun hj=>hj.2)
  refine(e1.mono fun j _ hj=>hj.imp_right fun hj=>⟨hj.1,hj.2.move Qa⟩).append fun y hy=>?_
  rw[List.mem_singleton.1 hy];exact(hz.move Qa).mono fun j _ hj=>.inr hj
 ·have DX:Fr (fun _=>False) w5 w7->Fr (fun j=>j=g) w5 (w7.setCell ⟨g,2,none⟩ (.slice A9 (k+q+1) c9)):=fun h=>(h.mono (X':=fun j=>j=g) fun _ h=>h.elim).trans pj fun _ h=>.inl h
  exact(h6.trans (X':=fun j=>w5.heap.size<=j) ⟨mX.os,mX.tape,mX.output,mX.size,fun j _ hn=>mX.block j (by omega)⟩ fun j hj=>.inr hj).trans pj fun _ h=>.inl h
section
variable {B:Nat}{S:Nat->Prop}{w w':World}{g n c:Nat}{t:bv}{A:Option Addr}{zs:List (Value×En)}
theorem FT{idx tm:Int}{L:List En}(h:¬(t.termF idx=(tm,0)/\ct idx 0 tm L=true)):t.takeF idx tm L=((0,false),t):=if_neg h
theorem zS{idx tm:Int}{L:List En}(h:t.termF idx=(tm,0))(h':ct idx 0 tm L=true)(hd:t.findDiff L=none):t.takeF idx tm L=((0,true),t):=by unfold bv.takeF;rw[if_pos ⟨h,h'⟩,hd]
theorem zT{idx tm:Int}{L R:List En}{x:En}(h:t.termF idx=(tm,0))(h':ct idx 0 tm L=true)(hd:t.findDiff L=some (x,R)):t.takeF idx tm L=((x.idx,true),{t with L:=t.L.take (x.idx-t.index-1).toNat++x::R}):=by unfold bv.takeF;rw[if_pos ⟨h,h'⟩,hd]
theorem sx{idx:Int}{L:List En}:∀{i:Nat} {tm:Int},ct idx i tm L=true->∀x∈L,di x=true:=by
 induction L with
 | nil=>intro i tm _ x hx;cases hx
 | cons y L ih=>
  intro i tm h x hx;obtain⟨h1,_,_,h4⟩:=iv.1 h;rcases List.mem_cons.1 hx with rfl|hx
  ·exact h1
  ·exact ih h4 x hx
theorem CT(S2:Nat->Prop)(idx tm:Int)(A2:Option Addr)(m c2:Nat)(ys:List (Value×En))(h:cy B S w g t A n c zs)(hn:n<=100000000000)(hB:B<=w.heap.size)(hr:im w A2 m ys)(hd:bA S2 w ys)
  (hm:m<=10000000000) (uY:m<=c2) (iU:c2<=maxLen) (kh:∀j,S2 j->j≠g) (lM:0<m->∀j,aR A2 j->j≠g) :
  Calls prog 43 #[.pointer (some ⟨g,0,none⟩),.int .i64 idx,.int .i64 tm,.slice A2 m c2] w fun e w'=>
   e=.returned (.tuple #[.int .i64 (t.takeF idx tm (ys.map (·.2))).1.1,.bool (t.takeF idx tm (ys.map (·.2))).1.2])/\ie B S w g A (t.takeF idx tm (ys.map (·.2))).2 w'.heap.size w':=by
 have cl:=jh idx h hn;have dn:=zH (fun h0=>FT (t:=t) (idx:=idx) (tm:=tm) (L:=ys.map (·.2)) h0);obtain⟨v1,aM⟩:∃v,(t.termF idx).1=v:=⟨_,rfl⟩;obtain⟨v2,bE⟩:∃v,(t.termF idx).2=v:=⟨_,rfl⟩;have hv:t.termF idx=(v1,v2):=by rw[<-aM,<-bE]
 rw[aM,bE]at cl;clear aM bE;have hl:=zH h.len.1;have Gr:=zH hr.len;have kF:=h.i.b;have W2:=h.i.room;rw[<-h.len.1]at W2;by_cases i1:v2=0
 ·by_cases i2:v1=tm
  ·subst i1;subst i2;have AE:=iQ hv;rw[<-h.len.1]at AE;obtain⟨xR,Hh,xS⟩:=AE;clear xS;obtain⟨bm,cA⟩:=zN (ct idx 0 v1 (ys.map (·.2)));cases bm with
   | false=>
    have he:=zH (dn.out (by rw[cA];simp));have hv:=zH hv;clear dn;go_enter func43,ntmps43;go_wp2_with fail;refine cl.mono ?_;rintro e w1 ⟨rfl,bH⟩;go_wp2_with fail;refine(wY S2 idx v1 A2 m c2 ys w1 (hr.below bH) (hd.keep (b5.below bH)) (by omega) (by omega) (by omega)).mono ?_;rintro e w2 ⟨rfl,bU⟩;rw[cA];go_wp2_with fail
    go_ret2
    exact⟨by rw[he.out];rfl,by rw[he.out];exact ie.same h (aj bH bU zl)⟩
   | true=>
    have LP:=zH (fun h0:t.findDiff (ys.map (·.2))=none=>zS hv cA h0);have LS:=zH (fun(x:En) (R:List En) (h0:t.findDiff (ys.map (·.2))=some (x,R))=>zT hv cA h0);have NN:=zH (fun(x:En) (R:List En) (h0:t.findDiff (ys.map (·.2))=some (x,R))=>mn (t:=t) (i:=0) (idx:=idx) (term:=v1) (x:=x) (r:=R) (by rw[show idx+((0:Nat):Int)=idx by omega];exact hv) cA h0);have uj:=zH (sx cA);have iV:=zH (h.i.takeF idx v1 (ys.map (·.2)));have hv:=zH hv;have Hbm:=zH cA;clear dn;go_enter func43,ntmps43;go_wp2_with fail;refine cl.mono ?_;rintro e w1 ⟨rfl,bH⟩;go_wp2_with fail;refine(wY S2 idx v1 A2 m c2 ys w1 (hr.below bH) (hd.keep (b5.below bH)) (by omega) (by omega) (by omega)).mono ?_;rintro e w2 ⟨rfl,bU⟩;rw[cA];clear cA;have dS:=aj bH bU zl;unfold maxLen at iU;go_wp2_with fail
    go_loopw [41] (fun i' wr=>∃i:Nat,i<=m/\i'=.int .i64 i/\t.findDiff (ys.map (·.2))=t.findDiff ((ys.map (·.2)).drop i)/\Below w.heap.size w wr) (fun i' _=>m-(intOf i').toNat)
    case atStart=>exact⟨0,Nat.zero_le _,rfl,rfl,dS⟩
    case round=>
     obtain⟨i,hi,rfl,QP,hb⟩:=hrel;have Hfd:=zH QP;clear QP;by_cases bh:i<m
     ·have lM:=lM (Nat.zero_lt_of_lt bh);obtain⟨ad2,v3,x,rfl,hx,c0,c1,c2',c3,c4,c5⟩:=(hr.below hb).at_ bh;obtain⟨B1,m1,d1,aM,l1,l2,l3⟩:=((hd _ (List.mem_of_getElem? hx)).keep (b5.below (S:=S2) hb)).form;obtain rfl:v3=_:=aM;have Sj:(ys.map (·.2))[i]?=some x:=by rw[List.getElem?_map,hx];rfl
      have sR:=iG Sj;rw[sR]at Hfd;have ZH:=lQ (uj.out x (List.mem_of_getElem? Sj));have bi:=zH (show m-(i+1)<m-i by omega);have aU:Below wr.heap.size wr (wr.alloc (.cells #[.int .i64 x.idx,.int .i64 x.term,.int .i64 x.op,.int .i64 x.sess,.int .i64 x.seq,.slice B1 m1 d1] 59)):=zb.alloc zl _;have eB:=ay.new wr 59 #[.int .i64 x.idx,.int .i64 x.term,.int .i64 x.op,.int .i64 x.sess,.int .i64 x.seq,.slice B1 m1 d1];have cv:=aj hb aU zl;have h3:=h.below cv;have aP:=jh x.idx h3 hn;obtain⟨u1,R7⟩:∃v,(t.termF x.idx).1=v:=⟨_,rfl⟩;obtain⟨u2,R8⟩:∃v,(t.termF x.idx).2=v:=⟨_,rfl⟩;have hu:=zH (show t.termF x.idx=(u1,u2) by rw[<-R7,<-R8]);rw[R7,R8]at aP;have Mw:=zH (show ys.drop i=(.slice B1 m1 d1,x)::ys.drop (i+1)from iG hx);clear R7 R8 Sj hx sR;go_wp2_with fail;generalize wr.alloc (.cells #[.int .i64 x.idx,.int .i64 x.term,.int .i64 x.op,.int .i64 x.sess,.int .i64 x.seq,.slice B1 m1 d1] 59)=w3 at *;generalize wr.heap.size=gx at *;refine aP.mono ?_;rintro e w4 ⟨rfl,dV⟩;have jU:=aj cv dV zl;have h4:=h3.below dV;have eB:=eB.kept dV;clear aP cv h3 dV;obtain⟨a0,a1,-⟩:=eB.cs [0,1];simp only[Zx]at a0 a1;by_cases jj:u2=0/\u1=x.term
      ·obtain⟨j1,j2⟩:=jj;subst j1;subst j2;have Hn:=zH (Hfd.out.trans (show _=t.findDiff ((ys.map (·.2)).drop (i+1)) by
        show(if t.termF x.idx=(x.term,0)then _ else _)=_;rw[if_pos hu.out]))
       go_wp2_with fail
       go_roundw
       case rel=>exact⟨i+1,bh,by go_num,Hn.out,jU⟩
       case measure=>simp[intOf];exact bi.out
      ·have Jx:t.findDiff (ys.map (·.2))=some (x,(ys.map (·.2)).drop (i+1)):=Hfd.out.trans (by
        show(if t.termF x.idx=(x.term,0)then _ else _)=_;rw[if_neg (by rw[hu.out];rintro h0;injection h0 with h1 h2;exact jj ⟨h2,h1⟩)])
       obtain⟨j,term',_,e1,e2,_,_,_⟩:=NN.out x _ Jx;have e3:=iQ e2;rw[<-hl.out]at e3;obtain⟨e4,e5,e6⟩:=e3;clear e6 e2;obtain⟨k,hk⟩:∃k:Nat,x.idx-t.index-1=k:=⟨(x.idx-t.index-1).toNat,by omega⟩;have Iw:k<=n:=by omega
       have Ep:=LS.out x _ Jx;rw[hk,show(k:Int).toNat=k from rfl]at Ep;have he:=zH Ep;have iV:=iV.out;rw[Ep]at iV;have iV:=zH iV;have hM:=zH (show(ys.drop i).map (·.2)=x::(ys.map (·.2)).drop (i+1) by rw[Mw.out,List.map_cons,List.map_drop]);have pK:=zH (show(ys.drop i).length=m-i by rw[List.length_drop,Gr.out]);clear Jx e1 e4 e5 Ep;obtain⟨lO,eW⟩:=aZ h4.o;obtain⟨q0,q1,q2⟩:=h4.cells;have f2:=h4.b.free 2;have TV:k<=c:=by omega
       have W1:¬c2=i:=by omega
       unfold maxLen at eW;have W4:(u2≠0/\(u2==0)=false)\/(u2=0/\(u1==x.term)=false):=by
        by_cases j1:u2=0
        ·exact .inr ⟨j1,beq_eq_false_iff_ne.2 fun e=>jj ⟨j1,e⟩⟩
        ·exact .inl ⟨j1,beq_eq_false_iff_ne.2 j1⟩
       clear jj;rcases W4 with⟨jj,jjj⟩|⟨jj,jjj⟩
       all_goals
        go_wp2_with fail
        go_quiet (fail)
        go_wp2_with fail;obtain⟨w5,IR⟩:=zN ((w4.drewN nq).setCell ⟨g,2,none⟩ (.slice A k k));rw[IR];have GM:Fr (fun j=>j=g) w4 w5:=by rw[<-IR];exact(Fr.of_below (X:=fun j=>j=g) (aY zb nq)).trans (Fr.set g 2 _) fun _ h=>.inl h
        have Gg:ay w5 g 152 #[.int .i64 t.index,.int .i64 t.term,.slice A k k]:=by rw[<-IR];exact(h4.b.drewN nq).set_ 2 _
        have LU:be TD w4 w5:=by rw[<-IR];exact be.set (w:=w4.drewN nq) (h4.b.drewN nq) (by decide)
        have GL:Fr (fun j=>j=g) w w5:=(Fr.of_below jU).trans GM fun _ h=>.inl h
        have Q6:ay w5 gx 59 #[.int .i64 x.idx,.int .i64 x.term,.int .i64 x.op,.int .i64 x.sess,.int .i64 x.seq,.slice B1 m1 d1]:=(GM.block gx eB.lt (lL h4.b eB (by decide))).trans eB;have EV:im w5 (some (ad2.add (i*6))) (m-i) (ys.drop i):=by
         have h1:im w5 (some ad2) m ys:=cj.stay (S:=fun j=>j≠g) hr (fun _ ad e=>lM _ ⟨ad,e,rfl⟩) (GL.stay fun j hj _=>hj);have:=cj.cut (size:=6) h1 (k:=i) hi uY;rw[if_neg W1,<-jz gR]at this;exact this
        have El:bA S2 w5 (ys.drop i):=(hd.keep (GL.stay fun j hj _=>kh j hj)).sub fun y hy=>List.mem_of_mem_drop hy
        have RY:=zH (show ∀y∈ys.drop i,nU y.2.facts from fun y hy=>ly (uj.out _ (List.mem_map_of_mem (List.mem_of_mem_drop hy))));have uU:∀j,S j->pV TD w5 j:=fun j hj=>(h4.s j hj).move LU
        have lN:=Gg.lt;have Ll:∀j,aR A j->j<w4.heap.size:=fun j hj=>(aI h4.o A c rfl j hj).1
        have Ni:∀j,aR A j->j≠g:=fun j hj=>by
         obtain⟨_,_,cs,h⟩:=aI h4.o A c rfl j hj;exact lL h4.b h (by decide)
        have EY:kO S w5 w5 g t A k 0 k (zs.take k) [] ((ys.drop i).map (·.2)):=by
         refine⟨Gg,.inl ⟨rfl,?_,?_⟩,fun h=>absurd h (by omega),?_,rfl,Fr.refl _ _,be.refl _ _,fun j hj=>Nat.lt_of_lt_of_le (Ll j hj) GM.size⟩
         ·rw[List.append_nil];have h1:im w5 A n zs:=cj.stay (S:=fun j=>j≠g) h4.rd (fun _ ad e=>Ni _ ⟨ad,e,rfl⟩) (GM.stay fun j hj _=>hj);have:=cj.take (size:=6) h1 Iw;rw[<-jB gR]at this;exact this
         ·rw[List.append_nil];exact fun z hz=>h4.d.one z (List.mem_of_mem_take hz)
         ·rw[List.append_nil];exact((h4.d.keep fun j hj hl=>LU j (h4.s j hj)).mono fun j _ hj=>.inl hj).sub fun y hy=>List.mem_of_mem_take hy
        clear Ll Ni;obtain⟨p,hp⟩:=zN (m-i);rw[hp]at EV pK;have sY:0<p:=by omega
        have Xz:p<=10000000000:=by omega
        have Gn:=zH hp;clear IR;simp only[hp];clear hp
        go_loopw [83] (fun i' wr=>∃(q:Nat) (A':Option Addr) (c':Nat) (zq:List (Value×En)),q<=p/\i'=.int .i64 q/\kO S w5 wr g t A' k q c' (zs.take k) zq ((ys.drop i).map (·.2))) (fun i' _=>p-(intOf i').toNat)
        case atStart=>exact⟨0,A,k,[],Nat.zero_le _,rfl,EY⟩
        case round=>
         clear EY;obtain⟨q,A',c',zq,hq,rfl,hL⟩:=hrel
         rename World=>wr
         by_cases so:q<p
         ·have hF:=hL.2.2.2.2.2.1;obtain⟨bd,v4,y,pv,hy,o0,o1,o2,o3,o4,o5⟩:=im.at_ (cj.stay (S:=fun j=>j≠g) EV (fun h0 ad e=>by
           have e':ad=ad2.add (i*6):=(Option.some.inj e).symm;rw[e',dD];exact lM _ ⟨ad2,rfl,rfl⟩) (hF.stay fun j hj _=>hj)) so
          obtain rfl:ad2.add (i*6)=bd:=Option.some.inj pv;have fy:=(El _ (List.mem_of_getElem? hy)).keep (hF.stay fun j hj _=>kh j hj);have yU:=RY.out _ (List.mem_of_getElem? hy);obtain⟨B3,m3,d3,bb,l4,l5,l6⟩:=fy.form;obtain rfl:v4=_:=bb;have dw:=zH (tB (show((ys.drop i).map (·.2))[q]?=some y by rw[List.getElem?_map,hy];rfl));have jW:=zH (show p-(q+1)<p-q by omega);have aU:Below wr.heap.size wr (wr.alloc (.cells #[.int .i64 y.idx,.int .i64 y.term,.int .i64 y.op,.int .i64 y.sess,.int .i64 y.seq,.slice B3 m3 d3] 59)):=zb.alloc zl _;have Uv:=ay.new wr 59 #[.int .i64 y.idx,.int .i64 y.term,.int .i64 y.op,.int .i64 y.sess,.int .i64 y.seq,.slice B3 m3 d3];have Pt:=hL.2.2.2.2.2.2.2;have Oo:=hL.below aU;have fy:=fy.keep (b5.below (S:=S2) aU);have XY:w5.heap.size<=wr.heap.size:=hF.size;clear hy pv EV El hF hL;go_wp2_with fail;generalize wr.alloc (.cells #[.int .i64 y.idx,.int .i64 y.term,.int .i64 y.op,.int .i64 y.sess,.int .i64 y.seq,.slice B3 m3 d3] 59)=wA at *;have XZ:wr.heap.size<=wA.heap.size:=aU.size;generalize wr.heap.size=gy at *;obtain⟨r0,r1,r2,r3,r4,r5,-⟩:=Uv.cs [0,1,2,3,4,5];simp only[Zx]at r0 r1 r2 r3 r4 r5;have rg:=Oo.1.cell 2;simp only[Zx]at rg;obtain⟨kg,k0,k1,k2,k3,k4,k5⟩:=O8 [g,gy] rg r0 r1 r2 r3 r4 r5;have QT:g<wA.heap.size:=Oo.1.lt;have Uu:gy<wA.heap.size:=Uv.lt;have bY:∀q∈[g,gy],q<wA.heap.size:=by simp;exact⟨QT,Uu⟩
          have aP:Calls prog 91 #[.agg #[.int .i64 y.idx,.int .i64 y.term,.int .i64 y.op,.int .i64 y.sess,.int .i64 y.seq,.slice B3 m3 d3]] wA.drew fun e w'=>∃A' c',e=.returned (.agg #[.int .i64 y.idx,.int .i64 y.term,.int .i64 y.op,.int .i64 y.sess,.int .i64 y.seq,.slice A' m3 c'])/\aN (bu TD wA.heap.size w') w' (.slice A' m3 c') y.facts/\Below wA.heap.size wA w':=
           (nC S2 y B3 m3 d3 wA.drew fy yU).mono fun e w' h=>by
            obtain⟨A',c',h1,h2,h3⟩:=h;exact⟨A',c',h1,h2,(aY (Below.refl wA.heap.size wA) 1).trans h3⟩
          clear fy rg r0 r1 r2 r3 r4 r5;refine qY [g,gy] wA [([0,1,2,3,4,5],6),([],7),([],8)] ([9,10],11) ?_;refine au fun K1 cF=>?_
          simp only[af,Zx];repeat go_big_quiet_step(fail)
          apply wpQuiet_nil;go_wp2_with fail;refine aP.mono ?_;rintro e w6 ⟨A6,d6,rfl,TK,lY⟩;clear aP;go_wp2_with fail;refine⟨aw bY lY,cF _ _ ?_⟩;have iA:Below w6.heap.size w6 (w6.alloc (.cells #[.int .i64 y.idx,.int .i64 y.term,.int .i64 y.op,.int .i64 y.sess,.int .i64 y.seq,.slice A6 m3 d6] 59)):=zb.alloc zl _;have Ie:ay (w6.alloc (.cells #[.int .i64 y.idx,.int .i64 y.term,.int .i64 y.op,.int .i64 y.sess,.int .i64 y.seq,.slice A6 m3 d6] 59)) w6.heap.size 59 (dE (.slice A6 m3 d6,y)).toArray:=ay.new w6 59 (dE (.slice A6 m3 d6,y)).toArray;have yD:=aj lY iA zl;have LN:=Oo.below yD;have MD:=TK.move (be.below iA);have Xa:k+q<=500000000000:=by omega
          have Td:w5.heap.size<=(w6.alloc (.cells #[.int .i64 y.idx,.int .i64 y.term,.int .i64 y.op,.int .i64 y.sess,.int .i64 y.seq,.slice A6 m3 d6] 59)).heap.size:=by have:=yD.size;omega
          refine au fun K2 jl=>?_
          simp only[af,Zx];repeat go_big_quiet_step(fail)
          apply wpQuiet_nil;go_wp2_with fail;refine⟨aw bY yD,jl _ _ ?_⟩;refine au fun K3 jS=>?_
          simp only[af,Zx];repeat go_big_quiet_step(fail)
          apply wpQuiet_nil;go_wp2_with (at_builtin;refine oE rfl (.tmp 91) (.tmp 94) rfl w5.heap.size rfl LN.2.1 w6.heap.size (z:=(.slice A6 m3 d6,y)) rfl Ie rfl Xa Td ?_;intro A9 c9 w9 ns mY hs9 Jz);obtain⟨w7,X6⟩:=zN (w6.alloc (.cells #[.int .i64 y.idx,.int .i64 y.term,.int .i64 y.op,.int .i64 y.sess,.int .i64 y.seq,.slice A6 m3 d6] 59));rw[X6]at iA Ie yD LN MD mY hs9 Jz Td;have M4:w9.heap[g]?=wA.heap[g]?:=(mY.block g lN).trans (yD.block g QT);have Xb:w9.heap[gy]?=wA.heap[gy]?:=(Jz.block gy (by have:=yD.size;omega) fun hj=>by have:=Pt _ hj;omega).trans (yD.block gy Uu);refine⟨dc M4 Xb,jS _ _ ?_⟩;have OI:=LN.1.below mY lN;have fg:=OI.free 2;have cg:=OI.cell 2;simp only[Zx]at cg;have aO:=zH (LN.next lN uU mY hs9 ns (MD.mono (bu.wide (L:=TD) (fun _ h=>h) (by omega))) dw.out);clear LN ns mY hs9 Jz MD TK Oo;refine aE ?_;simp only[af,Zx];repeat go_big_quiet_step(fail)
          apply wpQuiet_nil;go_wp2_with fail;exact⟨⟨q+1,A9,c9,_,so,by go_num,aO.out⟩,by simp[intOf];exact jW.out⟩
         ·obtain rfl:q=p:=by omega
          obtain⟨L1,_,L3,L4,L5,L6,L7,_⟩:=hL;have MP:ay wr gx 59 #[.int .i64 x.idx,.int .i64 x.term,.int .i64 x.op,.int .i64 x.sess,.int .i64 x.seq,.slice B1 m1 d1]:=(L6.block gx Q6.lt (lL Gg Q6 (by decide))).trans Q6;have z0:=MP.cell 0;simp only[List.getElem?_toArray,List.getElem?_cons_zero]at z0;have aJ:=L3 sY;have bN:(zs.take k++zq).map (·.2)=t.L.take k++x::(ys.map (·.2)).drop (i+1):=by
           rw[List.map_append,List.map_take,h4.l,L5,show((ys.drop i).map (·.2)).take q=(ys.drop i).map (·.2)from List.take_of_length_le (by rw[List.length_map,pK.out];exact Nat.le_refl _),hM.out]
          have gn:w.heap.size<=w5.heap.size:=GL.size;have hP:=zH (show ie B S w g A {t with L:=t.L.take k++x::(ys.map (·.2)).drop (i+1)} wr.heap.size wr from
           ⟨A',k+q,c',_,fun j=>S j\/bu TD w5.heap.size wr j,⟨L1,fY aJ (by omega),L4,bN,iV.out,h4.g,fun j hj=>hj.elim (fun hj=>(uU j hj).move L7) fun hj=>hj.2⟩,
            fun j hj=>hj.imp_right fun hj=>⟨by have:=hj.1;omega,by obtain⟨_,cs,fz,ty,h1,_⟩:=hj;exact aS h1⟩,
            fun j hj=>.inr (by have:=(aI aJ A' c' rfl j hj).2.1;omega),Nat.le_refl _,(GL.trans L6 fun _ h=>.inl h).mono fun _ h=>.inl h⟩)
          clear aJ L1 L3 L4 L5 L6 L7 bN MP;go_wp2_with fail
          go_ret2
          exact⟨by rw[he.out];rfl,by rw[he.out];exact hP.out⟩
     ·obtain rfl:i=m:=by omega
      have he:=zH (LP.out (Hfd.out.trans (by rw[List.drop_eq_nil_of_le (by rw[List.length_map,Gr.out];exact Nat.le_refl _)];rfl)));go_wp2_with fail
      go_ret2
      exact⟨by rw[he.out];rfl,by rw[he.out];exact ie.same h hb⟩
  ·have he:=zH (dn.out (by rw[hv];rintro⟨h0,_⟩;injection h0 with h0;exact i2 h0));have i3:(v1==tm)=false:=beq_eq_false_iff_ne.2 i2;have i4:(v1 !=tm)=true:=by rw[bne,i3];rfl
   subst i1;have hv:=zH hv;clear dn;go_enter func43,ntmps43;go_wp2_with fail;refine cl.mono ?_;rintro e w1 ⟨rfl,bH⟩;go_wp2_with fail
   go_ret2
   exact⟨by rw[he.out];rfl,by rw[he.out];exact ie.same h bH⟩
 ·have he:=zH (dn.out (by rw[hv];rintro⟨h0,_⟩;injection h0 with _ h0;exact i1 h0));have i3:(v2==0)=false:=beq_eq_false_iff_ne.2 i1;have i4:(v2 !=0)=true:=by rw[bne,i3];rfl
  have hv:=zH hv;clear dn;go_enter func43,ntmps43;go_wp2_with fail;refine cl.mono ?_;rintro e w1 ⟨rfl,bH⟩;go_wp2_with fail
  go_ret2
  exact⟨by rw[he.out];rfl,by rw[he.out];exact ie.same h bH⟩
end
structure Lt(S:Nat->Prop)(w:World)(g:Nat)(t:bv)(A:Option Addr)(n c:Nat)(zs:List (Value×En)):Prop where
 b:ay w g 138 #[.int .i64 t.index,.int .i64 t.term,.slice A n c]
 o:w.ownsRow 0 59 6 (.slice A n c) n (zs.flatMap dE)
 d:bA S w zs
 l:zs.map (·.2)=t.L
 i:t.Inv
def sl(zs:List (Value×En))(on:Bool)(k nn j:Nat):List (Value×En):=if on then((zs.take j).drop k).take nn else[]
def SX(S:Nat->Prop)(w:World)(g:Nat)(A:Option Addr)(t':bv)(w':World):Prop:=
 ∃(A':Option Addr) (n' c':Nat) (zs':List (Value×En)),Lt S w' g t' A' n' c' zs'/\(∀j,aR A' j->aR A j\/w.heap.size<=j)/\Fr (fun j=>j=g) w w'


def aL(aa:Nat->Nat)(i:Nat)(j:Nat):Prop:=aa j=i
def relab(aa:Nat->Nat)(B i:Nat):Nat->Nat:=fun j=>if B<=j then i else aa j
def ew(aa:Nat->Nat)(i k:Nat):Nat->Nat:=fun j=>if aa j=i then k else aa j
theorem ae{aa:Nat->Nat}{B i j:Nat}(h:j<B):relab aa B i j=aa j:=if_neg (by omega)
theorem aA{aa:Nat->Nat}{B i j:Nat}(h:B<=j):relab aa B i j=i:=if_pos h
section
variable {aa ac:Nat->Nat}{i k:Nat}{w w':World}
theorem Fr.other(h:Fr (aL aa i) w w')(hk:k≠i):∀j,aa j=k->j<w.heap.size->w'.heap[j]?=w.heap[j]?:=fun j hj hl=>h.block j hl fun(e:aa j=i)=>hk (hj.symm.trans e)
def aX(aa:Nat->Nat)(i:Nat)(w:World)(T:TypeId)(size:Nat)(v:Value)(n:Nat)(xs:List Value):Prop:=
 ∃A c,v=.slice A n c/\w.ownsRow 0 T size (.slice A n c) n xs/\∀j,aR A j->aa j=i
theorem aX.keep{T:TypeId}{size n:Nat}{v:Value}{xs:List Value}(h:aX aa i w T size v n xs)(hk:∀j,aa j=i->j<w.heap.size->w'.heap[j]?=w.heap[j]?):aX aa i w' T size v n xs:=by
 obtain⟨A,c,e,h1,h2⟩:=h;exact⟨A,c,e,dG h1 fun j hj hl=>hk j (h2 j hj) hl,h2⟩
theorem aX.relabel{T:TypeId}{size n:Nat}{v:Value}{xs:List Value}(h:aX aa i w T size v n xs)(hl:∀j,j<w.heap.size->aa j=i->ac j=k):aX ac k w T size v n xs:=by
 obtain⟨A,c,e,h1,h2⟩:=h;exact⟨A,c,e,h1,fun j hj=>hl j (aI h1 A c rfl j hj).1 (h2 j hj)⟩
theorem aX.nil(aa:Nat->Nat)(i:Nat)(w:World)(T:TypeId)(size:Nat):aX aa i w T size (.slice none 0 0) 0 []:=⟨none,0,rfl,ek _ _,fun j h=>by obtain⟨_,h,_⟩:=h;cases h⟩
def cT(aa:Nat->Nat)(i:Nat)(w:World)(v:Value)(l:List UInt8):Prop:=Sl (aL aa i) w 1 v l.length (l.map vb)
theorem cT.keep{v:Value}{l:List UInt8}(h:cT aa i w v l)(hk:∀j,aa j=i->j<w.heap.size->w'.heap[j]?=w.heap[j]?):cT aa i w' v l:=Sl.keep h hk
theorem cT.relabel{v:Value}{l:List UInt8}(h:cT aa i w v l)(hl:∀j,j<w.heap.size->aa j=i->ac j=k):cT ac k w v l:=Sl.mono h (by omega) hl
theorem cT.nil(aa:Nat->Nat)(i:Nat)(w:World):cT aa i w (.slice none 0 0) []:=Sl.nil _ _ _
def da(aa:Nat->Nat)(i:Nat)(w:World)(v:Value)(L:List En):Prop:=
 ∃(A:Option Addr) (n c:Nat) (zs:List (Value×En)),v=.slice A n c/\im w A n zs/\bA (aL aa i) w zs/\zs.map (·.2)=L/\n<=c/\c<=maxLen/\(0<n->∀j,aR A j->aa j=i)
theorem da.keep{v:Value}{L:List En}(h:da aa i w v L)(hk:∀j,aa j=i->j<w.heap.size->w'.heap[j]?=w.heap[j]?):da aa i w' v L:=by
 obtain⟨A,n,c,zs,h1,h2,h3,h4,h5,h6,h7⟩:=h;exact⟨A,n,c,zs,h1,cj.stay (S:=aL aa i) h2 (fun h0 ad e=>h7 h0 _ ⟨ad,e,rfl⟩) hk,h3.keep hk,h4,h5,h6,h7⟩
theorem da.relabel{v:Value}{L:List En}(h:da aa i w v L)(hl:∀j,j<w.heap.size->aa j=i->ac j=k):da ac k w v L:=by
 obtain⟨A,n,c,zs,h1,h2,h3,h4,h5,h6,h7⟩:=h;refine⟨A,n,c,zs,h1,h2,h3.mono hl,h4,h5,h6,fun h0 j hj=>?_⟩;obtain⟨ad,e,rfl⟩:=hj;exact hl _ (cj.lt h2 h0 (by omega) e) (h7 h0 _ ⟨ad,e,rfl⟩)
theorem da.nil(aa:Nat->Nat)(i:Nat)(w:World):da aa i w (.slice none 0 0) []:=⟨none,0,0,[],rfl,cj.none_,fun z hz=>(by cases hz),rfl,Nat.le_refl _,Nat.zero_le _,fun h=>absurd h (by omega)⟩
theorem da.of_new{B n c:Nat}{A:Option Addr}{zs:List (Value×En)}{L:List En}(h:fG B w A n c zs L)(hl:∀j,B<=j->j<w.heap.size->aa j=i):da aa i w (.slice A n c) L:=by
 have hb:=aZ h.1;refine⟨A,n,c,zs,rfl,cj.of_own h.1,h.2.1.mono fun j hj hn=>hl j hn.1 hj,h.2.2,hb.1,hb.2,fun _ j hj=>?_⟩;have:=aI h.1 A c rfl j hj;exact hl j this.2.1 this.1
def ee(aa:Nat->Nat)(i q:Nat)(w:World)(v:Value)(L:List En):Prop:=
 ∃zs:List (Value×En),aX aa i w 59 6 v L.length (zs.flatMap dE)/\bA (aL aa q) w zs/\zs.map (·.2)=L
theorem ee.keep{q:Nat}{v:Value}{L:List En}(h:ee aa i q w v L)(hk:∀j,aa j=i->j<w.heap.size->w'.heap[j]?=w.heap[j]?)(hq:∀j,aa j=q->j<w.heap.size->w'.heap[j]?=w.heap[j]?):ee aa i q w' v L:=by
 obtain⟨zs,h1,h2,h3⟩:=h;exact⟨zs,h1.keep hk,h2.keep hq,h3⟩
theorem ee.relabel{q r:Nat}{v:Value}{L:List En}(h:ee aa i q w v L)(hl:∀j,j<w.heap.size->aa j=i->ac j=k)(hq:∀j,j<w.heap.size->aa j=q->ac j=r):ee ac k r w v L:=by
 obtain⟨zs,h1,h2,h3⟩:=h;exact⟨zs,h1.relabel hl,h2.mono hq,h3⟩
theorem ee.nil(aa:Nat->Nat)(i q:Nat)(w:World):ee aa i q w (.slice none 0 0) []:=⟨[],aX.nil _ _ _ _ _,fun z hz=>(by cases hz),rfl⟩
def iC(z:(Value×Value)×Mg):List Value:=
 [vi z.2.kind,vi z.2.frm,vi z.2.tgt,vi z.2.term,vi z.2.idx,vi z.2.logTerm,vi z.2.commit,vi z.2.round,.bool z.2.reject,vi z.2.offset,vi z.2.total,z.1.1,z.1.2]
theorem je(z:(Value×Value)×Mg):(iC z).length=13:=rfl
def iw(m:Mg)(ve vd:Value):Value:=.agg #[vi m.kind,vi m.frm,vi m.tgt,vi m.term,vi m.idx,vi m.logTerm,vi m.commit,vi m.round,.bool m.reject,vi m.offset,vi m.total,ve,vd]
def Aj(T:TypeId)(w:World)(v:Value):Prop:=∀A n c,v=.slice A n c->0<n->∀j,aR A j->∃cs,w.heap[j]?=some (.cells cs T (0,0))
theorem Aj.nil(T:TypeId)(w:World):Aj T w (.slice none 0 0):=fun _ _ _ e hn=>by
 injection e with _ e _;omega
theorem Aj.of_own{base size n c:Nat}{T:TypeId}{A:Option Addr}{xs:List Value}(h:w.ownsRow base T size (.slice A n c) n xs):Aj T w (.slice A n c):=fun A' n' c' e _ j hj=>by
 injection e with e1 e2 e3;subst e1;obtain⟨_,_,cs,h⟩:=aI h A c rfl j hj;exact⟨cs,h⟩
theorem Aj.keep{T:TypeId}{v:Value}(h:Aj T w v)(hl:∀A n c,v=.slice A n c->0<n->∀j,aR A j->aa j=i)(hk:∀j,aa j=i->j<w.heap.size->w'.heap[j]?=w.heap[j]?):Aj T w' v:=fun A n c e hn j hj=>by
 obtain⟨cs,h1⟩:=h A n c e hn j hj;exact⟨cs,(hk j (hl A n c e hn j hj) (aS h1)).trans h1⟩
theorem da.labs{v:Value}{L:List En}(h:da aa i w v L):∀A n c,v=.slice A n c->0<n->∀j,aR A j->aa j=i:=fun A n c e hn j hj=>by
 obtain⟨A0,n0,c0,zs,e0,_,_,_,_,_,h7⟩:=h;rw[e0]at e;injection e with e1 e2 e3;subst e1 e2;exact h7 hn j hj
theorem cT.labs{v:Value}{l:List UInt8}(h:cT aa i w v l):∀A n c,v=.slice A n c->0<n->∀j,aR A j->aa j=i:=fun A n c e hn j hj=>by
 obtain⟨A0,c0,e0,_,_,_,h7⟩:=h;rw[e0]at e;injection e with e1 e2 e3;subst e1 e2;obtain⟨ad,rfl,rfl⟩:=hj;exact h7 hn ad rfl
def pQ(aa:Nat->Nat)(i:Nat)(w:World)(v:Value)(L:List En):Prop:=da aa i w v L/\Aj 59 w v
theorem pQ.keep{v:Value}{L:List En}(h:pQ aa i w v L)(hk:∀j,aa j=i->j<w.heap.size->w'.heap[j]?=w.heap[j]?):pQ aa i w' v L:=⟨h.1.keep hk,h.2.keep h.1.labs hk⟩
theorem pQ.relabel{v:Value}{L:List En}(h:pQ aa i w v L)(hl:∀j,j<w.heap.size->aa j=i->ac j=k):pQ ac k w v L:=⟨h.1.relabel hl,h.2⟩
theorem pQ.nil(aa:Nat->Nat)(i:Nat)(w:World):pQ aa i w (.slice none 0 0) []:=⟨da.nil _ _ _,Aj.nil _ _⟩
def pc(aa:Nat->Nat)(i:Nat)(w:World)(v:Value)(l:List UInt8):Prop:=cT aa i w v l/\Aj 5 w v
theorem pc.keep{v:Value}{l:List UInt8}(h:pc aa i w v l)(hk:∀j,aa j=i->j<w.heap.size->w'.heap[j]?=w.heap[j]?):pc aa i w' v l:=⟨h.1.keep hk,h.2.keep h.1.labs hk⟩
theorem pc.relabel{v:Value}{l:List UInt8}(h:pc aa i w v l)(hl:∀j,j<w.heap.size->aa j=i->ac j=k):pc ac k w v l:=⟨h.1.relabel hl,h.2⟩
theorem pc.nil(aa:Nat->Nat)(i:Nat)(w:World):pc aa i w (.slice none 0 0) []:=⟨cT.nil _ _ _,Aj.nil _ _⟩
def eA(aa:Nat->Nat)(i:Nat)(w:World)(z:(Value×Value)×Mg):Prop:=pQ aa i w z.1.1 z.2.entries/\pc aa i w z.1.2 z.2.data
theorem eA.keep{z:(Value×Value)×Mg}(h:eA aa i w z)(hk:∀j,aa j=i->j<w.heap.size->w'.heap[j]?=w.heap[j]?):eA aa i w' z:=⟨h.1.keep hk,h.2.keep hk⟩
theorem eA.relabel{z:(Value×Value)×Mg}(h:eA aa i w z)(hl:∀j,j<w.heap.size->aa j=i->ac j=k):eA ac k w z:=⟨h.1.relabel hl,h.2.relabel hl⟩
def gW(aa:Nat->Nat)(i q:Nat)(w:World)(v:Value)(ms:List Mg):Prop:=
 ∃zs:List ((Value×Value)×Mg),aX aa i w 39 13 v ms.length (zs.flatMap iC)/\(∀z∈zs,eA aa q w z)/\zs.map (·.2)=ms
theorem gW.keep{q:Nat}{v:Value}{ms:List Mg}(h:gW aa i q w v ms)(hk:∀j,aa j=i->j<w.heap.size->w'.heap[j]?=w.heap[j]?)(hq:∀j,aa j=q->j<w.heap.size->w'.heap[j]?=w.heap[j]?):gW aa i q w' v ms:=by
 obtain⟨zs,h1,h2,h3⟩:=h;exact⟨zs,h1.keep hk,fun z hz=>(h2 z hz).keep hq,h3⟩
theorem gW.relabel{q r:Nat}{v:Value}{ms:List Mg}(h:gW aa i q w v ms)(hl:∀j,j<w.heap.size->aa j=i->ac j=k)(hq:∀j,j<w.heap.size->aa j=q->ac j=r):gW ac k r w v ms:=by
 obtain⟨zs,h1,h2,h3⟩:=h;exact⟨zs,h1.relabel hl,fun z hz=>(h2 z hz).relabel hq,h3⟩
theorem gW.nil(aa:Nat->Nat)(i q:Nat)(w:World):gW aa i q w (.slice none 0 0) []:=⟨[],aX.nil _ _ _ _ _,fun z hz=>(by cases hz),rfl⟩
def rL(aa:Nat->Nat)(i:Nat)(w:World)(v:Value)(t:bv):Prop:=
 ∃(g:Nat) (S:Nat->Prop) (A:Option Addr) (n c:Nat) (zs:List (Value×En)),v=.pointer (some ⟨g,0,none⟩)/\cy 0 S w g t A n c zs/\∀j,(j=g\/aR A j\/S j)->aa j=i
theorem rL.keep{v:Value}{t:bv}(h:rL aa i w v t)(hk:∀j,aa j=i->j<w.heap.size->w'.heap[j]?=w.heap[j]?):rL aa i w' v t:=by
 obtain⟨g,S,A,n,c,zs,h1,h2,h3⟩:=h;exact⟨g,S,A,n,c,zs,h1,h2.keep fun j hj hl=>hk j (h3 j hj) hl,h3⟩
def rU(aa:Nat->Nat)(i:Nat)(w:World)(v:Value)(x:Option x7):Prop:=
 match x with
 | none=>v=.pointer none
 | some s=>∃(g:Nat) (vd:Value),v=.pointer (some ⟨g,0,none⟩)/\aa g=i/\ay w g 26 #[vi s.idx,vi s.term,vd]/\pc aa i w vd s.data
theorem rU.keep{v:Value}{x:Option x7}(h:rU aa i w v x)(hk:∀j,aa j=i->j<w.heap.size->w'.heap[j]?=w.heap[j]?):rU aa i w' v x:=by
 cases x with
 | none=>exact h
 | some s=>
  obtain⟨g,vd,h1,h2,h3,h4⟩:=h;exact⟨g,vd,h1,h2,(hk g h2 h3.lt).trans h3,h4.keep hk⟩
end
section
open Go.MapKept
theorem ai{P:Program}{fn:Func}{R:Ending->World->Prop}{a:Act}{w:World}(hr:fn.results=#[])(hd:a.defers=[])(hR:R (.returned (.tuple #[])) w):bodyPost P fn R .normal a w:=
 bodyPost_end (by simp[results,hr]) hd hR
structure Rw where
 peers:Value
 waits:Value
 yes:Value
 trk:Value
 dat:Value
 gat:Value
 ent:Value
 com:Value
 snp:Value
 rds:Value
 mgs:Value
def bt(R:Rf)(v:Rw):Array Value:=
 #[v.peers,vi R.round,v.waits,v.yes,vi R.id,vi R.n,vi R.hard.term,vi R.hard.vote,v.trk,vi R.snap.idx,vi R.snap.term,v.dat,vi R.commit,vi R.role,vi R.leader,vi R.clock,vi R.wait,
  vi R.gath.frm,vi R.gath.idx,vi R.gath.term,vi R.gath.total,v.gat,.bool R.out.save,.bool R.out.reset,vi R.out.hard.term,vi R.out.hard.vote,v.ent,v.com,v.snp,v.rds,v.mgs]
def xh(p:Pr):List Value:=[vi p.next,vi p.mat,vi p.offset,vi p.round]
def mA(x:Wt):List Value:=[vi x.ctx,vi x.idx,vi x.round]
def Cr(x:Int×Int):List Value:=[vi x.1,vi x.2]
def rV(aa:Nat->Nat)(i:Nat)(w:World)(v:Value)(l:List Int):Prop:=
 (v=.map none/\l=[])\/∃(b:Nat) (es:Array MapEntry) (clock:Nat),v=.map (some b)/\aa b=i/\w.heap[b]?=some (.map es clock)/\Stamped es clock/\
  (∀x∈es.toList,∃k:Int,x.key=.int .i64 k/\0<=k/\k<=1000)/\∀k:Int,k∈l↔∃x∈es.toList,x.key=.int .i64 k
theorem rV.keep{aa:Nat->Nat}{i:Nat}{w w':World}{v:Value}{l:List Int}(h:rV aa i w v l)(hk:∀j,aa j=i->j<w.heap.size->w'.heap[j]?=w.heap[j]?):rV aa i w' v l:=by
 rcases h with h|⟨b,es,clock,h1,h2,h3,h4⟩
 ·exact .inl h
 ·exact .inr ⟨b,es,clock,h1,h2,(hk b h2 (aS h3)).trans h3,h4⟩
structure av(aa:Nat->Nat)(b:Nat)(w:World)(g:Nat)(R:Rf)(v:Rw):Prop where
 s:ay w g 107 (bt R v)
 sl:aa g=b+1
 t:rL aa (b+2) w v.trk R.track
 p:aX aa (b+3) w 163 4 v.peers R.peers.length (R.peers.flatMap xh)
 q:aX aa (b+4) w 167 3 v.waits R.waits.length (R.waits.flatMap mA)
 y:rV aa (b+5) w v.yes R.yes
 d:cT aa (b+6) w v.dat R.snap.data
 gd:aX aa (b+7) w 5 1 v.gat R.gath.data.length (R.gath.data.map vb)
 e:ee aa (b+8) (b+13) w v.ent R.out.entries
 c:ee aa (b+9) (b+13) w v.com R.out.commits
 n:rU aa (b+13) w v.snp R.out.snap
 r:aX aa (b+11) w 134 2 v.rds R.out.reads.length (R.out.reads.flatMap Cr)
 m:gW aa (b+12) (b+13) w v.mgs R.out.msgs
def aH(aa:Nat->Nat)(b:Nat)(j:Nat):Prop:=b<aa j/\aa j<=b+12
def ba(aa:Nat->Nat)(b:Nat)(j:Nat):Prop:=b<aa j/\aa j<=b+13
section
variable {aa ac:Nat->Nat}{b g:Nat}{w w':World}{R R':Rf}{v:Rw}
theorem av.keep(h:av aa b w g R v)(hk:∀j,ba aa b j->j<w.heap.size->w'.heap[j]?=w.heap[j]?):av aa b w' g R v:=by
 have k:∀i,0<i->i<=13->∀j,aa j=b+i->j<w.heap.size->w'.heap[j]?=w.heap[j]?:=fun i h0 h1 j hj hl=>hk j ⟨by omega,by omega⟩ hl
 exact⟨(k 1 (by omega) (by omega) g h.sl h.s.lt).trans h.s,h.sl,h.t.keep (k 2 (by omega) (by omega)),h.p.keep (k 3 (by omega) (by omega)),h.q.keep (k 4 (by omega) (by omega)),h.y.keep (k 5 (by omega) (by omega)),
  h.d.keep (k 6 (by omega) (by omega)),h.gd.keep (k 7 (by omega) (by omega)),h.e.keep (k 8 (by omega) (by omega)) (k 13 (by omega) (by omega)),h.c.keep (k 9 (by omega) (by omega)) (k 13 (by omega) (by omega)),h.n.keep (k 13 (by omega) (by omega)),h.r.keep (k 11 (by omega) (by omega)),h.m.keep (k 12 (by omega) (by omega)) (k 13 (by omega) (by omega))⟩
theorem av.below(h:av aa b w g R v)(hb:Below w.heap.size w w'):av aa b w' g R v:=h.keep fun j _ hl=>hb.block j hl
theorem av.nums(h:av aa b w g R v)(hs:ay w' g 107 (bt R' v))(hF:Fr (fun j=>j=g) w w')(e1:R'.track=R.track)(e2:R'.peers=R.peers)(e3:R'.waits=R.waits)(e4:R'.yes=R.yes)(e5:R'.snap.data=R.snap.data)(e6:R'.gath.data=R.gath.data)
  (e7:R'.out.entries=R.out.entries) (e8:R'.out.commits=R.out.commits) (e9:R'.out.snap=R.out.snap) (e10:R'.out.reads=R.out.reads) (e11:R'.out.msgs=R.out.msgs):av aa b w' g R' v:=by
 have k:∀i,1<i->∀j,aa j=b+i->j<w.heap.size->w'.heap[j]?=w.heap[j]?:=fun i h0 j hj hl=>hF.block j hl fun e=>by
  have:=h.sl;rw[e]at hj;omega
 exact⟨hs,h.sl,by rw[e1];exact h.t.keep (k 2 (by omega)),by rw[e2];exact h.p.keep (k 3 (by omega)),by rw[e3];exact h.q.keep (k 4 (by omega)),by rw[e4];exact h.y.keep (k 5 (by omega)),by rw[e5];exact h.d.keep (k 6 (by omega)),
  by rw[e6];exact h.gd.keep (k 7 (by omega)),by rw[e7];exact h.e.keep (k 8 (by omega)) (k 13 (by omega)),by rw[e8];exact h.c.keep (k 9 (by omega)) (k 13 (by omega)),by rw[e9];exact h.n.keep (k 13 (by omega)),by rw[e10];exact h.r.keep (k 11 (by omega)),by rw[e11];exact h.m.keep (k 12 (by omega)) (k 13 (by omega))⟩
def aq(aa:Nat->Nat)(b:Nat)(w:World)(g:Nat)(R':Rf)(w':World):Prop:=
 ∃(ac:Nat->Nat) (v':Rw),av ac b w' g R' v'/\(∀j,j<w.heap.size->¬aH aa b j->ac j=aa j)/\(∀j,j<w.heap.size->aH aa b j->aH ac b j)/\Fr (aH aa b) w w'
theorem aq.nums(h:av aa b w g R v)(hs:ay w' g 107 (bt R' v))(hF:Fr (fun j=>j=g) w w')(e1:R'.track=R.track)(e2:R'.peers=R.peers)(e3:R'.waits=R.waits)(e4:R'.yes=R.yes)(e5:R'.snap.data=R.snap.data)(e6:R'.gath.data=R.gath.data)
  (e7:R'.out.entries=R.out.entries) (e8:R'.out.commits=R.out.commits) (e9:R'.out.snap=R.out.snap) (e10:R'.out.reads=R.out.reads) (e11:R'.out.msgs=R.out.msgs):aq aa b w g R' w':=
 ⟨aa,v,h.nums hs hF e1 e2 e3 e4 e5 e6 e7 e8 e9 e10 e11,fun _ _ _=>rfl,fun _ _ h=>h,hF.mono fun j e=>by rw[e];exact⟨by have:=h.sl;omega,by have:=h.sl;omega⟩⟩
theorem qW(h:av aa b w g R v):Calls prog 50 #[.pointer (some ⟨g,0,none⟩)] w fun e w'=>e=.returned (.tuple #[])/\aq aa b w g R.rest w':=by
 obtain⟨f15,f16,-⟩:=h.s.fs [15,16];obtain⟨c15,c16,-⟩:=h.s.cs [15,16];simp only[bt,Zx]at c15 c16;have hS:ay ((w.setCell ⟨g,15,none⟩ (.int .i64 0)).setCell ⟨g,16,none⟩ (.int .i64 0)) g 107 (bt R.rest v):=(h.s.set_ 15 (.int .i64 0)).set_ 16 (.int .i64 0);have hP:=zH (aq.nums h hS ((Fr.set g 15 _).trans (Fr.set g 16 _) fun _ h=>.inl h) rfl rfl rfl rfl rfl rfl rfl rfl rfl rfl rfl);clear hS h;go_enter func50,ntmps50;go_wp2_with fail;exact ai rfl rfl ⟨rfl,hP.out⟩
end
end
section
open Go.MapKept
theorem qL:(prog.info? 39).map (fun i=>(i.zero,i.size,i.bytes))=some (some (.agg #[vi 0,vi 0,vi 0,vi 0,vi 0,vi 0,vi 0,vi 0,.bool false,vi 0,vi 0,.slice none 0 0,.slice none 0 0]),13,136):=by kernel_rfl
theorem oG{w:World}{ops:Array Oper}{rest:List Oper}{o:Oper}{a:Act}{Q:Exit->Act->World->Prop}(iJ:o.guard=none)(s x:Operand)
  (ho:o.op=.call {callee:=.builtin .append,args:=#[s,x],argTypes:=#[47,47]}) {aa:Nat->Nat} {i n:Nat} {v:Value} {zs:List ((Value×Value)×Mg)} (hs:a.eval s=v) (aJ:aX aa i w 39 13 v n (zs.flatMap iC))
  {gb d:Nat} {z:(Value×Value)×Mg} (hx:a.eval x=.slice (some ⟨gb,0,none⟩) 1 d) (hb:ay w gb 39 (iC z).toArray) (h1:z.1.1.oneCell'=true/\z.1.2.oneCell'=true) (hn:n<=100000000000)
  (h:∀A' c' w' ac,aX ac i w' 39 13 (.slice A' (n+1) c') (n+1) ((zs++[z]).flatMap iC)->Fr (aL aa i) w w'->(ac=relab aa w.heap.size i)->wpList prog ops Q rest (a.put o.dst (.slice A' (n+1) c')) w'):wpList prog ops Q (o::rest) a w:=by
 obtain⟨i0,fT,gv,fC,fK⟩:=info_parts qL;obtain⟨A,c,rfl,aD,hl⟩:=aJ;have jp:∀u∈iC z,u.oneCell'=true:=fun u hu=>by
  simp only[iC,List.mem_cons,List.not_mem_nil,or_false]at hu;rcases hu with rfl|rfl|rfl|rfl|rfl|rfl|rfl|rfl|rfl|rfl|rfl|rfl|rfl <;> first|rfl|exact h1.1|exact h1.2
 have hr:cj w 13 (some ⟨gb,0,none⟩) 1 (iC z):=⟨rfl,fun _=>⟨_,rfl,fun j y hy=>by
  have e:(⟨gb,0,none⟩:Addr).add j=⟨gb,j,none⟩:=by unfold Addr.add;split <;> simp[*]
  rw[e,hb.cell j,<-hy];simp⟩⟩
 refine bj w iJ s x 47 ho 0 39 i0 _ 13 136 underlying47 fT gv fC fK rfl (by omega) (.slice A n c) n _ hs aD (some ⟨gb,0,none⟩) 1 d _ hx hr jp (by unfold maxLen;omega) (by omega) zz fun A' c' w' h3 h4 h5=>?_
 refine h _ _ _ _ ⟨A',c',rfl,by rw[List.flatMap_append,List.flatMap_cons,List.flatMap_nil,List.append_nil];exact h3,fun j hj=>?_⟩ ((Fr.grown h4).mono fun j hj=>hl j hj) rfl;rcases iP h5 j hj with h6|h6
 ·unfold relab;split
  ·rfl
  ·exact hl j h6
 ·exact aA h6
section
variable {aa:Nat->Nat}{b g:Nat}{w:World}{R:Rf}{v:Rw}
theorem rL.relabel{ac:Nat->Nat}{i k:Nat}{x:Value}{t:bv}(h:rL aa i w x t)(hl:∀j,j<w.heap.size->aa j=i->ac j=k):rL ac k w x t:=by
 obtain⟨g,S,A,n,c,zs,h1,h2,h3⟩:=h;refine⟨g,S,A,n,c,zs,h1,h2,fun j hj=>hl j ?_ (h3 j hj)⟩;rcases hj with rfl|hj|hj
 ·exact h2.b.lt
 ·exact(aI h2.o A c rfl j hj).1
 ·obtain⟨cs,fz,ty,e,_⟩:=h2.s j hj;exact aS e
theorem rV.relabel{ac:Nat->Nat}{i k:Nat}{x:Value}{l:List Int}(h:rV aa i w x l)(hl:∀j,j<w.heap.size->aa j=i->ac j=k):rV ac k w x l:=by
 rcases h with h|⟨q,es,clock,h1,h2,h3,h4⟩
 ·exact .inl h
 ·exact .inr ⟨q,es,clock,h1,hl q (aS h3) h2,h3,h4⟩
theorem rU.relabel{ac:Nat->Nat}{i k:Nat}{x:Value}{s:Option x7}(h:rU aa i w x s)(hl:∀j,j<w.heap.size->aa j=i->ac j=k):rU ac k w x s:=by
 cases s with
 | none=>exact h
 | some s=>
  obtain⟨q,vd,h1,h2,h3,h4⟩:=h;exact⟨q,vd,h1,hl q h3.lt h2,h3,h4.relabel hl⟩
theorem av.relabel{ac:Nat->Nat}(h:av aa b w g R v)(hl:∀j,j<w.heap.size->ba aa b j->ac j=aa j):av ac b w g R v:=by
 have k:∀i,0<i->i<=13->∀j,j<w.heap.size->aa j=b+i->ac j=b+i:=fun i h0 h1 j hj e=>(hl j hj ⟨by omega,by omega⟩).trans e
 exact⟨h.s,k 1 (by omega) (by omega) g h.s.lt h.sl,h.t.relabel (k 2 (by omega) (by omega)),h.p.relabel (k 3 (by omega) (by omega)),h.q.relabel (k 4 (by omega) (by omega)),h.y.relabel (k 5 (by omega) (by omega)),
  h.d.relabel (k 6 (by omega) (by omega)),h.gd.relabel (k 7 (by omega) (by omega)),h.e.relabel (k 8 (by omega) (by omega)) (k 13 (by omega) (by omega)),h.c.relabel (k 9 (by omega) (by omega)) (k 13 (by omega) (by omega)),h.n.relabel (k 13 (by omega) (by omega)),h.r.relabel (k 11 (by omega) (by omega)),h.m.relabel (k 12 (by omega) (by omega)) (k 13 (by omega) (by omega))⟩
theorem av.setMsgs{w3:World}{v':Value}{ms:List Mg}(h:av aa b w g R v)(hF:Fr (aL aa (b+12)) w w3)(hm:gW (relab aa w.heap.size (b+12)) (b+12) (b+13) w3 v' ms) :
  av (relab aa w.heap.size (b+12)) b (w3.setCell ⟨g,30,none⟩ v') g {R with out:={R.out with msgs:=ms}} {v with mgs:=v'}/\Fr (aH aa b) w (w3.setCell ⟨g,30,none⟩ v'):=by
 have h':=h.relabel (ac:=relab aa w.heap.size (b+12)) fun j hj _=>ae hj
 have du:=Fr.set (w:=w3) g 30 v';have bV:=h.s.lt;have iY:ay w3 g 107 (bt R v):=(hF.other (k:=b+1) (by omega) g h.sl bV).trans h.s;have k:∀i,1<i->i≠12->∀j,relab aa w.heap.size (b+12) j=b+i->j<w.heap.size->(w3.setCell ⟨g,30,none⟩ v').heap[j]?=w.heap[j]?:=fun i h0 h1 j hj hl=>by
  rw[ae hl]at hj;exact(du.block j (Nat.lt_of_lt_of_le hl hF.size) fun e=>by have:=h.sl;rw[e]at hj;omega).trans (hF.other (k:=b+i) (by omega) j hj hl)
 have yK:relab aa w.heap.size (b+12) g=b+1:=(ae bV).trans h.sl;refine⟨⟨iY.set_ 30 v',yK,h'.t.keep (k 2 (by omega) (by omega)),h'.p.keep (k 3 (by omega) (by omega)),h'.q.keep (k 4 (by omega) (by omega)),h'.y.keep (k 5 (by omega) (by omega)),h'.d.keep (k 6 (by omega) (by omega)),h'.gd.keep (k 7 (by omega) (by omega)),
  h'.e.keep (k 8 (by omega) (by omega)) (k 13 (by omega) (by omega)),h'.c.keep (k 9 (by omega) (by omega)) (k 13 (by omega) (by omega)),h'.n.keep (k 13 (by omega) (by omega)),h'.r.keep (k 11 (by omega) (by omega)),hm.keep (fun j hj hl=>du.block j hl fun e=>?_) (fun j hj hl=>du.block j hl fun e=>?_)⟩,?_⟩
 ·rw[e,yK]at hj;omega
 ·rw[e,yK]at hj;omega
 ·refine(hF.mono (X':=aH aa b) fun j hj=>?_).trans (du.mono (X':=aH aa b) fun j hj=>?_) fun j hj=>.inl hj
  ·have:aa j=b+12:=hj;exact⟨by omega,by omega⟩
  ·rw[hj];have:=h.sl;exact⟨by omega,by omega⟩
theorem rm(m:Mg)(ve vd:Value)(h:av aa b w g R v)(hm:eA aa (b+13) w ((ve,vd),m))(h1:ve.oneCell'=true/\vd.oneCell'=true)(hn:R.out.msgs.length<=10000000000) :
  Calls prog 97 #[.pointer (some ⟨g,0,none⟩),iw m ve vd] w fun e w'=>e=.returned (.tuple #[])/\aq aa b w g (R.send m) w':=by
 obtain⟨c4,c6,c30,-⟩:=h.s.cs [4,6,30];simp only[bt,vi,Zx]at c4 c6 c30;have bV:=h.s.lt;obtain⟨T,hT⟩:=zN ((if m.term=0 then R.hard.term else m.term));have fV:=zH (show R.send m={R with out:={R.out with msgs:=R.out.msgs++[{m with frm:=R.id,term:=T}]}} by unfold Rf.send;rw[hT]);have aU:Below w.heap.size w (w.alloc (.cells #[.int .i64 m.kind,.int .i64 R.id,.int .i64 m.tgt,.int .i64 T,.int .i64 m.idx,.int .i64 m.logTerm,.int .i64 m.commit,.int .i64 m.round,.bool m.reject,.int .i64 m.offset,.int .i64 m.total,ve,vd] 39)):=zb.alloc zl _;have cA:=ay.new w 39 #[.int .i64 m.kind,.int .i64 R.id,.int .i64 m.tgt,.int .i64 T,.int .i64 m.idx,.int .i64 m.logTerm,.int .i64 m.commit,.int .i64 m.round,.bool m.reject,.int .i64 m.offset,.int .i64 m.total,ve,vd];obtain⟨w1,bM⟩:=zN (w.alloc (.cells #[.int .i64 m.kind,.int .i64 R.id,.int .i64 m.tgt,.int .i64 T,.int .i64 m.idx,.int .i64 m.logTerm,.int .i64 m.commit,.int .i64 m.round,.bool m.reject,.int .i64 m.offset,.int .i64 m.total,ve,vd] 39));rw[bM]at aU cA;have h0:=(h.relabel (ac:=relab aa w.heap.size b) fun j hj _=>ae hj);have iA:Below w1.drew.heap.size w1.drew (w1.drew.alloc (.cells #[.int .i64 m.kind,.int .i64 R.id,.int .i64 m.tgt,.int .i64 T,.int .i64 m.idx,.int .i64 m.logTerm,.int .i64 m.commit,.int .i64 m.round,.bool m.reject,.int .i64 m.offset,.int .i64 m.total,ve,vd] 39)):=zb.alloc zl _;have Wz:=ay.new w1.drew 39 (iC ((ve,vd),{m with frm:=R.id,term:=T})).toArray;have dS:Below w.heap.size w (w1.drew.alloc (.cells #[.int .i64 m.kind,.int .i64 R.id,.int .i64 m.tgt,.int .i64 T,.int .i64 m.idx,.int .i64 m.logTerm,.int .i64 m.commit,.int .i64 m.round,.bool m.reject,.int .i64 m.offset,.int .i64 m.total,ve,vd] 39)):=aj (aY aU 1) iA zl;have h2:=h0.below dS;have pJ:eA (relab aa w.heap.size b) (b+13) _ ((ve,vd),{m with frm:=R.id,term:=T}):=(hm.relabel (ac:=relab aa w.heap.size b) (k:=b+13) fun j hj e=>(ae hj).trans e).keep fun j _ hl=>dS.block j hl
 obtain⟨zs,aD,cz,oV⟩:=id h2.m;obtain⟨y0,y1,y2,y3,y4,y5,y6,y7,y8,y9,yA,yB,yC,-⟩:=cA.cs [0,1,2,3,4,5,6,7,8,9,10,11,12];simp only[Zx]at y0 y1 y2 y3 y4 y5 y6 y7 y8 y9 yA yB yC;have c30':=(aU.cell (aG c30)).trans c30;obtain⟨k0,k1,k2,k3,k4,k5,k6,k7,k8,k9,kA,kB,kC⟩:=Aa [g,w.heap.size] y0 y1 y2 y3 y4 y5 y6 y7 y8 y9 yA yB yC;have kD:=IX [g,w.heap.size] c30';have bY:∀q∈[g,w.heap.size],q<w1.heap.size:=by simp;exact⟨by have:=aU.size;omega,cA.lt⟩
 unfold iw;simp only[vi];rcases(show(m.term=0/\R.hard.term=T)\/(m.term≠0/\m.term=T) by
  by_cases h0:m.term=0
  ·rw[if_pos h0]at hT;exact .inl ⟨h0,hT⟩
  ·rw[if_neg h0]at hT;exact .inr ⟨h0,hT⟩)with⟨ht,D1⟩|⟨ht,D1⟩
 all_goals
  clear hT;go_enter func97,ntmps97;go_wp2_with fail;try simp only[D1]
  try rw[bM]
  refine qY [g,w.heap.size] w1 [([0,1,2,3,4,5,6],7),([],8)] ([9,10,11],12) ?_;refine au fun K1 cF=>?_
  simp only[af,Zx];repeat go_big_quiet_step(fail)
  apply wpQuiet_nil;go_wp2_with fail;refine⟨aw bY (zb.drew.trans iA),cF _ _ ?_⟩;refine au fun K2 jl=>?_
  simp only[af,Zx];repeat go_big_quiet_step(fail)
  apply wpQuiet_nil;go_wp2_with (at_builtin;refine oG rfl (.tmp 23) (.tmp 25) rfl rfl aD rfl Wz h1 (Nat.le_trans hn (by omega)) ?_;intro A3 c3 w3 dX bg iI hlab3);have g4:relab aa w.heap.size b g=b+1:=(ae bV).trans h.sl;have KZ:relab aa w.heap.size b w.heap.size=b:=aA zl;have ip:w3.heap[g]?=w1.heap[g]?:=(iI.other (k:=b+1) (by omega) g g4 h2.s.lt).trans ((zb.drew.trans iA).block g (bY g (by simp)));have QZ:w3.heap[w.heap.size]?=w1.heap[w.heap.size]?:=(iI.other (k:=b) (by omega) w.heap.size KZ (by have:=cA.lt;have:=iA.size;exact Nat.lt_of_lt_of_le cA.lt this)).trans ((zb.drew.trans iA).block _ cA.lt);refine⟨dc ip QZ,jl _ _ ?_⟩;subst hlab3;obtain⟨w2,eh⟩:=zN ((w1.drew.alloc (.cells #[.int .i64 m.kind,.int .i64 R.id,.int .i64 m.tgt,.int .i64 T,.int .i64 m.idx,.int .i64 m.logTerm,.int .i64 m.commit,.int .i64 m.round,.bool m.reject,.int .i64 m.offset,.int .i64 m.total,ve,vd] 39)));have bg:aX (relab (relab aa w.heap.size b) w2.heap.size (b+12)) (b+12) w3 39 13 (.slice A3 (R.out.msgs.length+1) c3) (R.out.msgs.length+1) ((zs++[((ve,vd),{m with frm:=R.id,term:=T})]).flatMap iC):=by rw[<-eh];exact bg
  rw[eh]at dS h2 pJ cz;have iI:Fr (aL (relab aa w.heap.size b) (b+12)) w2 w3:=by rw[<-eh];exact iI
  have oe:∀j,j<w3.heap.size->relab aa w.heap.size b j=b+13->relab (relab aa w.heap.size b) w2.heap.size (b+12) j=b+13:=fun j _ e=>by
   have hs:=dS.size;rcases Nat.lt_or_ge j w2.heap.size with hj|hj
   ·exact(ae hj).trans e
   ·rw[aA (by omega)]at e;omega
  have Np:∀z∈zs++[((ve,vd),{m with frm:=R.id,term:=T})],eA (relab (relab aa w.heap.size b) w2.heap.size (b+12)) (b+13) w3 z:=fun z hz=>by
   rcases List.mem_append.1 hz with hz|hz
   ·exact((cz z hz).keep (iI.other (k:=b+13) (by omega))).relabel oe
   ·rw[List.mem_singleton.1 hz];exact(pJ.keep (iI.other (k:=b+13) (by omega))).relabel oe
  have As:gW (relab (relab aa w.heap.size b) w2.heap.size (b+12)) (b+12) (b+13) w3 (.slice A3 (R.out.msgs.length+1) c3) (R.out.msgs++[{m with frm:=R.id,term:=T}]):=⟨_,by rw[List.length_append];exact bg,Np,by rw[List.map_append,oV];rfl⟩;obtain⟨Tq,dW⟩:=h2.setMsgs iI As;have hold:∀j,j<w.heap.size->relab (relab aa w.heap.size b) w2.heap.size (b+12) j=aa j:=fun j hj=>(ae (by have:=dS.size;omega)).trans (ae hj)
  have hP:=zH (show aq aa b w g (R.send m) (w3.setCell ⟨g,30,none⟩ (.slice A3 (R.out.msgs.length+1) c3))from⟨relab (relab aa w.heap.size b) w2.heap.size (b+12),_,(by rw[fV.out];exact Tq),fun j hj _=>hold j hj,fun j hj h=>by
   unfold aH at h ⊢;rw[hold j hj];exact h,(Fr.of_below (X:=aH aa b) dS).trans dW fun j hj=>by
    unfold aH at hj ⊢;rcases Nat.lt_or_ge j w.heap.size with It|It
    ·rw[ae It]at hj;exact .inl hj
    ·exact .inr It⟩)
  have MJ:ay w3 g 107 (bt R v):=(iI.other (k:=b+1) (by omega) g g4 h2.s.lt).trans h2.s;have cg:=MJ.cell 30;have fg:=MJ.free 30;simp only[bt,vi,Zx]at cg;clear Tq dW As Np bg iI;refine aE ?_;simp only[af,Zx];repeat go_big_quiet_step(fail)
  apply wpQuiet_nil;go_wp2_with fail;exact ai rfl rfl ⟨rfl,hP.out⟩
end
end
section
open Go.MapKept
section
variable {aa:Nat->Nat}{b g:Nat}{w:World}{R:Rf}{v:Rw}
theorem av.setEnts{w3:World}{v':Value}{es:List En}(h:av aa b w g R v)(hF:Fr (aL aa (b+8)) w w3)(hm:ee (relab aa w.heap.size (b+8)) (b+8) (b+13) w3 v' es) :
  av (relab aa w.heap.size (b+8)) b (w3.setCell ⟨g,26,none⟩ v') g {R with out:={R.out with entries:=es}} {v with ent:=v'}/\Fr (aH aa b) w (w3.setCell ⟨g,26,none⟩ v'):=by
 have h':=h.relabel (ac:=relab aa w.heap.size (b+8)) fun j hj _=>ae hj
 have du:=Fr.set (w:=w3) g 26 v';have bV:=h.s.lt;have iY:ay w3 g 107 (bt R v):=(hF.other (k:=b+1) (by omega) g h.sl bV).trans h.s;have k:∀i,1<i->i≠8->∀j,relab aa w.heap.size (b+8) j=b+i->j<w.heap.size->(w3.setCell ⟨g,26,none⟩ v').heap[j]?=w.heap[j]?:=fun i h0 h1 j hj hl=>by
  rw[ae hl]at hj;exact(du.block j (Nat.lt_of_lt_of_le hl hF.size) fun e=>by have:=h.sl;rw[e]at hj;omega).trans (hF.other (k:=b+i) (by omega) j hj hl)
 have yK:relab aa w.heap.size (b+8) g=b+1:=(ae bV).trans h.sl;refine⟨⟨iY.set_ 26 v',yK,h'.t.keep (k 2 (by omega) (by omega)),h'.p.keep (k 3 (by omega) (by omega)),h'.q.keep (k 4 (by omega) (by omega)),h'.y.keep (k 5 (by omega) (by omega)),h'.d.keep (k 6 (by omega) (by omega)),h'.gd.keep (k 7 (by omega) (by omega)),
  hm.keep (fun j hj hl=>du.block j hl fun e=>?_) (fun j hj hl=>du.block j hl fun e=>?_),h'.c.keep (k 9 (by omega) (by omega)) (k 13 (by omega) (by omega)),h'.n.keep (k 13 (by omega) (by omega)),h'.r.keep (k 11 (by omega) (by omega)),h'.m.keep (k 12 (by omega) (by omega)) (k 13 (by omega) (by omega))⟩,?_⟩
 ·rw[e,yK]at hj;omega
 ·rw[e,yK]at hj;omega
 ·refine(hF.mono (X':=aH aa b) fun j hj=>?_).trans (du.mono (X':=aH aa b) fun j hj=>?_) fun j hj=>.inl hj
  ·have:aa j=b+8:=hj;exact⟨by omega,by omega⟩
  ·rw[hj];have:=h.sl;exact⟨by omega,by omega⟩
theorem oz(A:Option Addr)(n c:Nat)(ys:List (Value×En))(h:av aa b w g R v)(hr:im w A n ys)(hd:bA (aL aa (b+13)) w ys)(hA:0<n->∀j,aR A j->j≠g)(hn:n<=10000000000)(hN:R.out.entries.length<=10000000000) :
  Calls prog 67 #[.pointer (some ⟨g,0,none⟩),.slice A n c] w fun e w'=>e=.returned (.tuple #[])/\aq aa b w g (R.save (ys.map (·.2))) w':=by
 obtain⟨f22,f26,-⟩:=h.s.fs [22,26];obtain⟨c22,c26,-⟩:=h.s.cs [22,26];simp only[bt,vi,Zx]at c22 c26;have bV:=h.s.lt;have hS:ay (w.setCell ⟨g,22,none⟩ (.bool true)) g 107 (bt {R with out:={R.out with save:=true}} v):=h.s.set_ 22 (.bool true);have h1:=h.nums (R':={R with out:={R.out with save:=true}}) hS (Fr.set g 22 _) rfl rfl rfl rfl rfl rfl rfl rfl rfl rfl rfl;have pG:Fr (fun j=>j=g) w (w.setCell ⟨g,22,none⟩ (.bool true)):=Fr.set g 22 _;have gu:im (w.setCell ⟨g,22,none⟩ (.bool true)) A n ys:=cj.stay (S:=fun j=>j≠g) hr (fun h0 ad e=>hA h0 _ ⟨ad,e,rfl⟩) (pG.stay fun j hj _=>hj);have sM:bA (aL aa (b+13)) (w.setCell ⟨g,22,none⟩ (.bool true)) ys:=hd.keep (pG.stay fun j hj _ e=>by
  have hj:aa j=b+13:=hj;have:=h.sl;rw[e]at hj;omega)
 have jp:=hd.one;have c26':=hS.cell 26;have f26':=hS.free 26;simp only[bt,vi,Zx]at c26';have he:ee aa (b+8) (b+13) (w.setCell ⟨g,22,none⟩ (.bool true)) v.ent R.out.entries:=h1.e;obtain⟨zs,⟨Ae,ce,Kj,aD,g9⟩,Ij,oV⟩:=he;rw[Kj]at c26' c26;have jV:R.out.entries.length+n<=1000000000000:=by omega
 have Gr:=hr.len;have gn:(w.setCell ⟨g,22,none⟩ (.bool true)).heap.size=w.heap.size:=by simp[World.setCell]
 have VU:=h1.s.lt;have aO:∀(A3:Option Addr) (c3:Nat) (w3:World),w3.ownsRow 0 59 6 (.slice A3 (R.out.entries.length+n) c3) (R.out.entries.length+n) ((zs++ys).flatMap dE)->Fr (aR Ae) (w.setCell ⟨g,22,none⟩ (.bool true)) w3->(∀j,aR A3 j->aR Ae j\/(w.setCell ⟨g,22,none⟩ (.bool true)).heap.size<=j)->
   ay w3 g 107 (bt {R with out:={R.out with save:=true}} v)/\aq aa b w g (R.save (ys.map (·.2))) (w3.setCell ⟨g,26,none⟩ (.slice A3 (R.out.entries.length+n) c3)):=fun A3 c3 w3 bg iI Lm=>by
  have dW:Fr (aL aa (b+8)) (w.setCell ⟨g,22,none⟩ (.bool true)) w3:=iI.mono fun j hj=>g9 j hj
  have Hi:∀j,aL aa (b+13) j->j<(w.setCell ⟨g,22,none⟩ (.bool true)).heap.size->w3.heap[j]?=(w.setCell ⟨g,22,none⟩ (.bool true)).heap[j]?:=dW.other (k:=b+13) (by omega);have jb:∀j,j<(w.setCell ⟨g,22,none⟩ (.bool true)).heap.size->aL aa (b+13) j->aL (relab aa (w.setCell ⟨g,22,none⟩ (.bool true)).heap.size (b+8)) (b+13) j:=fun j hj e=>(ae hj).trans e
  have MW:b5 (aL (relab aa (w.setCell ⟨g,22,none⟩ (.bool true)).heap.size (b+8)) (b+13)) (w.setCell ⟨g,22,none⟩ (.bool true)) w3:=fun j e hj=>Hi j ((ae hj).symm.trans e) hj
  have QG:bA (aL (relab aa (w.setCell ⟨g,22,none⟩ (.bool true)).heap.size (b+8)) (b+13)) w3 (zs++ys):=((Ij.mono jb).append (sM.mono jb)).keep MW;have hm:ee (relab aa (w.setCell ⟨g,22,none⟩ (.bool true)).heap.size (b+8)) (b+8) (b+13) w3 (.slice A3 (R.out.entries.length+n) c3) (R.out.entries++ys.map (·.2)):=by
   refine⟨zs++ys,?_,QG,by rw[List.map_append,oV]⟩;rw[List.length_append,List.length_map,Gr];refine⟨A3,c3,rfl,bg,fun j hj=>?_⟩;rcases Lm j hj with h6|h6
   ·unfold relab;split
    ·rfl
    ·exact g9 j h6
   ·exact aA h6
  obtain⟨hR,hF⟩:=h1.setEnts dW hm;refine⟨(dW.other (k:=b+1) (by omega) g h.sl VU).trans hS,relab aa (w.setCell ⟨g,22,none⟩ (.bool true)).heap.size (b+8),_,hR,fun j hj _=>ae (by rw[gn];exact hj),fun j hj hm=>?_,?_⟩
  ·unfold aH at hm ⊢;rw[ae (by rw[gn];exact hj)];exact hm
  ·exact(pG.mono (X':=aH aa b) fun j e=>by rw[e];exact⟨by have:=h.sl;omega,by have:=h.sl;omega⟩).trans hF fun j hj=>.inl hj
 have aD:(w.setCell ⟨g,22,none⟩ (.bool true)).ownsRow 0 59 6 (.slice Ae R.out.entries.length ce) R.out.entries.length (zs.flatMap dE):=aD;clear h h1 hS hr hd sM pG Ij oV g9;go_enter func67,ntmps67;go_wp2_with (at_builtin;refine dg rfl (.tmp 13) (.tmp 14) rfl 0 rfl aD rfl gu jp jV zz ?_;intro A3 c3 w3 bg iI cv hrw3;obtain⟨ip,hP⟩:=aO A3 c3 w3 bg iI hrw3;replace hP:=zH hP;have f3:=ip.free 26;have e3:=ip.cell 26;simp only[bt,vi,Zx]at e3;clear aO bg iI cv hrw3 aD);exact ai rfl rfl ⟨rfl,hP.out⟩
end
end
section
open Go.MapKept
def dF(id k:Nat):List Nat:=(List.range' 1 k).filter fun s=>decide (s≠id)
theorem sz(id k:Nat):dF id (k+1)=dF id k++if k+1=id then[]else[k+1]:=by
 unfold dF;rw[List.range'_concat,List.filter_append];simp only[Nat.one_mul,Nat.add_comm 1 k];by_cases h:k+1=id
 ·rw[if_pos h,List.filter_cons,if_neg (by simp[h])];rfl
 ·rw[if_neg h,List.filter_cons,if_pos (by simp[h])];rfl
theorem uB(id k:Nat):(dF id k).length<=k:=by
 unfold dF;refine Nat.le_trans (List.length_filter_le _ _) ?_;rw[List.length_range'];exact Nat.le_refl _
def wM(l:List Nat):List Int:=l.map fun(s:Nat)=>(s:Int)
section
variable {aa:Nat->Nat}{b g:Nat}{w:World}{R:Rf}{v:Rw}
theorem mM(h:av aa b w g R v)(hn:R.n<=7) :
  Calls prog 94 #[.pointer (some ⟨g,0,none⟩)] w fun e w'=>∃A c,e=.returned (.slice A R.others.length c)/\w'.ownsRow w.heap.size 3 1 (.slice A R.others.length c) R.others.length ((wM R.others).map vi)/\Below w.heap.size w w':=by
 have bV:=h.s.lt;go_enter func94,ntmps94;go_wp2_with fail
 go_loopw [3,4] (fun o s' wr=>∃(k:Nat) (A:Option Addr) (c:Nat),k<=R.n/\s'=.int .i64 ((k:Int)+1)/\o=.slice A (dF R.id k).length c/\wr.ownsRow w.heap.size 3 1 (.slice A (dF R.id k).length c) (dF R.id k).length ((wM (dF R.id k)).map vi)/\Below w.heap.size w wr) (fun _ s' _=>R.n+1-(intOf s').toNat)
 case atStart=>exact⟨0,none,0,Nat.zero_le _,rfl,rfl,(ek _ _:w.ownsRow w.heap.size 3 1 (.slice none 0 0) 0 []),Below.refl _ _⟩
 case round=>
  obtain⟨k,A,c,hk,rfl,rfl,aJ,hb⟩:=hrel;have h':=h.below hb;obtain⟨c4,c5,-⟩:=h'.s.cs [4,5];simp only[bt,vi,Zx]at c4 c5;by_cases bh:k<R.n
  ·have bi:=zH (show R.n+1-(k+1+1)<R.n+1-(k+1) by omega);have fQ:(k:Int)+1<=R.n:=by omega
   have dM:=sz R.id k;by_cases nS:k+1=R.id
   ·rw[if_pos nS,List.append_nil]at dM;replace dM:=zH dM;have wi:(R.id:Int)=(k:Int)+1:=by omega
    rw[wi]at c4;clear wi nS h';go_wp2_with fail;exact⟨⟨k+1,A,c,bh,by go_num,by rw[dM.out],by rw[dM.out];exact aJ,hb⟩,by simp[intOf];have:=bi.out;omega⟩
   ·rw[if_neg nS]at dM;have ab:(dF R.id (k+1)).length=(dF R.id k).length+1:=by rw[dM];simp
    have bN:wM (dF R.id (k+1))=wM (dF R.id k)++[(k:Int)+1]:=by rw[dM];simp[wM]
    have Lb:=uB R.id k;replace dM:=zH dM;replace ab:=zH ab;replace bN:=zH bN;have i1:(((k:Int)+1)==(R.id:Int))=false:=beq_eq_false_iff_ne.2 (by omega);have i2:(((k:Int)+1) !=(R.id:Int))=true:=by rw[bne,i1];rfl
    have gu:=jK.one wr ((k:Int)+1);have aU:Below wr.heap.size wr (wr.alloc (.cells #[.int .i64 ((k:Int)+1)] 3)):=zb.alloc zl _;have eJ:=bF aJ aU;have bU:=aj hb aU zl;have jV:(dF R.id k).length+1<=1000000000000:=by omega
    clear nS h' aJ;go_wp2_with (at_builtin;refine b9 rfl (.tmp 19) (.tmp 21) rfl w.heap.size rfl eJ rfl gu jV bU.size ?_;intro A3 c3 w3 bS ip cv);exact⟨⟨k+1,A3,c3,bh,by go_num,by rw[ab.out],by rw[ab.out,bN.out];exact bS,bU.trans cv⟩,by simp[intOf];have:=bi.out;omega⟩
  ·obtain rfl:k=R.n:=by omega
   have sq:¬((R.n:Int)+1<=R.n):=by omega
   clear h';go_wp2_with fail;go_ret;exact⟨A,c,rfl,aJ,hb⟩
end
end
section
open Go.MapKept
def SK(O:Ot)(ve vc vs vr vm:Value):Value:=.agg #[.bool O.save,.bool O.reset,vi O.hard.term,vi O.hard.vote,ve,vc,vs,vr,vm]
structure Gy(aa:Nat->Nat)(i:Nat)(w:World)(O:Ot)(ve vc vs vr vm:Value):Prop where
 e:ee aa i i w ve O.entries
 c:ee aa i i w vc O.commits
 s:rU aa i w vs O.snap
 r:aX aa i w 134 2 vr O.reads.length (O.reads.flatMap Cr)
 m:gW aa i i w vm O.msgs
def cC(aa:Nat->Nat)(b i:Nat):Nat->Nat:=fun j=>if aa j=b+8\/aa j=b+9\/aa j=b+11\/aa j=b+12\/aa j=b+13 then i else aa j
section
variable {aa:Nat->Nat}{b g:Nat}{w:World}{R:Rf}{v:Rw}
theorem lF{i j q:Nat}(h:aa j=b+q)(hq:q=8\/q=9\/q=11\/q=12\/q=13):cC aa b i j=i:=if_pos (by omega)
theorem rC{i j q:Nat}(h:aa j=b+q)(hq:q<=7):cC aa b i j=b+q:=(if_neg (by omega)).trans h
theorem av.tell{i:Nat}{w':World}(h:av aa b w g R v)(hs:ay w' g 107 (bt R.tell.2 {v with ent:=.slice none 0 0,com:=.slice none 0 0,snp:=.pointer none,rds:=.slice none 0 0,mgs:=.slice none 0 0}))(hF:Fr (fun j=>j=g) w w') :
  av (cC aa b i) b w' g R.tell.2 {v with ent:=.slice none 0 0,com:=.slice none 0 0,snp:=.pointer none,rds:=.slice none 0 0,mgs:=.slice none 0 0}/\Gy (cC aa b i) i w' R.tell.1 v.ent v.com v.snp v.rds v.mgs:=by
 have k:∀q,1<q->∀j,aa j=b+q->j<w.heap.size->w'.heap[j]?=w.heap[j]?:=fun q h0 j hj hl=>hF.block j hl fun e=>by
  have:=h.sl;rw[e]at hj;omega
 have hy:∀q,(q=8\/q=9\/q=11\/q=12\/q=13)->∀j,j<w'.heap.size->aa j=b+q->cC aa b i j=i:=fun q hq j _ e=>lF e hq
 have hn:∀q,q<=7->∀j,j<w'.heap.size->aa j=b+q->cC aa b i j=b+q:=fun q hq j _ e=>rC e hq
 refine⟨⟨hs,rC h.sl (by omega),(h.t.keep (k 2 (by omega))).relabel (hn 2 (by omega)),(h.p.keep (k 3 (by omega))).relabel (hn 3 (by omega)),(h.q.keep (k 4 (by omega))).relabel (hn 4 (by omega)),(h.y.keep (k 5 (by omega))).relabel (hn 5 (by omega)),
  (h.d.keep (k 6 (by omega))).relabel (hn 6 (by omega)),(h.gd.keep (k 7 (by omega))).relabel (hn 7 (by omega)),ee.nil _ _ _ _,ee.nil _ _ _ _,rfl,aX.nil _ _ _ _ _,gW.nil _ _ _ _⟩,
  (h.e.keep (k 8 (by omega)) (k 13 (by omega))).relabel (hy 8 (by omega)) (hy 13 (by omega)),(h.c.keep (k 9 (by omega)) (k 13 (by omega))).relabel (hy 9 (by omega)) (hy 13 (by omega)),(h.n.keep (k 13 (by omega))).relabel (hy 13 (by omega)),(h.r.keep (k 11 (by omega))).relabel (hy 11 (by omega)),
  (h.m.keep (k 12 (by omega)) (k 13 (by omega))).relabel (hy 12 (by omega)) (hy 13 (by omega))⟩
def Rw.told(v:Rw):Rw:={v with ent:=.slice none 0 0,com:=.slice none 0 0,snp:=.pointer none,rds:=.slice none 0 0,mgs:=.slice none 0 0}
def gw(w:World)(g:Nat):World:=((((((((w.setCell ⟨g,22,none⟩ (.bool false)).setCell ⟨g,23,none⟩ (.bool false)).setCell ⟨g,24,none⟩ (.int .i64 0)).setCell ⟨g,25,none⟩ (.int .i64 0)).setCell ⟨g,26,none⟩ (.slice none 0 0)).setCell ⟨g,27,none⟩ (.slice none 0 0)).setCell ⟨g,28,none⟩ (.pointer none)).setCell ⟨g,29,none⟩ (.slice none 0 0)).setCell ⟨g,30,none⟩ (.slice none 0 0)
theorem Fu(w:World)(g:Nat):Fr (fun j=>j=g) w (gw w g):=
 have e:∀{a b:World},Fr (fun j=>j=g) w a->Fr (fun j=>j=g) a b->Fr (fun j=>j=g) w b:=fun h h'=>h.trans h' fun _ h=>.inl h
 e (e (e (e (e (e (e (e (Fr.set g _ _) (Fr.set g _ _)) (Fr.set g _ _)) (Fr.set g _ _)) (Fr.set g _ _)) (Fr.set g _ _)) (Fr.set g _ _)) (Fr.set g _ _)) (Fr.set g _ _)
theorem xw(i:Nat)(h:av aa b w g R v)(X:Array Value) :
  ay (((gw w g).alloc (.cells X 49)).alloc (.cells X 49)) w.heap.size 49 X/\av (cC aa b i) b (((gw w g).alloc (.cells X 49)).alloc (.cells X 49)) g R.tell.2 v.told/\
   Gy (cC aa b i) i (((gw w g).alloc (.cells X 49)).alloc (.cells X 49)) R.tell.1 v.ent v.com v.snp v.rds v.mgs/\Fr (aH aa b) w (((gw w g).alloc (.cells X 49)).alloc (.cells X 49)):=by
 have hS:ay (gw w g) g 107 (bt R.tell.2 v.told):=by
  have s:=((((((((h.s.set_ 22 (.bool false)).set_ 23 (.bool false)).set_ 24 (.int .i64 0)).set_ 25 (.int .i64 0)).set_ 26 (.slice none 0 0)).set_ 27 (.slice none 0 0)).set_ 28 (.pointer none)).set_ 29 (.slice none 0 0)).set_ 30 (.slice none 0 0);simp only[bt,Zy]at s;exact s
 have hF:=Fu w g;have gn:(gw w g).heap.size=w.heap.size:=by simp[gw,World.setCell]
 have bU:Below (gw w g).heap.size (gw w g) (((gw w g).alloc (.cells X 49)).alloc (.cells X 49)):=(zb.alloc zl _).alloc (by simp) _;have hB:ay (((gw w g).alloc (.cells X 49)).alloc (.cells X 49)) w.heap.size 49 X:=by
  have:=(ay.new (gw w g) 49 X).alloc (.cells X 49);rw[gn]at this;exact this
 have pj:Fr (fun j=>j=g) w (((gw w g).alloc (.cells X 49)).alloc (.cells X 49)):=hF.trans (Fr.of_below (X:=fun j=>j=g) bU) fun _ h=>.inl h
 obtain⟨h1,h2⟩:=h.tell (i:=i) (hS.kept bU) pj;exact⟨hB,h1,h2,pj.mono fun j e=>by rw[e];exact⟨by have:=h.sl;omega,by have:=h.sl;omega⟩⟩
theorem xv(i:Nat)(h:av aa b w g R v) :
  Calls prog 52 #[.pointer (some ⟨g,0,none⟩)] w fun e w'=>e=.returned (SK R.tell.1 v.ent v.com v.snp v.rds v.mgs)/\av (cC aa b i) b w' g R.tell.2 v.told/\Gy (cC aa b i) i w' R.tell.1 v.ent v.com v.snp v.rds v.mgs/\Fr (aH aa b) w w':=by
 obtain⟨c6,c7,c22,c23,c24,c25,c26,c27,c28,c29,c30,-⟩:=h.s.cs [6,7,22,23,24,25,26,27,28,29,30];obtain⟨f22,f23,f24,f25,f26,f27,f28,f29,f30,-⟩:=h.s.fs [22,23,24,25,26,27,28,29,30];simp only[bt,vi,Zx]at c6 c7 c22 c23 c24 c25 c26 c27 c28 c29 c30;have bV:=h.s.lt;obtain⟨_,⟨A1,d1,GG,_⟩,_⟩:=id h.e;obtain⟨_,⟨A2,d2,GH,_⟩,_⟩:=id h.c;obtain⟨A3,GI⟩:∃p,v.snp=.pointer p:=by
  have hn:=h.n;cases hx:R.out.snap with
  | none=>rw[hx]at hn;exact⟨_,hn⟩
  | some s=>rw[hx]at hn;obtain⟨q,vd,e,_⟩:=hn;exact⟨_,e⟩
 obtain⟨A4,d4,GJ,_⟩:=id h.r;obtain⟨_,⟨A5,d5,GK,_⟩,_⟩:=id h.m;rw[GG]at c26;rw[GH]at c27;rw[GI]at c28;rw[GJ]at c29;rw[GK]at c30;generalize R.out.entries.length=n1 at *;generalize R.out.commits.length=n2 at *;generalize R.out.reads.length=n4 at *;generalize R.out.msgs.length=n5 at *;cases iS:R.out.save with
 | false=>
  rw[iS]at c22;replace h:=zH h;go_enter func52,ntmps52;go_wp2_with fail;have hT:R.tell.1=R.out:=by
   unfold Rf.tell;rw[iS];rfl
  obtain⟨hB,q1,q2,q3⟩:=xw i h.out #[.bool false,.bool R.out.reset,.int .i64 R.out.hard.term,.int .i64 R.out.hard.vote,.slice A1 n1 d1,.slice A2 n2 d2,.pointer A3,.slice A4 n4 d4,.slice A5 n5 d5];show bodyPost _ _ _ _ _ (((gw w g).alloc (.cells #[.bool false,.bool R.out.reset,.int .i64 R.out.hard.term,.int .i64 R.out.hard.vote,.slice A1 n1 d1,.slice A2 n2 d2,.pointer A3,.slice A4 n4 d4,.slice A5 n5 d5] 49)).alloc (.cells #[.bool false,.bool R.out.reset,.int .i64 R.out.hard.term,.int .i64 R.out.hard.vote,.slice A1 n1 d1,.slice A2 n2 d2,.pointer A3,.slice A4 n4 d4,.slice A5 n5 d5] 49));generalize((gw w g).alloc (.cells #[.bool false,.bool R.out.reset,.int .i64 R.out.hard.term,.int .i64 R.out.hard.vote,.slice A1 n1 d1,.slice A2 n2 d2,.pointer A3,.slice A4 n4 d4,.slice A5 n5 d5] 49)).alloc (.cells #[.bool false,.bool R.out.reset,.int .i64 R.out.hard.term,.int .i64 R.out.hard.vote,.slice A1 n1 d1,.slice A2 n2 d2,.pointer A3,.slice A4 n4 d4,.slice A5 n5 d5] 49)=wF at *;obtain⟨r0,r1,r2,r3,r4,r5,r6,r7,r8,-⟩:=hB.cs [0,1,2,3,4,5,6,7,8];simp only[Zx]at r0 r1 r2 r3 r4 r5 r6 r7 r8;exact bodyPost_ret (v:=.agg #[.bool false,.bool R.out.reset,.int .i64 R.out.hard.term,.int .i64 R.out.hard.vote,.slice A1 n1 d1,.slice A2 n2 d2,.pointer A3,.slice A4 n4 d4,.slice A5 n5 d5]) (by simp[results,results52,go_sem,r0,r1,r2,r3,r4,r5,r6,r7,r8]) rfl ⟨by rw[hT,GG,GH,GI,GJ,GK];unfold SK;rw[iS];rfl,q1,q2,q3⟩
 | true=>
  rw[iS]at c22;replace h:=zH h;go_enter func52,ntmps52;go_wp2_with fail;have hT:R.tell.1={R.out with hard:=R.hard}:=by
   unfold Rf.tell;rw[iS];rfl
  obtain⟨hB,q1,q2,q3⟩:=xw i h.out #[.bool true,.bool R.out.reset,.int .i64 R.hard.term,.int .i64 R.hard.vote,.slice A1 n1 d1,.slice A2 n2 d2,.pointer A3,.slice A4 n4 d4,.slice A5 n5 d5];show bodyPost _ _ _ _ _ (((gw w g).alloc (.cells #[.bool true,.bool R.out.reset,.int .i64 R.hard.term,.int .i64 R.hard.vote,.slice A1 n1 d1,.slice A2 n2 d2,.pointer A3,.slice A4 n4 d4,.slice A5 n5 d5] 49)).alloc (.cells #[.bool true,.bool R.out.reset,.int .i64 R.hard.term,.int .i64 R.hard.vote,.slice A1 n1 d1,.slice A2 n2 d2,.pointer A3,.slice A4 n4 d4,.slice A5 n5 d5] 49));generalize((gw w g).alloc (.cells #[.bool true,.bool R.out.reset,.int .i64 R.hard.term,.int .i64 R.hard.vote,.slice A1 n1 d1,.slice A2 n2 d2,.pointer A3,.slice A4 n4 d4,.slice A5 n5 d5] 49)).alloc (.cells #[.bool true,.bool R.out.reset,.int .i64 R.hard.term,.int .i64 R.hard.vote,.slice A1 n1 d1,.slice A2 n2 d2,.pointer A3,.slice A4 n4 d4,.slice A5 n5 d5] 49)=wF at *;obtain⟨r0,r1,r2,r3,r4,r5,r6,r7,r8,-⟩:=hB.cs [0,1,2,3,4,5,6,7,8];simp only[Zx]at r0 r1 r2 r3 r4 r5 r6 r7 r8;exact bodyPost_ret (v:=.agg #[.bool true,.bool R.out.reset,.int .i64 R.hard.term,.int .i64 R.hard.vote,.slice A1 n1 d1,.slice A2 n2 d2,.pointer A3,.slice A4 n4 d4,.slice A5 n5 d5]) (by simp[results,results52,go_sem,r0,r1,r2,r3,r4,r5,r6,r7,r8]) rfl ⟨by rw[hT,GG,GH,GI,GJ,GK];unfold SK;dsimp only;rw[iS];rfl,q1,q2,q3⟩
end
end
section
open Go.MapKept
section
variable {aa:Nat->Nat}{b g:Nat}{w w':World}{R R':Rf}{v:Rw}
theorem av.numsW(h:av aa b w g R v)(hs:ay w' g 107 (bt R' {v with waits:=.slice none 0 0}))(hF:Fr (fun j=>j=g) w w')(e1:R'.track=R.track)(e2:R'.peers=R.peers)(e3:R'.waits=[])(e4:R'.yes=R.yes)(e5:R'.snap.data=R.snap.data)(e6:R'.gath.data=R.gath.data)
  (e7:R'.out.entries=R.out.entries) (e8:R'.out.commits=R.out.commits) (e9:R'.out.snap=R.out.snap) (e10:R'.out.reads=R.out.reads) (e11:R'.out.msgs=R.out.msgs):av aa b w' g R' {v with waits:=.slice none 0 0}:=by
 have k:∀i,1<i->∀j,aa j=b+i->j<w.heap.size->w'.heap[j]?=w.heap[j]?:=fun i h0 j hj hl=>hF.block j hl fun e=>by
  have:=h.sl;rw[e]at hj;omega
 exact⟨hs,h.sl,by rw[e1];exact h.t.keep (k 2 (by omega)),by rw[e2];exact h.p.keep (k 3 (by omega)),by rw[e3];exact aX.nil _ _ _ _ _,by rw[e4];exact h.y.keep (k 5 (by omega)),by rw[e5];exact h.d.keep (k 6 (by omega)),
  by rw[e6];exact h.gd.keep (k 7 (by omega)),by rw[e7];exact h.e.keep (k 8 (by omega)) (k 13 (by omega)),by rw[e8];exact h.c.keep (k 9 (by omega)) (k 13 (by omega)),by rw[e9];exact h.n.keep (k 13 (by omega)),by rw[e10];exact h.r.keep (k 11 (by omega)),by rw[e11];exact h.m.keep (k 12 (by omega)) (k 13 (by omega))⟩
theorem vU(t:Int)(h:av aa b w g R v):Calls prog 58 #[.pointer (some ⟨g,0,none⟩),.int .i64 t] w fun e w'=>e=.returned (.tuple #[])/\aq aa b w g (R.follows t) w':=by
 obtain⟨c2,c6,c7,c13,c14,c22,-⟩:=h.s.cs [2,6,7,13,14,22];obtain⟨f2,f6,f7,f13,f14,f22,-⟩:=h.s.fs [2,6,7,13,14,22];simp only[bt,vi,Zx]at c2 c6 c7 c13 c14 c22;have bV:=h.s.lt;have hS:ay ((((((w.setCell ⟨g,6,none⟩ (.int .i64 t)).setCell ⟨g,7,none⟩ (.int .i64 0)).setCell ⟨g,22,none⟩ (.bool true)).setCell ⟨g,13,none⟩ (.int .i64 0)).setCell ⟨g,14,none⟩ (.int .i64 0)).setCell ⟨g,2,none⟩ (.slice none 0 0)) g 107 (bt (R.follows t) {v with waits:=.slice none 0 0}):=by
  have s:=(((((h.s.set_ 6 (.int .i64 t)).set_ 7 (.int .i64 0)).set_ 22 (.bool true)).set_ 13 (.int .i64 0)).set_ 14 (.int .i64 0)).set_ 2 (.slice none 0 0);simp only[bt,Zy]at s;exact s
 have e:∀{a b:World},Fr (fun j=>j=g) w a->Fr (fun j=>j=g) a b->Fr (fun j=>j=g) w b:=fun h h'=>h.trans h' fun _ h=>.inl h
 have hF:=e (e (e (e (e (Fr.set (w:=w) g 6 (.int .i64 t)) (Fr.set g 7 (.int .i64 0))) (Fr.set g 22 (.bool true))) (Fr.set g 13 (.int .i64 0))) (Fr.set g 14 (.int .i64 0))) (Fr.set g 2 (.slice none 0 0));have hP:=zH (show aq aa b w g (R.follows t) _ from⟨aa,_,h.numsW hS hF rfl rfl rfl rfl rfl rfl rfl rfl rfl rfl rfl,fun _ _ _=>rfl,fun _ _ h=>h,hF.mono fun j e=>by rw[e];exact⟨by have:=h.sl;omega,by have:=h.sl;omega⟩⟩);clear e hF hS h;go_enter func58,ntmps58;go_wp2_with fail;exact ai rfl rfl ⟨rfl,hP.out⟩
end
end
section
open Go.MapKept
section
variable {aa:Nat->Nat}{b g:Nat}{w w':World}{R:Rf}{v:Rw}
theorem iy{i:Nat}{x:Value}{t:bv}(h:rL aa i w x t)(hN:t.L.length<=100000000000):Calls prog 44 #[x] w fun e w'=>e=.returned (.tuple #[.int .i64 t.lastF.1,.int .i64 t.lastF.2])/\Below w.heap.size w w':=by
 obtain⟨gt,S,A,n,c,zs,rfl,h1,_⟩:=h;exact mP h1 (by have:=h1.len.1;omega)
theorem lG{i:Nat}{x:Value}{t:bv}(k:Int)(h:rL aa i w x t)(hN:t.L.length<=100000000000):Calls prog 89 #[x,.int .i64 k] w fun e w'=>e=.returned (.tuple #[.int .i64 (t.termF k).1,.int .i64 (t.termF k).2])/\Below w.heap.size w w':=by
 obtain⟨gt,S,A,n,c,zs,rfl,h1,_⟩:=h;exact jh k h1 (by have:=h1.len.1;omega)
theorem oB{i:Nat}{x:Value}{t:bv}(k m:Int)(h:rL aa i w x t)(hN:t.L.length<=100000000000):Calls prog 131 #[x,.int .i64 k,.int .i64 m] w fun e w'=>∃A' n' c' zs',e=.returned (.slice A' n' c')/\fG w.heap.size w' A' n' c' zs' (t.sliceF k m)/\Below w.heap.size w w':=by
 obtain⟨gt,S,A,n,c,zs,rfl,h1,_⟩:=h;exact zV k m h1 (by have:=h1.len.1;omega)
theorem F2{i:Nat}{x:Value}{t:bv}(k m:Int)(h:rL aa i w x t)(hN:t.L.length<=100000000000):Calls prog 136 #[x,.int .i64 k,.int .i64 m] w fun e w'=>e=.returned (.int .i64 (t.hintF k m))/\Below w.heap.size w w':=by
 obtain⟨gt,S,A,n,c,zs,rfl,h1,_⟩:=h;exact CO k m h1 (by have:=h1.len.1;omega)
theorem nM{i:Nat}{x:Value}{t:bv}(h:rL aa i w x t):Calls prog 80 #[x] w fun e w'=>e=.returned (.tuple #[.int .i64 t.index,.int .i64 t.term])/\Below w.heap.size w w':=by
 obtain⟨gt,S,A,n,c,zs,rfl,h1,_⟩:=h;refine(CN h1).mono ?_;rintro e w' ⟨rfl,q,rfl⟩;exact⟨rfl,aY zb q⟩
theorem re(m:Mg)(ve vd:Value)(h:av aa b w g R v)(hN:R.track.L.length<=100000000000) :
  Calls prog 135 #[.pointer (some ⟨g,0,none⟩),iw m ve vd] w fun e w'=>e=.returned (.bool (R.newer m))/\Below w.heap.size w w':=by
 have aU:Below w.heap.size w (w.alloc (.cells #[.int .i64 m.kind,.int .i64 m.frm,.int .i64 m.tgt,.int .i64 m.term,.int .i64 m.idx,.int .i64 m.logTerm,.int .i64 m.commit,.int .i64 m.round,.bool m.reject,.int .i64 m.offset,.int .i64 m.total,ve,vd] 39)):=zb.alloc zl _;have cA:=ay.new w 39 #[.int .i64 m.kind,.int .i64 m.frm,.int .i64 m.tgt,.int .i64 m.term,.int .i64 m.idx,.int .i64 m.logTerm,.int .i64 m.commit,.int .i64 m.round,.bool m.reject,.int .i64 m.offset,.int .i64 m.total,ve,vd];have c8:=h.s.cell 8;simp only[bt,vi,Zx]at c8;have bV:=h.s.lt;have h0:=(h.relabel (ac:=relab aa w.heap.size b) fun j hj _=>ae hj);have ci:=iy (h0.below aU).t hN;obtain⟨l1,dm⟩:∃l,R.track.lastF.1=l:=⟨_,rfl⟩;obtain⟨l2,fB⟩:∃l,R.track.lastF.2=l:=⟨_,rfl⟩;have Dl:=zH (show R.newer m=mL m.idx m.logTerm l1 l2 by unfold Rf.newer;rw[dm,fB]);rw[dm,fB]at ci;clear h h0 dm fB;unfold iw;simp only[vi];go_enter func135,ntmps135;go_wp2_with fail;generalize w.alloc (.cells #[.int .i64 m.kind,.int .i64 m.frm,.int .i64 m.tgt,.int .i64 m.term,.int .i64 m.idx,.int .i64 m.logTerm,.int .i64 m.commit,.int .i64 m.round,.bool m.reject,.int .i64 m.offset,.int .i64 m.total,ve,vd] 39)=w1 at *;refine ci.mono ?_;rintro e w2 ⟨rfl,bU⟩;have Qt:=cA.kept bU;obtain⟨a4,a5,-⟩:=Qt.cs [4,5];simp only[Zx]at a4 a5;have aP:=Cc m.idx m.logTerm l1 l2 w2;clear ci;go_wp2_with fail;refine aP.mono ?_;rintro e w3 ⟨rfl,rfl⟩;go_wp2_with fail;go_ret;exact⟨by rw[Dl.out];rfl,aj aU bU zl⟩
end
end
section
open Go.MapKept
section
variable {aa:Nat->Nat}{b g:Nat}{w w' w'':World}{R R' R'':Rf}{v:Rw}
theorem fL(m:Mg)(he:m.entries=[])(hd:m.data=[])(h:av aa b w g R v)(hn:R.out.msgs.length<=10000000000) :
  Calls prog 97 #[.pointer (some ⟨g,0,none⟩),iw m (.slice none 0 0) (.slice none 0 0)] w fun e w'=>e=.returned (.tuple #[])/\aq aa b w g (R.send m) w':=
 rm m _ _ h ⟨by rw[he];exact pQ.nil _ _ _,by rw[hd];exact pc.nil _ _ _⟩ ⟨rfl,rfl⟩ hn
theorem aq.behind(h:aq aa b w' g R' w'')(hb:Below w.heap.size w w'):aq aa b w g R' w'':=by
 obtain⟨ac,v',h1,h2,h3,h4⟩:=h;have hs:=hb.size;exact⟨ac,v',h1,fun j hj hm=>h2 j (by omega) hm,fun j hj hm=>h3 j (by omega) hm,(Fr.of_below hb).trans h4 fun j hj=>.inl hj⟩
theorem aq.next{ar:Nat->Nat}(h:aq ar b w' g R'' w'')(h1:∀j,j<w.heap.size->¬aH aa b j->ar j=aa j)(h2:∀j,j<w.heap.size->aH aa b j->aH ar b j)(hF:Fr (aH aa b) w w'):aq aa b w g R'' w'':=by
 obtain⟨ac,v',q1,q2,q3,q4⟩:=h;have hs:=hF.size;have Id:∀j,j<w.heap.size->aH ar b j->aH aa b j:=fun j hj hm=>by
  rcases Classical.em (aH aa b j)with h|h
  ·exact h
  ·unfold aH at hm h;rw[h1 j hj h]at hm;exact absurd hm h
 refine⟨ac,v',q1,fun j hj hm=>?_,fun j hj hm=>q3 j (by omega) (h2 j hj hm),hF.trans q4 fun j hj=>?_⟩
 ·rw[q2 j (by omega) fun h=>hm (Id j hj h)];exact h1 j hj hm
 ·rcases Nat.lt_or_ge j w.heap.size with hl|hl
  ·exact .inl (Id j hl hj)
  ·exact .inr hl
theorem sS(m:Mg)(ve vd:Value)(h:av aa b w g R v) :
  Calls prog 106 #[.pointer (some ⟨g,0,none⟩),iw m ve vd] w fun e w'=>e=.returned (.tuple #[])/\aq aa b w g (R.hears m) w':=by
 have aU:Below w.heap.size w (w.alloc (.cells #[.int .i64 m.kind,.int .i64 m.frm,.int .i64 m.tgt,.int .i64 m.term,.int .i64 m.idx,.int .i64 m.logTerm,.int .i64 m.commit,.int .i64 m.round,.bool m.reject,.int .i64 m.offset,.int .i64 m.total,ve,vd] 39)):=zb.alloc zl _;have cA:=ay.new w 39 #[.int .i64 m.kind,.int .i64 m.frm,.int .i64 m.tgt,.int .i64 m.term,.int .i64 m.idx,.int .i64 m.logTerm,.int .i64 m.commit,.int .i64 m.round,.bool m.reject,.int .i64 m.offset,.int .i64 m.total,ve,vd];obtain⟨w1,bM⟩:=zN (w.alloc (.cells #[.int .i64 m.kind,.int .i64 m.frm,.int .i64 m.tgt,.int .i64 m.term,.int .i64 m.idx,.int .i64 m.logTerm,.int .i64 m.commit,.int .i64 m.round,.bool m.reject,.int .i64 m.offset,.int .i64 m.total,ve,vd] 39));rw[bM]at aU cA;have bV:=h.s.lt;have h1:=(h.below aU).below (w':=w1.drew) (zb.drew);have hS:ay ((w1.drew.setCell ⟨g,13,none⟩ (.int .i64 0)).setCell ⟨g,14,none⟩ (.int .i64 m.frm)) g 107 (bt {R with role:=0,leader:=m.frm} v):=by
  have s:=(h1.s.set_ 13 (.int .i64 0)).set_ 14 (.int .i64 m.frm);simp only[bt,Zy]at s;exact s
 have hF:Fr (fun j=>j=g) w1.drew ((w1.drew.setCell ⟨g,13,none⟩ (.int .i64 0)).setCell ⟨g,14,none⟩ (.int .i64 m.frm)):=(Fr.set g 13 _).trans (Fr.set g 14 _) fun _ h=>.inl h
 have h2:=h1.nums (R':={R with role:=0,leader:=m.frm}) hS hF rfl rfl rfl rfl rfl rfl rfl rfl rfl rfl rfl;have Az:=qW h2;have Bq:Fr (aH aa b) w ((w1.drew.setCell ⟨g,13,none⟩ (.int .i64 0)).setCell ⟨g,14,none⟩ (.int .i64 m.frm)):=((Fr.of_below aU).trans (Fr.of_below (w:=w1) (X:=aH aa b) (zb.drew)) fun j hj=>.inl hj).trans (hF.mono (X':=aH aa b) fun j e=>by rw[e];exact⟨by have:=h.sl;omega,by have:=h.sl;omega⟩) fun j hj=>.inl hj
 obtain⟨c13,c14,-⟩:=h1.s.cs [13,14];obtain⟨f13,f14,-⟩:=h1.s.fs [13,14];simp only[bt,vi,Zx]at c13 c14;have c14':w1.cell? ⟨g,14,none⟩=some (.int .i64 R.leader):=c14;have f14':w1.frozen? ⟨g,14,none⟩=false:=f14;have a1:=cA.cell 1;simp only[Zx]at a1;have k1:=IX [w.heap.size] a1;have cH:w.heap.size≠g:=by omega
 clear h1 hS hF h2 h;unfold iw;simp only[vi];go_enter func106,ntmps106;go_wp2_with fail;try rw[bM]
 refine gj [w.heap.size] w1 [([0,1,2,3,4,5],6),([7,8],9)] [] ?_;refine aC fun K1 cF=>?_
 simp only[af,Zx];repeat go_big_quiet_step(fail)
 apply wpQuiet_nil;go_wp2_with fail;refine⟨aT (by simp;exact(Fr.set g 13 _).block _ cA.lt cH),cF _ _ ?_⟩;refine aC fun K2 jl=>?_
 simp only[af,Zx];repeat go_big_quiet_step(fail)
 apply wpQuiet_nil;go_wp2_with fail;refine⟨aT (by simp;exact((Fr.set g 14 _).block _ (by simp[World.setCell];exact cA.lt) cH).trans ((Fr.set g 13 _).block _ cA.lt cH)),jl _ _ ?_⟩;refine an ?_;simp only[af];apply wpQuiet_nil;go_wp2_with fail;refine Calls.mono Az ?_;rintro e w3 ⟨rfl,hP⟩;have hQ:=zH (show aq aa b w g (R.hears m) w3 from hP.next (fun _ _ _=>rfl) (fun _ _ h=>h) Bq);go_wp2_with fail;exact ai rfl rfl ⟨rfl,hQ.out⟩
end
end
section
open Go.MapKept
section
variable {aa:Nat->Nat}{b g:Nat}{w:World}{R:Rf}{v:Rw}
theorem E9(m:Mg)(ve vd:Value)(h:av aa b w g R v)(hn:R.out.msgs.length<=10000000000) :
  Calls prog 59 #[.pointer (some ⟨g,0,none⟩),iw m ve vd] w fun e w'=>e=.returned (.tuple #[])/\aq aa b w g (R.late m) w':=by
 have aU:Below w.heap.size w (w.alloc (.cells #[.int .i64 m.kind,.int .i64 m.frm,.int .i64 m.tgt,.int .i64 m.term,.int .i64 m.idx,.int .i64 m.logTerm,.int .i64 m.commit,.int .i64 m.round,.bool m.reject,.int .i64 m.offset,.int .i64 m.total,ve,vd] 39)):=zb.alloc zl _;have Bq:Fr (aH aa b) w (w.alloc (.cells #[.int .i64 m.kind,.int .i64 m.frm,.int .i64 m.tgt,.int .i64 m.term,.int .i64 m.idx,.int .i64 m.logTerm,.int .i64 m.commit,.int .i64 m.round,.bool m.reject,.int .i64 m.offset,.int .i64 m.total,ve,vd] 39)):=Fr.of_below aU;have h1:=h.below aU;have fV:=fL {fx with kind:=m.kind+1,tgt:=m.frm,reject:=true,round:=m.round} rfl rfl h1 hn;have km:aq aa b w g R (w.alloc (.cells #[.int .i64 m.kind,.int .i64 m.frm,.int .i64 m.tgt,.int .i64 m.term,.int .i64 m.idx,.int .i64 m.logTerm,.int .i64 m.commit,.int .i64 m.round,.bool m.reject,.int .i64 m.offset,.int .i64 m.total,ve,vd] 39)):=⟨aa,v,h1,fun _ _ _=>rfl,fun _ _ h=>h,Bq⟩;have bV:=h.s.lt;unfold iw at fV ⊢;simp only[vi,fx]at fV ⊢;clear h h1;by_cases hc:m.kind=3\/m.kind=5\/m.kind=7
 ·have hl:=zH (show R.late m=R.send {fx with kind:=m.kind+1,tgt:=m.frm,reject:=true,round:=m.round}from if_pos hc);rcases hc with hc|hc|hc
  all_goals
   go_enter func59,ntmps59;go_wp2_with fail;rw[hc]at fV aU;refine Calls.mono fV ?_;rintro e w3 ⟨rfl,hP⟩;have hQ:=zH (show aq aa b w g (R.late m) w3 by rw[hl];rw[hc];exact hP.behind aU);go_wp2_with fail;exact ai rfl rfl ⟨rfl,hQ.out⟩
 ·have h3:(m.kind==3)=false:=by simp;omega
  have h5:(m.kind==5)=false:=by simp;omega
  have h7:(m.kind==7)=false:=by simp;omega
  have hl:=zH (show R.late m=R from if_neg hc);replace km:=zH km;clear fV hc;go_enter func59,ntmps59;go_wp2_with fail;refine ai rfl rfl ⟨rfl,?_⟩;rw[hl.out];exact km.out
end
end
section
open Go.MapKept
theorem bf{P:Program}{fn:Func}{R:Ending->World->Prop}{a:Act}{w:World}(hr:fn.results=#[])(hd:a.defers=[])(hR:R (.returned (.tuple #[])) w):bodyPost P fn R .ret a w:=
 bodyPost_ret (by simp[results,hr]) hd hR
section
variable {aa:Nat->Nat}{b g:Nat}{w:World}{R:Rf}{v:Rw}
theorem AY(m:Mg)(ve vd:Value)(h:av aa b w g R v)(hn:R.out.msgs.length<=10000000000)(hN:R.track.L.length<=100000000000) :
  Calls prog 103 #[.pointer (some ⟨g,0,none⟩),iw m ve vd] w fun e w'=>e=.returned (.tuple #[])/\aq aa b w g (R.asked m) w':=by
 have bV:=h.s.lt;obtain⟨c8,c9,c10,c4,-⟩:=h.s.cs [13,14,15,6];simp only[bt,vi,Zx]at c8 c9 c10 c4;have aU:Below w.heap.size w (w.alloc (.cells #[.int .i64 m.kind,.int .i64 m.frm,.int .i64 m.tgt,.int .i64 m.term,.int .i64 m.idx,.int .i64 m.logTerm,.int .i64 m.commit,.int .i64 m.round,.bool m.reject,.int .i64 m.offset,.int .i64 m.total,ve,vd] 39)):=zb.alloc zl _;have cA:=ay.new w 39 #[.int .i64 m.kind,.int .i64 m.frm,.int .i64 m.tgt,.int .i64 m.term,.int .i64 m.idx,.int .i64 m.logTerm,.int .i64 m.commit,.int .i64 m.round,.bool m.reject,.int .i64 m.offset,.int .i64 m.total,ve,vd];obtain⟨w1,bM⟩:=zN (w.alloc (.cells #[.int .i64 m.kind,.int .i64 m.frm,.int .i64 m.tgt,.int .i64 m.term,.int .i64 m.idx,.int .i64 m.logTerm,.int .i64 m.commit,.int .i64 m.round,.bool m.reject,.int .i64 m.offset,.int .i64 m.total,ve,vd] 39));rw[bM]at aU cA;obtain⟨y0,y1,y2,y3,y4,y5,y6,y7,y8,y9,yA,yB,yC,-⟩:=cA.cs [0,1,2,3,4,5,6,7,8,9,10,11,12];simp only[Zx]at y0 y1 y2 y3 y4 y5 y6 y7 y8 y9 yA yB yC;obtain⟨k0,k1,k2,k3,k4,k5,k6,k7,k8,k9,kA,kB,kC⟩:=Aa [g,w.heap.size] y0 y1 y2 y3 y4 y5 y6 y7 y8 y9 yA yB yC;have c4':=(aU.cell (aG c4)).trans c4;have c8':=(aU.cell (aG c8)).trans c8;have c9':=(aU.cell (aG c9)).trans c9;have c10':=(aU.cell (aG c10)).trans c10;have kD:=IX [g,w.heap.size] c4';have bY:∀q∈[g,w.heap.size],q<w1.heap.size:=by simp;exact⟨by have:=aU.size;omega,cA.lt⟩
 have dR:=re m ve vd ((h.below aU).below (w':=w1.drew) (zb.drew)) hN;obtain⟨x,hx⟩:=zN (R.newer m);rw[hx]at dR;have iu:=zH (show(R.role≠3/\(R.leader=0\/10<=R.clock))->R.hard.term<m.term->x=true->R.asked m=R.send {fx with kind:=2,tgt:=m.frm,term:=m.term}from fun h1 h2 h3=>if_pos ⟨h1,h2,hx.trans h3⟩);have dn:=zH (show ¬((R.role≠3/\(R.leader=0\/10<=R.clock))/\R.hard.term<m.term/\x=true)->R.asked m=R.send {fx with kind:=2,tgt:=m.frm,reject:=true}from fun h1=>if_neg (by rw[hx];exact h1));have Ka:=zH (show ∀w3,Below w.heap.size w w3->Calls prog 97 #[.pointer (some ⟨g,0,none⟩),iw {fx with kind:=2,tgt:=m.frm,term:=m.term} (.slice none 0 0) (.slice none 0 0)] w3 (fun e w'=>e=.returned (.tuple #[])/\aq aa b w g (R.send {fx with kind:=2,tgt:=m.frm,term:=m.term}) w')from fun w3 hb=>(fL {fx with kind:=2,tgt:=m.frm,term:=m.term} rfl rfl (h.below hb) hn).mono fun e w' q=>⟨q.1,q.2.behind hb⟩);have qt:=zH (show ∀w3,Below w.heap.size w w3->Calls prog 97 #[.pointer (some ⟨g,0,none⟩),iw {fx with kind:=2,tgt:=m.frm,reject:=true} (.slice none 0 0) (.slice none 0 0)] w3 (fun e w'=>e=.returned (.tuple #[])/\aq aa b w g (R.send {fx with kind:=2,tgt:=m.frm,reject:=true}) w')from fun w3 hb=>(fL {fx with kind:=2,tgt:=m.frm,reject:=true} rfl rfl (h.below hb) hn).mono fun e w' q=>⟨q.1,q.2.behind hb⟩);unfold iw at dR ⊢;simp only[vi]at dR ⊢;clear h;by_cases hF:(R.role≠3/\(R.leader=0\/10<=R.clock))/\R.hard.term<m.term
 ·have hY:=zH (show x=true->R.asked m=R.send {fx with kind:=2,tgt:=m.frm,term:=m.term}from iu.out hF.1 hF.2);have I7:=zH (show x=false->R.asked m=R.send {fx with kind:=2,tgt:=m.frm,reject:=true}from fun hx=>dn.out (by rw[hx];simp));have fA:((R.role !=3)=true/\decide (m.term>R.hard.term)=true)/\((R.leader==0)=true\/((R.leader==0)=false/\decide (10<=R.clock)=true)):=by
   simp;omega
  obtain⟨⟨e1,e4⟩,e2⟩:=fA;replace hF:=zH hF;clear iu dn;rcases e2 with e2|⟨e2,e3⟩
  all_goals
   go_enter func103,ntmps103;go_wp2_with fail;try rw[bM]
   refine gj [g,w.heap.size] w1 [([0,1,2,3,4,5,6,7,8,9,10,11,12,13],14)] [15] ?_;refine aC fun K1 cF=>?_
   simp only[af,Zx];repeat go_big_quiet_step(fail)
   apply wpQuiet_nil;go_wp2_with fail;refine dR.mono ?_;rintro e w3 ⟨rfl,cv⟩;go_wp2_with fail;have ob:Below w.heap.size w w3:=aj (aY aU 1) cv zl;have y1w:=(Below.cell ((zb.drew).trans cv) (aG y1)).trans y1;have y3w:=(Below.cell ((zb.drew).trans cv) (aG y3)).trans y3;refine⟨aw bY ((zb.drew).trans cv),cF _ _ ?_⟩;refine an ?_;simp only[af,Zx];repeat go_big_quiet_step(fail)
   apply wpQuiet_nil;cases x
   ·go_wp2_with fail;refine Calls.mono (qt.out _ ob) ?_;rintro e w4 ⟨rfl,hP⟩;have hQ:=zH (show aq aa b w g (R.asked m) w4 by rw[I7.out trivial];exact hP);go_wp2_with fail;exact ai rfl rfl ⟨rfl,hQ.out⟩
   ·go_wp2_with fail;refine Calls.mono (Ka.out _ ob) ?_;rintro e w4 ⟨rfl,hP⟩;have hQ:=zH (show aq aa b w g (R.asked m) w4 by rw[hY.out trivial];exact hP);go_wp2_with fail;exact bf rfl rfl ⟨rfl,hQ.out⟩
 ·have I7:=zH (show R.asked m=R.send {fx with kind:=2,tgt:=m.frm,reject:=true}from dn.out fun h=>hF ⟨h.1,h.2.1⟩);have fA:((R.role !=3)=false/\decide (m.term>R.hard.term)=true)\/((R.role !=3)=false/\decide (m.term>R.hard.term)=false)\/((R.role !=3)=true/\(R.leader==0)=true/\decide (m.term>R.hard.term)=false)\/((R.role !=3)=true/\(R.leader==0)=false/\decide (10<=R.clock)=true/\decide (m.term>R.hard.term)=false)\/((R.role !=3)=true/\(R.leader==0)=false/\decide (10<=R.clock)=false/\decide (m.term>R.hard.term)=true)\/((R.role !=3)=true/\(R.leader==0)=false/\decide (10<=R.clock)=false/\decide (m.term>R.hard.term)=false):=by
   simp;omega
  have ob:Below w.heap.size w w1.drew:=aY aU 1;replace hF:=zH hF;clear iu dn dR hx;rcases fA with⟨e1,e4⟩|⟨e1,e4⟩|⟨e1,e2,e4⟩|⟨e1,e2,e3,e4⟩|⟨e1,e2,e3,e4⟩|⟨e1,e2,e3,e4⟩
  all_goals
   go_enter func103,ntmps103;go_wp2_with fail;try rw[bM]
   refine gj [g,w.heap.size] w1 [([0,1,2,3,4,5,6,7,8,9,10,11,12,13],14)] [15] ?_;refine aC fun K1 cF=>?_
   simp only[af,Zx];repeat go_big_quiet_step(fail)
   apply wpQuiet_nil;go_wp2_with fail;refine⟨az,cF _ _ ?_⟩;refine an ?_;simp only[af,Zx];repeat go_big_quiet_step(fail)
   apply wpQuiet_nil;go_wp2_with fail;refine Calls.mono (qt.out _ ob) ?_;rintro e w4 ⟨rfl,hP⟩;have hQ:=zH (show aq aa b w g (R.asked m) w4 by rw[I7.out];exact hP);go_wp2_with fail;exact ai rfl rfl ⟨rfl,hQ.out⟩
end
end
section
open Go.MapKept
section
variable {aa:Nat->Nat}{b g:Nat}{w w1 w2:World}{R R1 R2:Rf}{v:Rw}
theorem aq.call{f:Nat}{args:Array Value}{E:Ending}(h:aq aa b w g R1 w1)(hc:∀ar v1,av ar b w1 g R1 v1->Calls prog f args w1 fun e w'=>e=E/\aq ar b w1 g R2 w') :
  Calls prog f args w1 fun e w'=>e=E/\aq aa b w g R2 w':=by
 obtain⟨ar,v1,h1,h2,h3,h4⟩:=h;exact(hc ar v1 h1).mono fun e w' q=>⟨q.1,q.2.next h2 h3 h4⟩
theorem aq.fr(h:aq aa b w g R1 w1):Fr (aH aa b) w w1:=by
 obtain⟨ar,v1,h1,h2,h3,h4⟩:=h;exact h4
theorem aq.fresh(h:aq (relab aa w.heap.size b) b w1 g R1 w2)(hb:Below w.heap.size w w1):aq aa b w g R1 w2:=by
 obtain⟨ac,v',h1,h2,h3,h4⟩:=h;have hs:=hb.size;have hm:∀j,j<w.heap.size->(aH (relab aa w.heap.size b) b j↔aH aa b j):=fun j hj=>by
  unfold aH;rw[ae hj]
 refine⟨ac,v',h1,fun j hj hn=>?_,fun j hj hn=>h3 j (by omega) ((hm j hj).2 hn),(Fr.of_below (X:=aH aa b) hb).trans h4 fun j hj=>?_⟩
 ·rw[h2 j (by omega) fun h=>hn ((hm j hj).1 h)];exact ae hj
 ·rcases Nat.lt_or_ge j w.heap.size with hl|hl
  ·exact .inl ((hm j hl).1 hj)
  ·exact .inr hl
theorem av.fresh(h:av aa b w g R v)(hb:Below w.heap.size w w1):av (relab aa w.heap.size b) b w1 g R v:=
 (h.relabel (ac:=relab aa w.heap.size b) fun _ hj _=>ae hj).below hb
theorem aq.new(h:aq (relab aa w.heap.size b) b w1 g R1 w2){j:Nat}(hj:w.heap.size<=j)(hl:j<w1.heap.size):w2.heap[j]?=w1.heap[j]?:=
 h.fr.block j hl fun hm=>by
  unfold aH at hm;rw[aA hj]at hm;omega
theorem CV(m:Mg)(ve vd:Value)(h:av aa b w g R v)(hn:R.out.msgs.length<=10000000000)(hN:R.track.L.length<=100000000000) :
  Calls prog 104 #[.pointer (some ⟨g,0,none⟩),iw m ve vd] w fun e w'=>e=.returned (.tuple #[])/\aq aa b w g (R.votes m) w':=by
 have bV:=h.s.lt;have c7:=h.s.cell 7;simp only[bt,vi,Zx]at c7;have aU:Below w.heap.size w (w.alloc (.cells #[.int .i64 m.kind,.int .i64 m.frm,.int .i64 m.tgt,.int .i64 m.term,.int .i64 m.idx,.int .i64 m.logTerm,.int .i64 m.commit,.int .i64 m.round,.bool m.reject,.int .i64 m.offset,.int .i64 m.total,ve,vd] 39)):=zb.alloc zl _;have cA:=ay.new w 39 #[.int .i64 m.kind,.int .i64 m.frm,.int .i64 m.tgt,.int .i64 m.term,.int .i64 m.idx,.int .i64 m.logTerm,.int .i64 m.commit,.int .i64 m.round,.bool m.reject,.int .i64 m.offset,.int .i64 m.total,ve,vd];obtain⟨w1,bM⟩:=zN (w.alloc (.cells #[.int .i64 m.kind,.int .i64 m.frm,.int .i64 m.tgt,.int .i64 m.term,.int .i64 m.idx,.int .i64 m.logTerm,.int .i64 m.commit,.int .i64 m.round,.bool m.reject,.int .i64 m.offset,.int .i64 m.total,ve,vd] 39));rw[bM]at aU cA;obtain⟨y0,y1,y2,y3,y4,y5,y6,y7,y8,y9,yA,yB,yC,-⟩:=cA.cs [0,1,2,3,4,5,6,7,8,9,10,11,12];simp only[Zx]at y0 y1 y2 y3 y4 y5 y6 y7 y8 y9 yA yB yC;obtain⟨k0,k1,k2,k3,k4,k5,k6,k7,k8,k9,kA,kB,kC⟩:=Aa [g,w.heap.size] y0 y1 y2 y3 y4 y5 y6 y7 y8 y9 yA yB yC;have c7':=(aU.cell (aG c7)).trans c7;have kD:=IX [g,w.heap.size] c7';have bY:∀q∈[g,w.heap.size],q<w1.heap.size:=by simp;exact⟨by have:=aU.size;omega,cA.lt⟩
 have dR:=re m ve vd ((h.below aU).below (w':=w1.drew) (zb.drew)) hN;obtain⟨x,hx⟩:=zN (R.newer m);rw[hx]at dR;have dn:=zH (show ¬((R.hard.vote=0\/R.hard.vote=m.frm)/\x=true)->R.votes m=R.send {fx with kind:=4,tgt:=m.frm,reject:=true}from fun h1=>if_neg (by rw[hx];exact h1));have iu:=zH (show(R.hard.vote=0\/R.hard.vote=m.frm)->x=true->R.votes m=({R with hard:=⟨R.hard.term,m.frm⟩,out:={R.out with save:=true}}:Rf).rest.send {fx with kind:=4,tgt:=m.frm,reject:=false}from fun h1 h2=>if_pos ⟨h1,by rw[hx];exact h2⟩);have qt:=zH (show ∀w3,Below w.heap.size w w3->Calls prog 97 #[.pointer (some ⟨g,0,none⟩),iw {fx with kind:=4,tgt:=m.frm,reject:=true} (.slice none 0 0) (.slice none 0 0)] w3 (fun e w'=>e=.returned (.tuple #[])/\aq aa b w g (R.send {fx with kind:=4,tgt:=m.frm,reject:=true}) w')from fun w3 hb=>(fL {fx with kind:=4,tgt:=m.frm,reject:=true} rfl rfl (h.below hb) hn).mono fun e w' q=>⟨q.1,q.2.behind hb⟩);have hH:=zH h;unfold iw at dR ⊢;simp only[vi]at dR ⊢;clear h;by_cases hF:R.hard.vote=0\/R.hard.vote=m.frm
 ·have fA:(R.hard.vote==0)=true\/((R.hard.vote==0)=false/\(R.hard.vote==m.frm)=true):=by
   simp;omega
  replace hF:=zH hF;rcases fA with e1|⟨e1,e2⟩
  all_goals
   go_enter func104,ntmps104;go_wp2_with fail;try rw[bM]
   refine gj [g,w.heap.size] w1 [([0,1,2,3,4,5,6,7,8,9,10,11,12,13,14,15,16,17,18],19)] [20,21] ?_;refine aC fun K1 cF=>?_
   simp only[af,Zx];repeat go_big_quiet_step(fail)
   apply wpQuiet_nil;go_wp2_with fail;refine dR.mono ?_;rintro e w3 ⟨rfl,cv⟩;go_wp2_with fail;have ob:Below w.heap.size w w3:=aj (aY aU 1) cv zl;have y1w:=(Below.cell ((zb.drew).trans cv) (aG y1)).trans y1;have dZ:w.heap.size<w3.heap.size:=aG y1w;refine⟨aw bY ((zb.drew).trans cv),cF _ _ ?_⟩;refine an ?_;simp only[af,Zx];repeat go_big_quiet_step(fail)
   apply wpQuiet_nil;cases x
   ·clear hH;go_wp2_with fail;refine Calls.mono (qt.out _ ob) ?_;rintro e w4 ⟨rfl,hP⟩;have hQ:=zH (show aq aa b w g (R.votes m) w4 by rw[dn.out (by simp)];exact hP);go_wp2_with fail;exact ai rfl rfl ⟨rfl,hQ.out⟩
   ·have h3:=hH.out.fresh ob;have hS:ay ((w3.setCell ⟨g,7,none⟩ (.int .i64 m.frm)).setCell ⟨g,22,none⟩ (.bool true)) g 107 (bt {R with hard:=⟨R.hard.term,m.frm⟩,out:={R.out with save:=true}} v):=by
     have s:=(h3.s.set_ 7 (.int .i64 m.frm)).set_ 22 (.bool true);simp only[bt,Zy]at s;exact s
    have DY:Fr (fun j=>j=g) w3 ((w3.setCell ⟨g,7,none⟩ (.int .i64 m.frm)).setCell ⟨g,22,none⟩ (.bool true)):=(Fr.set g 7 _).trans (Fr.set g 22 _) fun _ h=>.inl h
    have xM:aq (relab aa w.heap.size b) b w3 g {R with hard:=⟨R.hard.term,m.frm⟩,out:={R.out with save:=true}} _:=aq.nums h3 hS DY rfl rfl rfl rfl rfl rfl rfl rfl rfl rfl rfl;obtain⟨c7w,c22w,-⟩:=h3.s.cs [7,22];obtain⟨f7w,f22w,-⟩:=h3.s.fs [7,22];simp only[bt,vi,Zx]at c7w c22w;have Az:=xM.call (fun ar v1 h=>qW h);replace xM:=zH xM;clear h3 hS DY hH;go_wp2_with fail;refine Calls.mono Az ?_;rintro e w4 ⟨rfl,hP⟩;have y1z:=(World.cell?_of_block (a:=⟨w.heap.size,1,none⟩) (hP.new zl dZ)).trans y1w;have fV:=hP.call (fun ar v1 h=>fL {fx with kind:=4,tgt:=m.frm,reject:=false} rfl rfl h hn);unfold iw at fV;simp only[vi]at fV;clear Az hP;go_wp2_with fail;refine Calls.mono fV ?_;rintro e w5 ⟨rfl,hP⟩;have hQ:=zH (show aq aa b w g (R.votes m) w5 by rw[iu.out hF.out trivial];exact hP.fresh ob);go_wp2_with fail;exact ai rfl rfl ⟨rfl,hQ.out⟩
 ·have I7:=zH (show R.votes m=R.send {fx with kind:=4,tgt:=m.frm,reject:=true}from dn.out fun h=>hF h.1);have e1:(R.hard.vote==0)=false:=by simp;omega
  have e2:(R.hard.vote==m.frm)=false:=by simp;omega
  have ob:Below w.heap.size w w1.drew:=aY aU 1;replace hF:=zH hF;clear iu dn dR hx hH;go_enter func104,ntmps104;go_wp2_with fail;try rw[bM]
  refine gj [g,w.heap.size] w1 [([0,1,2,3,4,5,6,7,8,9,10,11,12,13,14,15,16,17,18],19)] [20,21] ?_;refine aC fun K1 cF=>?_
  simp only[af,Zx];repeat go_big_quiet_step(fail)
  apply wpQuiet_nil;go_wp2_with fail;refine⟨az,cF _ _ ?_⟩;refine an ?_;simp only[af,Zx];repeat go_big_quiet_step(fail)
  apply wpQuiet_nil;go_wp2_with fail;refine Calls.mono (qt.out _ ob) ?_;rintro e w4 ⟨rfl,hP⟩;have hQ:=zH (show aq aa b w g (R.votes m) w4 by rw[I7.out];exact hP);go_wp2_with fail;exact ai rfl rfl ⟨rfl,hQ.out⟩
end
end
end Go.Proofs.YtjcninheccmpoaaGreat
