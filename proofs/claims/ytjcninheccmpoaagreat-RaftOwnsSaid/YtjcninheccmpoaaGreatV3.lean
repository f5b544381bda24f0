import Derived.Test.YtjcninheccmpoaaGreatV2
import Derived.Laws.Bits64b
import Derived.Test.YtjcninheccmpoaaGreatProg
import Derived.Shelf.Sort.Plain
import Derived.Ground.NamesProg
set_option maxRecDepth 100000
set_option maxHeartbeats 8000000
set_option linter.all false
namespace Go.Proofs.YtjcninheccmpoaaGreat
open Go.RowKit Go.Proofs.Tryz
theorem bO{a b:Nat}{w w':World}(h1:w'.heap[a]?=w.heap[a]?)(h2:w'.heap[b]?=w.heap[b]?):dS [a,b] w w':=dT fun q hq=>by
 simp only[List.mem_cons,List.not_mem_nil,or_false]at hq;rcases hq with rfl|rfl
 ·exact h1
 ·exact h2
def iJ(B:Nat)(S:Nat->Prop)(w:World)(g:Nat)(A:Option Addr)(t':bD)(M:Nat)(w':World):Prop:=
 ∃(A':Option Addr) (n' c':Nat) (zs':List (Value×En)) (S':Nat->Prop),cX B S' w' g t' A' n' c' zs'/\(∀j,S' j->S j\/(w.heap.size<=j/\j<M))/\(∀j,aA A' j->aA A j\/w.heap.size<=j)/\M<=w'.heap.size/\Fr (fun j=>j=g\/aA A j) w w'
section
variable {B:Nat}{S:Nat->Prop}{w w':World}{g n c:Nat}{t:bD}{A:Option Addr}{zs:List (Value×En)}
theorem iJ.same(h:cX B S w g t A n c zs)(hb:Below w.heap.size w w'):iJ B S w g A t w'.heap.size w':=
 ⟨A,n,c,zs,S,h.below hb,fun _ h=>.inl h,fun _ h=>.inl h,Nat.le_refl _,Fr.of_below hb⟩
theorem uP{tm:Int}{x:En}(h:1099511627776<=t.lastF.1):t.putF tm x=((gc,41),t):=if_pos h
theorem zF{tm:Int}{x:En}(h:¬1099511627776<=t.lastF.1)(h2:tm<t.lastF.2\/dM (lh (t.lastF.1+1) tm x)=false):t.putF tm x=((gc,1),t):=by unfold bD.putF;rw[if_neg h,if_pos h2]
theorem C3{tm:Int}{x:En}(h:¬1099511627776<=t.lastF.1)(h1:¬tm<t.lastF.2)(h2:dM (lh (t.lastF.1+1) tm x)=true):t.putF tm x=((lh (t.lastF.1+1) tm x,0),{t with L:=t.L++[lh (t.lastF.1+1) tm x]}):=by
 unfold bD.putF;rw[if_neg h,if_neg (by rintro(h'|h');exact h1 h';rw[h2]at h';cases h')]
theorem cX.moveT{X:Nat->Prop}(h:cX B S w g t A n c zs)(hF:Fr X w w')(hg:¬X g)(hr:∀j,aA A j->¬X j)(hT:bq TD w w'):cX B S w' g t A n c zs:=
 h.keep fun j hj hl=>by
  rcases hj with rfl|hj|hj
  ·exact hF.block _ hl hg
  ·exact hF.block _ hl (hr j hj)
  ·exact hT j (h.s j hj)
theorem Fr.set6(w:World)(g:Nat)(z:Value×En):Fr (fun j=>j=g) w (set6 w g z):=
 have k:∀j,j=g->j=g\/w.heap.size<=j:=fun _ h=>.inl h
 have e:∀{a b:World},Fr (fun j=>j=g) w a->Fr (fun j=>j=g) a b->Fr (fun j=>j=g) w b:=fun h h'=>h.trans h' k
 e (e (e (e (e (Fr.set g 0 _) (Fr.set g 1 _)) (Fr.set g 2 _)) (Fr.set g 3 _)) (Fr.set g 4 _)) (Fr.set g 5 _)
theorem cX.setRow{S7:Nat->Prop}{w7:World}{A7:Option Addr}{n7 c7:Nat}{zs7:List (Value×En)}{L7:List En}(hg:B<=g)(hk:ao w7 g 152 #[.int .i64 t.index,.int .i64 t.term,.slice A n c])
  (ho:w7.ownsRow B 59 6 (.slice A7 n7 c7) n7 (zs7.flatMap cl)) (hd:bo S7 w7 zs7) (hl:zs7.map (·.2)=L7) (hi:bD.Inv {t with L:=L7}) (hs:∀j,S7 j->qU TD w7 j) :
  cX B S7 (w7.setCell ⟨g,2,none⟩ (.slice A7 n7 c7)) g {t with L:=L7} A7 n7 c7 zs7 where
 b:=by simpa using hk.set_ 2 (.slice A7 n7 c7)
 o:=cN ho fun j hj hl=>(Fr.set g 2 _).block j hl fun e=>by
  obtain⟨_,_,cs,h⟩:=aw ho A7 c7 rfl j hj;rw[e]at h;unfold ao at hk;rw[hk]at h;injection h with h;injection h with _ h;exact absurd h (by decide)
 d:=hd.keep fun j hj hl=>bq.set (L:=TD) hk (by decide) j (hs j hj)
 l:=hl
 i:=hi
 g:=hg
 s:=fun j hj=>(hs j hj).move (bq.set hk (by decide))
theorem Ir(S2:Nat->Prop)(tm:Int)(x:En)(V:Option Addr)(m d:Nat)(h:cX B S w g t A n c zs)(hn:n<=1000000)(hB:B<=w.heap.size)(hf:aG S2 w (.slice V m d) x.facts)(hm:m<=maxLen)(ki:∀j,S2 j->¬(j=g\/aA A j)) :
  Calls prog 66 #[.pointer (some ⟨g,0,none⟩),.int .i64 tm,qc x (.slice V m d)] w fun e w'=>∃vy,e=.returned (.tuple #[mM (t.putF tm x).1.1 vy,.int .i64 (t.putF tm x).1.2])/\∃M,aG (bG TD M w') w' vy (t.putF tm x).1.1.facts/\w.heap.size<=M/\iJ B S w g A (t.putF tm x).2 M w':=by
 have CI:=h.i.last;have hb:=h.i.b;have hr:=h.i.room;rw[<-h.len.1]at CI hr;have xp:=h.i.lastB;have oc:=zH (fun h1=>uP (t:=t) (tm:=tm) (x:=x) h1);have qg:=zH (fun h1 h2=>zF (t:=t) (tm:=tm) (x:=x) h1 h2);have cR:=zH (fun h1 h2 h3=>C3 (t:=t) (tm:=tm) (x:=x) h1 h2 h3);have jr:=zH (fun p q r=>h.i.put (x:=lh (t.lastF.1+1) tm x) p q r);obtain⟨aI,cA,eY⟩:=gE w 42 59 #[.int .i64 x.op,.int .i64 x.sess,.int .i64 x.seq,.slice V m d] #[.int .i64 0,.int .i64 0,.int .i64 0,.int .i64 0,.int .i64 0,.slice none 0 0];have hA:=h.below aI;have Qs:=hf.keep (bA.below (S:=S2) aI);have bH:=nL hA hn;obtain⟨l2,dG⟩:=zN (t.lastF.2);obtain⟨l1,cD⟩:=zN (t.lastF.1);rw[cD]at CI oc qg cR jr;rw[dG]at xp qg cR jr;rw[cD,dG]at bH;have DP:0<=l1/\l1<=1099511627776:=by omega
 clear cD dG CI hr;unfold qc;go_enter func66,ntmps66;go_wp2_with fail;generalize(w.alloc (.cells #[.int .i64 x.op,.int .i64 x.sess,.int .i64 x.seq,.slice V m d] 42)).alloc (.cells #[.int .i64 0,.int .i64 0,.int .i64 0,.int .i64 0,.int .i64 0,.slice none 0 0] 59)=w1 at *;refine bH.mono ?_;rintro e w2 ⟨rfl,bQ⟩;clear bH;have h2:=hA.below bQ;have qz:=Qs.keep (bA.below (S:=S2) bQ);have dF:=ab aI bQ zl;have b1:=cA.kept bQ;have b2:=eY.kept bQ;obtain⟨c0,c1,c2,c3,-⟩:=b1.cs [0,1,2,3];simp only[Zx]at c0 c1 c2 c3;have pK:=b2.lt;clear hA Qs cA eY bQ b1;have ru:Below w2.heap.size w2 (w2.alloc (.cells #[.int .i64 (l1+1),.int .i64 tm,.int .i64 x.op,.int .i64 x.sess,.int .i64 x.seq,.slice V m d] 59)):=zb.alloc zl _;have b3:=ao.new w2 59 #[.int .i64 (l1+1),.int .i64 tm,.int .i64 x.op,.int .i64 x.sess,.int .i64 x.seq,.slice V m d];have b2:=b2.kept ru;have h3:=h2.below ru;have xm:=qz.keep (bA.below (S:=S2) ru);have eF:=ab dF ru zl;go_upto_block 0 with fail
 generalize jm:w2.alloc (.cells #[.int .i64 (l1+1),.int .i64 tm,.int .i64 x.op,.int .i64 x.sess,.int .i64 x.seq,.slice V m d] 59)=w3 at *;clear jm ru h2 qz c0 c1 c2 c3;have yM:w.heap.size+1≠w2.heap.size:=by omega
 have O7:w.heap.size<=w2.heap.size:=by omega
 generalize w2.heap.size=g3 at *;clear dF pK;have cW:=h.b.lt;have CO:∀j,aA A j->j<w.heap.size:=fun j hj=>(aw h.o A c rfl j hj).1
 have fin:∀(w5 w6:World) (y:En) (v:Value),Below w.heap.size w w5->ao w5 (w.heap.size+1) 59 #[.int .i64 0,.int .i64 0,.int .i64 0,.int .i64 0,.int .i64 0,.slice none 0 0]->set6 w5 (w.heap.size+1) (v,y)=w6->
   ao w6 (w.heap.size+1) 59 #[.int .i64 y.idx,.int .i64 y.term,.int .i64 y.op,.int .i64 y.sess,.int .i64 y.seq,v]/\bq TD w5 w6/\Below w.heap.size w w6/\Fr (fun j=>j=w.heap.size+1) w5 w6:=fun w5 w6 y v hb hk e=>by
  subst e;obtain⟨s1,s2,s3⟩:=eT (v,y) hk rfl;exact⟨s1,s2 _ (by decide),hb.trans (s3 _ (by omega)),Fr.set6 _ _ _⟩
 have finE:∀(w5 w6:World) (k:Int),cX B S w5 g t A n c zs->Below w.heap.size w w5->ao w5 (w.heap.size+1) 59 #[.int .i64 0,.int .i64 0,.int .i64 0,.int .i64 0,.int .i64 0,.slice none 0 0]->set6 w5 (w.heap.size+1) (.slice none 0 0,gc)=w6->t.putF tm x=((gc,k),t)->
   ao w6 (w.heap.size+1) 59 #[.int .i64 0,.int .i64 0,.int .i64 0,.int .i64 0,.int .i64 0,.slice none 0 0]/\
   ∃vy,Ending.returned (.tuple #[.agg #[.int .i64 0,.int .i64 0,.int .i64 0,.int .i64 0,.int .i64 0,.slice none 0 0],.int .i64 k])=.returned (.tuple #[mM (t.putF tm x).1.1 vy,.int .i64 (t.putF tm x).1.2])/\∃M,aG (bG TD M w6) w6 vy (t.putF tm x).1.1.facts/\w.heap.size<=M/\iJ B S w g A (t.putF tm x).2 M w6:=fun w5 w6 k h5 hb hk e he=>by
  obtain⟨s1,s2,s3,s4⟩:=fin w5 w6 gc _ hb hk e;rw[he];refine⟨s1,.slice none 0 0,rfl,w6.heap.size,aG.nil _ _,s3.size,A,n,c,zs,S,?_,fun _ h=>.inl h,fun _ h=>.inl h,Nat.le_refl _,Fr.of_below s3⟩;exact h5.moveT s4 (by omega) (fun j hj=>by have:=CO j hj;omega) s2
 obtain⟨d0,d1,d2,d3,d4,d5,-⟩:=b2.cs [0,1,2,3,4,5];obtain⟨f0,f1,f2,f3,f4,f5,-⟩:=b2.fs [0,1,2,3,4,5];simp only[Zx]at d0 d1 d2 d3 d4 d5;by_cases i1:1099511627776<=l1
 ·have he:=oc.out i1;have aE:=finE w3 _ 41 h3 eF b2 rfl he;have aE:=zH aE;clear he finE fin CO;go_wp2_with fail;replace aE:=aE.out;show bodyPost _ _ _ _ _ (set6 w3 (w.heap.size+1) (.slice none 0 0,gc));generalize set6 w3 (w.heap.size+1) (.slice none 0 0,gc)=w9 at *;obtain⟨q,aE⟩:=aE;obtain⟨r0,r1,r2,r3,r4,r5,-⟩:=q.cs [0,1,2,3,4,5];simp only[Zx]at r0 r1 r2 r3 r4 r5;exact bodyPost_ret (v:=.tuple #[.agg #[.int .i64 0,.int .i64 0,.int .i64 0,.int .i64 0,.int .i64 0,.slice none 0 0],.int .i64 41]) (by simp[results,results66,go_sem,r0,r1,r2,r3,r4,r5]) rfl aE
 ·by_cases i2:tm<l2
  ·have he:=qg.out (by omega) (.inl i2);have aE:=finE w3 _ 1 h3 eF b2 rfl he;have aE:=zH aE;clear he finE fin CO;go_wp2_with fail;replace aE:=aE.out;show bodyPost _ _ _ _ _ (set6 w3 (w.heap.size+1) (.slice none 0 0,gc));generalize set6 w3 (w.heap.size+1) (.slice none 0 0,gc)=w9 at *;obtain⟨q,aE⟩:=aE;obtain⟨r0,r1,r2,r3,r4,r5,-⟩:=q.cs [0,1,2,3,4,5];simp only[Zx]at r0 r1 r2 r3 r4 r5;exact bodyPost_ret (v:=.tuple #[.agg #[.int .i64 0,.int .i64 0,.int .i64 0,.int .i64 0,.int .i64 0,.slice none 0 0],.int .i64 1]) (by simp[results,results66,go_sem,r0,r1,r2,r3,r4,r5]) rfl aE
  ·have aH:=sN S2 (lh (l1+1) tm x) V m d w3 xm hm;obtain⟨bp,qy⟩:=zN (dM (lh (l1+1) tm x));rw[qy]at aH;unfold mM lh at aH;dsimp only at aH;obtain⟨a0,a1,a2,a3,a4,a5,-⟩:=b3.cs [0,1,2,3,4,5];simp only[Zx]at a0 a1 a2 a3 a4 a5;go_wp2_with fail;refine aH.mono ?_;rintro e w4 ⟨rfl,cO⟩;have b2:=b2.kept cO;have b3:=b3.kept cO;have h4:=h3.below cO;have Jz:=xm.keep (bA.below (S:=S2) cO);have iH:=ab eF cO zl;clear h3 xm cO eF aH d0 d1 d2 d3 d4 d5 f0 f1 f2 f3 f4 f5 a0 a1 a2 a3 a4 a5;obtain⟨d0,d1,d2,d3,d4,d5,-⟩:=b2.cs [0,1,2,3,4,5];obtain⟨f0,f1,f2,f3,f4,f5,-⟩:=b2.fs [0,1,2,3,4,5];obtain⟨a0,a1,a2,a3,a4,a5,-⟩:=b3.cs [0,1,2,3,4,5];simp only[Zx]at d0 d1 d2 d3 d4 d5 a0 a1 a2 a3 a4 a5;cases bp with
   | false=>
    have he:=qg.out (by omega) (.inr qy);have aE:=finE w4 _ 1 h4 iH b2 rfl he;have aE:=zH aE;clear he finE fin CO qy;go_wp2_with fail;replace aE:=aE.out;show bodyPost _ _ _ _ _ (set6 w4 (w.heap.size+1) (.slice none 0 0,gc));generalize set6 w4 (w.heap.size+1) (.slice none 0 0,gc)=w9 at *;obtain⟨q,aE⟩:=aE;obtain⟨r0,r1,r2,r3,r4,r5,-⟩:=q.cs [0,1,2,3,4,5];simp only[Zx]at r0 r1 r2 r3 r4 r5;exact bodyPost_ret (v:=.tuple #[.agg #[.int .i64 0,.int .i64 0,.int .i64 0,.int .i64 0,.int .i64 0,.slice none 0 0],.int .i64 1]) (by simp[results,results66,go_sem,r0,r1,r2,r3,r4,r5]) rfl aE
   | true=>
    have he:=zH (cR.out (by omega) (by omega) qy);have BN:=lZ qy;have qy:=zH qy;have aH:=oz S2 (lh (l1+1) tm x) V m d w4 Jz BN;unfold mM lh at aH;dsimp only at aH;have kg:=zK [g,g3] h4.cells.2.2 (by simp);obtain⟨k0,k1,k2,k3,k4,k5⟩:=Pb [g,g3] a0 a1 a2 a3 a4 a5;have UM:=h4.b.lt;have UL:=b3.lt;have dA:∀q∈[g,g3],q<w4.heap.size:=by simp;exact⟨UM,UL⟩
    clear finE d0 d1 d2 d3 d4 d5 f0 f1 f2 f3 f4 f5 oc qg cR;have aH:Calls prog 91 #[.agg #[.int .i64 (l1+1),.int .i64 tm,.int .i64 x.op,.int .i64 x.sess,.int .i64 x.seq,.slice V m d]] w4.drew fun e w'=>∃A' c',e=.returned (.agg #[.int .i64 (l1+1),.int .i64 tm,.int .i64 x.op,.int .i64 x.sess,.int .i64 x.seq,.slice A' m c'])/\aG (bG TD w4.heap.size w') w' (.slice A' m c') x.facts/\Below w4.heap.size w4 w':=
     (oz S2 (lh (l1+1) tm x) V m d w4.drew Jz BN).mono fun e w' h=>by
      obtain⟨A',c',h1,h2,h3⟩:=h;exact⟨A',c',h1,h2,(ay (Below.refl w4.heap.size w4) 1).trans h3⟩
    clear a0 a1 a2 a3 a4 a5;go_wp2_with fail;refine nj [g,g3] w4 [([0,1,2,3,4,5],6),([],7),([],8)] ([9,10],11) ?_;refine aq fun K1 cQ=>?_
    simp only[ah,Zx];repeat go_big_quiet_step(fail)
    apply wpQuiet_nil;go_wp2_with fail;refine aH.mono ?_;rintro e w5 ⟨A5,d5,rfl,UE,cM⟩;clear aH;go_wp2_with fail;refine⟨av dA cM,cQ _ _ ?_⟩;have dX:Below w5.heap.size w5 (w5.alloc (.cells #[.int .i64 (l1+1),.int .i64 tm,.int .i64 x.op,.int .i64 x.sess,.int .i64 x.seq,.slice A5 m d5] 59)):=zb.alloc zl _;have di:ao (w5.alloc (.cells #[.int .i64 (l1+1),.int .i64 tm,.int .i64 x.op,.int .i64 x.sess,.int .i64 x.seq,.slice A5 m d5] 59)) w5.heap.size 59 (cl (.slice A5 m d5,lh (l1+1) tm x)).toArray:=ao.new w5 59 (cl (.slice A5 m d5,lh (l1+1) tm x)).toArray;have vN:=ab cM dX zl;have h6:=h4.below vN;have iU:n+1<=1000000000:=by omega
    have E9:B<=(w5.alloc (.cells #[.int .i64 (l1+1),.int .i64 tm,.int .i64 x.op,.int .i64 x.sess,.int .i64 x.seq,.slice A5 m d5] 59)).heap.size:=by have:=vN.size;have:=iH.size;omega
    refine aq fun K2 iu=>?_
    simp only[ah,Zx];repeat go_big_quiet_step(fail)
    apply wpQuiet_nil;go_wp2_with fail;refine⟨av dA vN,iu _ _ ?_⟩;refine aq fun K3 jY=>?_
    simp only[ah,Zx];repeat go_big_quiet_step(fail)
    apply wpQuiet_nil;go_wp2_with (at_builtin;refine aW rfl (.tmp 39) (.tmp 42) rfl B rfl h6.o rfl (ff.one di) (fun y hy=>by rw[List.mem_singleton.1 hy];rfl) iU E9 ?_;intro A7 c7 w7 eH oX iw nc);obtain⟨w6,Fl⟩:=zN (w5.alloc (.cells #[.int .i64 (l1+1),.int .i64 tm,.int .i64 x.op,.int .i64 x.sess,.int .i64 x.seq,.slice A5 m d5] 59));rw[Fl]at dX di vN h6 oX nc E9;have S1:¬aA A g:=fun hj=>by
     obtain⟨_,_,cs,h⟩:=aw h4.o A c rfl g hj;have hk:=h4.b;unfold ao at hk;rw[hk]at h;injection h with h;injection h with _ h;exact absurd h (by decide)
    have Vb:¬aA A g3:=fun hj=>by have:=CO _ hj;omega
    have nd:=vN.size;have mS:ao w7 g 152 #[.int .i64 t.index,.int .i64 t.term,.slice A n c]:=(oX.block g h6.b.lt S1).trans h6.b;have BR:ao w7 g3 59 #[.int .i64 (l1+1),.int .i64 tm,.int .i64 x.op,.int .i64 x.sess,.int .i64 x.seq,.slice V m d]:=(oX.block g3 (by omega) Vb).trans (b3.kept vN);have pK:w.heap.size+1<w4.heap.size:=b2.lt;have R9:ao w7 (w.heap.size+1) 59 #[.int .i64 0,.int .i64 0,.int .i64 0,.int .i64 0,.int .i64 0,.slice none 0 0]:=(oX.block _ (by omega) fun hj=>by have:=CO _ hj;omega).trans (b2.kept vN);refine⟨bO (Eq.trans mS h4.b.symm) (Eq.trans BR b3.symm),jY _ _ ?_⟩;have G0:bq TD w6 w7:=bq.row h6.o oX (by decide);have KW:aG (bG TD w4.heap.size w7) w7 (.slice A5 m d5) x.facts:=(UE.move (bq.below dX)).move G0;have W6:∀j,(S j\/bG TD w4.heap.size w7 j)->qU TD w7 j:=fun j hj=>hj.elim (fun hj=>(h6.s j hj).move G0) (fun hj=>hj.2)
    have ON:bo (fun j=>S j\/bG TD w4.heap.size w7 j) w7 (zs++[(.slice A5 m d5,lh (l1+1) tm x)]):=
     ((h6.d.keep fun j hj _=>G0 j (h6.s j hj)).mono fun j _ hj=>.inl hj).append fun z hz=>by
      rw[List.mem_singleton.1 hz];exact KW.mono fun j _ hj=>.inr hj
    have Mb:B<=g:=h4.g;have h8:=cX.setRow (t:=t) Mb mS eH ON (L7:=t.L++[lh (l1+1) tm x]) (by rw[List.map_append,h4.l];rfl) (jr.out rfl qy.out i2) W6;have Gz:Fr (fun j=>j=g\/aA A j) w6 (w7.setCell ⟨g,2,none⟩ (.slice A7 (n+1) c7)):=(oX.mono fun j hj=>.inr hj).trans (Fr.set g 2 _) fun j hj=>.inl (.inl hj)
    have Gy:Fr (fun j=>j=g\/aA A j) w (w7.setCell ⟨g,2,none⟩ (.slice A7 (n+1) c7)):=(Fr.of_below (ab iH vN zl)).trans Gz fun j hj=>.inl hj
    have Qr:aG S2 (w7.setCell ⟨g,2,none⟩ (.slice A7 (n+1) c7)) (.slice V m d) x.facts:=Jz.keep fun j hj hl=>(Gz.block j (by omega) (ki j hj)).trans (vN.block j hl)
    have NQ:=BR.far (p:=⟨g,2,none⟩) (show g3≠g from fun e=>by rw[e]at BR;unfold ao at BR mS;rw[mS]at BR;injection BR with BR;injection BR with _ BR;exact absurd BR (by decide)) (.slice A7 (n+1) c7);have fX:=R9.far (p:=⟨g,2,none⟩) (show w.heap.size+1≠g by omega) (.slice A7 (n+1) c7);have Ls:∀j,aA A7 j->aA A j\/w.heap.size<=j:=fun j hj=>(nc j hj).imp_right fun h=>by have:=iH.size;omega
    have hM:∀j,(S j\/bG TD w4.heap.size w7 j)->S j\/(w.heap.size<=j/\j<w7.heap.size):=fun j hj=>hj.imp_right fun hj=>by
     obtain⟨h1,cs,fz,ty,h2,_⟩:=hj;have h3:=aV h2;have:=iH.size;exact⟨by omega,h3⟩
    have J3:(w7.setCell ⟨g,2,none⟩ (.slice A7 (n+1) c7)).heap.size=w7.heap.size:=by simp[World.setCell]
    have fg2:=mS.free 2;have cg2:=mS.cell 2;simp only[Zx]at cg2;have aH:Calls prog 91 #[.agg #[.int .i64 (l1+1),.int .i64 tm,.int .i64 x.op,.int .i64 x.sess,.int .i64 x.seq,.slice V m d]] (w7.setCell ⟨g,2,none⟩ (.slice A7 (n+1) c7)) fun e w'=>∃A' c',e=.returned (.agg #[.int .i64 (l1+1),.int .i64 tm,.int .i64 x.op,.int .i64 x.sess,.int .i64 x.seq,.slice A' m c'])/\aG (bG TD w7.heap.size w') w' (.slice A' m c') x.facts/\Below w7.heap.size (w7.setCell ⟨g,2,none⟩ (.slice A7 (n+1) c7)) w':=by
     rw[<-J3];exact oz S2 (lh (l1+1) tm x) V m d _ Qr BN
    obtain⟨e0,e1,e2,e3,e4,e5,-⟩:=BR.cs [0,1,2,3,4,5];simp only[Zx]at e0 e1 e2 e3 e4 e5;have fe:¬g3=g:=by omega
    refine aC ?_;simp only[ah,Zx];repeat go_big_quiet_step(fail)
    apply wpQuiet_nil;go_wp2_with fail;refine aH.mono ?_;rintro e w9 ⟨A9,d9,rfl,Y2,kX⟩;have kX:Below (w7.setCell ⟨g,2,none⟩ (.slice A7 (n+1) c7)).heap.size (w7.setCell ⟨g,2,none⟩ (.slice A7 (n+1) c7)) w9:=by rw[J3];exact kX
    have h9:=h8.below kX;have VY:=fX.kept kX;have KX:=Gy.trans (Fr.of_below (X:=fun _=>False) kX) fun _ h=>h.elim
    have YV:Below w.heap.size w9 w9:=Below.refl _ _;have Yn:∀j,aA A7 j->j≠w.heap.size+1:=fun j hj e=>by
     obtain⟨_,_,cs,h⟩:=aw h9.o A7 c7 rfl j hj;rcases nc j hj with h'|h'
     ·have:=CO j h';omega
     ·omega
    have YC:w7.heap.size<=w9.heap.size:=by rw[<-J3];exact kX.size
    obtain⟨s1,s2,s3⟩:=eT (.slice A9 m d9,lh (l1+1) tm x) VY rfl;have s4:=Fr.set6 w9 (w.heap.size+1) (.slice A9 m d9,lh (l1+1) tm x);have lO:=h9.moveT s4 (show ¬g=w.heap.size+1 by omega) (fun j hj e=>Yn j hj e) (s2 _ (by decide));have UC:=Y2.move (s2 _ (by decide));have KY:=KX.trans s4 fun j hj=>.inr (by omega)
    have TT:w7.heap.size<=(set6 w9 (w.heap.size+1) (.slice A9 m d9,lh (l1+1) tm x)).heap.size:=Nat.le_trans YC s4.size;have YB:w.heap.size<=w7.heap.size:=by have:=Gz.size;have:=iH.size;omega
    have PH:=zH (show iJ B S w g A {t with L:=t.L++[lh (l1+1) tm x]} w7.heap.size (set6 w9 (w.heap.size+1) (.slice A9 m d9,lh (l1+1) tm x))from
     ⟨A7,n+1,c7,_,_,lO,hM,Ls,TT,KY⟩)
    clear lO h9 hM Ls KY KX h8 ON W6 aH;obtain⟨d0,d1,d2,d3,d4,d5,-⟩:=VY.cs [0,1,2,3,4,5];obtain⟨f0,f1,f2,f3,f4,f5,-⟩:=VY.fs [0,1,2,3,4,5];simp only[Zx]at d0 d1 d2 d3 d4 d5;go_wp2_with fail;show bodyPost _ _ _ _ _ (set6 w9 (w.heap.size+1) (.slice A9 m d9,lh (l1+1) tm x));generalize set6 w9 (w.heap.size+1) (.slice A9 m d9,lh (l1+1) tm x)=w10 at *;obtain⟨r0,r1,r2,r3,r4,r5,-⟩:=s1.cs [0,1,2,3,4,5];simp only[cl,vi,lh,Zx]at r0 r1 r2 r3 r4 r5;exact bodyPost_ret (v:=.tuple #[.agg #[.int .i64 (l1+1),.int .i64 tm,.int .i64 x.op,.int .i64 x.sess,.int .i64 x.seq,.slice A9 m d9],.int .i64 0]) (by simp[results,results66,go_sem,r0,r1,r2,r3,r4,r5]) rfl ⟨.slice A9 m d9,by rw[he.out];rfl,w7.heap.size,by rw[he.out];exact UC,YB,by rw[he.out];exact PH.out⟩
end
section
variable {B:Nat}{S:Nat->Prop}{w w':World}{g n c:Nat}{t:bD}{A:Option Addr}{zs:List (Value×En)}
theorem i9{w:World}{g j:Nat}{T T':TypeId}{cs ds:Array Value}{fz:Nat×Nat}(h:ao w g T cs)(h':w.heap[j]?=some (.cells ds T' fz))(ht:T≠T'):j≠g:=fun e=>by
 unfold ao at h;rw[e,h]at h';injection h' with h';injection h' with _ h';exact ht h'
theorem cX.setAll{S7:Nat->Prop}{w7:World}{A7:Option Addr}{n7 c7:Nat}{zs7:List (Value×En)}{L7:List En}{i tm:Int}(hg:B<=g)(hk:ao w7 g 152 #[.int .i64 t.index,.int .i64 t.term,.slice A n c])
  (ho:w7.ownsRow B 59 6 (.slice A7 n7 c7) n7 (zs7.flatMap cl)) (hd:bo S7 w7 zs7) (hl:zs7.map (·.2)=L7) (hi:bD.Inv ⟨i,tm,L7⟩) (hs:∀j,S7 j->qU TD w7 j) :
  cX B S7 (((w7.setCell ⟨g,2,none⟩ (.slice A7 n7 c7)).setCell ⟨g,0,none⟩ (.int .i64 i)).setCell ⟨g,1,none⟩ (.int .i64 tm)) g ⟨i,tm,L7⟩ A7 n7 c7 zs7:=by
 have k2:=hk.set_ 2 (.slice A7 n7 c7);have k0:=k2.set_ 0 (.int .i64 i);have k1:=k0.set_ 1 (.int .i64 tm);have hT:bq TD w7 (((w7.setCell ⟨g,2,none⟩ (.slice A7 n7 c7)).setCell ⟨g,0,none⟩ (.int .i64 i)).setCell ⟨g,1,none⟩ (.int .i64 tm)):=((bq.set hk (by decide)).trans (bq.set k2 (by decide))).trans (bq.set k0 (by decide));have hF:Fr (fun j=>j=g) w7 (((w7.setCell ⟨g,2,none⟩ (.slice A7 n7 c7)).setCell ⟨g,0,none⟩ (.int .i64 i)).setCell ⟨g,1,none⟩ (.int .i64 tm)):=((Fr.set g 2 _).trans (Fr.set g 0 _) fun _ h=>.inl h).trans (Fr.set g 1 _) fun _ h=>.inl h
 exact
 {b:=by simpa using k1
  o:=cN ho fun j hj hl=>hF.block j hl fun e=>by
   obtain⟨_,_,cs,h⟩:=aw ho A7 c7 rfl j hj;exact i9 hk h (by decide) e
  d:=hd.keep fun j hj hl=>hT j (hs j hj)
  l:=hl
  i:=hi
  g:=hg
  s:=fun j hj=>(hs j hj).move hT}
theorem EL(i:Int)(h:cX B S w g t A n c zs)(hn:n<=1000000)(hB:B<=w.heap.size):Calls prog 127 #[.pointer (some ⟨g,0,none⟩),.int .i64 i] w fun e w'=>e=.returned (.int .i64 (t.dropF i).1)/\iJ B S w g A (t.dropF i).2 w'.heap.size w':=by
 have cp:=jG i h hn;have dJ:=h.i.dropF i;obtain⟨v1,ci⟩:∃v,(t.termF i).1=v:=⟨_,rfl⟩;rcases kT t i with h2|h2|h2
 ·have he:=zH (show t.dropF i=(0,t) by unfold bD.dropF;rw[h2];rfl);rw[h2,ci]at cp;clear dJ ci h2;go_enter func127,ntmps127;go_wp2_with fail;refine cp.mono ?_;rintro e w1 ⟨rfl,br⟩;go_wp2_with fail;go_ret;exact⟨by rw[he.out];rfl,by rw[he.out];exact iJ.same h br⟩
 ·have he:=zH (show t.dropF i=(33,t) by unfold bD.dropF;rw[h2];rfl);rw[h2,ci]at cp;clear dJ ci h2;go_enter func127,ntmps127;go_wp2_with fail;refine cp.mono ?_;rintro e w1 ⟨rfl,br⟩;go_wp2_with fail;go_ret;exact⟨by rw[he.out];rfl,by rw[he.out];exact iJ.same h br⟩
 ·obtain⟨h5,h6,_⟩:=eR (t:=t) (i:=i) (term:=(t.termF i).1) (by rw[<-h2]);rw[<-h.len.1]at h6;have hb:=h.i.b;obtain⟨k,hk⟩:∃k:Nat,i-t.index=k:=⟨(i-t.index).toNat,by omega⟩;have yt:t.dropF i=(0,⟨i,v1,t.L.drop k⟩):=by
   unfold bD.dropF;rw[h2,ci,hk];rfl
  rw[yt]at dJ;have he:=zH yt;rw[h2,ci]at cp;have CH:k<=n:=by omega
  clear ci h2 yt;go_enter func127,ntmps127;go_wp2_with fail;refine cp.mono ?_;rintro e w1 ⟨rfl,br⟩;have h1:=h.below br;obtain⟨vX,oM⟩:=bB h1.o;obtain⟨q0,q1,q2⟩:=h1.cells;obtain⟨k0,k2⟩:=pU [g] q0 q2;have bS:=cn.cut (size:=6) h1.rd (k:=k) CH vX;rw[<-mx eX]at bS;have Xz:k<=c:=by omega
  have cW:=h1.b.lt;have JT:n-k<=1000000000:=by omega
  have FX:B<=w1.heap.size:=by have:=br.size;omega
  have ob:bo S w1 (zs.drop k):=h1.d.sub fun y hy=>List.mem_of_mem_drop hy
  have hk:=zH hk;unfold maxLen at oM;have fo:=ob.one;by_cases AE:c=k
  all_goals
   have hk:=hk.out;simp only[AE,if_true,if_false]at bS;go_wp2_with fail;refine nj [g] w1 [([0,1,2,3,4,5,6,7,8,9,10,11],12)] ([13,14],15) ?_;refine aq fun K1 cQ=>?_
   simp only[ah,Zx];repeat go_big_quiet_step(fail)
   apply wpQuiet_nil;have kY:w1.drew.ownsRow w1.heap.size 59 6 (.slice none 0 0) 0 (([]:List (Value×En)).flatMap cl):=bX _ _;go_wp2_with (at_builtin;refine aW rfl (.const (.slice none 0 0)) (.tmp 30) rfl w1.heap.size rfl kY rfl (ys:=zs.drop k) bS fo (by omega) zl ?_;intro A7 c7 w7 eH oX iw nc);simp only[Nat.zero_add,List.nil_append]at eH ⊢;have Gh:Below w1.heap.size w1 w7:=(ay (Below.refl w1.heap.size w1) 1).trans iw;have mS:=h1.b.kept Gh;refine⟨av (by simp;exact cW) Gh,cQ _ _ ?_⟩;have aD:=bq.below (L:=TD) Gh;have lO:=cX.setAll (t:=t) (i:=i) (tm:=v1) h1.g mS (eB eH FX) (ob.keep fun j hj hl=>Gh.block j hl) (by rw[List.map_drop,h1.l]) dJ (fun j hj=>(h1.s j hj).move aD);have hF:Fr (fun j=>j=g\/aA A j) w (((w7.setCell ⟨g,2,none⟩ (.slice A7 (n-k) c7)).setCell ⟨g,0,none⟩ (.int .i64 i)).setCell ⟨g,1,none⟩ (.int .i64 v1)):=
    (Fr.of_below (ab br Gh zl)).trans (((Fr.set g 2 _).trans (Fr.set g 0 _) fun _ h=>.inl h).trans (Fr.set g 1 _) fun _ h=>.inl h) fun j hj=>.inl (.inl hj)
   have Tb:∀j,aA A7 j->aA A j\/w.heap.size<=j:=fun j hj=>.inr (by have:=(aw eH A7 c7 rfl j hj).2.1;have:=br.size;omega)
   have hP:=zH (show iJ B S w g A ⟨i,v1,t.L.drop k⟩ _ _ from⟨A7,n-k,c7,_,S,lO,fun _ h=>.inl h,Tb,Nat.le_refl _,hF⟩);obtain⟨d0,d1,d2,-⟩:=mS.cs [0,1,2];obtain⟨f0,f1,f2,-⟩:=mS.fs [0,1,2];simp only[Zx]at d0 d1 d2;clear lO hF Tb eH oX iw nc;refine aC ?_;simp only[ah,Zx];repeat go_big_quiet_step(fail)
   apply wpQuiet_nil;go_wp2_with fail;go_ret;exact⟨by rw[he.out];rfl,by rw[he.out];exact hP.out⟩
end
def lE(S:Nat->Prop)(w5 wr:World)(g:Nat)(t:bD)(A':Option Addr)(k q c':Nat)(zk zq:List (Value×En))(M:List En):Prop:=
 ao wr g 152 #[.int .i64 t.index,.int .i64 t.term,.slice A' (k+q) c']/\Wx w5.heap.size wr A' (k+q) c' (zk++zq)/\(0<q->wr.ownsRow w5.heap.size 59 6 (.slice A' (k+q) c') (k+q) ((zk++zq).flatMap cl))/\
  bo (fun j=>S j\/bG TD w5.heap.size wr j) wr (zk++zq)/\zq.map (·.2)=M.take q/\Fr (fun j=>j=g) w5 wr/\bq TD w5 wr/\(∀j,aA A' j->j<wr.heap.size)
theorem lE.below{S:Nat->Prop}{w5 wr w6:World}{g:Nat}{t:bD}{A':Option Addr}{k q c':Nat}{zk zq:List (Value×En)}{M:List En}(h:lE S w5 wr g t A' k q c' zk zq M)(hb:Below wr.heap.size wr w6):lE S w5 w6 g t A' k q c' zk zq M:=by
 obtain⟨h1,h2,h3,h4,h5,h6,h7,h8⟩:=h;have hT:=bq.below (L:=TD) hb;refine⟨h1.kept hb,?_,fun h=>bf (h3 h) hb,?_,h5,h6.trans (Fr.of_below (X:=fun _=>False) hb) fun _ h=>h.elim,h7.trans hT,fun j hj=>Nat.lt_of_lt_of_le (h8 j hj) hb.size⟩
 ·rcases h2 with⟨e,h2,Cy⟩|h2
  ·exact .inl ⟨e,h2.below hb,Cy⟩
  ·exact .inr (bf h2 hb)
 ·refine(h4.keep fun j hj hl=>hb.block j hl).mono fun j _ hj=>hj.imp_right fun hj=>⟨hj.1,hj.2.move hT⟩
theorem lE.next{S:Nat->Prop}{w5 w6 w7:World}{g:Nat}{t:bD}{A' A9:Option Addr}{k q c' c9:Nat}{zk zq:List (Value×En)}{M:List En}{z:Value×En}(hg:g<w5.heap.size)(hS:∀j,S j->qU TD w5 j)(h:lE S w5 w6 g t A' k q c' zk zq M)
  (iw:Below w5.heap.size w6 w7) (hs:∀L,59∉L->bq L w6 w7) (ho:w7.ownsRow w5.heap.size 59 6 (.slice A9 (k+q+1) c9) (k+q+1) ((zk++zq++[z]).flatMap cl))
  (hz:aG (bG TD w5.heap.size w6) w6 z.1 z.2.facts) (hM:M.take (q+1)=M.take q++[z.2]):lE S w5 (w7.setCell ⟨g,2,none⟩ (.slice A9 (k+q+1) c9)) g t A9 k (q+1) c9 zk (zq++[z]) M:=by
 obtain⟨h1,h2,h3,h4,h5,h6,h7,h8⟩:=h;have k7:ao w7 g 152 #[.int .i64 t.index,.int .i64 t.term,.slice A' (k+q) c']:=h1.below iw hg;have hT:=hs TD (by decide);have CC:bq TD w7 (w7.setCell ⟨g,2,none⟩ (.slice A9 (k+q+1) c9)):=bq.set k7 (by decide);have dC:Fr (fun j=>j=g) w7 (w7.setCell ⟨g,2,none⟩ (.slice A9 (k+q+1) c9)):=Fr.set g 2 _;have bS:=aw ho A9 c9 rfl;have yI:(w7.setCell ⟨g,2,none⟩ (.slice A9 (k+q+1) c9)).ownsRow w5.heap.size 59 6 (.slice A9 (k+q+1) c9) (k+q+1) ((zk++(zq++[z])).flatMap cl):=by
  rw[<-List.append_assoc];exact cN ho fun j hj hl=>dC.block j hl fun e=>by have:=(bS j hj).2.1;omega
 refine⟨by simpa[Nat.add_assoc]using k7.set_ 2 (.slice A9 (k+q+1) c9),.inr yI,fun _=>yI,?_,by rw[List.map_append,h5,hM];rfl,?_,(h7.trans hT).trans CC,fun j hj=>Nat.lt_of_lt_of_le (bS j hj).1 dC.size⟩
 ·rw[<-List.append_assoc];have Mo:=hT.trans CC;have e1:bo (fun j=>S j\/bG TD w5.heap.size w6 j) (w7.setCell ⟨g,2,none⟩ (.slice A9 (k+q+1) c9)) (zk++zq):=h4.keep fun j hj hl=>Mo j (hj.elim (fun hj=>(hS j hj).move h7) fun hj=>hj.2)
  refine(e1.mono fun j _ hj=>hj.imp_right fun hj=>⟨hj.1,hj.2.move Mo⟩).append fun y hy=>?_
  rw[List.mem_singleton.1 hy];exact(hz.move Mo).mono fun j _ hj=>.inr hj
 ·have CA:Fr (fun _=>False) w5 w7->Fr (fun j=>j=g) w5 (w7.setCell ⟨g,2,none⟩ (.slice A9 (k+q+1) c9)):=fun h=>(h.mono (X':=fun j=>j=g) fun _ h=>h.elim).trans dC fun _ h=>.inl h
  exact(h6.trans (X':=fun j=>w5.heap.size<=j) ⟨iw.os,iw.tape,iw.output,iw.size,fun j _ hn=>iw.block j (by omega)⟩ fun j hj=>.inr hj).trans dC fun _ h=>.inl h
section
variable {B:Nat}{S:Nat->Prop}{w w':World}{g n c:Nat}{t:bD}{A:Option Addr}{zs:List (Value×En)}
theorem zX{idx tm:Int}{L:List En}(h:¬(t.termF idx=(tm,0)/\bI idx 0 tm L=true)):t.takeF idx tm L=((0,false),t):=if_neg h
theorem sK{idx tm:Int}{L:List En}(h:t.termF idx=(tm,0))(h':bI idx 0 tm L=true)(hd:t.findDiff L=none):t.takeF idx tm L=((0,true),t):=by unfold bD.takeF;rw[if_pos ⟨h,h'⟩,hd]
theorem sL{idx tm:Int}{L R:List En}{x:En}(h:t.termF idx=(tm,0))(h':bI idx 0 tm L=true)(hd:t.findDiff L=some (x,R)):t.takeF idx tm L=((x.idx,true),{t with L:=t.L.take (x.idx-t.index-1).toNat++x::R}):=by unfold bD.takeF;rw[if_pos ⟨h,h'⟩,hd]
theorem nh{idx:Int}{L:List En}:∀{i:Nat} {tm:Int},bI idx i tm L=true->∀x∈L,dM x=true:=by
 induction L with
 | nil=>intro i tm _ x hx;cases hx
 | cons y L ih=>
  intro i tm h x hx;obtain⟨h1,_,_,h4⟩:=iY.1 h;rcases List.mem_cons.1 hx with rfl|hx
  ·exact h1
  ·exact ih h4 x hx
theorem ET(S2:Nat->Prop)(idx tm:Int)(A2:Option Addr)(m c2:Nat)(ys:List (Value×En))(h:cX B S w g t A n c zs)(hn:n<=1000000)(hB:B<=w.heap.size)(hr:ff w A2 m ys)(hd:bo S2 w ys)
  (hm:m<=100000) (yH:m<=c2) (Qi:c2<=maxLen) (ki:∀j,S2 j->j≠g) (xe:0<m->∀j,aA A2 j->j≠g) :
  Calls prog 43 #[.pointer (some ⟨g,0,none⟩),.int .i64 idx,.int .i64 tm,.slice A2 m c2] w fun e w'=>
   e=.returned (.tuple #[.int .i64 (t.takeF idx tm (ys.map (·.2))).1.1,.bool (t.takeF idx tm (ys.map (·.2))).1.2])/\iJ B S w g A (t.takeF idx tm (ys.map (·.2))).2 w'.heap.size w':=by
 have cp:=jG idx h hn;have dO:=zH (fun h0=>zX (t:=t) (idx:=idx) (tm:=tm) (L:=ys.map (·.2)) h0);obtain⟨v1,ci⟩:∃v,(t.termF idx).1=v:=⟨_,rfl⟩;obtain⟨v2,gn⟩:∃v,(t.termF idx).2=v:=⟨_,rfl⟩;have hv:t.termF idx=(v1,v2):=by rw[<-ci,<-gn]
 rw[ci,gn]at cp;clear ci gn;have hl:=zH h.len.1;have wu:=zH hr.len;have lS:=h.i.b;have UU:=h.i.room;rw[<-h.len.1]at UU;by_cases i1:v2=0
 ·by_cases i2:v1=tm
  ·subst i1;subst i2;have RN:=eR hv;rw[<-h.len.1]at RN;obtain⟨oN,IH,DM⟩:=RN;clear DM;obtain⟨bm,bM⟩:=zN (bI idx 0 v1 (ys.map (·.2)));cases bm with
   | false=>
    have he:=zH (dO.out (by rw[bM];simp));have hv:=zH hv;clear dO;go_enter func43,ntmps43;go_wp2_with fail;refine cp.mono ?_;rintro e w1 ⟨rfl,br⟩;go_wp2_with fail;refine(zh S2 idx v1 A2 m c2 ys w1 (hr.below br) (hd.keep (bA.below br)) (by omega) (by omega) (by omega)).mono ?_;rintro e w2 ⟨rfl,bQ⟩;rw[bM];go_wp2_with fail
    go_ret2
    exact⟨by rw[he.out];rfl,by rw[he.out];exact iJ.same h (ab br bQ zl)⟩
   | true=>
    have uf:=zH (fun h0:t.findDiff (ys.map (·.2))=none=>sK hv bM h0);have ug:=zH (fun(x:En) (R:List En) (h0:t.findDiff (ys.map (·.2))=some (x,R))=>sL hv bM h0);have uB:=zH (fun(x:En) (R:List En) (h0:t.findDiff (ys.map (·.2))=some (x,R))=>ig (t:=t) (i:=0) (idx:=idx) (term:=v1) (x:=x) (r:=R) (by rw[show idx+((0:Nat):Int)=idx by omega];exact hv) bM h0);have kK:=zH (nh bM);have dJ:=zH (h.i.takeF idx v1 (ys.map (·.2)));have hv:=zH hv;have Hbm:=zH bM;clear dO;go_enter func43,ntmps43;go_wp2_with fail;refine cp.mono ?_;rintro e w1 ⟨rfl,br⟩;go_wp2_with fail;refine(zh S2 idx v1 A2 m c2 ys w1 (hr.below br) (hd.keep (bA.below br)) (by omega) (by omega) (by omega)).mono ?_;rintro e w2 ⟨rfl,bQ⟩;rw[bM];clear bM;have dF:=ab br bQ zl;unfold maxLen at Qi;go_wp2_with fail
    go_loopw [41] (fun i' wr=>∃i:Nat,i<=m/\i'=.int .i64 i/\t.findDiff (ys.map (·.2))=t.findDiff ((ys.map (·.2)).drop i)/\Below w.heap.size w wr) (fun i' _=>m-(intOf i').toNat)
    case atStart=>exact⟨0,Nat.zero_le _,rfl,rfl,dF⟩
    case round=>
     obtain⟨i,hi,rfl,OQ,hb⟩:=hrel;have Hfd:=zH OQ;clear OQ;by_cases aU:i<m
     ·have xe:=xe (Nat.zero_lt_of_lt aU);obtain⟨ad2,v3,x,rfl,hx,c0,c1,c2',c3,c4,c5⟩:=(hr.below hb).at_ aU;obtain⟨B1,m1,d1,ci,l1,l2,l3⟩:=((hd _ (List.mem_of_getElem? hx)).keep (bA.below (S:=S2) hb)).form;obtain rfl:v3=_:=ci;have G7:(ys.map (·.2))[i]?=some x:=by rw[List.getElem?_map,hx];rfl
      have yr:=iq G7;rw[yr]at Hfd;have hxp:=kf (kK.out x (List.mem_of_getElem? G7));have aO:=zH (show m-(i+1)<m-i by omega);have aI:Below wr.heap.size wr (wr.alloc (.cells #[.int .i64 x.idx,.int .i64 x.term,.int .i64 x.op,.int .i64 x.sess,.int .i64 x.seq,.slice B1 m1 d1] 59)):=zb.alloc zl _;have di:=ao.new wr 59 #[.int .i64 x.idx,.int .i64 x.term,.int .i64 x.op,.int .i64 x.sess,.int .i64 x.seq,.slice B1 m1 d1];have bN:=ab hb aI zl;have h3:=h.below bN;have aH:=jG x.idx h3 hn;obtain⟨u1,D1⟩:∃v,(t.termF x.idx).1=v:=⟨_,rfl⟩;obtain⟨u2,xw⟩:∃v,(t.termF x.idx).2=v:=⟨_,rfl⟩;have hu:=zH (show t.termF x.idx=(u1,u2) by rw[<-D1,<-xw]);rw[D1,xw]at aH;have Gs:=zH (show ys.drop i=(.slice B1 m1 d1,x)::ys.drop (i+1)from iq hx);clear D1 xw G7 hx yr;go_wp2_with fail;generalize wr.alloc (.cells #[.int .i64 x.idx,.int .i64 x.term,.int .i64 x.op,.int .i64 x.sess,.int .i64 x.seq,.slice B1 m1 d1] 59)=w3 at *;generalize wr.heap.size=gx at *;refine aH.mono ?_;rintro e w4 ⟨rfl,cO⟩;have iH:=ab bN cO zl;have h4:=h3.below cO;have di:=di.kept cO;clear aH bN h3 cO;obtain⟨a0,a1,-⟩:=di.cs [0,1];simp only[Zx]at a0 a1;by_cases jj:u2=0/\u1=x.term
      ·obtain⟨j1,j2⟩:=jj;subst j1;subst j2;have Hn:=zH (Hfd.out.trans (show _=t.findDiff ((ys.map (·.2)).drop (i+1)) by
        show(if t.termF x.idx=(x.term,0)then _ else _)=_;rw[if_pos hu.out]))
       go_wp2_with fail
       go_roundw
       case rel=>exact⟨i+1,aU,by go_num,Hn.out,iH⟩
       case measure=>simp[intOf];exact aO.out
      ·have Bw:t.findDiff (ys.map (·.2))=some (x,(ys.map (·.2)).drop (i+1)):=Hfd.out.trans (by
        show(if t.termF x.idx=(x.term,0)then _ else _)=_;rw[if_neg (by rw[hu.out];rintro h0;injection h0 with h1 h2;exact jj ⟨h2,h1⟩)])
       obtain⟨j,term',_,e1,e2,_,_,_⟩:=uB.out x _ Bw;have e3:=eR e2;rw[<-hl.out]at e3;obtain⟨e4,e5,e6⟩:=e3;clear e6 e2;obtain⟨k,hk⟩:∃k:Nat,x.idx-t.index-1=k:=⟨(x.idx-t.index-1).toNat,by omega⟩;have CH:k<=n:=by omega
       have yt:=ug.out x _ Bw;rw[hk,show(k:Int).toNat=k from rfl]at yt;have he:=zH yt;have dJ:=dJ.out;rw[yt]at dJ;have dJ:=zH dJ;have hM:=zH (show(ys.drop i).map (·.2)=x::(ys.map (·.2)).drop (i+1) by rw[Gs.out,List.map_cons,List.map_drop]);have ut:=zH (show(ys.drop i).length=m-i by rw[List.length_drop,wu.out]);clear Bw e1 e4 e5 yt;obtain⟨vX,oM⟩:=bB h4.o;obtain⟨q0,q1,q2⟩:=h4.cells;have f2:=h4.b.free 2;have Xz:k<=c:=by omega
       have UT:¬c2=i:=by omega
       unfold maxLen at oM;have QP:(u2≠0/\(u2==0)=false)\/(u2=0/\(u1==x.term)=false):=by
        by_cases j1:u2=0
        ·exact .inr ⟨j1,beq_eq_false_iff_ne.2 fun e=>jj ⟨j1,e⟩⟩
        ·exact .inl ⟨j1,beq_eq_false_iff_ne.2 j1⟩
       clear jj;rcases QP with⟨jj,jjj⟩|⟨jj,jjj⟩
       all_goals
        go_wp2_with fail
        go_quiet (fail)
        go_wp2_with fail;obtain⟨w5,LH⟩:=zN ((w4.drewN nq).setCell ⟨g,2,none⟩ (.slice A k k));rw[LH];have Jf:Fr (fun j=>j=g) w4 w5:=by rw[<-LH];exact(Fr.of_below (X:=fun j=>j=g) (ay zb nq)).trans (Fr.set g 2 _) fun _ h=>.inl h
        have CF:ao w5 g 152 #[.int .i64 t.index,.int .i64 t.term,.slice A k k]:=by rw[<-LH];exact(h4.b.drewN nq).set_ 2 _
        have PO:bq TD w4 w5:=by rw[<-LH];exact bq.set (w:=w4.drewN nq) (h4.b.drewN nq) (by decide)
        have Je:Fr (fun j=>j=g) w w5:=(Fr.of_below iH).trans Jf fun _ h=>.inl h
        have UQ:ao w5 gx 59 #[.int .i64 x.idx,.int .i64 x.term,.int .i64 x.op,.int .i64 x.sess,.int .i64 x.seq,.slice B1 m1 d1]:=(Jf.block gx di.lt (i9 h4.b di (by decide))).trans di;have ol:ff w5 (some (ad2.add (i*6))) (m-i) (ys.drop i):=by
         have h1:ff w5 (some ad2) m ys:=cn.stay (S:=fun j=>j≠g) hr (fun _ ad e=>xe _ ⟨ad,e,rfl⟩) (Je.stay fun j hj _=>hj);have:=cn.cut (size:=6) h1 (k:=i) hi yH;rw[if_neg UT,<-mx eX]at this;exact this
        have Gq:bo S2 w5 (ys.drop i):=(hd.keep (Je.stay fun j hj _=>ki j hj)).sub fun y hy=>List.mem_of_mem_drop hy
        have VH:=zH (show ∀y∈ys.drop i,oQ y.2.facts from fun y hy=>lZ (kK.out _ (List.mem_map_of_mem (List.mem_of_mem_drop hy))));have Bq:∀j,S j->qU TD w5 j:=fun j hj=>(h4.s j hj).move PO
        have jl:=CF.lt;have Lo:∀j,aA A j->j<w4.heap.size:=fun j hj=>(aw h4.o A c rfl j hj).1
        have Rj:∀j,aA A j->j≠g:=fun j hj=>by
         obtain⟨_,_,cs,h⟩:=aw h4.o A c rfl j hj;exact i9 h4.b h (by decide)
        have G2:lE S w5 w5 g t A k 0 k (zs.take k) [] ((ys.drop i).map (·.2)):=by
         refine⟨CF,.inl ⟨rfl,?_,?_⟩,fun h=>absurd h (by omega),?_,rfl,Fr.refl _ _,bq.refl _ _,fun j hj=>Nat.lt_of_lt_of_le (Lo j hj) Jf.size⟩
         ·rw[List.append_nil];have h1:ff w5 A n zs:=cn.stay (S:=fun j=>j≠g) h4.rd (fun _ ad e=>Rj _ ⟨ad,e,rfl⟩) (Jf.stay fun j hj _=>hj);have:=cn.take (size:=6) h1 CH;rw[<-oV eX]at this;exact this
         ·rw[List.append_nil];exact fun z hz=>h4.d.one z (List.mem_of_mem_take hz)
         ·rw[List.append_nil];exact((h4.d.keep fun j hj hl=>PO j (h4.s j hj)).mono fun j _ hj=>.inl hj).sub fun y hy=>List.mem_of_mem_take hy
        clear Lo Rj;obtain⟨p,hp⟩:=zN (m-i);rw[hp]at ol ut;have DV:0<p:=by omega
        have uw:p<=100000:=by omega
        have xu:=zH hp;clear LH;simp only[hp];clear hp
        go_loopw [83] (fun i' wr=>∃(q:Nat) (A':Option Addr) (c':Nat) (zq:List (Value×En)),q<=p/\i'=.int .i64 q/\lE S w5 wr g t A' k q c' (zs.take k) zq ((ys.drop i).map (·.2))) (fun i' _=>p-(intOf i').toNat)
        case atStart=>exact⟨0,A,k,[],Nat.zero_le _,rfl,G2⟩
        case round=>
         clear G2;obtain⟨q,A',c',zq,hq,rfl,hL⟩:=hrel
         rename World=>wr
         by_cases na:q<p
         ·have hF:=hL.2.2.2.2.2.1;obtain⟨bd,v4,y,qi,hy,o0,o1,o2,o3,o4,o5⟩:=ff.at_ (cn.stay (S:=fun j=>j≠g) ol (fun h0 ad e=>by
           have e':ad=ad2.add (i*6):=(Option.some.inj e).symm;rw[e',bi];exact xe _ ⟨ad2,rfl,rfl⟩) (hF.stay fun j hj _=>hj)) na
          obtain rfl:ad2.add (i*6)=bd:=Option.some.inj qi;have fy:=(Gq _ (List.mem_of_getElem? hy)).keep (hF.stay fun j hj _=>ki j hj);have BN:=VH.out _ (List.mem_of_getElem? hy);obtain⟨B3,m3,d3,aL,l4,l5,l6⟩:=fy.form;obtain rfl:v4=_:=aL;have cx:=zH (ib (show((ys.drop i).map (·.2))[q]?=some y by rw[List.getElem?_map,hy];rfl));have fK:=zH (show p-(q+1)<p-q by omega);have aI:Below wr.heap.size wr (wr.alloc (.cells #[.int .i64 y.idx,.int .i64 y.term,.int .i64 y.op,.int .i64 y.sess,.int .i64 y.seq,.slice B3 m3 d3] 59)):=zb.alloc zl _;have R0:=ao.new wr 59 #[.int .i64 y.idx,.int .i64 y.term,.int .i64 y.op,.int .i64 y.sess,.int .i64 y.seq,.slice B3 m3 d3];have TF:=hL.2.2.2.2.2.2.2;have SD:=hL.below aI;have fy:=fy.keep (bA.below (S:=S2) aI);have RL:w5.heap.size<=wr.heap.size:=hF.size;clear hy qi ol Gq hF hL;go_wp2_with fail;generalize wr.alloc (.cells #[.int .i64 y.idx,.int .i64 y.term,.int .i64 y.op,.int .i64 y.sess,.int .i64 y.seq,.slice B3 m3 d3] 59)=wA at *;have Z9:wr.heap.size<=wA.heap.size:=aI.size;generalize wr.heap.size=gy at *;obtain⟨r0,r1,r2,r3,r4,r5,-⟩:=R0.cs [0,1,2,3,4,5];simp only[Zx]at r0 r1 r2 r3 r4 r5;have rg:=SD.1.cell 2;simp only[Zx]at rg;obtain⟨kg,k0,k1,k2,k3,k4,k5⟩:=LV [g,gy] rg r0 r1 r2 r3 r4 r5;have xn:g<wA.heap.size:=SD.1.lt;have RZ:gy<wA.heap.size:=R0.lt;have dA:∀q∈[g,gy],q<wA.heap.size:=by simp;exact⟨xn,RZ⟩
          have aH:Calls prog 91 #[.agg #[.int .i64 y.idx,.int .i64 y.term,.int .i64 y.op,.int .i64 y.sess,.int .i64 y.seq,.slice B3 m3 d3]] wA.drew fun e w'=>∃A' c',e=.returned (.agg #[.int .i64 y.idx,.int .i64 y.term,.int .i64 y.op,.int .i64 y.sess,.int .i64 y.seq,.slice A' m3 c'])/\aG (bG TD wA.heap.size w') w' (.slice A' m3 c') y.facts/\Below wA.heap.size wA w':=
           (oz S2 y B3 m3 d3 wA.drew fy BN).mono fun e w' h=>by
            obtain⟨A',c',h1,h2,h3⟩:=h;exact⟨A',c',h1,h2,(ay (Below.refl wA.heap.size wA) 1).trans h3⟩
          clear fy rg r0 r1 r2 r3 r4 r5;refine nj [g,gy] wA [([0,1,2,3,4,5],6),([],7),([],8)] ([9,10],11) ?_;refine aq fun K1 cQ=>?_
          simp only[ah,Zx];repeat go_big_quiet_step(fail)
          apply wpQuiet_nil;go_wp2_with fail;refine aH.mono ?_;rintro e w6 ⟨A6,d6,rfl,SO,iT⟩;clear aH;go_wp2_with fail;refine⟨av dA iT,cQ _ _ ?_⟩;have dX:Below w6.heap.size w6 (w6.alloc (.cells #[.int .i64 y.idx,.int .i64 y.term,.int .i64 y.op,.int .i64 y.sess,.int .i64 y.seq,.slice A6 m3 d6] 59)):=zb.alloc zl _;have KR:ao (w6.alloc (.cells #[.int .i64 y.idx,.int .i64 y.term,.int .i64 y.op,.int .i64 y.sess,.int .i64 y.seq,.slice A6 m3 d6] 59)) w6.heap.size 59 (cl (.slice A6 m3 d6,y)).toArray:=ao.new w6 59 (cl (.slice A6 m3 d6,y)).toArray;have Bs:=ab iT dX zl;have PD:=SD.below Bs;have KW:=SO.move (bq.below dX);have IK:k+q<=100000000:=by omega
          have WS:w5.heap.size<=(w6.alloc (.cells #[.int .i64 y.idx,.int .i64 y.term,.int .i64 y.op,.int .i64 y.sess,.int .i64 y.seq,.slice A6 m3 d6] 59)).heap.size:=by have:=Bs.size;omega
          refine aq fun K2 iu=>?_
          simp only[ah,Zx];repeat go_big_quiet_step(fail)
          apply wpQuiet_nil;go_wp2_with fail;refine⟨av dA Bs,iu _ _ ?_⟩;refine aq fun K3 jY=>?_
          simp only[ah,Zx];repeat go_big_quiet_step(fail)
          apply wpQuiet_nil;go_wp2_with (at_builtin;refine pt rfl (.tmp 91) (.tmp 94) rfl w5.heap.size rfl PD.2.1 w6.heap.size (z:=(.slice A6 m3 d6,y)) rfl KR rfl IK WS ?_;intro A9 c9 w9 jz kX hs9 GA);obtain⟨w7,NN⟩:=zN (w6.alloc (.cells #[.int .i64 y.idx,.int .i64 y.term,.int .i64 y.op,.int .i64 y.sess,.int .i64 y.seq,.slice A6 m3 d6] 59));rw[NN]at dX KR Bs PD KW kX hs9 GA WS;have M3:w9.heap[g]?=wA.heap[g]?:=(kX.block g jl).trans (Bs.block g xn);have Zp:w9.heap[gy]?=wA.heap[gy]?:=(GA.block gy (by have:=Bs.size;omega) fun hj=>by have:=TF _ hj;omega).trans (Bs.block gy RZ);refine⟨bO M3 Zp,jY _ _ ?_⟩;have ST:=PD.1.below kX jl;have fg:=ST.free 2;have cg:=ST.cell 2;simp only[Zx]at cg;have aE:=zH (PD.next jl Bq kX hs9 jz (KW.mono (bG.wide (L:=TD) (fun _ h=>h) (by omega))) cx.out);clear PD jz kX hs9 GA KW SO SD;refine aC ?_;simp only[ah,Zx];repeat go_big_quiet_step(fail)
          apply wpQuiet_nil;go_wp2_with fail;exact⟨⟨q+1,A9,c9,_,na,by go_num,aE.out⟩,by simp[intOf];exact fK.out⟩
         ·obtain rfl:q=p:=by omega
          obtain⟨L1,_,L3,L4,L5,L6,L7,_⟩:=hL;have QI:ao wr gx 59 #[.int .i64 x.idx,.int .i64 x.term,.int .i64 x.op,.int .i64 x.sess,.int .i64 x.seq,.slice B1 m1 d1]:=(L6.block gx UQ.lt (i9 CF UQ (by decide))).trans UQ;have z0:=QI.cell 0;simp only[List.getElem?_toArray,List.getElem?_cons_zero]at z0;have aB:=L3 DV;have og:(zs.take k++zq).map (·.2)=t.L.take k++x::(ys.map (·.2)).drop (i+1):=by
           rw[List.map_append,List.map_take,h4.l,L5,show((ys.drop i).map (·.2)).take q=(ys.drop i).map (·.2)from List.take_of_length_le (by rw[List.length_map,ut.out];exact Nat.le_refl _),hM.out]
          have fU:w.heap.size<=w5.heap.size:=Je.size;have hP:=zH (show iJ B S w g A {t with L:=t.L.take k++x::(ys.map (·.2)).drop (i+1)} wr.heap.size wr from
           ⟨A',k+q,c',_,fun j=>S j\/bG TD w5.heap.size wr j,⟨L1,eB aB (by omega),L4,og,dJ.out,h4.g,fun j hj=>hj.elim (fun hj=>(Bq j hj).move L7) fun hj=>hj.2⟩,
            fun j hj=>hj.imp_right fun hj=>⟨by have:=hj.1;omega,by obtain⟨_,cs,fz,ty,h1,_⟩:=hj;exact aV h1⟩,
            fun j hj=>.inr (by have:=(aw aB A' c' rfl j hj).2.1;omega),Nat.le_refl _,(Je.trans L6 fun _ h=>.inl h).mono fun _ h=>.inl h⟩)
          clear aB L1 L3 L4 L5 L6 L7 og QI;go_wp2_with fail
          go_ret2
          exact⟨by rw[he.out];rfl,by rw[he.out];exact hP.out⟩
     ·obtain rfl:i=m:=by omega
      have he:=zH (uf.out (Hfd.out.trans (by rw[List.drop_eq_nil_of_le (by rw[List.length_map,wu.out];exact Nat.le_refl _)];rfl)));go_wp2_with fail
      go_ret2
      exact⟨by rw[he.out];rfl,by rw[he.out];exact iJ.same h hb⟩
  ·have he:=zH (dO.out (by rw[hv];rintro⟨h0,_⟩;injection h0 with h0;exact i2 h0));have i3:(v1==tm)=false:=beq_eq_false_iff_ne.2 i2;have i4:(v1 !=tm)=true:=by rw[bne,i3];rfl
   subst i1;have hv:=zH hv;clear dO;go_enter func43,ntmps43;go_wp2_with fail;refine cp.mono ?_;rintro e w1 ⟨rfl,br⟩;go_wp2_with fail
   go_ret2
   exact⟨by rw[he.out];rfl,by rw[he.out];exact iJ.same h br⟩
 ·have he:=zH (dO.out (by rw[hv];rintro⟨h0,_⟩;injection h0 with _ h0;exact i1 h0));have i3:(v2==0)=false:=beq_eq_false_iff_ne.2 i1;have i4:(v2 !=0)=true:=by rw[bne,i3];rfl
  have hv:=zH hv;clear dO;go_enter func43,ntmps43;go_wp2_with fail;refine cp.mono ?_;rintro e w1 ⟨rfl,br⟩;go_wp2_with fail
  go_ret2
  exact⟨by rw[he.out];rfl,by rw[he.out];exact iJ.same h br⟩
end
structure cG(S:Nat->Prop)(w:World)(g:Nat)(t:bD)(A:Option Addr)(n c:Nat)(zs:List (Value×En)):Prop where
 b:ao w g 138 #[.int .i64 t.index,.int .i64 t.term,.slice A n c]
 o:w.ownsRow 0 59 6 (.slice A n c) n (zs.flatMap cl)
 d:bo S w zs
 l:zs.map (·.2)=t.L
 i:t.Inv
section
variable {S:Nat->Prop}{w w':World}{g n c:Nat}{t:bD}{A:Option Addr}{zs:List (Value×En)}
theorem cG.r(h:cG S w g t A n c zs):ff w A n zs:=cn.of_own h.o
theorem cG.len(h:cG S w g t A n c zs):n=t.L.length/\zs.length=n:=by
 have h2:=congrArg List.length h.l;rw[List.length_map]at h2;have:=h.r.len;omega
theorem cG.keep(h:cG S w g t A n c zs)(hk:∀j,(j=g\/aA A j\/S j)->j<w.heap.size->w'.heap[j]?=w.heap[j]?):cG S w' g t A n c zs where
 b:=(hk g (.inl rfl) h.b.lt).trans h.b
 o:=cN h.o fun j hj hl=>hk j (.inr (.inl hj)) hl
 d:=h.d.keep fun j hj hl=>hk j (.inr (.inr hj)) hl
 l:=h.l
 i:=h.i
theorem cG.below(h:cG S w g t A n c zs)(hb:Below w.heap.size w w'):cG S w' g t A n c zs:=h.keep fun _ _ hl=>hb.block _ hl
theorem cG.mono{S':Nat->Prop}(h:cG S w g t A n c zs)(hS:∀j,j<w.heap.size->S j->S' j):cG S' w g t A n c zs:=⟨h.b,h.o,h.d.mono hS,h.l,h.i⟩
theorem cG.at_(h:cG S w g t A n c zs){k:Nat}(hk:k<n) :
  ∃ad B m d x,A=some ad/\zs[k]?=some (.slice B m d,x)/\t.L[k]?=some x/\w.cell? (ad.add (k*6))=some (.int .i64 x.idx)/\w.cell? ⟨(ad.add (k*6)).block,(ad.add (k*6)).off+1,none⟩=some (.int .i64 x.term)/\
   w.cell? ⟨(ad.add (k*6)).block,(ad.add (k*6)).off+2,none⟩=some (.int .i64 x.op)/\w.cell? ⟨(ad.add (k*6)).block,(ad.add (k*6)).off+3,none⟩=some (.int .i64 x.sess)/\
   w.cell? ⟨(ad.add (k*6)).block,(ad.add (k*6)).off+4,none⟩=some (.int .i64 x.seq)/\w.cell? ⟨(ad.add (k*6)).block,(ad.add (k*6)).off+5,none⟩=some (.slice B m d):=by
 obtain⟨ad,v,x,e,hz,c0,c1,c2,c3,c4,c5⟩:=h.r.at_ hk;obtain⟨B,m,d,hv,_⟩:=(h.d _ (List.mem_of_getElem? hz)).form;obtain rfl:v=_:=hv;refine⟨ad,B,m,d,x,e,hz,?_,c0,c1,c2,c3,c4,c5⟩;rw[<-h.l,List.getElem?_map,hz];rfl
theorem cG.cells(h:cG S w g t A n c zs):w.cell? ⟨g,0,none⟩=some (.int .i64 t.index)/\w.cell? ⟨g,1,none⟩=some (.int .i64 t.term)/\w.cell? ⟨g,2,none⟩=some (.slice A n c):=⟨h.b.cell 0,h.b.cell 1,h.b.cell 2⟩
end
theorem C5{i tm:Int}(hb:iK i tm=true)(w:World):Calls prog 45 #[.int .i64 i,.int .i64 tm] w fun e w'=>e=.returned (.pointer (some ⟨w.heap.size,0,none⟩))/\ao w' w.heap.size 138 #[.int .i64 i,.int .i64 tm,.slice none 0 0]/\Below w.heap.size w w':=by
 have hA:Below w.heap.size w (w.alloc (.cells #[.int .i64 i,.int .i64 tm,.slice none 0 0] 138)):=zb.alloc zl _;have hk:=ao.new w 138 #[.int .i64 i,.int .i64 tm,.slice none 0 0];by_cases h0:i=0/\tm=0
 ·obtain⟨rfl,rfl⟩:=h0;go_enter func45,ntmps45;go_wp2_with fail;go_ret;exact⟨rfl,hk,hA⟩
 ·have h1:eA i 1=true/\eA tm 1=true:=by
   unfold iK at hb;rw[Bool.or_eq_true,Bool.and_eq_true,Bool.and_eq_true,decide_eq_true_eq,decide_eq_true_eq]at hb;exact hb.resolve_left h0
  have h2:1<=i/\i<=1099511627776/\1<=tm/\tm<=1099511627776:=by
   have:=h1.1;have:=h1.2;simp only[eA,Bool.and_eq_true,decide_eq_true_eq]at *;omega
  obtain⟨a1,a2,a3,a4⟩:=h2;have a5:(i==0)=false:=beq_eq_false_iff_ne.2 (by omega);clear h0 hb h1;go_enter func45,ntmps45;go_wp2_with fail;go_ret;exact⟨rfl,hk,hA⟩
theorem sA(S:Nat->Prop)(x:En)(A:Option Addr)(n c:Nat)(w:World)(hf:aG S w (.slice A n c) x.facts)(hn:n<=maxLen) :
  Calls prog 93 #[mM x (.slice A n c)] w fun e w'=>e=.returned (.bool (dM x))/\Below w.heap.size w w':=by
 have aI:Below w.heap.size w (w.alloc (.cells #[.int .i64 x.idx,.int .i64 x.term,.int .i64 x.op,.int .i64 x.sess,.int .i64 x.seq,.slice A n c] 59)):=zb.alloc zl _;have aH:=qs S (.slice none 0 0) 0 x A n c (w.alloc (.cells #[.int .i64 x.idx,.int .i64 x.term,.int .i64 x.op,.int .i64 x.sess,.int .i64 x.seq,.slice A n c] 59)) (Bn.nil _) (by omega) (hf.keep (bA.below (S:=S) aI)) hn;unfold mM at *;obtain⟨k,hk⟩:=zN (kw x);have hP:=zH (uN hk);rw[hk]at aH;clear hk;go_enter func93,ntmps93;go_wp2_with fail;refine aH.mono ?_;rintro e w1 ⟨v1,rfl,br⟩;have br:=ab aI br zl;go_wp2_with fail;go_ret;exact⟨by rw[hP.out];rfl,br⟩
section
variable {S:Nat->Prop}{w w':World}{g n c:Nat}{t:bD}{A:Option Addr}{zs:List (Value×En)}
theorem zM(h:cG S w g t A n c zs)(hn:n<=1000000):Calls prog 47 #[.pointer (some ⟨g,0,none⟩)] w fun e w'=>e=.returned (.tuple #[.int .i64 t.lastF.1,.int .i64 t.lastF.2])/\Below w.heap.size w w':=by
 obtain⟨h0,h1,h2⟩:=h.cells;obtain⟨hl,_⟩:=h.len;rcases Nat.eq_zero_or_pos n with lz|lz
 ·have e:=zH (t.lastF_nil (List.eq_nil_of_length_eq_zero (by omega)));subst lz;clear hl;go_enter func47,ntmps47;go_wp2_with fail
  go_quiet (fail)
  go_wp2_with fail
  go_ret2
  exact⟨by rw[e.out];rfl,ay zb _⟩
 ·obtain⟨k,rfl⟩:∃k,n=k+1:=⟨n-1,by omega⟩;obtain⟨ad,B1,m1,d1,x,rfl,hz,hx,c0,c1,c2,c3,c4,c5⟩:=h.at_ (k:=k) (by omega);have e:=zH (show t.lastF=(x.idx,x.term) by
   obtain⟨y,hy,e⟩:=t.lastF_pos (by omega);rw[<-hl,show k+1-1=k by omega,hx]at hy;obtain rfl:=Option.some.inj hy;exact e)
  have la:=ar c0;obtain⟨kg,k0,k1,k2,k3,k4,k5⟩:=LV [g,(ad.add (k*6)).block] h2 c0 c1 c2 c3 c4 c5;have cW:=h.b.lt;have dA:∀q∈[g,(ad.add (k*6)).block],q<w.heap.size:=by simp;exact⟨cW,la⟩
  have qi:Below w.heap.size w (w.alloc (.cells #[.int .i64 0,.int .i64 0,.int .i64 0,.int .i64 0,.int .i64 0,.slice none 0 0] 59)).drew:=ay (zb.alloc zl _) 1;have DG:Below w.heap.size w (w.alloc (.cells #[.int .i64 x.idx,.int .i64 x.term,.int .i64 x.op,.int .i64 x.sess,.int .i64 x.seq,.slice B1 m1 d1] 59)):=zb.alloc zl _;clear hl hz hx c0 c1 c2 c3 c4 c5;have e1:IntKind.i64.wrap (((k+1:Nat):Int)-1)=(k:Int):=by rw[show((k+1:Nat):Int)-1=(k:Int) by omega];exact IntWalk.i64_in _ (by omega)
  go_enter func47,ntmps47;go_wp2_with fail;refine nj [g,(ad.add (k*6)).block] w [([0,1,2,3,4,5,6,7,8,9,10,11],12)] ([],13) ?_;refine aq fun K1 cQ=>?_
  simp only[ah,Zx];repeat go_big_quiet_step(fail)
  apply wpQuiet_nil;go_wp2_with fail;refine⟨av dA qi,cQ _ _ ?_⟩;refine aC ?_;simp only[ah,Zx];repeat go_big_quiet_step(fail)
  apply wpQuiet_nil;go_wp2_with fail
  go_quiet (fail)
  go_wp2_with fail
  go_ret2
  exact⟨by rw[e.out];rfl,ay (ay DG 1) _⟩
theorem mF(i:Int)(h:cG S w g t A n c zs)(hn:n<=1000000):Calls prog 92 #[.pointer (some ⟨g,0,none⟩),.int .i64 i] w fun e w'=>e=.returned (.tuple #[.int .i64 (t.termF i).1,.int .i64 (t.termF i).2])/\w=w':=by
 obtain⟨h0,h1,h2⟩:=h.cells;have hl:=zH h.len.1;by_cases i1:i<t.index
 ·have he:=zH (show t.termF i=(0,34)from if_pos i1);go_enter func92,ntmps92;go_wp2_with fail
  go_ret2
  exact⟨by rw[he.out];rfl,rfl⟩
 ·by_cases i3:i=t.index
  ·have he:=zH (show t.termF i=(t.term,0) by
    unfold bD.termF;rw[if_neg i1,if_pos i3])
   subst i3;go_enter func92,ntmps92;go_wp2_with fail
   go_ret2
   exact⟨by rw[he.out];rfl,rfl⟩
  ·have i4:(i==t.index)=false:=beq_eq_false_iff_ne.2 i3;go_enter func92,ntmps92;go_wp2_with fail
   go_loop [6] (fun i'=>∃k:Nat,k<=n/\i'=.int .i64 k/\¬(i<=t.index+k)) (fun i'=>n-(intOf i').toNat)
   case atStart=>exact⟨0,Nat.zero_le _,rfl,by omega⟩
   case round=>
    obtain⟨k,hk,rfl,dO⟩:=hrel;by_cases aU:k<n
    ·obtain⟨ad,B1,m1,d1,x,rfl,hz,hx,c0,c1,_⟩:=h.at_ aU;have CR:=h.i.idx _ _ hx;have aO:=zH (show n-(k+1)<n-k by omega);by_cases hm:x.idx=i
     ·have he:=zH (show t.termF i=(x.term,0) by
       unfold bD.termF;rw[if_neg (show ¬i<t.index by omega),if_neg i3,show(i-t.index-1).toNat=k by omega,hx])
      have tG:(x.idx==i)=true:=beq_iff_eq.2 hm;clear hz hx CR hm;generalize x.idx=xi at *;generalize x.term=xt at *;go_wp2_with fail
      go_ret2
      exact⟨by rw[he.out];rfl,rfl⟩
     ·have tG:(x.idx==i)=false:=beq_eq_false_iff_ne.2 hm;have Vd:=zH (show ¬(i<=t.index+((k+1:Nat):Int)) by omega);clear hz hx CR hm dO;generalize x.idx=xi at *;generalize x.term=xt at *;go_wp2_with fail;exact⟨⟨k+1,aU,by go_num,Vd.out⟩,by simp[intOf];exact aO.out⟩
    ·obtain rfl:k=n:=by omega
     have he:=zH (show t.termF i=(0,33) by
      unfold bD.termF;rw[if_neg (show ¬i<t.index by omega),if_neg i3,List.getElem?_eq_none (by rw[<-hl.out];omega)])
     clear dO;go_wp2_with fail
     go_ret2
     exact⟨by rw[he.out];rfl,rfl⟩
theorem BD{i term:Int}{k:Nat}{x:En}(hx:t.L[k]?=some x):bD.hintF {t with L:=t.L.take (k+1)} i term=if kG i term x=true then x.idx else bD.hintF {t with L:=t.L.take k} i term:=by
 unfold bD.hintF;dsimp only;rw[ib hx,List.filter_append];cases hh:kG i term x with
 | true=>
  rw[List.filter_cons,if_pos hh,List.getLast?_append];rfl
 | false=>
  rw[List.filter_cons,hh];simp
theorem Eu(i term:Int)(h:cG S w g t A n c zs)(hn:n<=1000000):Calls prog 142 #[.pointer (some ⟨g,0,none⟩),.int .i64 i,.int .i64 term] w fun e w'=>e=.returned (.int .i64 (t.hintF i term))/\w=w':=by
 obtain⟨h0,h1,h2⟩:=h.cells;have hl:=zH h.len.1;go_enter func142,ntmps142;go_wp2_with fail
 go_loop [7,8] (fun b i'=>∃(k:Nat) (v:Int),k<=n/\i'=.int .i64 k/\b=.int .i64 v/\bD.hintF {t with L:=t.L.take k} i term=v) (fun _ i'=>n-(intOf i').toNat)
 case atStart=>exact⟨0,t.index,Nat.zero_le _,rfl,rfl,rfl⟩
 case round=>
  obtain⟨k,v,hk,rfl,rfl,hv⟩:=hrel;by_cases aU:k<n
  ·obtain⟨ad,B1,m1,d1,x,rfl,hz,hx,c0,c1,_⟩:=h.at_ aU;have hs:=BD (t:=t) (i:=i) (term:=term) hx;rw[hv]at hs;have aO:=zH (show n-(k+1)<n-k by omega);by_cases m1':x.idx<i
   ·by_cases m2':x.term<=term
    ·have hh:kG i term x=true:=by unfold kG;rw[decide_eq_true m1',decide_eq_true m2'];rfl
     rw[if_pos hh]at hs;have hs:=zH hs;clear hz hx hv hh;go_wp2_with fail;exact⟨⟨k+1,x.idx,aU,by go_num,rfl,hs.out⟩,by simp[intOf];exact aO.out⟩
    ·have hh:kG i term x=false:=by unfold kG;rw[decide_eq_true m1',decide_eq_false m2'];rfl
     rw[hh]at hs;have hs:=zH hs;clear hz hx hv hh;go_wp2_with fail;exact⟨⟨k+1,v,aU,by go_num,rfl,hs.out⟩,by simp[intOf];exact aO.out⟩
   ·have hh:kG i term x=false:=by unfold kG;rw[decide_eq_false m1'];rfl
    rw[hh]at hs;have hs:=zH hs;clear hz hx hv hh;go_wp2_with fail;exact⟨⟨k+1,v,aU,by go_num,rfl,hs.out⟩,by simp[intOf];exact aO.out⟩
  ·obtain rfl:k=n:=by omega
   have he:=zH (show t.hintF i term=v by rw[<-hv,List.take_of_length_le (by rw[<-hl.out];exact Nat.le_refl _)]);clear hv;go_wp2_with fail;go_ret;exact⟨by rw[he.out];rfl,rfl⟩
end
def sl(zs:List (Value×En))(on:Bool)(k nn j:Nat):List (Value×En):=if on then((zs.take j).drop k).take nn else[]
theorem Ih{zs:List (Value×En)}{k nn j:Nat}{z:Value×En}(hz:zs[j]?=some z)(hk:k<=j)(hn:(sl zs true k nn j).length<nn):sl zs true k nn (j+1)=sl zs true k nn j++[z]:=by
 have hj:=(List.getElem?_eq_some_iff.1 hz).1;unfold sl at *;simp only[if_true]at *;have hl:((zs.take j).drop k).length=j-k:=by rw[List.length_drop,List.length_take,Nat.min_eq_left (by omega)]
 have dG:(((zs.take j).drop k).take nn).length=min nn (j-k):=by rw[List.length_take,hl]
 rw[dG]at hn;rw[ib hz,List.drop_append_of_le_length (by rw[List.length_take,Nat.min_eq_left (by omega)];exact hk),List.take_append,hl];rw[List.take_of_length_le (l:=[z]) (by simp;omega)]
theorem C7{zs:List (Value×En)}{k nn j:Nat}(hn:¬(sl zs true k nn j).length<nn):sl zs true k nn (j+1)=sl zs true k nn j:=by
 unfold sl at *;simp only[if_true]at *;rcases Nat.lt_or_ge j zs.length with hj|hj
 ·have hl:((zs.take j).drop k).length=j-k:=by rw[List.length_drop,List.length_take,Nat.min_eq_left (by omega)]
  have dG:(((zs.take j).drop k).take nn).length=min nn (j-k):=by rw[List.length_take,hl]
  rw[dG]at hn;rcases Nat.lt_or_ge j k with h|h
  ·have:nn=0:=by omega
   subst this;simp
  ·rw[ib (List.getElem?_eq_getElem hj),List.drop_append_of_le_length (by rw[List.length_take,Nat.min_eq_left (by omega)];exact h),List.take_append,hl,show nn-(j-k)=0 by omega];simp
 ·have e1:zs.take (j+1)=zs:=List.take_of_length_le (by omega);have e2:zs.take j=zs:=List.take_of_length_le (by omega);rw[e1,e2]
theorem zT{zs:List (Value×En)}{k nn j:Nat}(h:j<=k):sl zs true k nn j=[]:=by
 unfold sl;rw[if_pos rfl,List.drop_eq_nil_of_le (by rw[List.length_take];omega),List.take_nil]
theorem Oi{zs:List (Value×En)}{on:Bool}{k nn j:Nat}:∀z∈sl zs on k nn j,z∈zs:=fun z hz=>by
 unfold sl at hz;split at hz
 ·exact List.mem_of_mem_take (List.mem_of_mem_drop (List.mem_of_mem_take hz))
 ·cases hz
section
variable {S:Nat->Prop}{w w':World}{g n c:Nat}{t:bD}{A:Option Addr}{zs:List (Value×En)}
theorem Oh{on:Bool}{k nn:Nat}{i m:Int}(hl:zs.map (·.2)=t.L)(ho:on=decide (t.index<i))(hk:on=true->(i-t.index-1)=k)(hn:m.toNat=nn):(sl zs on k nn zs.length).map (·.2)=t.sliceF i m:=by
 unfold sl bD.sliceF;by_cases h:t.index<i
 ·rw[decide_eq_true h]at ho;rw[if_pos ho,List.take_of_length_le zl,List.map_take,List.map_drop,hl];by_cases h1:m<1
  ·rw[if_pos (.inr h1),show nn=0 by omega];rfl
  ·rw[if_neg (by omega),hk ho,hn];rfl
 ·rw[decide_eq_false h]at ho;subst ho;rw[if_pos (show i<=t.index\/m<1 from .inl (by omega))];rfl
theorem Ci(i m:Int)(h:cG S w g t A n c zs)(hn:n<=1000000):Calls prog 133 #[.pointer (some ⟨g,0,none⟩),.int .i64 i,.int .i64 m] w fun e w'=>∃(A':Option Addr) (n' c':Nat) (zs':List (Value×En)),e=.returned (.slice A' n' c')/\w'.ownsRow w.heap.size 59 6 (.slice A' n' c') n' (zs'.flatMap cl)/\(∀z∈zs',z∈zs)/\zs'.map (·.2)=t.sliceF i m/\Below w.heap.size w w':=by
 have xA:=zH h.len.2;obtain⟨on,S5⟩:=zN (decide (t.index<i));obtain⟨k,hk⟩:∃k:Nat,(i-t.index-1).toNat=k:=⟨_,rfl⟩;obtain⟨nn,fi⟩:∃nn:Nat,m.toNat=nn:=⟨_,rfl⟩;have og:=zH (Oh (on:=on) (k:=k) (nn:=nn) (i:=i) (m:=m) h.l S5.symm (fun h=>by rw[h,decide_eq_true_eq]at S5;omega) fi);have hth:∀j:Nat,(on&&decide (k<j))=(on&&decide (k<j)):=fun _=>rfl
 go_enter func133,ntmps133;go_wp2_with fail
 go_loopw [7,8,9] (fun o th i' wr=>∃(j:Nat) (A':Option Addr) (q c':Nat) (b:Bool),j<=n/\i'=.int .i64 j/\o=.slice A' q c'/\th=.bool b/\b=(on&&decide (k<j))/\wr.ownsRow w.heap.size 59 6 (.slice A' q c') q ((sl zs on k nn j).flatMap cl)/\Below w.heap.size w wr) (fun _ _ i' _=>n-(intOf i').toNat)
 case atStart=>exact⟨0,none,0,0,false,Nat.zero_le _,rfl,rfl,rfl,by simp,by
   have e:sl zs on k nn 0=[]:=by unfold sl;cases on <;> simp
   rw[e];exact bX _ _,Below.refl _ _⟩
 case round=>
  obtain⟨j,A',q,c',b,hj,rfl,rfl,rfl,hb,aB,gL⟩:=hrel;have h':=h.below gL;obtain⟨h0,h1,h2⟩:=h'.cells;by_cases aU:j<n
  ·obtain⟨ad,B1,m1,d1,x,rfl,hz,hx,c0,c1,c2,c3,c4,c5⟩:=h'.at_ aU;have CR:=h.i.idx _ _ hx;have aO:=zH (show n-(j+1)<n-j by omega);have qp:(sl zs on k nn j).length=q:=by
    have:=aB.1;rw[eO eX]at this;omega
   have aI:Below wr.heap.size wr (wr.alloc (.cells #[.int .i64 x.idx,.int .i64 x.term,.int .i64 x.op,.int .i64 x.sess,.int .i64 x.seq,.slice B1 m1 d1] 59)):=zb.alloc zl _;have cw:=bf aB aI;have mR:=ab gL aI zl;have di:=ao.new wr 59 (cl (.slice B1 m1 d1,x)).toArray;have nB:q+1<=1000000000:=by
    have:(sl zs on k nn j).length<=n:=by
     unfold sl;split
     ·rw[List.length_take,List.length_drop,List.length_take];omega
     ·exact Nat.zero_le _
    omega
   have Gl:(b=true/\on=true/\k<j)\/(b=false/\on=true/\k=j/\(x.idx==i)=true)\/(b=false/\(on&&decide (k<j+1))=false/\(x.idx==i)=false/\sl zs on k nn (j+1)=sl zs on k nn j):=by
    cases on with
    | false=>
     rw[decide_eq_false_iff_not]at S5;exact .inr (.inr ⟨by simpa using hb,rfl,beq_eq_false_iff_ne.2 (by omega),rfl⟩)
    | true=>
     rw[decide_eq_true_eq]at S5;rcases Nat.lt_trichotomy k j with h3|h3|h3
     ·exact .inl ⟨by rw[hb,decide_eq_true h3];rfl,rfl,h3⟩
     ·exact .inr (.inl ⟨by rw[hb,decide_eq_false (by omega)];rfl,rfl,h3,beq_iff_eq.2 (by omega)⟩)
     ·refine .inr (.inr ⟨by rw[hb,decide_eq_false (by omega)];rfl,by rw[decide_eq_false (by omega)];rfl,beq_eq_false_iff_ne.2 (by omega),?_⟩);rw[zT (by omega),zT (by omega)]
   rcases Gl with⟨br,h3,h4⟩|⟨br,h3,h4,M0⟩|⟨br,h3,M0,h4⟩
   ·subst h3;rw[br];have fw:=zH (show true=(true&&decide (k<j+1)) by rw[decide_eq_true (by omega)];rfl);clear hb br;by_cases XM:(q:Int)<m
    ·have dP:=zH (Ih (nn:=nn) hz (show k<=j by omega) (by rw[qp];omega));clear hz hx CR qp aB gL;go_wp2_with (at_builtin;refine aW rfl (.tmp 39) (.tmp 47) rfl w.heap.size rfl cw rfl (ff.one di) (fun y hy=>by rw[List.mem_singleton.1 hy];rfl) nB mR.size ?_;intro A6 c6 w6 eZ hfr6 iT hrow6);exact⟨⟨j+1,A6,q+1,c6,true,aU,by go_num,rfl,rfl,fw.out,by rw[dP.out];exact eZ,mR.trans iT⟩,by simp[intOf];exact aO.out⟩
    ·have dP:=zH (C7 (nn:=nn) (j:=j) (zs:=zs) (k:=k) (by rw[qp];omega));clear hz hx CR qp cw mR;go_wp2_with fail;exact⟨⟨j+1,A',q,c',true,aU,by go_num,rfl,rfl,fw.out,by rw[dP.out];exact aB,gL⟩,by simp[intOf];exact aO.out⟩
   ·subst h3;rw[br];have fw:=zH (show true=(true&&decide (k<j+1)) by rw[decide_eq_true (by omega)];rfl);clear hb br;by_cases XM:(q:Int)<m
    ·have dP:=zH (Ih (nn:=nn) hz (show k<=j by omega) (by rw[qp];omega));clear hz hx CR qp aB gL;go_wp2_with (at_builtin;refine aW rfl (.tmp 39) (.tmp 47) rfl w.heap.size rfl cw rfl (ff.one di) (fun y hy=>by rw[List.mem_singleton.1 hy];rfl) nB mR.size ?_;intro A6 c6 w6 eZ hfr6 iT hrow6);exact⟨⟨j+1,A6,q+1,c6,true,aU,by go_num,rfl,rfl,fw.out,by rw[dP.out];exact eZ,mR.trans iT⟩,by simp[intOf];exact aO.out⟩
    ·have dP:=zH (C7 (nn:=nn) (j:=j) (zs:=zs) (k:=k) (by rw[qp];omega));clear hz hx CR qp cw mR;go_wp2_with fail;exact⟨⟨j+1,A',q,c',true,aU,by go_num,rfl,rfl,fw.out,by rw[dP.out];exact aB,gL⟩,by simp[intOf];exact aO.out⟩
   ·rw[br];have h4:=zH h4;have h3:=zH h3;clear hz hx CR qp cw mR hb br;go_wp2_with fail;exact⟨⟨j+1,A',q,c',false,aU,by go_num,rfl,rfl,h3.out.symm,by rw[h4.out];exact aB,gL⟩,by simp[intOf];exact aO.out⟩
  ·obtain rfl:j=n:=by omega
   clear hb;go_wp2_with fail;go_ret;exact⟨A',q,c',_,rfl,aB,Oi,by have:=og.out;rw[xA.out]at this;exact this,gL⟩
end
def fN(S:Nat->Prop)(w:World)(g:Nat)(A:Option Addr)(t':bD)(w':World):Prop:=
 ∃(A':Option Addr) (n' c':Nat) (zs':List (Value×En)),cG S w' g t' A' n' c' zs'/\(∀j,aA A' j->aA A j\/w.heap.size<=j)/\Fr (fun j=>j=g) w w'
section
variable {S:Nat->Prop}{w w':World}{g n c:Nat}{t:bD}{A:Option Addr}{zs:List (Value×En)}
theorem fN.same(h:cG S w g t A n c zs)(hb:Below w.heap.size w w'):fN S w g A t w':=⟨A,n,c,zs,h.below hb,fun _ h=>.inl h,Fr.of_below hb⟩
theorem cG.moveF{X:Nat->Prop}(h:cG S w g t A n c zs)(hF:Fr X w w')(hX:∀j,(j=g\/aA A j\/S j)->j<w.heap.size->¬X j):cG S w' g t A n c zs:=h.keep fun j hj hl=>hF.block j hl (hX j hj hl)
theorem cG.rowlt(h:cG S w g t A n c zs):∀j,aA A j->j<w.heap.size:=fun j hj=>(aw h.o A c rfl j hj).1
theorem cG.setRow{w7:World}{A7:Option Addr}{n7 c7:Nat}{zs7:List (Value×En)}{L7:List En}{base:Nat}(hk:ao w7 g 138 #[.int .i64 t.index,.int .i64 t.term,.slice A n c])
  (ho:w7.ownsRow base 59 6 (.slice A7 n7 c7) n7 (zs7.flatMap cl)) (hd:bo S w7 zs7) (hl:zs7.map (·.2)=L7) (hi:bD.Inv {t with L:=L7}) (hS:∀j,S j->j≠g) :
  cG S (w7.setCell ⟨g,2,none⟩ (.slice A7 n7 c7)) g {t with L:=L7} A7 n7 c7 zs7 where
 b:=by simpa using hk.set_ 2 (.slice A7 n7 c7)
 o:=cN (eB ho zz) fun j hj hl=>(Fr.set g 2 _).block j hl fun e=>by
  obtain⟨_,_,cs,h⟩:=aw ho A7 c7 rfl j hj;exact i9 hk h (by decide) e
 d:=hd.keep fun j hj hl=>(Fr.set g 2 _).block j hl (hS j hj)
 l:=hl
 i:=hi
theorem Ez{w7:World}{A7:Option Addr}{c7 base g3:Nat}{v:Value}{e:En}{cs0:Array Value}(h:cG S w g t A n c zs)(mP:Below w.heap.size w w7)(eH:w7.ownsRow base 59 6 (.slice A7 (n+1) c7) (n+1) ((zs++[(v,e)]).flatMap cl))
  (bE:w.heap.size+1<base) (hf:aG S w v e.facts) (R9:ao w7 (w.heap.size+1) 59 cs0) (fO:cs0.size=6) (BR:ao w7 g3 59 (cl (v,e)).toArray) (iy:w.heap.size<=g3) (hS:∀j,S j->j<w.heap.size/\j≠g) (dJ:bD.Inv {t with L:=t.L++[e]}) :
  ao w7 g 138 #[.int .i64 t.index,.int .i64 t.term,.slice A n c]/\ao (w7.setCell ⟨g,2,none⟩ (.slice A7 (n+1) c7)) (w.heap.size+1) 59 cs0/\ao (w7.setCell ⟨g,2,none⟩ (.slice A7 (n+1) c7)) g3 59 (cl (v,e)).toArray/\
   ao (set6 (w7.setCell ⟨g,2,none⟩ (.slice A7 (n+1) c7)) (w.heap.size+1) (v,e)) (w.heap.size+1) 59 (cl (v,e)).toArray/\
   aG S (set6 (w7.setCell ⟨g,2,none⟩ (.slice A7 (n+1) c7)) (w.heap.size+1) (v,e)) v e.facts/\fN S w g A {t with L:=t.L++[e]} (set6 (w7.setCell ⟨g,2,none⟩ (.slice A7 (n+1) c7)) (w.heap.size+1) (v,e)):=by
 have cW:=h.b.lt;have Pq:ao w7 g 138 #[.int .i64 t.index,.int .i64 t.term,.slice A n c]:=(mP.block g cW).trans h.b;have KW:aG S w7 v e.facts:=hf.keep (bA.below (S:=S) mP);have Uw:bo S w7 (zs++[(v,e)]):=(h.d.keep (bA.below (S:=S) mP)).append fun z hz=>by
  rw[List.mem_singleton.1 hz];exact KW
 have h8:=cG.setRow (t:=t) Pq eH Uw (L7:=t.L++[e]) (by rw[List.map_append,h.l];rfl) dJ fun j hj=>(hS j hj).2
 have Gy:Fr (fun j=>j=g) w (w7.setCell ⟨g,2,none⟩ (.slice A7 (n+1) c7)):=(Fr.of_below (X:=fun j=>j=g) mP).trans (Fr.set g 2 _) fun _ h=>.inl h
 have Lo:∀j,aA A7 j->aA A j\/w.heap.size<=j:=fun j hj=>.inr (by have:=(aw eH A7 c7 rfl j hj).2.1;omega)
 have NQ:=BR.far (p:=⟨g,2,none⟩) (show g3≠g by omega) (.slice A7 (n+1) c7);have fX:=R9.far (p:=⟨g,2,none⟩) (show w.heap.size+1≠g by omega) (.slice A7 (n+1) c7);obtain⟨s1,s2,s3⟩:=eT (v,e) fX fO;have s4:=Fr.set6 (w7.setCell ⟨g,2,none⟩ (.slice A7 (n+1) c7)) (w.heap.size+1) (v,e);have lO:=h8.moveF s4 fun j hj _=>by
  rcases hj with rfl|hj|hj
  ·omega
  ·have h0:=(aw eH A7 c7 rfl j hj).2.1;omega
  ·have:=(hS j hj).1;omega
 exact⟨Pq,fX,NQ,s1,(KW.keep ((Fr.set (w:=w7) g 2 (.slice A7 (n+1) c7)).stay fun j hj _=>(hS j hj).2)).keep (s4.stay fun j hj _=>by have:=(hS j hj).1;omega),
   A7,n+1,c7,_,lO,Lo,Gy.trans s4 fun j hj=>.inr (by omega)⟩
theorem Ib(tm:Int)(x:En)(V:Option Addr)(m d:Nat)(h:cG S w g t A n c zs)(hn:n<=1000000)(hf:aG S w (.slice V m d) x.facts)(hm:m<=maxLen)(hS:∀j,S j->j<w.heap.size/\j≠g) :
  Calls prog 69 #[.pointer (some ⟨g,0,none⟩),.int .i64 tm,qc x (.slice V m d)] w fun e w'=>∃vy,e=.returned (.tuple #[mM (t.putF tm x).1.1 vy,.int .i64 (t.putF tm x).1.2])/\aG S w' vy (t.putF tm x).1.1.facts/\fN S w g A (t.putF tm x).2 w':=by
 have CI:=h.i.last;have hb:=h.i.b;have hr:=h.i.room;rw[<-h.len.1]at CI hr;have xp:=h.i.lastB;have oc:=zH (fun h1=>uP (t:=t) (tm:=tm) (x:=x) h1);have qg:=zH (fun h1 h2=>zF (t:=t) (tm:=tm) (x:=x) h1 h2);have cR:=zH (fun h1 h2 h3=>C3 (t:=t) (tm:=tm) (x:=x) h1 h2 h3);have jr:=zH (fun p q r=>h.i.put (x:=lh (t.lastF.1+1) tm x) p q r);obtain⟨aI,cA,eY⟩:=gE w 42 59 #[.int .i64 x.op,.int .i64 x.sess,.int .i64 x.seq,.slice V m d] #[.int .i64 0,.int .i64 0,.int .i64 0,.int .i64 0,.int .i64 0,.slice none 0 0];have hA:=h.below aI;have Qs:=hf.keep (bA.below (S:=S) aI);have bH:=zM hA hn;obtain⟨l2,dG⟩:=zN (t.lastF.2);obtain⟨l1,cD⟩:=zN (t.lastF.1);rw[cD]at CI oc qg cR jr;rw[dG]at xp qg cR jr;rw[cD,dG]at bH;have DP:0<=l1/\l1<=1099511627776:=by omega
 clear cD dG CI hr;unfold qc;go_enter func69,ntmps69;go_wp2_with fail;generalize(w.alloc (.cells #[.int .i64 x.op,.int .i64 x.sess,.int .i64 x.seq,.slice V m d] 42)).alloc (.cells #[.int .i64 0,.int .i64 0,.int .i64 0,.int .i64 0,.int .i64 0,.slice none 0 0] 59)=w1 at *;refine bH.mono ?_;rintro e w2 ⟨rfl,bQ⟩;clear bH;have h2:=hA.below bQ;have qz:=Qs.keep (bA.below (S:=S) bQ);have dF:=ab aI bQ zl;have b1:=cA.kept bQ;have b2:=eY.kept bQ;obtain⟨c0,c1,c2,c3,-⟩:=b1.cs [0,1,2,3];simp only[Zx]at c0 c1 c2 c3;have pK:=b2.lt;clear hA Qs cA eY bQ b1;have cW:=h.b.lt;have CO:=h.rowlt;have fin:∀(w5 w6:World) (y:En) (v:Value),Below w.heap.size w w5->ao w5 (w.heap.size+1) 59 #[.int .i64 0,.int .i64 0,.int .i64 0,.int .i64 0,.int .i64 0,.slice none 0 0]->set6 w5 (w.heap.size+1) (v,y)=w6->
   ao w6 (w.heap.size+1) 59 #[.int .i64 y.idx,.int .i64 y.term,.int .i64 y.op,.int .i64 y.sess,.int .i64 y.seq,v]/\Below w.heap.size w w6/\Fr (fun j=>j=w.heap.size+1) w5 w6:=fun w5 w6 y v hb hk e=>by
  subst e;obtain⟨s1,s2,s3⟩:=eT (v,y) hk rfl;exact⟨s1,hb.trans (s3 _ (by omega)),Fr.set6 _ _ _⟩
 have finE:∀(w5 w6:World) (k:Int),cG S w5 g t A n c zs->Below w.heap.size w w5->ao w5 (w.heap.size+1) 59 #[.int .i64 0,.int .i64 0,.int .i64 0,.int .i64 0,.int .i64 0,.slice none 0 0]->set6 w5 (w.heap.size+1) (.slice none 0 0,gc)=w6->t.putF tm x=((gc,k),t)->
   ao w6 (w.heap.size+1) 59 #[.int .i64 0,.int .i64 0,.int .i64 0,.int .i64 0,.int .i64 0,.slice none 0 0]/\
   ∃vy,Ending.returned (.tuple #[.agg #[.int .i64 0,.int .i64 0,.int .i64 0,.int .i64 0,.int .i64 0,.slice none 0 0],.int .i64 k])=.returned (.tuple #[mM (t.putF tm x).1.1 vy,.int .i64 (t.putF tm x).1.2])/\aG S w6 vy (t.putF tm x).1.1.facts/\fN S w g A (t.putF tm x).2 w6:=fun w5 w6 k h5 hb hk e he=>by
  obtain⟨s1,s3,s4⟩:=fin w5 w6 gc _ hb hk e;rw[he];refine⟨s1,.slice none 0 0,rfl,aG.nil _ _,A,n,c,zs,?_,fun _ h=>.inl h,Fr.of_below s3⟩;exact h5.moveF s4 fun j hj _=>by
   rcases hj with rfl|hj|hj
   ·omega
   ·have:=CO j hj;omega
   ·have:=(hS j hj).1;omega
 by_cases i1:l1=1099511627776
 ·have he:=oc.out (by omega);obtain⟨d0,d1,d2,d3,d4,d5,-⟩:=b2.cs [0,1,2,3,4,5];obtain⟨f0,f1,f2,f3,f4,f5,-⟩:=b2.fs [0,1,2,3,4,5];simp only[Zx]at d0 d1 d2 d3 d4 d5;have aE:=zH (finE w2 _ 41 h2 dF b2 rfl he);subst i1;clear he finE fin CO oc qg cR jr;go_wp2_with fail;replace aE:=aE.out;show bodyPost _ _ _ _ _ (set6 w2 (w.heap.size+1) (.slice none 0 0,gc));generalize set6 w2 (w.heap.size+1) (.slice none 0 0,gc)=w9 at *;obtain⟨q,aE⟩:=aE;obtain⟨r0,r1,r2,r3,r4,r5,-⟩:=q.cs [0,1,2,3,4,5];simp only[Zx]at r0 r1 r2 r3 r4 r5;exact bodyPost_ret (v:=.tuple #[.agg #[.int .i64 0,.int .i64 0,.int .i64 0,.int .i64 0,.int .i64 0,.slice none 0 0],.int .i64 41]) (by simp[results,results69,go_sem,r0,r1,r2,r3,r4,r5]) rfl aE
 ·have i1b:(l1==1099511627776)=false:=beq_eq_false_iff_ne.2 i1;have ru:Below w2.heap.size w2 (w2.alloc (.cells #[.int .i64 (l1+1),.int .i64 tm,.int .i64 x.op,.int .i64 x.sess,.int .i64 x.seq,.slice V m d] 59)):=zb.alloc zl _;have b3:=ao.new w2 59 #[.int .i64 (l1+1),.int .i64 tm,.int .i64 x.op,.int .i64 x.sess,.int .i64 x.seq,.slice V m d];have b2:=b2.kept ru;have h3:=h2.below ru;have xm:=qz.keep (bA.below (S:=S) ru);have eF:=ab dF ru zl;obtain⟨bp,qy⟩:=zN (dM (lh (l1+1) tm x));have aH:=sA S (lh (l1+1) tm x) V m d _ xm hm;rw[qy]at aH;unfold mM lh at aH;dsimp only at aH;have Zq:l1<=1099511627775:=by omega
  go_wp2_with fail;generalize jm:w2.alloc (.cells #[.int .i64 (l1+1),.int .i64 tm,.int .i64 x.op,.int .i64 x.sess,.int .i64 x.seq,.slice V m d] 59)=w3 at *;clear jm ru h2 qz c0 c1 c2 c3;have yM:w.heap.size+1≠w2.heap.size:=by omega
  have O7:w.heap.size<=w2.heap.size:=by omega
  generalize w2.heap.size=g3 at *;clear dF pK;refine aH.mono ?_;rintro e w4 ⟨rfl,cO⟩;have b2:=b2.kept cO;have b3:=b3.kept cO;have h4:=h3.below cO;have Jz:=xm.keep (bA.below (S:=S) cO);have iH:=ab eF cO zl;clear h3 xm cO eF aH;have dO:(tm<l2\/(l2<=tm/\bp=false))\/(l2<=tm/\bp=true):=by
   by_cases h0:tm<l2
   ·exact .inl (.inl h0)
   ·cases bp
    ·exact .inl (.inr ⟨by omega,rfl⟩)
    ·exact .inr ⟨by omega,rfl⟩
  obtain⟨d0,d1,d2,d3,d4,d5,-⟩:=b2.cs [0,1,2,3,4,5];obtain⟨f0,f1,f2,f3,f4,f5,-⟩:=b2.fs [0,1,2,3,4,5];simp only[Zx]at d0 d1 d2 d3 d4 d5;rcases dO with dO|⟨i2,dO⟩
  ·have he:=qg.out (by omega) (dO.imp_right fun h=>by rw[qy];exact h.2);have aE:=zH (finE w4 _ 1 h4 iH b2 rfl he);clear he finE fin CO oc qg cR jr qy;rcases dO with dO|⟨i2,dO⟩
   all_goals
    first
     | subst dO
     | skip
    go_wp2_with fail;replace aE:=aE.out;show bodyPost _ _ _ _ _ (set6 w4 (w.heap.size+1) (.slice none 0 0,gc));generalize set6 w4 (w.heap.size+1) (.slice none 0 0,gc)=w9 at *;obtain⟨q,aE⟩:=aE;obtain⟨r0,r1,r2,r3,r4,r5,-⟩:=q.cs [0,1,2,3,4,5];simp only[Zx]at r0 r1 r2 r3 r4 r5;exact bodyPost_ret (v:=.tuple #[.agg #[.int .i64 0,.int .i64 0,.int .i64 0,.int .i64 0,.int .i64 0,.slice none 0 0],.int .i64 1]) (by simp[results,results69,go_sem,r0,r1,r2,r3,r4,r5]) rfl aE
  ·subst dO;have J7:=b2.lt;have iy:=b3.lt;have he:=zH (cR.out (by omega) (by omega) qy);have dJ:=zH (jr.out rfl qy (by show l2<=tm;omega));clear finE oc qg cR jr qy d0 d1 d2 d3 d4 d5 f0 f1 f2 f3 f4 f5;have q2:=h4.cells.2.2;obtain⟨a0,a1,a2,a3,a4,a5,-⟩:=b3.cs [0,1,2,3,4,5];simp only[Zx]at a0 a1 a2 a3 a4 a5;have gz:w4.ownsRow w4.heap.size 59 6 (.slice none 0 0) 0 (([]:List (Value×En)).flatMap cl):=bX _ _;have fo:=h4.d.one;have Ta:=h4.r;have iU:n+1<=1000000000:=by omega
   go_wp2_with (first
    | (at_builtin;refine aW rfl (.tmp 36) (.tmp 40) rfl w4.heap.size rfl gz rfl (ys:=zs) Ta fo (by omega) zl ?_;intro A5 c5 w5 dq hfr5 cM ol;simp only[Nat.zero_add,List.nil_append]at dq ⊢;replace b2:=b2.kept cM;replace b3:=b3.kept cM;have h5:=h4.below cM;have kE:=ab iH cM zl;clear a0 a1 a2 a3 a4 a5 q2 Ta;obtain⟨a0,a1,a2,a3,a4,a5,-⟩:=b3.cs [0,1,2,3,4,5];simp only[Zx]at a0 a1 a2 a3 a4 a5;have dX:Below w5.heap.size w5 (w5.alloc (.cells #[.int .i64 (l1+1),.int .i64 tm,.int .i64 x.op,.int .i64 x.sess,.int .i64 x.seq,.slice V m d] 59)):=zb.alloc zl _;have di:ao (w5.alloc (.cells #[.int .i64 (l1+1),.int .i64 tm,.int .i64 x.op,.int .i64 x.sess,.int .i64 x.seq,.slice V m d] 59)) w5.heap.size 59 (cl (.slice V m d,lh (l1+1) tm x)).toArray:=ao.new w5 59 (cl (.slice V m d,lh (l1+1) tm x)).toArray;have eZ:=bf dq dX;have E9:w4.heap.size<=(w5.alloc (.cells #[.int .i64 (l1+1),.int .i64 tm,.int .i64 x.op,.int .i64 x.sess,.int .i64 x.seq,.slice V m d] 59)).heap.size:=by have:=dX.size;have:=cM.size;omega)
    | (at_builtin;refine aW rfl (.tmp 42) (.tmp 44) rfl w4.heap.size rfl eZ rfl (ff.one di) (fun y hy=>by rw[List.mem_singleton.1 hy];rfl) iU E9 ?_;intro A7 c7 w7 eH oX iw nc;obtain⟨w6,Fl⟩:=zN (w5.alloc (.cells #[.int .i64 (l1+1),.int .i64 tm,.int .i64 x.op,.int .i64 x.sess,.int .i64 x.seq,.slice V m d] 59));rw[Fl]at dX di eZ oX iw nc E9;clear Fl a0 a1 a2 a3 a4 a5 gz;have vL:=ab kE dX zl;have mP:Below w.heap.size w w7:=vL.trans (iw.mono (by have:=iH.size;omega));have R9:ao w7 (w.heap.size+1) 59 #[.int .i64 0,.int .i64 0,.int .i64 0,.int .i64 0,.int .i64 0,.slice none 0 0]:=(iw.block _ J7).trans (b2.kept dX);have BR:ao w7 g3 59 #[.int .i64 (l1+1),.int .i64 tm,.int .i64 x.op,.int .i64 x.sess,.int .i64 x.seq,.slice V m d]:=(iw.block g3 iy).trans (b3.kept dX);obtain⟨Pq,fX,NQ,s1,hP⟩:=Ez h mP eH J7 hf R9 rfl BR O7 hS dJ.out;have NQ:ao (w7.setCell ⟨g,2,none⟩ (.slice A7 (n+1) c7)) g3 59 #[.int .i64 (l1+1),.int .i64 tm,.int .i64 x.op,.int .i64 x.sess,.int .i64 x.seq,.slice V m d]:=NQ;have hP:=zH hP;have s1:=zH s1;have fg:=Pq.free 2;have cg:=Pq.cell 2;obtain⟨d0,d1,d2,d3,d4,d5,-⟩:=fX.cs [0,1,2,3,4,5];obtain⟨f0,f1,f2,f3,f4,f5,-⟩:=fX.fs [0,1,2,3,4,5];obtain⟨a0,a1,a2,a3,a4,a5,-⟩:=NQ.cs [0,1,2,3,4,5];have Y7:¬g3=g:=(by omega);have hgz:¬w.heap.size+1=g:=(by omega);have aal:¬g3=w.heap.size+1:=(by omega);simp only[Zx]at cg d0 d1 d2 d3 d4 d5 a0 a1 a2 a3 a4 a5;clear eH oX nc eZ dq hfr5 ol)
    | fail)
   show bodyPost _ _ _ _ _ (set6 (w7.setCell ⟨g,2,none⟩ (.slice A7 (n+1) c7)) (w.heap.size+1) (.slice V m d,lh (l1+1) tm x));clear d0 d1 d2 d3 d4 d5 a0 a1 a2 a3 a4 a5 f0 f1 f2 f3 f4 f5 fX NQ;replace s1:=s1.out;replace hP:=hP.out;generalize set6 (w7.setCell ⟨g,2,none⟩ (.slice A7 (n+1) c7)) (w.heap.size+1) (.slice V m d,lh (l1+1) tm x)=w10 at *;obtain⟨r0,r1,r2,r3,r4,r5,-⟩:=s1.cs [0,1,2,3,4,5];simp only[cl,vi,lh,Zx]at r0 r1 r2 r3 r4 r5;exact bodyPost_ret (v:=.tuple #[.agg #[.int .i64 (l1+1),.int .i64 tm,.int .i64 x.op,.int .i64 x.sess,.int .i64 x.seq,.slice V m d],.int .i64 0]) (by simp[results,results69,go_sem,r0,r1,r2,r3,r4,r5]) rfl ⟨.slice V m d,by rw[he.out];rfl,by rw[he.out];exact hP.1,by rw[he.out];exact hP.2⟩
end
section
variable {S:Nat->Prop}{w w':World}{g n c:Nat}{t:bD}{A:Option Addr}{zs:List (Value×En)}
theorem cG.setAll{w7:World}{A7:Option Addr}{n7 c7:Nat}{zs7:List (Value×En)}{L7:List En}{i tm:Int}{base:Nat}(hk:ao w7 g 138 #[.int .i64 t.index,.int .i64 t.term,.slice A n c])
  (ho:w7.ownsRow base 59 6 (.slice A7 n7 c7) n7 (zs7.flatMap cl)) (hd:bo S w7 zs7) (hl:zs7.map (·.2)=L7) (hi:bD.Inv ⟨i,tm,L7⟩) (hS:∀j,S j->j≠g) :
  cG S (((w7.setCell ⟨g,2,none⟩ (.slice A7 n7 c7)).setCell ⟨g,0,none⟩ (.int .i64 i)).setCell ⟨g,1,none⟩ (.int .i64 tm)) g ⟨i,tm,L7⟩ A7 n7 c7 zs7:=by
 have k2:=hk.set_ 2 (.slice A7 n7 c7);have k0:=k2.set_ 0 (.int .i64 i);have k1:=k0.set_ 1 (.int .i64 tm);have hF:Fr (fun j=>j=g) w7 (((w7.setCell ⟨g,2,none⟩ (.slice A7 n7 c7)).setCell ⟨g,0,none⟩ (.int .i64 i)).setCell ⟨g,1,none⟩ (.int .i64 tm)):=((Fr.set g 2 _).trans (Fr.set g 0 _) fun _ h=>.inl h).trans (Fr.set g 1 _) fun _ h=>.inl h
 exact
 {b:=by simpa using k1
  o:=cN (eB ho zz) fun j hj hl=>hF.block j hl fun e=>by
   obtain⟨_,_,cs,h⟩:=aw ho A7 c7 rfl j hj;exact i9 hk h (by decide) e
  d:=hd.keep fun j hj hl=>hF.block j hl (hS j hj)
  l:=hl
  i:=hi}
theorem tw{α:Type}{l:List α}{k j:Nat}{x:α}(h:l[j]?=some x)(hk:k<=j):(l.take (j+1)).drop k=(l.take j).drop k++[x]:=by
 have hj:=(List.getElem?_eq_some_iff.1 h).1;rw[ib h,List.drop_append_of_le_length (by rw[List.length_take,Nat.min_eq_left (by omega)];exact hk)]
theorem kv{α:Type}{l:List α}{k j:Nat}(hk:j<=k):(l.take j).drop k=[]:=List.drop_eq_nil_of_le (by rw[List.length_take];omega)
theorem Er(i:Int)(h:cG S w g t A n c zs)(hn:n<=1000000)(hS:∀j,S j->j≠g):Calls prog 128 #[.pointer (some ⟨g,0,none⟩),.int .i64 i] w fun e w'=>e=.returned (.int .i64 (t.dropF i).1)/\fN S w g A (t.dropF i).2 w':=by
 have cp:=mF i h hn;have dJ:=h.i.dropF i;obtain⟨v1,ci⟩:∃v,(t.termF i).1=v:=⟨_,rfl⟩;rcases kT t i with h2|h2|h2
 ·have he:=zH (show t.dropF i=(0,t) by unfold bD.dropF;rw[h2];rfl);rw[h2,ci]at cp;clear dJ ci h2;go_enter func128,ntmps128;go_wp2_with fail;refine cp.mono ?_;rintro e w1 ⟨rfl,rfl⟩;go_wp2_with fail;go_ret;exact⟨by rw[he.out];rfl,by rw[he.out];exact fN.same h zb⟩
 ·have he:=zH (show t.dropF i=(33,t) by unfold bD.dropF;rw[h2];rfl);rw[h2,ci]at cp;clear dJ ci h2;go_enter func128,ntmps128;go_wp2_with fail;refine cp.mono ?_;rintro e w1 ⟨rfl,rfl⟩;go_wp2_with fail;go_ret;exact⟨by rw[he.out];rfl,by rw[he.out];exact fN.same h zb⟩
 ·obtain⟨h5,h6,_⟩:=eR (t:=t) (i:=i) (term:=(t.termF i).1) (by rw[<-h2]);rw[<-h.len.1]at h6;have hb:=h.i.b;obtain⟨k,hk⟩:∃k:Nat,i-t.index=k:=⟨(i-t.index).toNat,by omega⟩;have yt:t.dropF i=(0,⟨i,v1,t.L.drop k⟩):=by
   unfold bD.dropF;rw[h2,ci,hk];rfl
  rw[yt]at dJ;have he:=zH yt;rw[h2,ci]at cp;have CH:k<=n:=by omega
  have xA:=zH h.len.2;clear ci h2 yt;go_enter func128,ntmps128;go_wp2_with fail;refine cp.mono ?_;rintro e w1 ⟨rfl,rfl⟩;clear cp;obtain⟨q0,q1,q2⟩:=h.cells;go_wp2_with fail
  go_loopw [7,8] (fun o i' wr=>∃(j:Nat) (A':Option Addr) (c':Nat),j<=n/\i'=.int .i64 j/\o=.slice A' (j-k) c'/\wr.ownsRow w.heap.size 59 6 (.slice A' (j-k) c') (j-k) (((zs.take j).drop k).flatMap cl)/\Below w.heap.size w wr) (fun _ i' _=>n-(intOf i').toNat)
  case atStart=>exact⟨0,none,0,Nat.zero_le _,rfl,by rw[Nat.zero_sub],by rw[Nat.zero_sub,kv zz];exact bX _ _,Below.refl _ _⟩
  case round=>
   clear q0 q1 q2;obtain⟨j,A',c',hj,rfl,rfl,aB,gL⟩:=hrel;have h':=h.below gL;obtain⟨q0,q1,q2⟩:=h'.cells;by_cases aU:j<n
   ·obtain⟨ad,B1,m1,d1,x,rfl,hz,hx,c0,c1,c2,c3,c4,c5⟩:=h'.at_ aU;have CR:=h.i.idx _ _ hx;have aO:=zH (show n-(j+1)<n-j by omega);have aI:Below wr.heap.size wr (wr.alloc (.cells #[.int .i64 x.idx,.int .i64 x.term,.int .i64 x.op,.int .i64 x.sess,.int .i64 x.seq,.slice B1 m1 d1] 59)):=zb.alloc zl _;have cw:=bf aB aI;have mR:=ab gL aI zl;have di:=ao.new wr 59 (cl (.slice B1 m1 d1,x)).toArray;by_cases Lf:k<=j
    ·have VS:i<x.idx:=by omega
     have cu:=zH (tw hz Lf);have nB:j-k+1<=1000000000:=by omega
     have jM:=zH (show j+1-k=j-k+1 by omega);obtain⟨q,hq⟩:=zN (j-k);rw[hq]at cw nB jM;simp only[hq];clear hz hx CR aB gL hq;go_wp2_with (at_builtin;refine aW rfl (.tmp 39) (.tmp 47) rfl w.heap.size rfl cw rfl (ff.one di) (fun y hy=>by rw[List.mem_singleton.1 hy];rfl) nB mR.size ?_;intro A6 c6 w6 eZ hfr6 iT hrow6);exact⟨⟨j+1,A6,c6,aU,by go_num,by rw[jM.out],by rw[jM.out,cu.out];exact eZ,mR.trans iT⟩,by simp[intOf];exact aO.out⟩
    ·have VS:¬i<x.idx:=by omega
     have cu:=zH (show((zs.take (j+1)).drop k=(zs.take j).drop k) by rw[kv (by omega),kv (by omega)]);have jM:=zH (show j+1-k=j-k by omega);obtain⟨q,hq⟩:=zN (j-k);rw[hq]at aB jM;simp only[hq];clear hz hx CR cw mR hq;go_wp2_with fail;exact⟨⟨j+1,A',c',aU,by go_num,by rw[jM.out],by rw[jM.out,cu.out];exact aB,gL⟩,by simp[intOf];exact aO.out⟩
   ·obtain rfl:j=n:=by omega
    have gC:(zs.take j).drop k=zs.drop k:=by rw[List.take_of_length_le (by rw[xA.out];exact Nat.le_refl _)]
    rw[gC]at aB;have ob:bo S wr (zs.drop k):=h'.d.sub fun y hy=>List.mem_of_mem_drop hy
    have lO:=cG.setAll (t:=t) (i:=i) (tm:=v1) h'.b aB ob (by rw[List.map_drop,h.l]) dJ hS;have hF:Fr (fun j=>j=g) w (((wr.setCell ⟨g,2,none⟩ (.slice A' (j-k) c')).setCell ⟨g,0,none⟩ (.int .i64 i)).setCell ⟨g,1,none⟩ (.int .i64 v1)):=
     (Fr.of_below gL).trans (((Fr.set g 2 _).trans (Fr.set g 0 _) fun _ h=>.inl h).trans (Fr.set g 1 _) fun _ h=>.inl h) fun j hj=>.inl hj
    have hP:=zH (show fN S w g A ⟨i,v1,t.L.drop k⟩ _ from⟨A',j-k,c',_,lO,fun j hj=>.inr (aw aB A' c' rfl j hj).2.1,hF⟩);obtain⟨f0,f1,f2,-⟩:=h'.b.fs [0,1,2];clear lO hF aB ob;go_wp2_with fail;go_ret;exact⟨by rw[he.out];rfl,by rw[he.out];exact hP.out⟩
end
section
variable {S:Nat->Prop}{w w':World}{g n c:Nat}{t:bD}{A:Option Addr}{zs:List (Value×En)}
theorem Il{α:Type}{l:List α}{k j:Nat}{x:α}(h:l[j]?=some x)(hk:j<k):l.take (min (j+1) k)=l.take (min j k)++[x]:=by
 rw[Nat.min_eq_left (by omega),Nat.min_eq_left (by omega),ib h]
theorem Cj{w7 wr:World}{A7:Option Addr}{N q i c7:Nat}{ad2:Addr}{v:Value}{ys:List (Value×En)}{x:En}{R:List En}(h:cG S w g t A n c zs)(gL:Below w.heap.size w wr)(iw:Below w.heap.size wr w7)
  (eH:w7.ownsRow w.heap.size 59 6 (.slice A7 N c7) N ((zs.take q++ys.drop i).flatMap cl)) (hd:bo S w ys) (hM:(ys.drop i).map (·.2)=x::R) (dJ:bD.Inv {t with L:=t.L.take q++x::R}) (hS:∀j,S j->j≠g)
  (o0:w.cell? (ad2.add (i*6))=some v) (xe:ad2.block≠g) :
  ao w7 g 138 #[.int .i64 t.index,.int .i64 t.term,.slice A n c]/\(w7.setCell ⟨g,2,none⟩ (.slice A7 N c7)).cell? (ad2.add (i*6))=some v/\fN S w g A {t with L:=t.L.take q++x::R} (w7.setCell ⟨g,2,none⟩ (.slice A7 N c7)):=by
 have mP:Below w.heap.size w w7:=gL.trans iw;have Qv:ao w7 g 138 #[.int .i64 t.index,.int .i64 t.term,.slice A n c]:=(mP.block g h.b.lt).trans h.b;have Uw:bo S w7 (zs.take q++ys.drop i):=((h.d.keep (bA.below (S:=S) mP)).sub fun y hy=>List.mem_of_mem_take hy).append ((hd.keep (bA.below (S:=S) mP)).sub fun y hy=>List.mem_of_mem_drop hy);have og:(zs.take q++ys.drop i).map (·.2)=t.L.take q++x::R:=by rw[List.map_append,List.map_take,h.l,hM]
 have h8:=cG.setRow (t:=t) Qv eH Uw og dJ hS;have o7:=(mP.cell (ar o0)).trans o0;refine⟨Qv,?_,A7,_,c7,_,h8,fun j hj=>.inr (aw eH A7 c7 rfl j hj).2.1,(Fr.of_below (X:=fun j=>j=g) mP).trans (Fr.set g 2 _) fun _ h=>.inl h⟩;rw[World.cell?_setCell_other]
 ·exact o7
 ·intro e;have:=congrArg Addr.block e;rw[bi]at this;exact xe this.symm
theorem EA(idx tm:Int)(A2:Option Addr)(m c2:Nat)(ys:List (Value×En))(h:cG S w g t A n c zs)(hn:n<=1000000)(hr:ff w A2 m ys)(hd:bo S w ys)
  (hm:m<=100000) (yH:m<=c2) (_hcc:c2<=maxLen) (hS:∀j,S j->j≠g) (xe:0<m->∀j,aA A2 j->j≠g) :
  Calls prog 46 #[.pointer (some ⟨g,0,none⟩),.int .i64 idx,.int .i64 tm,.slice A2 m c2] w fun e w'=>
   e=.returned (.tuple #[.int .i64 (t.takeF idx tm (ys.map (·.2))).1.1,.bool (t.takeF idx tm (ys.map (·.2))).1.2])/\fN S w g A (t.takeF idx tm (ys.map (·.2))).2 w':=by
 have cp:=mF idx h hn;have dO:=zH (fun h0=>zX (t:=t) (idx:=idx) (tm:=tm) (L:=ys.map (·.2)) h0);obtain⟨v1,ci⟩:∃v,(t.termF idx).1=v:=⟨_,rfl⟩;obtain⟨v2,gn⟩:∃v,(t.termF idx).2=v:=⟨_,rfl⟩;have hv:t.termF idx=(v1,v2):=by rw[<-ci,<-gn]
 rw[ci,gn]at cp;clear ci gn;have hl:=zH h.len.1;have xA:=zH h.len.2;have wu:=zH hr.len;have lS:=h.i.b;have UU:=h.i.room;rw[<-h.len.1]at UU;by_cases i1:v2=0
 ·by_cases i2:v1=tm
  ·subst i1;subst i2;have RN:=eR hv;rw[<-h.len.1]at RN;obtain⟨oN,IH,DM⟩:=RN;clear DM;have uf:=zH (fun(bM:bI idx 0 v1 (ys.map (·.2))=true) (h0:t.findDiff (ys.map (·.2))=none)=>sK hv bM h0);have ug:=zH (fun(bM:bI idx 0 v1 (ys.map (·.2))=true) (x:En) (R:List En) (h0:t.findDiff (ys.map (·.2))=some (x,R))=>sL hv bM h0);have uB:=zH (fun(bM:bI idx 0 v1 (ys.map (·.2))=true) (x:En) (R:List En) (h0:t.findDiff (ys.map (·.2))=some (x,R))=>ig (t:=t) (i:=0) (idx:=idx) (term:=v1) (x:=x) (r:=R) (by rw[show idx+((0:Nat):Int)=idx by omega];exact hv) bM h0);have kK:=zH (fun(bM:bI idx 0 v1 (ys.map (·.2))=true)=>nh bM);have dJ:=zH (h.i.takeF idx v1 (ys.map (·.2)));have hv:=zH hv;go_enter func46,ntmps46;go_wp2_with fail;refine cp.mono ?_;rintro e w1 ⟨rfl,rfl⟩;clear cp
   skip
   go_wp2_with fail
   go_loopw [12] (fun i' wr=>∃i:Nat,i<=m/\i'=.int .i64 i/\bI idx 0 v1 (ys.map (·.2))=bI idx i (iO v1 (ys.map (·.2)) i) ((ys.map (·.2)).drop i)/\Below w.heap.size w wr) (fun i' _=>m-(intOf i').toNat)
   case atStart=>exact⟨0,Nat.zero_le _,rfl,rfl,Below.refl _ _⟩
   case round=>
    obtain⟨i,hi,rfl,us,hb⟩:=hrel;by_cases aU:i<m
    ·obtain⟨ad2,v3,x,rfl,hx,c0,c1,c2',c3,c4,c5⟩:=(hr.below hb).at_ aU;have fx:=(hd _ (List.mem_of_getElem? hx)).keep (bA.below (S:=S) hb);obtain⟨B1,m1,d1,ci,l1,l2,l3⟩:=fx.form;obtain rfl:v3=_:=ci;have G7:(ys.map (·.2))[i]?=some x:=by rw[List.getElem?_map,hx];rfl
     have yr:=iq G7;rw[yr]at us;have du:=zH (show iO v1 (ys.map (·.2)) (i+1)=x.term by rw[eo,G7]);obtain⟨pv,Nx⟩:=zN (iO v1 (ys.map (·.2)) i);rw[Nx]at us;have us:bI idx 0 v1 (ys.map (·.2))=(dM x&&(decide (x.idx=idx+1+i)&&(decide (pv<=x.term)&&bI idx (i+1) x.term ((ys.map (·.2)).drop (i+1))))):=us;have aO:=zH (show m-(i+1)<m-i by omega);have aH:=sA S x B1 m1 d1 _ fx (Nat.le_trans l1 l2);unfold mM at aH;have M6:(i=0/\v1=pv)\/(∃k,i=k+1/\k<m/\∃w0:Unit,wr.cell? ⟨(ad2.add (k*6)).block,(ad2.add (k*6)).off+1,none⟩=some (.int .i64 pv)):=by
      rcases Nat.eq_zero_or_pos i with h0|h0
      ·subst h0;exact .inl ⟨rfl,Nx⟩
      ·obtain⟨k,rfl⟩:∃k,i=k+1:=⟨i-1,by omega⟩;obtain⟨ad3,v4,y,e3,hy,e0,e1,_⟩:=(hr.below hb).at_ (show k<m by omega);obtain rfl:=Option.some.inj e3;have:pv=y.term:=by rw[<-Nx,eo,List.getElem?_map,hy];rfl
       rw[this];exact .inr ⟨k,rfl,by omega,(),e1⟩
     obtain⟨bp,qy⟩:=zN (dM x);rw[qy]at aH us;have xf:=zH (fun h0:bI idx 0 v1 (ys.map (·.2))=false=>dO.out (by rw[h0];simp));have DW:=zH qy;have Rc:=zH us;clear hx G7 yr Nx fx qy us;go_wp2_with fail;refine aH.mono ?_;rintro e w1 ⟨rfl,br⟩;clear aH;have gJ:=ab hb br zl;have c0:=(br.cell (ar c0)).trans c0;have c1:=(br.cell (ar c1)).trans c1;have Gm:(bp=false/\bI idx 0 v1 (ys.map (·.2))=false)\/(bp=true/\¬x.idx=idx+1+i/\bI idx 0 v1 (ys.map (·.2))=false)\/(bp=true/\x.idx=idx+1+i/\x.term<pv/\bI idx 0 v1 (ys.map (·.2))=false)\/
       (bp=true/\x.idx=idx+1+i/\¬x.term<pv/\bI idx 0 v1 (ys.map (·.2))=bI idx (i+1) x.term ((ys.map (·.2)).drop (i+1))):=by
      have us:=Rc.out;cases bp with
      | false=>exact .inl ⟨rfl,us⟩
      | true=>
       by_cases j1:x.idx=idx+1+i
       ·rw[decide_eq_true j1]at us;by_cases j2:x.term<pv
        ·rw[decide_eq_false (show ¬pv<=x.term by omega)]at us;exact .inr (.inr (.inl ⟨rfl,j1,j2,us⟩))
        ·rw[decide_eq_true (show pv<=x.term by omega)]at us;exact .inr (.inr (.inr ⟨rfl,j1,j2,us⟩))
       ·rw[decide_eq_false j1]at us;exact .inr (.inl ⟨rfl,j1,us⟩)
     clear c2' c3 c4 c5 Rc uB ug uf kK dJ;rcases M6 with⟨iF,fd⟩|⟨k,iF,SV,_,fd⟩
     ·subst fd;have hz:¬(0:Int)<(i:Int):=by omega
      clear iF;rcases Gm with⟨j0,j4⟩|⟨j0,j1,j4⟩|⟨j0,j1,j2,j4⟩|⟨j0,j1,j2,j4⟩
      ·have he:=zH (xf.out j4);subst j0;clear j4 xf;go_wp2_with fail
       go_ret2
       exact⟨by rw[he.out];rfl,by rw[he.out];exact fN.same h gJ⟩
      ·have he:=zH (xf.out j4);subst j0;clear j4 xf;go_wp2_with fail
       go_ret2
       exact⟨by rw[he.out];rfl,by rw[he.out];exact fN.same h gJ⟩
      ·have he:=zH (xf.out j4);subst j0;clear j4 xf;go_wp2_with fail
       go_ret2
       exact⟨by rw[he.out];rfl,by rw[he.out];exact fN.same h gJ⟩
      ·have j4:=zH j4;subst j0;clear xf;go_wp2_with fail
       go_roundw
       case rel=>exact⟨i+1,aU,by go_num,by rw[du.out];exact j4.out,gJ⟩
       case measure=>simp[intOf];exact aO.out
     ·have hz:(0:Int)<(i:Int):=by omega
      have hik:(i:Int)-1=(k:Int):=by omega
      have fd:=(br.cell (ar fd)).trans fd;clear iF;rcases Gm with⟨j0,j4⟩|⟨j0,j1,j4⟩|⟨j0,j1,j2,j4⟩|⟨j0,j1,j2,j4⟩
      ·have he:=zH (xf.out j4);subst j0;clear j4 xf;go_wp2_with fail
       go_ret2
       exact⟨by rw[he.out];rfl,by rw[he.out];exact fN.same h gJ⟩
      ·have he:=zH (xf.out j4);subst j0;clear j4 xf;go_wp2_with fail
       go_ret2
       exact⟨by rw[he.out];rfl,by rw[he.out];exact fN.same h gJ⟩
      ·have he:=zH (xf.out j4);subst j0;clear j4 xf;go_wp2_with fail
       go_ret2
       exact⟨by rw[he.out];rfl,by rw[he.out];exact fN.same h gJ⟩
      ·have j4:=zH j4;subst j0;clear xf;go_wp2_with fail
       go_roundw
       case rel=>exact⟨i+1,aU,by go_num,by rw[du.out];exact j4.out,gJ⟩
       case measure=>simp[intOf];exact aO.out
    ·have bM:bI idx 0 v1 (ys.map (·.2))=true:=us.trans (by rw[List.drop_eq_nil_of_le (by rw[List.length_map,wu.out];omega)];rfl);have kK:=zH (kK.out bM);have uB:=zH (uB.out bM);have ug:=zH (ug.out bM);have uf:=zH (uf.out bM);clear us dO bM;go_wp2_with fail;clear hi aU;rename_i wr0;have jo:=hb;clear hb
     go_loopw [15] (fun i' wr=>∃i:Nat,i<=m/\i'=.int .i64 i/\t.findDiff (ys.map (·.2))=t.findDiff ((ys.map (·.2)).drop i)/\Below w.heap.size w wr) (fun i' _=>m-(intOf i').toNat)
     case atStart=>exact⟨0,Nat.zero_le _,rfl,rfl,jo⟩
     case round=>
      clear jo;obtain⟨i,hi,rfl,OQ,hb⟩:=hrel;have Hfd:=zH OQ;clear OQ;by_cases aU:i<m
      ·have xe:=xe (Nat.zero_lt_of_lt aU);obtain⟨ad2,v3,x,rfl,hx,c0w,c1w,_,_,_,_⟩:=hr.at_ aU;have c0:=(Below.cell hb (ar c0w)).trans c0w;have c1:=(Below.cell hb (ar c1w)).trans c1w;have fx:=(hd _ (List.mem_of_getElem? hx)).keep (bA.below (S:=S) hb);obtain⟨B1,m1,d1,ci,l1,l2,l3⟩:=fx.form;obtain rfl:v3=_:=ci;have G7:(ys.map (·.2))[i]?=some x:=by rw[List.getElem?_map,hx];rfl
       have yr:=iq G7;rw[yr]at Hfd;have hxp:=kf (kK.out x (List.mem_of_getElem? G7));have aO:=zH (show m-(i+1)<m-i by omega);have h3:=h.below hb;have aH:=mF x.idx h3 hn;obtain⟨u1,D1⟩:∃v,(t.termF x.idx).1=v:=⟨_,rfl⟩;obtain⟨u2,xw⟩:∃v,(t.termF x.idx).2=v:=⟨_,rfl⟩;have hu:=zH (show t.termF x.idx=(u1,u2) by rw[<-D1,<-xw]);rw[D1,xw]at aH;have Gs:=zH (show ys.drop i=(.slice B1 m1 d1,x)::ys.drop (i+1)from iq hx);clear D1 xw G7 hx yr;go_wp2_with fail;refine aH.mono ?_;rintro e w4 ⟨rfl,rfl⟩;clear aH;by_cases jj:u2=0/\u1=x.term
       ·obtain⟨j1,j2⟩:=jj;subst j1;subst j2;have Hn:=zH (Hfd.out.trans (show _=t.findDiff ((ys.map (·.2)).drop (i+1)) by
         show(if t.termF x.idx=(x.term,0)then _ else _)=_;rw[if_pos hu.out]))
        go_wp2_with fail
        go_roundw
        case rel=>exact⟨i+1,aU,by go_num,Hn.out,hb⟩
        case measure=>simp[intOf];exact aO.out
       ·have Bw:t.findDiff (ys.map (·.2))=some (x,(ys.map (·.2)).drop (i+1)):=Hfd.out.trans (by
         show(if t.termF x.idx=(x.term,0)then _ else _)=_;rw[if_neg (by rw[hu.out];rintro h0;injection h0 with h1 h2;exact jj ⟨h2,h1⟩)])
        obtain⟨j,term',_,e1,e2,_,_,_⟩:=uB.out x _ Bw;have e3:=eR e2;rw[<-hl.out]at e3;obtain⟨e4,e5,e6⟩:=e3;clear e6 e2;obtain⟨k,hk⟩:∃k:Nat,x.idx-t.index-1=k:=⟨(x.idx-t.index-1).toNat,by omega⟩;have CH:k<=n:=by omega
        have yt:=ug.out x _ Bw;rw[hk,show(k:Int).toNat=k from rfl]at yt;have he:=zH yt;have dJ:=dJ.out;rw[yt]at dJ;have dJ:=zH dJ;have hM:=zH (show(ys.drop i).map (·.2)=x::(ys.map (·.2)).drop (i+1) by rw[Gs.out,List.map_cons,List.map_drop]);have ut:=zH (show(ys.drop i).length=m-i by rw[List.length_drop,wu.out]);clear Bw e1 e4 e5 yt;have UT:¬c2=i:=by omega
        have c0x:w.cell? (ad2.add (i*6))=some (.int .i64 x.idx):=c0w;have QP:(u2≠0/\(u2==0)=false)\/(u2=0/\(u1==x.term)=false):=by
         by_cases j1:u2=0
         ·exact .inr ⟨j1,beq_eq_false_iff_ne.2 fun e=>jj ⟨j1,e⟩⟩
         ·exact .inl ⟨j1,beq_eq_false_iff_ne.2 j1⟩
        clear jj;rcases QP with⟨jj,jjj⟩|⟨jj,jjj⟩
        all_goals
         go_wp2_with fail
         go_loopw [18,19] (fun o j' w2=>∃(j q:Nat) (A':Option Addr) (c':Nat),j<=n/\j'=.int .i64 j/\o=.slice A' q c'/\q=min j k/\w2.ownsRow w.heap.size 59 6 (.slice A' q c') q ((zs.take (min j k)).flatMap cl)/\Below w.heap.size w w2) (fun _ j' _=>n-(intOf j').toNat)
         case atStart=>exact⟨0,0,none,0,Nat.zero_le _,rfl,rfl,by rw[Nat.zero_min],by rw[Nat.zero_min];exact bX _ _,hb⟩
         case round=>
          obtain⟨j,q,A',c',hj,rfl,rfl,hq,aB,gL⟩:=hrel
          rename World=>wr2
          have h':=h.below gL;obtain⟨q0,q1,q2⟩:=h'.cells;have o0:=(Below.cell gL (ar c0x)).trans c0x;by_cases xo:j<n
          ·obtain⟨bd,B3,m3,d3,y,qd,hz,hy,p0,p1,p2,p3,p4,p5⟩:=h'.at_ xo;have X4:=h.i.idx _ _ hy;have fK:=zH (show n-(j+1)<n-j by omega);have aI:∀q,Below wr2.heap.size wr2 ((wr2.drewN q).alloc (.cells #[.int .i64 y.idx,.int .i64 y.term,.int .i64 y.op,.int .i64 y.sess,.int .i64 y.seq,.slice B3 m3 d3] 59)):=fun q=>(ay zb q).alloc zl _
           have cw:=fun q=>bf aB (aI q)
           have mR:=fun q=>ab gL (aI q) zl
           have di:=fun q=>ao.new (wr2.drewN q) 59 (cl (.slice B3 m3 d3,y)).toArray
           rw[qd]at q2;by_cases SR:j<k
           ·have hyx:y.idx<x.idx:=by omega
            have cu:=zH (Il hz SR);have jM:=zH (show q+1=min (j+1) k by omega);have nB:q+1<=1000000000:=by omega
            clear hz hy X4 aB gL hq;go_wp2_with fail
            go_quiet (fail)
            go_wp2_with (at_builtin;refine aW rfl (.tmp 126) (.tmp 134) rfl w.heap.size rfl (cw nq) rfl (ff.one (di nq)) (fun y hy=>by rw[List.mem_singleton.1 hy];rfl) nB (mR nq).size ?_;intro A6 c6 w6 eZ hfr6 iT hrow6);refine⟨?_,by simp[intOf];exact fK.out⟩;first|(show ∃j':Nat,_;exact⟨j+1,q+1,A6,c6,xo,by go_num,rfl,jM.out,by rw[cu.out];exact eZ,(mR nq).trans iT⟩)|((repeat apply Exists.intro);(repeat apply Exists.intro);(repeat apply Exists.intro);(repeat apply Exists.intro);refine⟨?_,rfl⟩;exact⟨j+1,q+1,A6,c6,xo,by go_num,rfl,jM.out,by rw[cu.out];exact eZ,(mR nq).trans iT⟩)
           ·have hyx:¬y.idx<x.idx:=by omega
            have jM:=zH (show q=min (j+1) k/\min (j+1) k=min j k by omega);clear hz hy X4 cw mR hq;go_wp2_with fail
            go_quiet (fail)
            go_wp2_with fail;refine⟨?_,by simp[intOf];exact fK.out⟩;first|(show ∃j':Nat,_;exact⟨j+1,q,A',c',xo,by go_num,rfl,jM.out.1,by rw[jM.out.2];exact aB,ay gL _⟩)|((repeat apply Exists.intro);(repeat apply Exists.intro);(repeat apply Exists.intro);(repeat apply Exists.intro);refine⟨?_,rfl⟩;exact⟨j+1,q,A',c',xo,by go_num,rfl,jM.out.1,by rw[jM.out.2];exact aB,ay gL _⟩)
          ·obtain rfl:j=n:=by omega
           have XL:q=k:=by omega
           rw[Nat.min_eq_right CH,XL]at aB;have bS:ff wr2 (some (ad2.add (i*6))) (m-i) (ys.drop i):=by
            have:=cn.cut (size:=6) (hr.below gL) (k:=i) hi yH;rw[if_neg UT,<-mx eX]at this;exact this
           have fo:=fun z hz=>hd.one z (List.mem_of_mem_drop (i:=i) hz)
           have qo:k+(m-i)<=1000000000:=by omega
           have uj:=h'.b.lt;subst XL;clear q0 q1 hq hj xo;have mS:=h'.b;clear h';have TG:ad2.block≠g:=xe _ ⟨ad2,rfl,rfl⟩;go_wp2_with (at_builtin;refine aW rfl (.tmp 136) (.tmp 139) rfl w.heap.size rfl aB rfl bS fo qo gL.size ?_;intro A7 c7 w7 eH oX iw nc;obtain⟨II,z7,hP⟩:=Cj h gL iw eH hd hM.out dJ.out hS c0x TG;have f7:=II.free 2;have g7:=II.cell 2;replace hP:=zH hP;simp only[Zx]at g7;clear eH oX iw nc)
           go_ret2
           exact⟨by rw[he.out];rfl,by rw[he.out];exact hP.out⟩
      ·obtain rfl:i=m:=by omega
       have he:=zH (uf.out (Hfd.out.trans (by rw[List.drop_eq_nil_of_le (by rw[List.length_map,wu.out];exact Nat.le_refl _)];rfl)));go_wp2_with fail
       go_ret2
       exact⟨by rw[he.out];rfl,by rw[he.out];exact fN.same h hb⟩
  ·have he:=zH (dO.out (by rw[hv];rintro⟨h0,_⟩;injection h0 with h0;exact i2 h0));have i3:(v1==tm)=false:=beq_eq_false_iff_ne.2 i2;have i4:(v1 !=tm)=true:=by rw[bne,i3];rfl
   subst i1;have hv:=zH hv;clear dO;go_enter func46,ntmps46;go_wp2_with fail;refine cp.mono ?_;rintro e w1 ⟨rfl,rfl⟩;go_wp2_with fail
   go_ret2
   exact⟨by rw[he.out];rfl,by rw[he.out];exact fN.same h zb⟩
 ·have he:=zH (dO.out (by rw[hv];rintro⟨h0,_⟩;injection h0 with h1 h2;exact i1 h2));have i3:(v2==0)=false:=beq_eq_false_iff_ne.2 i1;have i4:(v2 !=0)=true:=by rw[bne,i3];rfl
  have hv:=zH hv;clear dO;go_enter func46,ntmps46;go_wp2_with fail;refine cp.mono ?_;rintro e w1 ⟨rfl,rfl⟩;go_wp2_with fail
  go_ret2
  exact⟨by rw[he.out];rfl,by rw[he.out];exact fN.same h zb⟩
end
def Ig(n:Int):Int:=if 1<=n/\n<=7 then n/2+1 else 0
theorem sH{n:Int}(h:¬(1<=n/\n<=7)):Ig n=0:=if_neg h
theorem pl{n:Int}(h:1<=n/\n<=7):Ig n=n/2+1:=if_pos h
theorem oG(n:Int)(w:World):Calls prog 139 #[.int .i64 n] w fun e w'=>e=.returned (.int .i64 (Ig n))/\w=w':=by
 by_cases h:1<=n/\n<=7
 ·have Hs:=zH (pl h);obtain⟨h1,h2⟩:=h;go_enter func139,ntmps139
  go_wp2
  go_ret;exact⟨by rw[Hs.out];rfl,rfl⟩
 ·have Hs:=zH (sH h);rcases(show n<1\/(1<=n/\7<n) by omega)with h1|⟨h1,h2⟩
  all_goals
   clear h;go_enter func139,ntmps139
   go_wp2
   go_ret;exact⟨by rw[Hs.out];rfl,rfl⟩
def fY(i t l u:Int):Bool:=decide (u<t\/(t=u/\l<=i))
theorem Ed(i t l u:Int)(w:World):Calls prog 151 #[.int .i64 i,.int .i64 t,.int .i64 l,.int .i64 u] w fun e w'=>e=.returned (.bool (fY i t l u))/\w=w':=by
 rcases Int.lt_trichotomy u t with h|h|h
 ·have Hs:=zH (show fY i t l u=true from decide_eq_true (.inl h));go_enter func151,ntmps151
  go_wp2
  go_ret;exact⟨by rw[Hs.out];rfl,rfl⟩
 ·subst h;have E1:decide (u<u)=false:=by simp
  have E2:((u:Int)==u)=true:=by simp
  by_cases hl:l<=i
  ·have Hs:=zH (show fY i u l u=true from decide_eq_true (.inr ⟨rfl,hl⟩));go_enter func151,ntmps151
   go_wp2
   go_ret;exact⟨by rw[Hs.out];rfl,rfl⟩
  ·have Hs:=zH (show fY i u l u=false from decide_eq_false (by omega));have E3:decide (l<=i)=false:=by simp;omega
   go_enter func151,ntmps151
   go_wp2
   go_ret;exact⟨by rw[Hs.out];rfl,rfl⟩
 ·have Hs:=zH (show fY i t l u=false from decide_eq_false (by omega));have E1:decide (u<t)=false:=by simp;omega
  have E2:((t:Int)==u)=false:=by simp;omega
  have h':¬u<t:=by omega
  go_enter func151,ntmps151
  go_wp2
  go_ret;exact⟨by rw[Hs.out];rfl,rfl⟩
theorem wR(i t l u:Int)(w:World):Calls prog 115 #[.int .i64 i,.int .i64 t,.int .i64 l,.int .i64 u] w fun e w'=>e=.returned (.bool (fY i t l u))/\w=w':=by
 rcases Int.lt_trichotomy u t with h|h|h
 ·have Hs:=zH (show fY i t l u=true from decide_eq_true (.inl h));have E2:((t:Int) !=u)=true:=by rw[bne_iff_ne];omega
  go_enter func115,ntmps115
  go_wp2
  go_ret;exact⟨by rw[Hs.out];rfl,rfl⟩
 ·subst h;have E2:((u:Int) !=u)=false:=by simp
  by_cases hl:l<=i
  ·have Hs:=zH (show fY i u l u=true from decide_eq_true (.inr ⟨rfl,hl⟩));go_enter func115,ntmps115
   go_wp2
   go_ret;exact⟨by rw[Hs.out];rfl,rfl⟩
  ·have Hs:=zH (show fY i u l u=false from decide_eq_false (by omega));have E3:decide (l<=i)=false:=by simp;omega
   go_enter func115,ntmps115
   go_wp2
   go_ret;exact⟨by rw[Hs.out];rfl,rfl⟩
 ·have Hs:=zH (show fY i t l u=false from decide_eq_false (by omega));have E2:((t:Int) !=u)=true:=by rw[bne_iff_ne];omega
  have E1:decide (u<t)=false:=by simp;omega
  go_enter func115,ntmps115
  go_wp2
  go_ret;exact⟨by rw[Hs.out];rfl,rfl⟩
def L0(d:Int):Int:=if d<0 then -(d+1)else d
def gF(d:Int):Int:=10+L0 d%20
theorem xF{d:Int}(h:d<0):L0 d=-(d+1):=if_pos h
theorem xG{d:Int}(h:¬d<0):L0 d=d:=if_neg h
theorem yN(d:Int)(h1:-9223372036854775808<=d)(h2:d<0):bits .xor .i64 (-1) d=-(d+1):=by
 show IntKind.i64.wrap ((BitVec.ofInt 64 (-1) ^^^ BitVec.ofInt 64 d).toNat:Int)=_;have h1:BitVec.ofInt 64 (-1)=BitVec.allOnes 64:=by decide
 rw[h1,BitVec.allOnes_xor,BitVec.toNat_not,BitVec.toNat_ofInt];simp[IntKind.wrap,IntKind.bits,IntKind.signed];omega
theorem Am(d:Int)(h2:d<0):wrap64 (10+(-(d+1)).tmod 20)=10+-(d+1)%20:=by
 rw[Int.tmod_eq_emod_of_nonneg (by omega)];unfold wrap64;omega
theorem Iy(d:Int)(w:World)(h1:-9223372036854775808<=d)(h2:d<=9223372036854775807):Calls prog 49 #[.int .i64 d] w fun e w'=>e=.returned (.int .i64 (gF d))/\w=w':=by
 by_cases h:d<0
 ·have Hs:=zH (show gF d=wrap64 (10+(bits .xor .i64 (-1) d).tmod 20) by unfold gF;rw[xF h,yN d h1 h,Am d h]);go_enter func49,ntmps49
  go_wp2
  go_ret;exact⟨by rw[Hs.out];rfl,rfl⟩
 ·have Hs:=zH (xG h);go_enter func49,ntmps49
  go_wp2
  go_ret;exact⟨by unfold gF;rw[Hs.out];rfl,rfl⟩
theorem zL(d:Int)(w:World)(h1:-9223372036854775808<=d)(h2:d<=9223372036854775807):Calls prog 55 #[.int .i64 d] w fun e w'=>e=.returned (.int .i64 (gF d))/\w=w':=by
 by_cases h:d<0
 ·have Hs:=zH (show gF d=wrap64 (10+-((d+1).tmod 20)) by unfold gF;rw[xF h,<-Int.neg_tmod,Am d h]);go_enter func55,ntmps55
  go_wp2
  go_ret;exact⟨by rw[Hs.out];rfl,rfl⟩
 ·have Hs:=zH (xG h);go_enter func55,ntmps55
  go_wp2
  go_ret;exact⟨by unfold gF;rw[Hs.out];rfl,rfl⟩
def H4(x:Nat):Nat:=((List.range 8).filter fun i=>x.testBit i).length
def p1(x:Int):Int:=IntKind.u64.wrap (bits .and .u64 (x/2) 6148914691236517205+bits .and .u64 x 6148914691236517205)
def p2(x:Int):Int:=IntKind.u64.wrap (bits .and .u64 (x/4) 3689348814741910323+bits .and .u64 x 3689348814741910323)
def p3(x:Int):Int:=bits .and .u64 (IntKind.u64.wrap (x/16+x)) 1085102592571150095
def p4(x:Int):Int:=IntKind.u64.wrap (x+x/256)
def p5(x:Int):Int:=IntKind.u64.wrap (x+x/65536)
def p6(x:Int):Int:=IntKind.u64.wrap (x+x/4294967296)
theorem Kw:∀x,x<256->bits .and .i64 (wrap64 (p6 (p5 (p4 (p3 (p2 (p1 (x:Nat)))))))) 127=(H4 x:Nat):=by decide +kernel
theorem B4(x:Nat)(w:World)(hx:x<256):Calls prog 162 #[.int .u64 x] w fun e w'=>e=.returned (.int .i64 (H4 x:Nat))/\w=w':=by
 have Hs:=zH (Kw x hx);go_enter func162,ntmps162
 go_wp2
 go_ret;refine⟨?_,rfl⟩;rw[<-Hs.out];rfl
def lk(n:Nat)(l:List Int):Nat:=((List.range n).filter fun i=>decide (((i+1:Nat):Int)∈l)).length
def lv(n:Int)(l:List Int):Bool:=decide ((1<=n/\n<=7)/\n<2*(lk n.toNat l:Int))
theorem ua(n:Nat)(l:List Int):lk (n+1) l=lk n l+if((n+1:Nat):Int)∈l then 1 else 0:=by
 unfold lk;rw[List.range_succ,List.filter_append,List.length_append];congr 1;by_cases h:((n+1:Nat):Int)∈l
 ·rw[if_pos h,List.filter_cons_of_pos (by exact decide_eq_true h)];rfl
 ·rw[if_neg h,List.filter_cons_of_neg (by simpa using h)];rfl
theorem qu(n:Nat)(l:List Int):lk n l<=n:=by
 unfold lk;exact Nat.le_trans (List.length_filter_le _ _) (by simp)
def zm(n:Int)(x:Nat)(s:Int):Nat:=if(1<=s/\s<=n)/\s<=7 then x|||2^s.toNat else x
def Eb(n:Int)(l:List Int):Nat:=l.foldl (zm n) 0
theorem Hz(n:Int)(l:List Int)(s:Int):Eb n (l++[s])=zm n (Eb n l) s:=by simp[Eb]
theorem CZ(s:Int)(h1:1<=s)(h7:s<=7):2^s.toNat<2^8:=Nat.pow_lt_pow_right (by omega) (by omega)
theorem Kf(n:Int)(x:Nat)(s:Int)(h:x<256):zm n x s<256:=by
 unfold zm;split
 ·rename_i h';exact Nat.or_lt_two_pow (n:=8) h (CZ s h'.1.1 h'.2)
 ·exact h
theorem Dt{α β:Type}(P:β->Prop)(f:β->α->β)(hf:∀b a,P b->P (f b a))(l:List α):∀b,P b->P (l.foldl f b):=by
 induction l with
 | nil=>intro b h;exact h
 | cons a l ih=>intro b h;exact ih _ (hf b a h)
theorem Hy(n:Int)(l:List Int):Eb n l<256:=Dt (· < 256) _ (fun b a h=>Kf n b a h) l 0 (by omega)
theorem Ds(n:Int)(i:Nat)(l:List Int):∀x:Nat,(l.foldl (zm n) x).testBit i=(x.testBit i||decide ((i:Int)∈l/\1<=i/\(i:Int)<=n/\i<=7)):=by
 induction l with
 | nil=>intro x;simp
 | cons s l ih=>
  intro x;rw[List.foldl_cons,ih];unfold zm;by_cases h:(1<=s/\s<=n)/\s<=7
  ·rw[if_pos h,Nat.testBit_or,Nat.testBit_two_pow];by_cases e:s.toNat=i
   ·have e':s=(i:Int):=by omega
    subst e';have:(1<=i/\(i:Int)<=n/\i<=7):=by omega
    simp[this]
   ·have e':¬(i:Int)=s:=by omega
    simp[e,e']
  ·rw[if_neg h];by_cases e':(i:Int)=s
   ·subst e';have:¬(1<=i/\(i:Int)<=n/\i<=7):=by omega
    simp[this]
   ·simp[e']
theorem Kg(n:Int)(l:List Int)(i:Nat):(Eb n l).testBit i=decide ((i:Int)∈l/\1<=i/\(i:Int)<=n/\i<=7):=by
 unfold Eb;rw[Ds];simp
theorem H6(n:Nat)(hn:n<=7)(l:List Int):H4 (Eb n l)=lk n l:=by
 have key:∀k,k<=8->((List.range k).filter fun i=>(Eb n l).testBit i).length=lk (min (k-1) n) l:=by
  intro k;induction k with
  | zero=>intro _;simp[lk]
  | succ k ih=>
   intro hk;rw[List.range_succ,List.filter_append,List.length_append,ih (by omega)];simp only[List.filter_cons,List.filter_nil,Kg];by_cases UV:k=0
   ·subst UV;simp
   by_cases CH:k<=n
   ·obtain⟨j,rfl⟩:∃j,k=j+1:=⟨k-1,by omega⟩;rw[show min (j+1-1) n=j by omega,show min (j+1+1-1) n=j+1 by omega,ua];by_cases hm:((j+1:Nat):Int)∈l
    ·rw[if_pos hm,if_pos (by simp only[decide_eq_true_eq];exact⟨hm,by omega⟩)];rfl
    ·rw[if_neg hm,if_neg (by simp only[decide_eq_true_eq];exact fun h=>hm h.1)];rfl
   ·rw[show min (k-1) n=min (k+1-1) n by omega,if_neg (by simp only[decide_eq_true_eq];omega)];rfl
 have:=key 8 (by omega);rw[show min (8-1) n=n by omega]at this;exact this
theorem Sn(x:Nat)(hx:x<256)(s:Int)(h1:1<=s)(h7:s<=7):bits .or .u64 (x:Int) (IntKind.u64.wrap (2^s.toNat))=((x|||2^s.toNat:Nat):Int):=by
 have hp:=CZ s h1 h7;have e:IntKind.u64.wrap (2^s.toNat)=((2^s.toNat:Nat):Int):=by
  rw[IntKind.wrap_u64,show((2:Int)^s.toNat)=((2^s.toNat:Nat):Int) by simp];exact Int.emod_eq_of_lt (Int.natCast_nonneg _) (by omega)
 rw[e,bits_or_u64_nat x _ (by omega) (by omega)]
theorem vk{k m c:Nat}(h:k<m)(hc:m<=c)(hm:c<=maxLen):wrap64 ((k:Int)+1)=((k+1:Nat):Int):=by
 unfold maxLen at hm;unfold wrap64;omega
theorem HK(x:Nat)(w:World)(hx:x<256):Calls prog 150 #[.int .u64 x] w fun e w'=>e=.returned (.int .i64 (H4 x:Nat))/\w=w':=by
 go_enter func150,ntmps150;go_wp2_with fail;refine(B4 x _ hx).mono ?_;rintro e w' ⟨rfl,rfl⟩;go_wp2_with fail;go_ret;exact⟨rfl,rfl⟩
theorem Da(n:Int)(A:Option Addr)(m c:Nat)(l:List Int)(w:World)(hl:fv w A m l)(hm:c<=maxLen)(yH:m<=c) :
  Calls prog 132 #[.int .i64 n,.slice A m c] w fun e w'=>e=.returned (.bool (lv n l))/\w=w':=by
 have af:=hl.len;go_enter func132,ntmps132;go_wp2_with fail
 go_loop [5,11] (fun a b=>∃k,k<=m/\a=.int .u64 ((Eb n (l.take k):Nat):Int)/\b=.int .i64 (k:Nat)) (fun a b=>(m-intOf b).toNat)
 case atStart=>exact⟨0,by omega,rfl,rfl⟩
 case round=>
  obtain⟨k,hk,rfl,rfl⟩:=hrel;by_cases aU:k<m
  ·obtain⟨ad,rfl,eh⟩:=hl.at_ aU;have wk:=vk aU yH hm;have hx:=Hy n (l.take k);have es:=uY l 0 k (by omega);have hn:Eb n (l.take (k+1))=zm n (Eb n (l.take k)) (l[k]?.getD 0):=by rw[es,Hz]
   clear es;generalize l[k]?.getD 0=s at *;generalize Eb n (l.take k)=x at *;go_wp2_with fail
   all_goals
    rw[wk];refine⟨⟨k+1,by omega,?_,rfl⟩,by simp[intOf];omega⟩;rw[hn];unfold zm
    first
     | (rw[if_pos (by omega),Sn x hx s (by omega) (by omega)];done)
     | rw[if_neg (by omega)]
  ·obtain rfl:k=m:=by omega
   rw[List.take_of_length_le (by omega:l.length<=k)];have hx:=Hy n l;by_cases h:1<=n/\n<=7
   ·have hs:=pl h;have hp:H4 (Eb n l)=lk n.toNat l:=by
     have:=H6 n.toNat (by omega) l
     rwa [show(n.toNat:Int)=n by omega]at this
    have hw:lv n l=decide (n/2+1<=(lk n.toNat l:Nat)):=by
     unfold lv;exact decide_eq_decide.2 (by omega)
    have Hw:=zH hw;clear hw;obtain⟨h1,h2⟩:=h;go_wp2_with fail;refine(oG n _).mono ?_;rintro e w' ⟨rfl,rfl⟩;rw[hs];clear hs;go_wp2_with fail;refine(HK _ _ hx).mono ?_;rintro e w' ⟨rfl,rfl⟩;rw[hp];go_wp2_with fail;go_ret;exact⟨by rw[Hw.out];rfl,rfl⟩
   ·have hs:=sH h;have Hw:=zH (show lv n l=false from decide_eq_false fun h'=>h h'.1);clear h;go_wp2_with fail;refine(oG n _).mono ?_;rintro e w' ⟨rfl,rfl⟩;rw[hs];clear hs;go_wp2_with fail;go_ret;exact⟨by rw[Hw.out];rfl,rfl⟩
theorem Cs{s:Int}{k:Nat}(h:((k+1:Nat):Int)=s)(hk:k<7):wrap64 (s+1)=((k+1+1:Nat):Int):=by
 unfold wrap64;omega
theorem Op{k n:Nat}(h:k<=n)(hk:n<7):wrap64 ((k:Int)+1)=((k+1:Nat):Int):=by
 unfold wrap64;omega
theorem Sk{m j:Nat}(h:j<m):((m:Int)-intOf (.int .i64 ((j+1:Nat):Int))).toNat<((m:Int)-intOf (.int .i64 ((j:Nat):Int))).toNat:=by
 simp only[intOf];omega
theorem Ho{m j:Nat}{s:Int}(h:j<m)(hs:((j+1:Nat):Int)=s):((m:Int)+1-intOf (.int .i64 ((j+1+1:Nat):Int))).toNat<((m:Int)+1-intOf (.int .i64 s)).toNat:=by
 simp only[intOf];omega
theorem Hp(l:List Int)(x s:Int):decide (s∈l++[x])=(decide (s∈l)||decide (x=s)):=by
 rw[Bool.eq_iff_iff,Bool.or_eq_true,decide_eq_true_eq,decide_eq_true_eq,decide_eq_true_eq,List.mem_append,List.mem_singleton];exact or_congr Iff.rfl ⟨Eq.symm,Eq.symm⟩
theorem sr(n:Int)(A:Option Addr)(m c:Nat)(l:List Int)(w:World)(hl:fv w A m l)(hm:c<=maxLen)(yH:m<=c) :
  Calls prog 134 #[.int .i64 n,.slice A m c] w fun e w'=>e=.returned (.bool (lv n l))/\w=w':=by
 have af:=hl.len;by_cases h:1<=n/\n<=7
 ·obtain⟨N,rfl⟩:∃N:Nat,n=N:=⟨n.toNat,by omega⟩;have hw:lv N l=decide ((N:Int)<2*(lk N l:Int)):=by
   unfold lv;exact decide_eq_decide.2 (by rw[Int.toNat_natCast];omega)
  have Hw:=zH hw;clear hw;obtain⟨h1,h2⟩:=h;go_enter func134,ntmps134;go_wp2_with fail
  go_loop [5,6] (fun a b=>∃k:Nat,k<=N/\a=.int .i64 (lk k l:Nat)/\b=.int .i64 (k+1:Nat)) (fun a b=>(N+1-intOf b).toNat)
  case atStart=>exact⟨0,by omega,rfl,rfl⟩
  case round=>
   obtain⟨k,hk,rfl,rfl⟩:=hrel;by_cases aU:k<N
   ·have eG:=qu k l;generalize hs:((k+1:Nat):Int)=s at *;have cA:(k:Int)+1=s:=by omega
    have tj:s<=N:=by omega
    have mS:k<7:=by omega
    go_wp2_with fail
    go_loop [7,8] (fun a b=>∃j:Nat,j<=m/\a=.bool (decide (s∈l.take j))/\b=.int .i64 (j:Nat)) (fun a b=>(m-intOf b).toNat)
    case atStart=>exact⟨0,by omega,by simp,rfl⟩
    case round=>
     obtain⟨j,hj,rfl,rfl⟩:=hrel;by_cases ny:j<m
     ·obtain⟨ad,rfl,eh⟩:=hl.at_ ny;have es:=uY l 0 j (by omega);have hn:=Hp (l.take j) (l[j]?.getD 0) s;rw[<-es]at hn;clear es;generalize l[j]?.getD 0=x at *;generalize decide (s∈l.take j)=p at *;have hxs:(x==s)=decide (x=s):=rfl;have wk:=vk ny yH hm;cases p
      ·go_wp2_with fail;rw[wk];refine⟨⟨j+1,?_,?_,rfl⟩,?_⟩
       ·exact ny
       ·rw[hn,Bool.false_or]
       ·exact Sk ny
      ·go_wp2_with fail;rw[wk];refine⟨⟨j+1,?_,?_,rfl⟩,?_⟩
       ·exact ny
       ·rw[hn,Bool.true_or]
       ·exact Sk ny
     ·obtain rfl:j=m:=by omega
      rw[List.take_of_length_le (by omega:l.length<=j)];have cB:=ua k l;have wk:=zH (Cs hs mS);have wc:=zH (Op (qu k l) mS);have eG:=qu k l;have Hm:=zH (Ho aU hs);rw[hs]at cB;clear hs cA mS;by_cases vW:s∈l
      ·rw[decide_eq_true vW];rw[if_pos vW]at cB;clear vW;have Hcs:=zH cB;clear cB;go_wp2_with fail;rw[wk.out];exact⟨⟨k+1,aU,by rw[Hcs.out];rfl,rfl⟩,Hm.out⟩
      ·rw[decide_eq_false vW];rw[if_neg vW]at cB;clear vW;have Hcs:=zH cB;clear cB;go_wp2_with fail;rw[wk.out];exact⟨⟨k+1,aU,by rw[Hcs.out];rfl,rfl⟩,Hm.out⟩
   ·obtain rfl:k=N:=by omega
    have eG:=qu k l;have cA:((k+1:Nat):Int)=(k:Int)+1:=by omega
    go_wp2_with fail;go_ret;exact⟨by rw[Hw.out];rfl,rfl⟩
 ·have Hw:=zH (show lv n l=false from decide_eq_false fun h'=>h h'.1);rcases(show n<1\/(1<=n/\7<n) by omega)with h1|⟨h1,h2⟩
  all_goals
   clear h;go_enter func134,ntmps134;go_wp2_with fail;go_ret;exact⟨by rw[Hw.out];rfl,rfl⟩
section
open Go.Shelf
def Sp:Go.Shelf.Ren:=⟨fun|189=>140|125=>153|257=>152|128=>172|129=>173|294=>163|295=>164|296=>165|297=>166|298=>167|299=>168|216=>169|300=>170|301=>171|328=>179|329=>180|330=>181|331=>182|332=>183|215=>184|343=>190|n=>n,fun|28=>76|3=>3|46=>197|0=>0|51=>206|53=>208|4=>4|183=>211|182=>210|131=>111|5=>5|9=>9|218=>220|222=>224|228=>227|229=>113|n=>n,fun|n=>n⟩
theorem Of:Go.Proofs.Lays.n189 prog Sp:={
 mixed:=by kernel_rfl
 f125:=func153.trans (congrArg some (by kernel_rfl))
 f128:=func172.trans (congrArg some (by kernel_rfl))
 f129:=func173.trans (congrArg some (by kernel_rfl))
 f189:=func140.trans (congrArg some (by kernel_rfl))
 f215:=func184.trans (congrArg some (by kernel_rfl))
 f216:=func169.trans (congrArg some (by kernel_rfl))
 f257:=func152.trans (congrArg some (by kernel_rfl))
 f294:=func163.trans (congrArg some (by kernel_rfl))
 f295:=func164.trans (congrArg some (by kernel_rfl))
 f296:=func165.trans (congrArg some (by kernel_rfl))
 f297:=func166.trans (congrArg some (by kernel_rfl))
 f298:=func167.trans (congrArg some (by kernel_rfl))
 f299:=func168.trans (congrArg some (by kernel_rfl))
 f300:=func170.trans (congrArg some (by kernel_rfl))
 f301:=func171.trans (congrArg some (by kernel_rfl))
 f328:=func179.trans (congrArg some (by kernel_rfl))
 f329:=func180.trans (congrArg some (by kernel_rfl))
 f330:=func181.trans (congrArg some (by kernel_rfl))
 f331:=func182.trans (congrArg some (by kernel_rfl))
 f332:=func183.trans (congrArg some (by kernel_rfl))
 f343:=func190.trans (congrArg some (by kernel_rfl))
 t0:=underlying0
 a0:=isAgg0
 z0:=sizeOf0
 v0:=zeroValue0
 t3:=underlying3
 a3:=isAgg3
 z3:=sizeOf3
 v3:=zeroValue3
 t4:=underlying4
 a4:=isAgg4
 z4:=sizeOf4
 v4:=zeroValue4
 t5:=underlying5
 a5:=isAgg5
 z5:=sizeOf5
 v5:=zeroValue5
 t9:=underlying9
 a9:=isAgg9
 z9:=sizeOf9
 v9:=zeroValue9
 t28:=underlying76
 a28:=isAgg76
 z28:=sizeOf76
 v28:=zeroValue76
 t46:=underlying197
 a46:=isAgg197
 z46:=sizeOf197
 v46:=zeroValue197
 t51:=underlying206
 a51:=isAgg206
 z51:=sizeOf206
 v51:=zeroValue206
 t53:=underlying208
 a53:=isAgg208
 z53:=sizeOf208
 v53:=zeroValue208
 t131:=underlying111
 a131:=isAgg111
 z131:=sizeOf111
 v131:=zeroValue111
 t182:=underlying210
 a182:=isAgg210
 z182:=sizeOf210
 v182:=zeroValue210
 t183:=underlying211
 a183:=isAgg211
 z183:=sizeOf211
 v183:=zeroValue211
 t218:=underlying220
 a218:=isAgg220
 z218:=sizeOf220
 v218:=zeroValue220
 t222:=underlying224
 a222:=isAgg224
 z222:=sizeOf224
 v222:=zeroValue224
 t228:=underlying227
 a228:=isAgg227
 z228:=sizeOf227
 v228:=zeroValue227
 t229:=underlying113
 a229:=isAgg113
 z229:=sizeOf113
 v229:=zeroValue113}
end
section
open Go.Sort hiding Below
def pj(N:Nat)(l:List Int)(k:Nat):List Int:=(List.range N).map fun i=>if i<k then max 0 (l[i]?.getD 0)else 0
theorem sz(N:Nat)(l:List Int)(k:Nat):(pj N l k).length=N:=by simp[pj]
theorem mb(N:Nat)(l:List Int)(k i:Nat)(h:i<N):(pj N l k)[i]?=some (if i<k then max 0 (l[i]?.getD 0)else 0):=by
 simp[pj,h]
theorem mE(N:Nat)(l:List Int)(k i:Nat)(h:N<=i):(pj N l k)[i]?=none:=List.getElem?_eq_none (by rw[sz];exact h)
theorem H9(N:Nat)(l:List Int)(k:Nat)(h:k<N):(pj N l k).set k (max 0 (l[k]?.getD 0))=pj N l (k+1):=by
 refine List.ext_getElem? fun i=>?_
 rcases Nat.lt_or_ge i N with hi|hi
 ·rw[mb _ _ _ _ hi,List.getElem?_set];by_cases e:k=i
  ·subst e;rw[if_pos rfl,if_pos (by rw[sz];exact h),if_pos (Nat.lt_succ_self _)]
  ·rw[if_neg e,mb _ _ _ _ hi];by_cases h2:i<k
   ·rw[if_pos h2,if_pos (by omega)]
   ·rw[if_neg h2,if_neg (by omega)]
 ·rw[mE _ _ _ _ hi,List.getElem?_eq_none (by rw[List.length_set,sz];exact hi)]
theorem Ew(N:Nat)(l:List Int)(k:Nat)(h:l.length<=k):pj N l (k+1)=pj N l k:=by
 refine List.ext_getElem? fun i=>?_
 rcases Nat.lt_or_ge i N with hi|hi
 ·rw[mb _ _ _ _ hi,mb _ _ _ _ hi];by_cases e:i=k
  ·subst e;rw[if_pos (Nat.lt_succ_self _),if_neg (Nat.lt_irrefl _),List.getElem?_eq_none h];rfl
  ·by_cases h2:i<k
   ·rw[if_pos h2,if_pos (by omega)]
   ·rw[if_neg h2,if_neg (by omega)]
 ·rw[mE _ _ _ _ hi,mE _ _ _ _ hi]
def oC(N:Nat)(l:List Int):List Int:=(List.range N).map fun i=>max 0 (l[i]?.getD 0)
theorem H8(N:Nat)(l:List Int):pj N l N=oC N l:=by
 unfold pj oC;refine List.map_congr_left fun i hi=>if_pos (List.mem_range.1 hi)
def sg(l:List Int):List Int:=l.mergeSort fun x y=>decide (x<=y)
theorem oy(l:List Int):(sg l).length=l.length:=List.length_mergeSort l
def Ft(N:Nat)(l:List Int):Int:=(sg (oC N l))[N-(N/2+1)]?.getD 0
def eL(n:Int)(l:List Int):Int:=if 1<=n/\n<=7 then Ft n.toNat l else 0
theorem qX{n:Int}(h:¬(1<=n/\n<=7))(l:List Int):eL n l=0:=if_neg h
theorem ju{N:Nat}(h:1<=(N:Int)/\(N:Int)<=7)(l:List Int):eL N l=Ft N l:=by unfold eL;rw[if_pos h];rfl
theorem vu{g:Nat}{w:World}{xs:Array Int}{n:Nat}{os:Array Obj}(hg:g<w.heap.size):Below g w (grow (putRow (Value.int .i64) (Sort.ahead w n) g 0 xs) os):=by
 refine⟨rfl,rfl,rfl,?_,fun k hk=>?_⟩
 ·simp[grow,putRow,mapBlock,Sort.ahead]
 ·rw[heap_grow_old _ _ (by simp[putRow,mapBlock,Sort.ahead];omega)];simp only[putRow,mapBlock,Array.getElem?_modify];rw[if_neg (by omega)];rfl
theorem Ii{w:World}{base g n c:Nat}{T:TypeId}{l:List Int}(h:w.ownsRow base T 1 (.slice (some ⟨g,0,none⟩) n c) n (l.map vi))(hg:g<w.heap.size)(hn:n<=1000000000) :
  Calls prog 140 #[.slice (some ⟨g,0,none⟩) n c] w fun e w'=>e=.returned (.tuple #[])/\(∀j,j<n->w'.cell? ⟨g,j,none⟩=some (.int .i64 ((sg l)[j]?.getD 0)))/\Below g w w':=by
 have hl:l.length=n:=by have:=h.1;simpa using this
 have hH:Holds (Value.int .i64) w g 0 l.toArray:=fun j hj=>by
  have JJ:j<l.length:=by simpa using hj
  obtain⟨g',e,_,h1,h2⟩:=lX h (k:=j) (by omega);injection e with e;injection e with e;subst e;rw[Nat.zero_add];refine⟨h1.trans ?_,h2⟩;simp[List.getElem?_eq_getElem JJ]
 have:=Any.slices_Sort_int Of g 0 c l w hH hg (by omega);rw[hl]at this;refine this.mono ?_;rintro e w' ⟨rfl,q,os,rfl⟩;refine⟨rfl,fun j hj=>?_,vu hg⟩;have Yx:Holds (Value.int .i64) (Sort.ahead w q) g 0 l.toArray:=holds_ahead _ _ _ _ _ _ hH;rw[cell?_grow _ _ _ (by simp[putRow,mapBlock,Sort.ahead];exact hg)];have hs:(sg l).toArray.size=l.toArray.size:=by simp[oy]
 have:=(holds_putRow (Value.int .i64) (Sort.ahead w q) g 0 l.toArray (sg l).toArray Yx hs j (by simp[oy];omega)).1;rw[Nat.zero_add]at this;refine this.trans ?_;have:j<(sg l).length:=by rw[oy];omega
 simp[List.getElem?_eq_getElem this]
theorem B0(N:Nat)(l:List Int):(madeCells (Value.int .i64 0).cells (N*1)).toList=(pj N l 0).map vi:=by
 refine List.ext_getElem? fun i=>?_
 rcases Nat.lt_or_ge i N with hi|hi
 ·rw[List.getElem?_map,mb _ _ _ _ hi];simp[madeCells,vi,hi,Value.cells,Nat.mod_one]
 ·rw[List.getElem?_map,mE _ _ _ _ hi];simp[madeCells,hi]
theorem Oq{k N:Nat}(h:k<N)(h7:N<=7):wrap64 ((k:Int)+1)=((k+1:Nat):Int):=by
 unfold wrap64;omega
theorem ko(n:Int)(A:Option Addr)(m c:Nat)(l:List Int)(w:World)(hl:fv w A m l) :
  Calls prog 110 #[.int .i64 n,.slice A m c] w fun e w'=>e=.returned (.int .i64 (eL n l))/\Below w.heap.size w w':=by
 have af:=hl.len;by_cases h:1<=n/\n<=7
 ·obtain⟨N,rfl⟩:∃N:Nat,n=N:=⟨n.toNat,by omega⟩;have Hw:=zH (ju h l);have hs:=pl h;have YE:1<=N:=by omega
  have WW:N<=7:=by omega
  clear h;go_enter func110,ntmps110;go_wp2_with fail;refine(oG _ _).mono ?_;rintro e w' ⟨rfl,rfl⟩;rw[hs];clear hs;go_wp2_with fail;obtain⟨i0,iF,jT,iW,gC⟩:=info_parts rP;obtain⟨w1,ls,r1,r2⟩:=run_make_full (P:=prog) w w.heap.size 76 3 i0 _ 1 underlying76 iF jT iW .i64 .i64 N (by rw[gC];omega) (by unfold maxLen;omega) zl;rw[ls];clear ls;rw[B0 N l]at r1;have br:Below w.heap.size w w1:=zb.grown r2 zl (fun k hk=>by cases hk);go_wp2_with fail
  go_loopw [15] (fun i wr=>∃k:Nat,k<=N/\i=.int .i64 k/\wr.ownsRow w.heap.size 3 1 (.slice (some ⟨w.heap.size,0,none⟩) N N) N ((pj N l k).map vi)/\Below w.heap.size w wr) (fun i _=>N-(intOf i).toNat)
  case atStart=>exact⟨0,Nat.zero_le _,rfl,r1,br⟩
  case round=>
   obtain⟨k,hk,rfl,aB,hb⟩:=hrel;by_cases aU:k<N
   ·have wk:=zH (Oq aU WW);by_cases SV:k<m
    ·obtain⟨ad,rfl,fO⟩:=hl.at_ SV;have hc:=(hb.cell (ar fO)).trans fO;have aD:=aB.stored k (vi (max 0 (l[k]?.getD 0)));rw[<-List.map_set,H9 N l k aU]at aD;obtain⟨g',e,_,nP,yI⟩:=lX aB aU;injection e with e;injection e with e;subst e;generalize l[k]?.getD 0=x at *;go_wp2_with fail;refine⟨⟨k+1,aU,by go_num,aD.1,hb.setCell zl _⟩,by simp[intOf];omega⟩
    ·have mB:=Ew N l k (by omega);go_wp2_with fail;exact⟨⟨k+1,aU,by go_num,by rw[mB];exact aB,hb⟩,by simp[intOf];omega⟩
   ·obtain rfl:k=N:=by omega
    rw[H8]at aB;have fU:w.heap.size<wr.heap.size:=by
     obtain⟨g',e,_,nP,_⟩:=lX aB (k:=0) (by omega);injection e with e;injection e with e;subst e;exact ar nP
    have Lw:=Ii aB fU (by omega);go_wp2_with fail;refine Lw.mono ?_;rintro e w2 ⟨rfl,XJ,bQ⟩;clear Lw;have hq:=XJ (k-(k/2+1)) (by omega);clear XJ;have bN:=hb.trans bQ;generalize hr:(sg (oC k l))[k-(k/2+1)]?.getD 0=r at hq;have Hr:=zH (Hw.out.trans hr);clear hr Hw r1 r2 br aB fU hb bQ hl aU hk;rcases(show k=1\/k=2\/k=3\/k=4\/k=5\/k=6\/k=7 by omega)with rfl|rfl|rfl|rfl|rfl|rfl|rfl
    all_goals
     simp only[Nat.reduceDiv,Nat.reduceAdd,Nat.reduceSub]at hq;go_wp2_with fail;go_ret;exact⟨by rw[Hr.out];rfl,bN⟩
 ·have Hw:=zH (qX h l);have hs:=sH h;clear h;go_enter func110,ntmps110;go_wp2_with fail;refine(oG _ _).mono ?_;rintro e w' ⟨rfl,rfl⟩;rw[hs];clear hs;go_wp2_with fail;go_ret;exact⟨by rw[Hw.out];rfl,Below.refl _ _⟩
end
end Go.Proofs.YtjcninheccmpoaaGreat
