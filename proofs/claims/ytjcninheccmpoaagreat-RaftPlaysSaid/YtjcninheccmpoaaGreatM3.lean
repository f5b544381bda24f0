import Derived.Test.YtjcninheccmpoaaGreatM2
import Derived.Laws.Bits64b
import Derived.Test.YtjcninheccmpoaaGreatProg
import Derived.Shelf.Sort.Plain
import Derived.Ground.NamesProg
set_option maxRecDepth 100000
set_option maxHeartbeats 8000000
set_option linter.all false
namespace Go.Proofs.YtjcninheccmpoaaGreat
open Go.RowKit Go.Proofs.Tryz
theorem bO{a b:Nat}{w w':World}(h1:w'.heap[a]?=w.heap[a]?)(h2:w'.heap[b]?=w.heap[b]?):dP [a,b] w w':=dN fun q hq=>by
 simp only[List.mem_cons,List.not_mem_nil,or_false]at hq;rcases hq with rfl|rfl
 ·exact h1
 ·exact h2
def iV(B:Nat)(S:Nat->Prop)(w:World)(g:Nat)(A:Option Addr)(t':bB)(M:Nat)(w':World):Prop:=
 ∃(A':Option Addr) (n' c':Nat) (zs':List (Value×En)) (S':Nat->Prop),cS B S' w' g t' A' n' c' zs'/\(∀j,S' j->S j\/(w.heap.size<=j/\j<M))/\(∀j,az A' j->az A j\/w.heap.size<=j)/\M<=w'.heap.size/\Fr (fun j=>j=g\/az A j) w w'
section
variable {B:Nat}{S:Nat->Prop}{w w':World}{g n c:Nat}{t:bB}{A:Option Addr}{zs:List (Value×En)}
theorem iV.same(h:cS B S w g t A n c zs)(hb:Below w.heap.size w w'):iV B S w g A t w'.heap.size w':=
 ⟨A,n,c,zs,S,h.below hb,fun _ h=>.inl h,fun _ h=>.inl h,Nat.le_refl _,Fr.of_below hb⟩
theorem uP{tm:Int}{x:En}(h:1099511627776<=t.lastF.1):t.putF tm x=((gk,41),t):=if_pos h
theorem yY{tm:Int}{x:En}(h:¬1099511627776<=t.lastF.1)(h2:tm<t.lastF.2\/dI (lq (t.lastF.1+1) tm x)=false):t.putF tm x=((gk,1),t):=by unfold bB.putF;rw[if_neg h,if_pos h2]
theorem CT{tm:Int}{x:En}(h:¬1099511627776<=t.lastF.1)(h1:¬tm<t.lastF.2)(h2:dI (lq (t.lastF.1+1) tm x)=true):t.putF tm x=((lq (t.lastF.1+1) tm x,0),{t with L:=t.L++[lq (t.lastF.1+1) tm x]}):=by
 unfold bB.putF;rw[if_neg h,if_neg (by rintro(h'|h');exact h1 h';rw[h2]at h';cases h')]
theorem cS.moveT{X:Nat->Prop}(h:cS B S w g t A n c zs)(hF:Fr X w w')(hg:¬X g)(hr:∀j,az A j->¬X j)(hT:bt TD w w'):cS B S w' g t A n c zs:=
 h.keep fun j hj hl=>by
  rcases hj with rfl|hj|hj
  ·exact hF.block _ hl hg
  ·exact hF.block _ hl (hr j hj)
  ·exact hT j (h.s j hj)
theorem Fr.set6(w:World)(g:Nat)(z:Value×En):Fr (fun j=>j=g) w (set6 w g z):=
 have k:∀j,j=g->j=g\/w.heap.size<=j:=fun _ h=>.inl h
 have e:∀{a b:World},Fr (fun j=>j=g) w a->Fr (fun j=>j=g) a b->Fr (fun j=>j=g) w b:=fun h h'=>h.trans h' k
 e (e (e (e (e (Fr.set g 0 _) (Fr.set g 1 _)) (Fr.set g 2 _)) (Fr.set g 3 _)) (Fr.set g 4 _)) (Fr.set g 5 _)
theorem cS.setRow{S7:Nat->Prop}{w7:World}{A7:Option Addr}{n7 c7:Nat}{zs7:List (Value×En)}{L7:List En}(hg:B<=g)(hk:ar w7 g 152 #[.int .i64 t.index,.int .i64 t.term,.slice A n c])
  (ho:w7.ownsRow B 59 6 (.slice A7 n7 c7) n7 (zs7.flatMap bY)) (hd:bq S7 w7 zs7) (hl:zs7.map (·.2)=L7) (hi:bB.Inv {t with L:=L7}) (hs:∀j,S7 j->sZ TD w7 j) :
  cS B S7 (w7.setCell ⟨g,2,none⟩ (.slice A7 n7 c7)) g {t with L:=L7} A7 n7 c7 zs7 where
 b:=by simpa using hk.set_ 2 (.slice A7 n7 c7)
 o:=cH ho fun j hj hl=>(Fr.set g 2 _).block j hl fun e=>by
  obtain⟨_,_,cs,h⟩:=aB ho A7 c7 rfl j hj;rw[e]at h;unfold ar at hk;rw[hk]at h;injection h with h;injection h with _ h;exact absurd h (by decide)
 d:=hd.keep fun j hj hl=>bt.set (L:=TD) hk (by decide) j (hs j hj)
 l:=hl
 i:=hi
 g:=hg
 s:=fun j hj=>(hs j hj).move (bt.set hk (by decide))
theorem G6(S2:Nat->Prop)(tm:Int)(x:En)(V:Option Addr)(m d:Nat)(h:cS B S w g t A n c zs)(hn:n<=1000000)(hB:B<=w.heap.size)(hf:aG S2 w (.slice V m d) x.facts)(hm:m<=maxLen)(ls:∀j,S2 j->¬(j=g\/az A j)) :
  Calls prog 66 #[.pointer (some ⟨g,0,none⟩),.int .i64 tm,qL x (.slice V m d)] w fun e w'=>∃vy,e=.returned (.tuple #[ni (t.putF tm x).1.1 vy,.int .i64 (t.putF tm x).1.2])/\∃M,aG (bG TD M w') w' vy (t.putF tm x).1.1.facts/\w.heap.size<=M/\iV B S w g A (t.putF tm x).2 M w':=by
 have CR:=h.i.last;have hb:=h.i.b;have hr:=h.i.room;rw[<-h.len.1]at CR hr;have iw:=h.i.lastB;have oY:=zH (fun h1=>uP (t:=t) (tm:=tm) (x:=x) h1);have qN:=zH (fun h1 h2=>yY (t:=t) (tm:=tm) (x:=x) h1 h2);have cB:=zH (fun h1 h2 h3=>CT (t:=t) (tm:=tm) (x:=x) h1 h2 h3);have jy:=zH (fun p q r=>h.i.put (x:=lq (t.lastF.1+1) tm x) p q r);obtain⟨aI,cl,eb⟩:=fC w 42 59 #[.int .i64 x.op,.int .i64 x.sess,.int .i64 x.seq,.slice V m d] #[.int .i64 0,.int .i64 0,.int .i64 0,.int .i64 0,.int .i64 0,.slice none 0 0];have hA:=h.below aI;have OJ:=hf.keep (bz.below (S:=S2) aI);have bI:=nO hA hn;obtain⟨l2,dM⟩:=zN (t.lastF.2);obtain⟨l1,cy⟩:=zN (t.lastF.1);rw[cy]at CR oY qN cB jy;rw[dM]at iw qN cB jy;rw[cy,dM]at bI;have DF:0<=l1/\l1<=1099511627776:=by omega
 clear cy dM CR hr;unfold qL;go_enter func66,ntmps66;go_wp2_with fail;generalize(w.alloc (.cells #[.int .i64 x.op,.int .i64 x.sess,.int .i64 x.seq,.slice V m d] 42)).alloc (.cells #[.int .i64 0,.int .i64 0,.int .i64 0,.int .i64 0,.int .i64 0,.slice none 0 0] 59)=w1 at *;refine bI.mono ?_;rintro e w2 ⟨rfl,bJ⟩;clear bI;have h2:=hA.below bJ;have qV:=OJ.keep (bz.below (S:=S2) bJ);have du:=ab aI bJ zl;have b1:=cl.kept bJ;have b2:=eb.kept bJ;obtain⟨c0,c1,c2,c3,-⟩:=b1.cs [0,1,2,3];simp only[Zx]at c0 c1 c2 c3;have rl:=b2.lt;clear hA OJ cl eb bJ b1;have sY:Below w2.heap.size w2 (w2.alloc (.cells #[.int .i64 (l1+1),.int .i64 tm,.int .i64 x.op,.int .i64 x.sess,.int .i64 x.seq,.slice V m d] 59)):=zb.alloc zl _;have b3:=ar.new w2 59 #[.int .i64 (l1+1),.int .i64 tm,.int .i64 x.op,.int .i64 x.sess,.int .i64 x.seq,.slice V m d];have b2:=b2.kept sY;have h3:=h2.below sY;have uc:=qV.keep (bz.below (S:=S2) sY);have eE:=ab du sY zl;go_upto_block 0 with fail
 generalize iU:w2.alloc (.cells #[.int .i64 (l1+1),.int .i64 tm,.int .i64 x.op,.int .i64 x.sess,.int .i64 x.seq,.slice V m d] 59)=w3 at *;clear iU sY h2 qV c0 c1 c2 c3;have GV:w.heap.size+1≠w2.heap.size:=by omega
 have KO:w.heap.size<=w2.heap.size:=by omega
 generalize w2.heap.size=g3 at *;clear du rl;have cQ:=h.b.lt;have CC:∀j,az A j->j<w.heap.size:=fun j hj=>(aB h.o A c rfl j hj).1
 have fin:∀(w5 w6:World) (y:En) (v:Value),Below w.heap.size w w5->ar w5 (w.heap.size+1) 59 #[.int .i64 0,.int .i64 0,.int .i64 0,.int .i64 0,.int .i64 0,.slice none 0 0]->set6 w5 (w.heap.size+1) (v,y)=w6->
   ar w6 (w.heap.size+1) 59 #[.int .i64 y.idx,.int .i64 y.term,.int .i64 y.op,.int .i64 y.sess,.int .i64 y.seq,v]/\bt TD w5 w6/\Below w.heap.size w w6/\Fr (fun j=>j=w.heap.size+1) w5 w6:=fun w5 w6 y v hb hk e=>by
  subst e;obtain⟨s1,s2,s3⟩:=eW (v,y) hk rfl;exact⟨s1,s2 _ (by decide),hb.trans (s3 _ (by omega)),Fr.set6 _ _ _⟩
 have finE:∀(w5 w6:World) (k:Int),cS B S w5 g t A n c zs->Below w.heap.size w w5->ar w5 (w.heap.size+1) 59 #[.int .i64 0,.int .i64 0,.int .i64 0,.int .i64 0,.int .i64 0,.slice none 0 0]->set6 w5 (w.heap.size+1) (.slice none 0 0,gk)=w6->t.putF tm x=((gk,k),t)->
   ar w6 (w.heap.size+1) 59 #[.int .i64 0,.int .i64 0,.int .i64 0,.int .i64 0,.int .i64 0,.slice none 0 0]/\
   ∃vy,Ending.returned (.tuple #[.agg #[.int .i64 0,.int .i64 0,.int .i64 0,.int .i64 0,.int .i64 0,.slice none 0 0],.int .i64 k])=.returned (.tuple #[ni (t.putF tm x).1.1 vy,.int .i64 (t.putF tm x).1.2])/\∃M,aG (bG TD M w6) w6 vy (t.putF tm x).1.1.facts/\w.heap.size<=M/\iV B S w g A (t.putF tm x).2 M w6:=fun w5 w6 k h5 hb hk e he=>by
  obtain⟨s1,s2,s3,s4⟩:=fin w5 w6 gk _ hb hk e;rw[he];refine⟨s1,.slice none 0 0,rfl,w6.heap.size,aG.nil _ _,s3.size,A,n,c,zs,S,?_,fun _ h=>.inl h,fun _ h=>.inl h,Nat.le_refl _,Fr.of_below s3⟩;exact h5.moveT s4 (by omega) (fun j hj=>by have:=CC j hj;omega) s2
 obtain⟨d0,d1,d2,d3,d4,d5,-⟩:=b2.cs [0,1,2,3,4,5];obtain⟨f0,f1,f2,f3,f4,f5,-⟩:=b2.fs [0,1,2,3,4,5];simp only[Zx]at d0 d1 d2 d3 d4 d5;by_cases i1:1099511627776<=l1
 ·have he:=oY.out i1;have aF:=finE w3 _ 41 h3 eE b2 rfl he;have aF:=zH aF;clear he finE fin CC;go_wp2_with fail;replace aF:=aF.out;show bodyPost _ _ _ _ _ (set6 w3 (w.heap.size+1) (.slice none 0 0,gk));generalize set6 w3 (w.heap.size+1) (.slice none 0 0,gk)=w9 at *;obtain⟨q,aF⟩:=aF;obtain⟨r0,r1,r2,r3,r4,r5,-⟩:=q.cs [0,1,2,3,4,5];simp only[Zx]at r0 r1 r2 r3 r4 r5;exact bodyPost_ret (v:=.tuple #[.agg #[.int .i64 0,.int .i64 0,.int .i64 0,.int .i64 0,.int .i64 0,.slice none 0 0],.int .i64 41]) (by simp[results,results66,go_sem,r0,r1,r2,r3,r4,r5]) rfl aF
 ·by_cases i2:tm<l2
  ·have he:=qN.out (by omega) (.inl i2);have aF:=finE w3 _ 1 h3 eE b2 rfl he;have aF:=zH aF;clear he finE fin CC;go_wp2_with fail;replace aF:=aF.out;show bodyPost _ _ _ _ _ (set6 w3 (w.heap.size+1) (.slice none 0 0,gk));generalize set6 w3 (w.heap.size+1) (.slice none 0 0,gk)=w9 at *;obtain⟨q,aF⟩:=aF;obtain⟨r0,r1,r2,r3,r4,r5,-⟩:=q.cs [0,1,2,3,4,5];simp only[Zx]at r0 r1 r2 r3 r4 r5;exact bodyPost_ret (v:=.tuple #[.agg #[.int .i64 0,.int .i64 0,.int .i64 0,.int .i64 0,.int .i64 0,.slice none 0 0],.int .i64 1]) (by simp[results,results66,go_sem,r0,r1,r2,r3,r4,r5]) rfl aF
  ·have aH:=sr S2 (lq (l1+1) tm x) V m d w3 uc hm;obtain⟨bp,pu⟩:=zN (dI (lq (l1+1) tm x));rw[pu]at aH;unfold ni lq at aH;dsimp only at aH;obtain⟨a0,a1,a2,a3,a4,a5,-⟩:=b3.cs [0,1,2,3,4,5];simp only[Zx]at a0 a1 a2 a3 a4 a5;go_wp2_with fail;refine aH.mono ?_;rintro e w4 ⟨rfl,cz⟩;have b2:=b2.kept cz;have b3:=b3.kept cz;have h4:=h3.below cz;have DB:=uc.keep (bz.below (S:=S2) cz);have iN:=ab eE cz zl;clear h3 uc cz eE aH d0 d1 d2 d3 d4 d5 f0 f1 f2 f3 f4 f5 a0 a1 a2 a3 a4 a5;obtain⟨d0,d1,d2,d3,d4,d5,-⟩:=b2.cs [0,1,2,3,4,5];obtain⟨f0,f1,f2,f3,f4,f5,-⟩:=b2.fs [0,1,2,3,4,5];obtain⟨a0,a1,a2,a3,a4,a5,-⟩:=b3.cs [0,1,2,3,4,5];simp only[Zx]at d0 d1 d2 d3 d4 d5 a0 a1 a2 a3 a4 a5;cases bp with
   | false=>
    have he:=qN.out (by omega) (.inr pu);have aF:=finE w4 _ 1 h4 iN b2 rfl he;have aF:=zH aF;clear he finE fin CC pu;go_wp2_with fail;replace aF:=aF.out;show bodyPost _ _ _ _ _ (set6 w4 (w.heap.size+1) (.slice none 0 0,gk));generalize set6 w4 (w.heap.size+1) (.slice none 0 0,gk)=w9 at *;obtain⟨q,aF⟩:=aF;obtain⟨r0,r1,r2,r3,r4,r5,-⟩:=q.cs [0,1,2,3,4,5];simp only[Zx]at r0 r1 r2 r3 r4 r5;exact bodyPost_ret (v:=.tuple #[.agg #[.int .i64 0,.int .i64 0,.int .i64 0,.int .i64 0,.int .i64 0,.slice none 0 0],.int .i64 1]) (by simp[results,results66,go_sem,r0,r1,r2,r3,r4,r5]) rfl aF
   | true=>
    have he:=zH (cB.out (by omega) (by omega) pu);have BM:=lP pu;have pu:=zH pu;have aH:=oc S2 (lq (l1+1) tm x) V m d w4 DB BM;unfold ni lq at aH;dsimp only at aH;have kg:=zK [g,g3] h4.cells.2.2 (by simp);obtain⟨k0,k1,k2,k3,k4,k5⟩:=NO [g,g3] a0 a1 a2 a3 a4 a5;have Ux:=h4.b.lt;have Tc:=b3.lt;have cT:∀q∈[g,g3],q<w4.heap.size:=by simp;exact⟨Ux,Tc⟩
    clear finE d0 d1 d2 d3 d4 d5 f0 f1 f2 f3 f4 f5 oY qN cB;have aH:Calls prog 91 #[.agg #[.int .i64 (l1+1),.int .i64 tm,.int .i64 x.op,.int .i64 x.sess,.int .i64 x.seq,.slice V m d]] w4.drew fun e w'=>∃A' c',e=.returned (.agg #[.int .i64 (l1+1),.int .i64 tm,.int .i64 x.op,.int .i64 x.sess,.int .i64 x.seq,.slice A' m c'])/\aG (bG TD w4.heap.size w') w' (.slice A' m c') x.facts/\Below w4.heap.size w4 w':=
     (oc S2 (lq (l1+1) tm x) V m d w4.drew DB BM).mono fun e w' h=>by
      obtain⟨A',c',h1,h2,h3⟩:=h;exact⟨A',c',h1,h2,(aA (Below.refl w4.heap.size w4) 1).trans h3⟩
    clear a0 a1 a2 a3 a4 a5;go_wp2_with fail;refine mI [g,g3] w4 [([0,1,2,3,4,5],6),([],7),([],8)] ([9,10],11) ?_;refine ap fun K1 ct=>?_
    simp only[af,Zx];repeat go_big_quiet_step(fail)
    apply wpQuiet_nil;go_wp2_with fail;refine aH.mono ?_;rintro e w5 ⟨A5,d5,rfl,Tu,cD⟩;clear aH;go_wp2_with fail;refine⟨aq cT cD,ct _ _ ?_⟩;have dH:Below w5.heap.size w5 (w5.alloc (.cells #[.int .i64 (l1+1),.int .i64 tm,.int .i64 x.op,.int .i64 x.sess,.int .i64 x.seq,.slice A5 m d5] 59)):=zb.alloc zl _;have dv:ar (w5.alloc (.cells #[.int .i64 (l1+1),.int .i64 tm,.int .i64 x.op,.int .i64 x.sess,.int .i64 x.seq,.slice A5 m d5] 59)) w5.heap.size 59 (bY (.slice A5 m d5,lq (l1+1) tm x)).toArray:=ar.new w5 59 (bY (.slice A5 m d5,lq (l1+1) tm x)).toArray;have vS:=ab cD dH zl;have h6:=h4.below vS;have iI:n+1<=1000000000:=by omega
    have E8:B<=(w5.alloc (.cells #[.int .i64 (l1+1),.int .i64 tm,.int .i64 x.op,.int .i64 x.sess,.int .i64 x.seq,.slice A5 m d5] 59)).heap.size:=by have:=vS.size;have:=iN.size;omega
    refine ap fun K2 ge=>?_
    simp only[af,Zx];repeat go_big_quiet_step(fail)
    apply wpQuiet_nil;go_wp2_with fail;refine⟨aq cT vS,ge _ _ ?_⟩;refine ap fun K3 jx=>?_
    simp only[af,Zx];repeat go_big_quiet_step(fail)
    apply wpQuiet_nil;go_wp2_with (at_builtin;refine aW rfl (.tmp 39) (.tmp 42) rfl B rfl h6.o rfl (fu.one dv) (fun y hy=>by rw[List.mem_singleton.1 hy];rfl) iI E8 ?_;intro A7 c7 w7 eM pO io nf);obtain⟨w6,E6⟩:=zN (w5.alloc (.cells #[.int .i64 (l1+1),.int .i64 tm,.int .i64 x.op,.int .i64 x.sess,.int .i64 x.seq,.slice A5 m d5] 59));rw[E6]at dH dv vS h6 pO nf E8;have RN:¬az A g:=fun hj=>by
     obtain⟨_,_,cs,h⟩:=aB h4.o A c rfl g hj;have hk:=h4.b;unfold ar at hk;rw[hk]at h;injection h with h;injection h with _ h;exact absurd h (by decide)
    have So:¬az A g3:=fun hj=>by have:=CC _ hj;omega
    have mX:=vS.size;have mM:ar w7 g 152 #[.int .i64 t.index,.int .i64 t.term,.slice A n c]:=(pO.block g h6.b.lt RN).trans h6.b;have BY:ar w7 g3 59 #[.int .i64 (l1+1),.int .i64 tm,.int .i64 x.op,.int .i64 x.sess,.int .i64 x.seq,.slice V m d]:=(pO.block g3 (by omega) So).trans (b3.kept vS);have rl:w.heap.size+1<w4.heap.size:=b2.lt;have OD:ar w7 (w.heap.size+1) 59 #[.int .i64 0,.int .i64 0,.int .i64 0,.int .i64 0,.int .i64 0,.slice none 0 0]:=(pO.block _ (by omega) fun hj=>by have:=CC _ hj;omega).trans (b2.kept vS);refine⟨bO (Eq.trans mM h4.b.symm) (Eq.trans BY b3.symm),jx _ _ ?_⟩;have Ia:bt TD w6 w7:=bt.row h6.o pO (by decide);have Kb:aG (bG TD w4.heap.size w7) w7 (.slice A5 m d5) x.facts:=(Tu.move (bt.below dH)).move Ia;have Wo:∀j,(S j\/bG TD w4.heap.size w7 j)->sZ TD w7 j:=fun j hj=>hj.elim (fun hj=>(h6.s j hj).move Ia) (fun hj=>hj.2)
    have Kl:bq (fun j=>S j\/bG TD w4.heap.size w7 j) w7 (zs++[(.slice A5 m d5,lq (l1+1) tm x)]):=
     ((h6.d.keep fun j hj _=>Ia j (h6.s j hj)).mono fun j _ hj=>.inl hj).append fun z hz=>by
      rw[List.mem_singleton.1 hz];exact Kb.mono fun j _ hj=>.inr hj
    have C6:B<=g:=h4.g;have h8:=cS.setRow (t:=t) C6 mM eM Kl (L7:=t.L++[lq (l1+1) tm x]) (by rw[List.map_append,h4.l];rfl) (jy.out rfl pu.out i2) Wo;have Fo:Fr (fun j=>j=g\/az A j) w6 (w7.setCell ⟨g,2,none⟩ (.slice A7 (n+1) c7)):=(pO.mono fun j hj=>.inr hj).trans (Fr.set g 2 _) fun j hj=>.inl (.inl hj)
    have FV:Fr (fun j=>j=g\/az A j) w (w7.setCell ⟨g,2,none⟩ (.slice A7 (n+1) c7)):=(Fr.of_below (ab iN vS zl)).trans Fo fun j hj=>.inl hj
    have Uv:aG S2 (w7.setCell ⟨g,2,none⟩ (.slice A7 (n+1) c7)) (.slice V m d) x.facts:=DB.keep fun j hj hl=>(Fo.block j (by omega) (ls j hj)).trans (vS.block j hl)
    have L0:=BY.far (p:=⟨g,2,none⟩) (show g3≠g from fun e=>by rw[e]at BY;unfold ar at BY mM;rw[mM]at BY;injection BY with BY;injection BY with _ BY;exact absurd BY (by decide)) (.slice A7 (n+1) c7);have fZ:=OD.far (p:=⟨g,2,none⟩) (show w.heap.size+1≠g by omega) (.slice A7 (n+1) c7);have KL:∀j,az A7 j->az A j\/w.heap.size<=j:=fun j hj=>(nf j hj).imp_right fun h=>by have:=iN.size;omega
    have hM:∀j,(S j\/bG TD w4.heap.size w7 j)->S j\/(w.heap.size<=j/\j<w7.heap.size):=fun j hj=>hj.imp_right fun hj=>by
     obtain⟨h1,cs,fz,ty,h2,_⟩:=hj;have h3:=aV h2;have:=iN.size;exact⟨by omega,h3⟩
    have IG:(w7.setCell ⟨g,2,none⟩ (.slice A7 (n+1) c7)).heap.size=w7.heap.size:=by simp[World.setCell]
    have fg2:=mM.free 2;have cg2:=mM.cell 2;simp only[Zx]at cg2;have aH:Calls prog 91 #[.agg #[.int .i64 (l1+1),.int .i64 tm,.int .i64 x.op,.int .i64 x.sess,.int .i64 x.seq,.slice V m d]] (w7.setCell ⟨g,2,none⟩ (.slice A7 (n+1) c7)) fun e w'=>∃A' c',e=.returned (.agg #[.int .i64 (l1+1),.int .i64 tm,.int .i64 x.op,.int .i64 x.sess,.int .i64 x.seq,.slice A' m c'])/\aG (bG TD w7.heap.size w') w' (.slice A' m c') x.facts/\Below w7.heap.size (w7.setCell ⟨g,2,none⟩ (.slice A7 (n+1) c7)) w':=by
     rw[<-IG];exact oc S2 (lq (l1+1) tm x) V m d _ Uv BM
    obtain⟨e0,e1,e2,e3,e4,e5,-⟩:=BY.cs [0,1,2,3,4,5];simp only[Zx]at e0 e1 e2 e3 e4 e5;have fV:¬g3=g:=by omega
    refine aC ?_;simp only[af,Zx];repeat go_big_quiet_step(fail)
    apply wpQuiet_nil;go_wp2_with fail;refine aH.mono ?_;rintro e w9 ⟨A9,d9,rfl,YA,my⟩;have my:Below (w7.setCell ⟨g,2,none⟩ (.slice A7 (n+1) c7)).heap.size (w7.setCell ⟨g,2,none⟩ (.slice A7 (n+1) c7)) w9:=by rw[IG];exact my
    have h9:=h8.below my;have Sg:=fZ.kept my;have KZ:=FV.trans (Fr.of_below (X:=fun _=>False) my) fun _ h=>h.elim
    have Xy:Below w.heap.size w9 w9:=Below.refl _ _;have Zq:∀j,az A7 j->j≠w.heap.size+1:=fun j hj e=>by
     obtain⟨_,_,cs,h⟩:=aB h9.o A7 c7 rfl j hj;rcases nf j hj with h'|h'
     ·have:=CC j h';omega
     ·omega
    have Xc:w7.heap.size<=w9.heap.size:=by rw[<-IG];exact my.size
    obtain⟨s1,s2,s3⟩:=eW (.slice A9 m d9,lq (l1+1) tm x) Sg rfl;have s4:=Fr.set6 w9 (w.heap.size+1) (.slice A9 m d9,lq (l1+1) tm x);have nz:=h9.moveT s4 (show ¬g=w.heap.size+1 by omega) (fun j hj e=>Zq j hj e) (s2 _ (by decide));have TX:=YA.move (s2 _ (by decide));have Ki:=KZ.trans s4 fun j hj=>.inr (by omega)
    have UJ:w7.heap.size<=(set6 w9 (w.heap.size+1) (.slice A9 m d9,lq (l1+1) tm x)).heap.size:=Nat.le_trans Xc s4.size;have Zm:w.heap.size<=w7.heap.size:=by have:=Fo.size;have:=iN.size;omega
    have Q5:=zH (show iV B S w g A {t with L:=t.L++[lq (l1+1) tm x]} w7.heap.size (set6 w9 (w.heap.size+1) (.slice A9 m d9,lq (l1+1) tm x))from
     ⟨A7,n+1,c7,_,_,nz,hM,KL,UJ,Ki⟩)
    clear nz h9 hM KL Ki KZ h8 Kl Wo aH;obtain⟨d0,d1,d2,d3,d4,d5,-⟩:=Sg.cs [0,1,2,3,4,5];obtain⟨f0,f1,f2,f3,f4,f5,-⟩:=Sg.fs [0,1,2,3,4,5];simp only[Zx]at d0 d1 d2 d3 d4 d5;go_wp2_with fail;show bodyPost _ _ _ _ _ (set6 w9 (w.heap.size+1) (.slice A9 m d9,lq (l1+1) tm x));generalize set6 w9 (w.heap.size+1) (.slice A9 m d9,lq (l1+1) tm x)=w10 at *;obtain⟨r0,r1,r2,r3,r4,r5,-⟩:=s1.cs [0,1,2,3,4,5];simp only[bY,vi,lq,Zx]at r0 r1 r2 r3 r4 r5;exact bodyPost_ret (v:=.tuple #[.agg #[.int .i64 (l1+1),.int .i64 tm,.int .i64 x.op,.int .i64 x.sess,.int .i64 x.seq,.slice A9 m d9],.int .i64 0]) (by simp[results,results66,go_sem,r0,r1,r2,r3,r4,r5]) rfl ⟨.slice A9 m d9,by rw[he.out];rfl,w7.heap.size,by rw[he.out];exact TX,Zm,by rw[he.out];exact Q5.out⟩
end
section
variable {B:Nat}{S:Nat->Prop}{w w':World}{g n c:Nat}{t:bB}{A:Option Addr}{zs:List (Value×En)}
theorem jf{w:World}{g j:Nat}{T T':TypeId}{cs ds:Array Value}{fz:Nat×Nat}(h:ar w g T cs)(h':w.heap[j]?=some (.cells ds T' fz))(ht:T≠T'):j≠g:=fun e=>by
 unfold ar at h;rw[e,h]at h';injection h' with h';injection h' with _ h';exact ht h'
theorem cS.setAll{S7:Nat->Prop}{w7:World}{A7:Option Addr}{n7 c7:Nat}{zs7:List (Value×En)}{L7:List En}{i tm:Int}(hg:B<=g)(hk:ar w7 g 152 #[.int .i64 t.index,.int .i64 t.term,.slice A n c])
  (ho:w7.ownsRow B 59 6 (.slice A7 n7 c7) n7 (zs7.flatMap bY)) (hd:bq S7 w7 zs7) (hl:zs7.map (·.2)=L7) (hi:bB.Inv ⟨i,tm,L7⟩) (hs:∀j,S7 j->sZ TD w7 j) :
  cS B S7 (((w7.setCell ⟨g,2,none⟩ (.slice A7 n7 c7)).setCell ⟨g,0,none⟩ (.int .i64 i)).setCell ⟨g,1,none⟩ (.int .i64 tm)) g ⟨i,tm,L7⟩ A7 n7 c7 zs7:=by
 have k2:=hk.set_ 2 (.slice A7 n7 c7);have k0:=k2.set_ 0 (.int .i64 i);have k1:=k0.set_ 1 (.int .i64 tm);have hT:bt TD w7 (((w7.setCell ⟨g,2,none⟩ (.slice A7 n7 c7)).setCell ⟨g,0,none⟩ (.int .i64 i)).setCell ⟨g,1,none⟩ (.int .i64 tm)):=((bt.set hk (by decide)).trans (bt.set k2 (by decide))).trans (bt.set k0 (by decide));have hF:Fr (fun j=>j=g) w7 (((w7.setCell ⟨g,2,none⟩ (.slice A7 n7 c7)).setCell ⟨g,0,none⟩ (.int .i64 i)).setCell ⟨g,1,none⟩ (.int .i64 tm)):=((Fr.set g 2 _).trans (Fr.set g 0 _) fun _ h=>.inl h).trans (Fr.set g 1 _) fun _ h=>.inl h
 exact
 {b:=by simpa using k1
  o:=cH ho fun j hj hl=>hF.block j hl fun e=>by
   obtain⟨_,_,cs,h⟩:=aB ho A7 c7 rfl j hj;exact jf hk h (by decide) e
  d:=hd.keep fun j hj hl=>hT j (hs j hj)
  l:=hl
  i:=hi
  g:=hg
  s:=fun j hj=>(hs j hj).move hT}
theorem ux(i:Int)(h:cS B S w g t A n c zs)(hn:n<=1000000)(hB:B<=w.heap.size):Calls prog 127 #[.pointer (some ⟨g,0,none⟩),.int .i64 i] w fun e w'=>e=.returned (.int .i64 (t.dropF i).1)/\iV B S w g A (t.dropF i).2 w'.heap.size w':=by
 have bh:=jB i h hn;have dG:=h.i.dropF i;obtain⟨v1,bH⟩:∃v,(t.termF i).1=v:=⟨_,rfl⟩;rcases kW t i with h2|h2|h2
 ·have he:=zH (show t.dropF i=(0,t) by unfold bB.dropF;rw[h2];rfl);rw[h2,bH]at bh;clear dG bH h2;go_enter func127,ntmps127;go_wp2_with fail;refine bh.mono ?_;rintro e w1 ⟨rfl,bs⟩;go_wp2_with fail;go_ret;exact⟨by rw[he.out];rfl,by rw[he.out];exact iV.same h bs⟩
 ·have he:=zH (show t.dropF i=(33,t) by unfold bB.dropF;rw[h2];rfl);rw[h2,bH]at bh;clear dG bH h2;go_enter func127,ntmps127;go_wp2_with fail;refine bh.mono ?_;rintro e w1 ⟨rfl,bs⟩;go_wp2_with fail;go_ret;exact⟨by rw[he.out];rfl,by rw[he.out];exact iV.same h bs⟩
 ·obtain⟨h5,h6,_⟩:=eU (t:=t) (i:=i) (term:=(t.termF i).1) (by rw[<-h2]);rw[<-h.len.1]at h6;have hb:=h.i.b;obtain⟨k,hk⟩:∃k:Nat,i-t.index=k:=⟨(i-t.index).toNat,by omega⟩;have zO:t.dropF i=(0,⟨i,v1,t.L.drop k⟩):=by
   unfold bB.dropF;rw[h2,bH,hk];rfl
  rw[zO]at dG;have he:=zH zO;rw[h2,bH]at bh;have Db:k<=n:=by omega
  clear bH h2 zO;go_enter func127,ntmps127;go_wp2_with fail;refine bh.mono ?_;rintro e w1 ⟨rfl,bs⟩;have h1:=h.below bs;obtain⟨AB,oX⟩:=bA h1.o;obtain⟨q0,q1,q2⟩:=h1.cells;obtain⟨k0,k2⟩:=nY [g] q0 q2;have bP:=cn.cut (size:=6) h1.rd (k:=k) Db AB;rw[<-mH fj]at bP;have VL:k<=c:=by omega
  have cQ:=h1.b.lt;have Av:n-k<=1000000000:=by omega
  have nR:B<=w1.heap.size:=by have:=bs.size;omega
  have oI:bq S w1 (zs.drop k):=h1.d.sub fun y hy=>List.mem_of_mem_drop hy
  have hk:=zH hk;unfold maxLen at oX;have gq:=oI.one;by_cases re:c=k
  all_goals
   have hk:=hk.out;simp only[re,if_true,if_false]at bP;go_wp2_with fail;refine mI [g] w1 [([0,1,2,3,4,5,6,7,8,9,10,11],12)] ([13,14],15) ?_;refine ap fun K1 ct=>?_
   simp only[af,Zx];repeat go_big_quiet_step(fail)
   apply wpQuiet_nil;have lr:w1.drew.ownsRow w1.heap.size 59 6 (.slice none 0 0) 0 (([]:List (Value×En)).flatMap bY):=b9 _ _;go_wp2_with (at_builtin;refine aW rfl (.const (.slice none 0 0)) (.tmp 30) rfl w1.heap.size rfl lr rfl (ys:=zs.drop k) bP gq (by omega) zl ?_;intro A7 c7 w7 eM pO io nf);simp only[Nat.zero_add,List.nil_append]at eM ⊢;have GW:Below w1.heap.size w1 w7:=(aA (Below.refl w1.heap.size w1) 1).trans io;have mM:=h1.b.kept GW;refine⟨aq (by simp;exact cQ) GW,ct _ _ ?_⟩;have aE:=bt.below (L:=TD) GW;have nz:=cS.setAll (t:=t) (i:=i) (tm:=v1) h1.g mM (ed eM nR) (oI.keep fun j hj hl=>GW.block j hl) (by rw[List.map_drop,h1.l]) dG (fun j hj=>(h1.s j hj).move aE);have hF:Fr (fun j=>j=g\/az A j) w (((w7.setCell ⟨g,2,none⟩ (.slice A7 (n-k) c7)).setCell ⟨g,0,none⟩ (.int .i64 i)).setCell ⟨g,1,none⟩ (.int .i64 v1)):=
    (Fr.of_below (ab bs GW zl)).trans (((Fr.set g 2 _).trans (Fr.set g 0 _) fun _ h=>.inl h).trans (Fr.set g 1 _) fun _ h=>.inl h) fun j hj=>.inl (.inl hj)
   have Sa:∀j,az A7 j->az A j\/w.heap.size<=j:=fun j hj=>.inr (by have:=(aB eM A7 c7 rfl j hj).2.1;have:=bs.size;omega)
   have hP:=zH (show iV B S w g A ⟨i,v1,t.L.drop k⟩ _ _ from⟨A7,n-k,c7,_,S,nz,fun _ h=>.inl h,Sa,Nat.le_refl _,hF⟩);obtain⟨d0,d1,d2,-⟩:=mM.cs [0,1,2];obtain⟨f0,f1,f2,-⟩:=mM.fs [0,1,2];simp only[Zx]at d0 d1 d2;clear nz hF Sa eM pO io nf;refine aC ?_;simp only[af,Zx];repeat go_big_quiet_step(fail)
   apply wpQuiet_nil;go_wp2_with fail;go_ret;exact⟨by rw[he.out];rfl,by rw[he.out];exact hP.out⟩
end
def mq(S:Nat->Prop)(w5 wr:World)(g:Nat)(t:bB)(A':Option Addr)(k q c':Nat)(zk zq:List (Value×En))(M:List En):Prop:=
 ar wr g 152 #[.int .i64 t.index,.int .i64 t.term,.slice A' (k+q) c']/\WH w5.heap.size wr A' (k+q) c' (zk++zq)/\(0<q->wr.ownsRow w5.heap.size 59 6 (.slice A' (k+q) c') (k+q) ((zk++zq).flatMap bY))/\
  bq (fun j=>S j\/bG TD w5.heap.size wr j) wr (zk++zq)/\zq.map (·.2)=M.take q/\Fr (fun j=>j=g) w5 wr/\bt TD w5 wr/\(∀j,az A' j->j<wr.heap.size)
theorem mq.below{S:Nat->Prop}{w5 wr w6:World}{g:Nat}{t:bB}{A':Option Addr}{k q c':Nat}{zk zq:List (Value×En)}{M:List En}(h:mq S w5 wr g t A' k q c' zk zq M)(hb:Below wr.heap.size wr w6):mq S w5 w6 g t A' k q c' zk zq M:=by
 obtain⟨h1,h2,h3,h4,h5,h6,h7,h8⟩:=h;have hT:=bt.below (L:=TD) hb;refine⟨h1.kept hb,?_,fun h=>bf (h3 h) hb,?_,h5,h6.trans (Fr.of_below (X:=fun _=>False) hb) fun _ h=>h.elim,h7.trans hT,fun j hj=>Nat.lt_of_lt_of_le (h8 j hj) hb.size⟩
 ·rcases h2 with⟨e,h2,CF⟩|h2
  ·exact .inl ⟨e,h2.below hb,CF⟩
  ·exact .inr (bf h2 hb)
 ·refine(h4.keep fun j hj hl=>hb.block j hl).mono fun j _ hj=>hj.imp_right fun hj=>⟨hj.1,hj.2.move hT⟩
theorem mq.next{S:Nat->Prop}{w5 w6 w7:World}{g:Nat}{t:bB}{A' A9:Option Addr}{k q c' c9:Nat}{zk zq:List (Value×En)}{M:List En}{z:Value×En}(hg:g<w5.heap.size)(hS:∀j,S j->sZ TD w5 j)(h:mq S w5 w6 g t A' k q c' zk zq M)
  (io:Below w5.heap.size w6 w7) (hs:∀L,59∉L->bt L w6 w7) (ho:w7.ownsRow w5.heap.size 59 6 (.slice A9 (k+q+1) c9) (k+q+1) ((zk++zq++[z]).flatMap bY))
  (hz:aG (bG TD w5.heap.size w6) w6 z.1 z.2.facts) (hM:M.take (q+1)=M.take q++[z.2]):mq S w5 (w7.setCell ⟨g,2,none⟩ (.slice A9 (k+q+1) c9)) g t A9 k (q+1) c9 zk (zq++[z]) M:=by
 obtain⟨h1,h2,h3,h4,h5,h6,h7,h8⟩:=h;have k7:ar w7 g 152 #[.int .i64 t.index,.int .i64 t.term,.slice A' (k+q) c']:=h1.below io hg;have hT:=hs TD (by decide);have KY:bt TD w7 (w7.setCell ⟨g,2,none⟩ (.slice A9 (k+q+1) c9)):=bt.set k7 (by decide);have di:Fr (fun j=>j=g) w7 (w7.setCell ⟨g,2,none⟩ (.slice A9 (k+q+1) c9)):=Fr.set g 2 _;have bP:=aB ho A9 c9 rfl;have iC:(w7.setCell ⟨g,2,none⟩ (.slice A9 (k+q+1) c9)).ownsRow w5.heap.size 59 6 (.slice A9 (k+q+1) c9) (k+q+1) ((zk++(zq++[z])).flatMap bY):=by
  rw[<-List.append_assoc];exact cH ho fun j hj hl=>di.block j hl fun e=>by have:=(bP j hj).2.1;omega
 refine⟨by simpa[Nat.add_assoc]using k7.set_ 2 (.slice A9 (k+q+1) c9),.inr iC,fun _=>iC,?_,by rw[List.map_append,h5,hM];rfl,?_,(h7.trans hT).trans KY,fun j hj=>Nat.lt_of_lt_of_le (bP j hj).1 di.size⟩
 ·rw[<-List.append_assoc];have Ls:=hT.trans KY;have e1:bq (fun j=>S j\/bG TD w5.heap.size w6 j) (w7.setCell ⟨g,2,none⟩ (.slice A9 (k+q+1) c9)) (zk++zq):=h4.keep fun j hj hl=>Ls j (hj.elim (fun hj=>(hS j hj).move h7) fun hj=>hj.2)
  refine(e1.mono fun j _ hj=>hj.imp_right fun hj=>⟨hj.1,hj.2.move Ls⟩).append fun y hy=>?_
  rw[List.mem_singleton.1 hy];exact(hz.move Ls).mono fun j _ hj=>.inr hj
 ·have CY:Fr (fun _=>False) w5 w7->Fr (fun j=>j=g) w5 (w7.setCell ⟨g,2,none⟩ (.slice A9 (k+q+1) c9)):=fun h=>(h.mono (X':=fun j=>j=g) fun _ h=>h.elim).trans di fun _ h=>.inl h
  exact(h6.trans (X':=fun j=>w5.heap.size<=j) ⟨io.os,io.tape,io.output,io.size,fun j _ hn=>io.block j (by omega)⟩ fun j hj=>.inr hj).trans di fun _ h=>.inl h
section
variable {B:Nat}{S:Nat->Prop}{w w':World}{g n c:Nat}{t:bB}{A:Option Addr}{zs:List (Value×En)}
theorem yh{idx tm:Int}{L:List En}(h:¬(t.termF idx=(tm,0)/\bL idx 0 tm L=true)):t.takeF idx tm L=((0,false),t):=if_neg h
theorem se{idx tm:Int}{L:List En}(h:t.termF idx=(tm,0))(h':bL idx 0 tm L=true)(hd:t.findDiff L=none):t.takeF idx tm L=((0,true),t):=by unfold bB.takeF;rw[if_pos ⟨h,h'⟩,hd]
theorem sG{idx tm:Int}{L R:List En}{x:En}(h:t.termF idx=(tm,0))(h':bL idx 0 tm L=true)(hd:t.findDiff L=some (x,R)):t.takeF idx tm L=((x.idx,true),{t with L:=t.L.take (x.idx-t.index-1).toNat++x::R}):=by unfold bB.takeF;rw[if_pos ⟨h,h'⟩,hd]
theorem nh{idx:Int}{L:List En}:∀{i:Nat} {tm:Int},bL idx i tm L=true->∀x∈L,dI x=true:=by
 induction L with
 | nil=>intro i tm _ x hx;cases hx
 | cons y L ih=>
  intro i tm h x hx;obtain⟨h1,_,_,h4⟩:=iX.1 h;rcases List.mem_cons.1 hx with rfl|hx
  ·exact h1
  ·exact ih h4 x hx
theorem Dz(S2:Nat->Prop)(idx tm:Int)(A2:Option Addr)(m c2:Nat)(ys:List (Value×En))(h:cS B S w g t A n c zs)(hn:n<=1000000)(hB:B<=w.heap.size)(hr:fu w A2 m ys)(hd:bq S2 w ys)
  (hm:m<=100000) (Ao:m<=c2) (Pq:c2<=maxLen) (ls:∀j,S2 j->j≠g) (Dg:0<m->∀j,az A2 j->j≠g) :
  Calls prog 43 #[.pointer (some ⟨g,0,none⟩),.int .i64 idx,.int .i64 tm,.slice A2 m c2] w fun e w'=>
   e=.returned (.tuple #[.int .i64 (t.takeF idx tm (ys.map (·.2))).1.1,.bool (t.takeF idx tm (ys.map (·.2))).1.2])/\iV B S w g A (t.takeF idx tm (ys.map (·.2))).2 w'.heap.size w':=by
 have bh:=jB idx h hn;have dt:=zH (fun h0=>yh (t:=t) (idx:=idx) (tm:=tm) (L:=ys.map (·.2)) h0);obtain⟨v1,bH⟩:∃v,(t.termF idx).1=v:=⟨_,rfl⟩;obtain⟨v2,fY⟩:∃v,(t.termF idx).2=v:=⟨_,rfl⟩;have hv:t.termF idx=(v1,v2):=by rw[<-bH,<-fY]
 rw[bH,fY]at bh;clear bH fY;have hl:=zH h.len.1;have xf:=zH hr.len;have kp:=h.i.b;have TP:=h.i.room;rw[<-h.len.1]at TP;by_cases i1:v2=0
 ·by_cases i2:v1=tm
  ·subst i1;subst i2;have Ps:=eU hv;rw[<-h.len.1]at Ps;obtain⟨rP,N7,Er⟩:=Ps;clear Er;obtain⟨bm,bN⟩:=zN (bL idx 0 v1 (ys.map (·.2)));cases bm with
   | false=>
    have he:=zH (dt.out (by rw[bN];simp));have hv:=zH hv;clear dt;go_enter func43,ntmps43;go_wp2_with fail;refine bh.mono ?_;rintro e w1 ⟨rfl,bs⟩;go_wp2_with fail;refine(zp S2 idx v1 A2 m c2 ys w1 (hr.below bs) (hd.keep (bz.below bs)) (by omega) (by omega) (by omega)).mono ?_;rintro e w2 ⟨rfl,bJ⟩;rw[bN];go_wp2_with fail
    go_ret2
    exact⟨by rw[he.out];rfl,by rw[he.out];exact iV.same h (ab bs bJ zl)⟩
   | true=>
    have uO:=zH (fun h0:t.findDiff (ys.map (·.2))=none=>se hv bN h0);have vk:=zH (fun(x:En) (R:List En) (h0:t.findDiff (ys.map (·.2))=some (x,R))=>sG hv bN h0);have uB:=zH (fun(x:En) (R:List En) (h0:t.findDiff (ys.map (·.2))=some (x,R))=>iA (t:=t) (i:=0) (idx:=idx) (term:=v1) (x:=x) (r:=R) (by rw[show idx+((0:Nat):Int)=idx by omega];exact hv) bN h0);have kG:=zH (nh bN);have dG:=zH (h.i.takeF idx v1 (ys.map (·.2)));have hv:=zH hv;have Hbm:=zH bN;clear dt;go_enter func43,ntmps43;go_wp2_with fail;refine bh.mono ?_;rintro e w1 ⟨rfl,bs⟩;go_wp2_with fail;refine(zp S2 idx v1 A2 m c2 ys w1 (hr.below bs) (hd.keep (bz.below bs)) (by omega) (by omega) (by omega)).mono ?_;rintro e w2 ⟨rfl,bJ⟩;rw[bN];clear bN;have du:=ab bs bJ zl;unfold maxLen at Pq;go_wp2_with fail
    go_loopw [41] (fun i' wr=>∃i:Nat,i<=m/\i'=.int .i64 i/\t.findDiff (ys.map (·.2))=t.findDiff ((ys.map (·.2)).drop i)/\Below w.heap.size w wr) (fun i' _=>m-(intOf i').toNat)
    case atStart=>exact⟨0,Nat.zero_le _,rfl,rfl,du⟩
    case round=>
     obtain⟨i,hi,rfl,N3,hb⟩:=hrel;have Hfd:=zH N3;clear N3;by_cases aU:i<m
     ·have Dg:=Dg (Nat.zero_lt_of_lt aU);obtain⟨ad2,v3,x,rfl,hx,c0,c1,c2',c3,c4,c5⟩:=(hr.below hb).at_ aU;obtain⟨B1,m1,d1,bH,l1,l2,l3⟩:=((hd _ (List.mem_of_getElem? hx)).keep (bz.below (S:=S2) hb)).form;obtain rfl:v3=_:=bH;have GS:(ys.map (·.2))[i]?=some x:=by rw[List.getElem?_map,hx];rfl
      have vh:=gF GS;rw[vh]at Hfd;have W9:=j5 (kG.out x (List.mem_of_getElem? GS));have aP:=zH (show m-(i+1)<m-i by omega);have aI:Below wr.heap.size wr (wr.alloc (.cells #[.int .i64 x.idx,.int .i64 x.term,.int .i64 x.op,.int .i64 x.sess,.int .i64 x.seq,.slice B1 m1 d1] 59)):=zb.alloc zl _;have dv:=ar.new wr 59 #[.int .i64 x.idx,.int .i64 x.term,.int .i64 x.op,.int .i64 x.sess,.int .i64 x.seq,.slice B1 m1 d1];have bS:=ab hb aI zl;have h3:=h.below bS;have aH:=jB x.idx h3 hn;obtain⟨u1,M8⟩:∃v,(t.termF x.idx).1=v:=⟨_,rfl⟩;obtain⟨u2,Jo⟩:∃v,(t.termF x.idx).2=v:=⟨_,rfl⟩;have hu:=zH (show t.termF x.idx=(u1,u2) by rw[<-M8,<-Jo]);rw[M8,Jo]at aH;have qd:=zH (show ys.drop i=(.slice B1 m1 d1,x)::ys.drop (i+1)from gF hx);clear M8 Jo GS hx vh;go_wp2_with fail;generalize wr.alloc (.cells #[.int .i64 x.idx,.int .i64 x.term,.int .i64 x.op,.int .i64 x.sess,.int .i64 x.seq,.slice B1 m1 d1] 59)=w3 at *;generalize wr.heap.size=gx at *;refine aH.mono ?_;rintro e w4 ⟨rfl,cz⟩;have iN:=ab bS cz zl;have h4:=h3.below cz;have dv:=dv.kept cz;clear aH bS h3 cz;obtain⟨a0,a1,-⟩:=dv.cs [0,1];simp only[Zx]at a0 a1;by_cases jj:u2=0/\u1=x.term
      ·obtain⟨j1,j2⟩:=jj;subst j1;subst j2;have Hn:=zH (Hfd.out.trans (show _=t.findDiff ((ys.map (·.2)).drop (i+1)) by
        show(if t.termF x.idx=(x.term,0)then _ else _)=_;rw[if_pos hu.out]))
       go_wp2_with fail
       go_roundw
       case rel=>exact⟨i+1,aU,by go_num,Hn.out,iN⟩
       case measure=>simp[intOf];exact aP.out
      ·have Bp:t.findDiff (ys.map (·.2))=some (x,(ys.map (·.2)).drop (i+1)):=Hfd.out.trans (by
        show(if t.termF x.idx=(x.term,0)then _ else _)=_;rw[if_neg (by rw[hu.out];rintro h0;injection h0 with h1 h2;exact jj ⟨h2,h1⟩)])
       obtain⟨j,term',_,e1,e2,_,_,_⟩:=uB.out x _ Bp;have e3:=eU e2;rw[<-hl.out]at e3;obtain⟨e4,e5,e6⟩:=e3;clear e6 e2;obtain⟨k,hk⟩:∃k:Nat,x.idx-t.index-1=k:=⟨(x.idx-t.index-1).toNat,by omega⟩;have Db:k<=n:=by omega
       have zO:=vk.out x _ Bp;rw[hk,show(k:Int).toNat=k from rfl]at zO;have he:=zH zO;have dG:=dG.out;rw[zO]at dG;have dG:=zH dG;have hM:=zH (show(ys.drop i).map (·.2)=x::(ys.map (·.2)).drop (i+1) by rw[qd.out,List.map_cons,List.map_drop]);have uM:=zH (show(ys.drop i).length=m-i by rw[List.length_drop,xf.out]);clear Bp e1 e4 e5 zO;obtain⟨AB,oX⟩:=bA h4.o;obtain⟨q0,q1,q2⟩:=h4.cells;have f2:=h4.b.free 2;have VL:k<=c:=by omega
       have Te:¬c2=i:=by omega
       unfold maxLen at oX;have On:(u2≠0/\(u2==0)=false)\/(u2=0/\(u1==x.term)=false):=by
        by_cases j1:u2=0
        ·exact .inr ⟨j1,beq_eq_false_iff_ne.2 fun e=>jj ⟨j1,e⟩⟩
        ·exact .inl ⟨j1,beq_eq_false_iff_ne.2 j1⟩
       clear jj;rcases On with⟨jj,jjj⟩|⟨jj,jjj⟩
       all_goals
        go_wp2_with fail
        go_quiet (fail)
        go_wp2_with fail;obtain⟨w5,J9⟩:=zN ((w4.drewN nq).setCell ⟨g,2,none⟩ (.slice A k k));rw[J9];have JX:Fr (fun j=>j=g) w4 w5:=by rw[<-J9];exact(Fr.of_below (X:=fun j=>j=g) (aA zb nq)).trans (Fr.set g 2 _) fun _ h=>.inl h
        have yV:ar w5 g 152 #[.int .i64 t.index,.int .i64 t.term,.slice A k k]:=by rw[<-J9];exact(h4.b.drewN nq).set_ 2 _
        have P0:bt TD w4 w5:=by rw[<-J9];exact bt.set (w:=w4.drewN nq) (h4.b.drewN nq) (by decide)
        have Js:Fr (fun j=>j=g) w w5:=(Fr.of_below iN).trans JX fun _ h=>.inl h
        have TE:ar w5 gx 59 #[.int .i64 x.idx,.int .i64 x.term,.int .i64 x.op,.int .i64 x.sess,.int .i64 x.seq,.slice B1 m1 d1]:=(JX.block gx dv.lt (jf h4.b dv (by decide))).trans dv;have oH:fu w5 (some (ad2.add (i*6))) (m-i) (ys.drop i):=by
         have h1:fu w5 (some ad2) m ys:=cn.stay (S:=fun j=>j≠g) hr (fun _ ad e=>Dg _ ⟨ad,e,rfl⟩) (Js.stay fun j hj _=>hj);have:=cn.cut (size:=6) h1 (k:=i) hi Ao;rw[if_neg Te,<-mH fj]at this;exact this
        have Hu:bq S2 w5 (ys.drop i):=(hd.keep (Js.stay fun j hj _=>ls j hj)).sub fun y hy=>List.mem_of_mem_drop hy
        have TC:=zH (show ∀y∈ys.drop i,pq y.2.facts from fun y hy=>lP (kG.out _ (List.mem_map_of_mem (List.mem_of_mem_drop hy))));have xo:∀j,S j->sZ TD w5 j:=fun j hj=>(h4.s j hj).move P0
        have jp:=yV.lt;have KU:∀j,az A j->j<w4.heap.size:=fun j hj=>(aB h4.o A c rfl j hj).1
        have Rm:∀j,az A j->j≠g:=fun j hj=>by
         obtain⟨_,_,cs,h⟩:=aB h4.o A c rfl j hj;exact jf h4.b h (by decide)
        have Hi:mq S w5 w5 g t A k 0 k (zs.take k) [] ((ys.drop i).map (·.2)):=by
         refine⟨yV,.inl ⟨rfl,?_,?_⟩,fun h=>absurd h (by omega),?_,rfl,Fr.refl _ _,bt.refl _ _,fun j hj=>Nat.lt_of_lt_of_le (KU j hj) JX.size⟩
         ·rw[List.append_nil];have h1:fu w5 A n zs:=cn.stay (S:=fun j=>j≠g) h4.rd (fun _ ad e=>Rm _ ⟨ad,e,rfl⟩) (JX.stay fun j hj _=>hj);have:=cn.take (size:=6) h1 Db;rw[<-ph fj]at this;exact this
         ·rw[List.append_nil];exact fun z hz=>h4.d.one z (List.mem_of_mem_take hz)
         ·rw[List.append_nil];exact((h4.d.keep fun j hj hl=>P0 j (h4.s j hj)).mono fun j _ hj=>.inl hj).sub fun y hy=>List.mem_of_mem_take hy
        clear KU Rm;obtain⟨p,hp⟩:=zN (m-i);rw[hp]at oH uM;have Bh:0<p:=by omega
        have yb:p<=100000:=by omega
        have xA:=zH hp;clear J9;simp only[hp];clear hp
        go_loopw [83] (fun i' wr=>∃(q:Nat) (A':Option Addr) (c':Nat) (zq:List (Value×En)),q<=p/\i'=.int .i64 q/\mq S w5 wr g t A' k q c' (zs.take k) zq ((ys.drop i).map (·.2))) (fun i' _=>p-(intOf i').toNat)
        case atStart=>exact⟨0,A,k,[],Nat.zero_le _,rfl,Hi⟩
        case round=>
         clear Hi;obtain⟨q,A',c',zq,hq,rfl,hL⟩:=hrel
         rename World=>wr
         by_cases nC:q<p
         ·have hF:=hL.2.2.2.2.2.1;obtain⟨bd,v4,y,tH,hy,o0,o1,o2,o3,o4,o5⟩:=fu.at_ (cn.stay (S:=fun j=>j≠g) oH (fun h0 ad e=>by
           have e':ad=ad2.add (i*6):=(Option.some.inj e).symm;rw[e',dJ];exact Dg _ ⟨ad2,rfl,rfl⟩) (hF.stay fun j hj _=>hj)) nC
          obtain rfl:ad2.add (i*6)=bd:=Option.some.inj tH;have fy:=(Hu _ (List.mem_of_getElem? hy)).keep (hF.stay fun j hj _=>ls j hj);have BM:=TC.out _ (List.mem_of_getElem? hy);obtain⟨B3,m3,d3,be,l4,l5,l6⟩:=fy.form;obtain rfl:v4=_:=be;have cf:=zH (g9 (show((ys.drop i).map (·.2))[q]?=some y by rw[List.getElem?_map,hy];rfl));have fM:=zH (show p-(q+1)<p-q by omega);have aI:Below wr.heap.size wr (wr.alloc (.cells #[.int .i64 y.idx,.int .i64 y.term,.int .i64 y.op,.int .i64 y.sess,.int .i64 y.seq,.slice B3 m3 d3] 59)):=zb.alloc zl _;have PJ:=ar.new wr 59 #[.int .i64 y.idx,.int .i64 y.term,.int .i64 y.op,.int .i64 y.sess,.int .i64 y.seq,.slice B3 m3 d3];have UI:=hL.2.2.2.2.2.2.2;have R6:=hL.below aI;have fy:=fy.keep (bz.below (S:=S2) aI);have Xt:w5.heap.size<=wr.heap.size:=hF.size;clear hy tH oH Hu hF hL;go_wp2_with fail;generalize wr.alloc (.cells #[.int .i64 y.idx,.int .i64 y.term,.int .i64 y.op,.int .i64 y.sess,.int .i64 y.seq,.slice B3 m3 d3] 59)=wA at *;have ZB:wr.heap.size<=wA.heap.size:=aI.size;generalize wr.heap.size=gy at *;obtain⟨r0,r1,r2,r3,r4,r5,-⟩:=PJ.cs [0,1,2,3,4,5];simp only[Zx]at r0 r1 r2 r3 r4 r5;have rg:=R6.1.cell 2;simp only[Zx]at rg;obtain⟨kg,k0,k1,k2,k3,k4,k5⟩:=KW [g,gy] rg r0 r1 r2 r3 r4 r5;have xB:g<wA.heap.size:=R6.1.lt;have Wa:gy<wA.heap.size:=PJ.lt;have cT:∀q∈[g,gy],q<wA.heap.size:=by simp;exact⟨xB,Wa⟩
          have aH:Calls prog 91 #[.agg #[.int .i64 y.idx,.int .i64 y.term,.int .i64 y.op,.int .i64 y.sess,.int .i64 y.seq,.slice B3 m3 d3]] wA.drew fun e w'=>∃A' c',e=.returned (.agg #[.int .i64 y.idx,.int .i64 y.term,.int .i64 y.op,.int .i64 y.sess,.int .i64 y.seq,.slice A' m3 c'])/\aG (bG TD wA.heap.size w') w' (.slice A' m3 c') y.facts/\Below wA.heap.size wA w':=
           (oc S2 y B3 m3 d3 wA.drew fy BM).mono fun e w' h=>by
            obtain⟨A',c',h1,h2,h3⟩:=h;exact⟨A',c',h1,h2,(aA (Below.refl wA.heap.size wA) 1).trans h3⟩
          clear fy rg r0 r1 r2 r3 r4 r5;refine mI [g,gy] wA [([0,1,2,3,4,5],6),([],7),([],8)] ([9,10],11) ?_;refine ap fun K1 ct=>?_
          simp only[af,Zx];repeat go_big_quiet_step(fail)
          apply wpQuiet_nil;go_wp2_with fail;refine aH.mono ?_;rintro e w6 ⟨A6,d6,rfl,Wx,gz⟩;clear aH;go_wp2_with fail;refine⟨aq cT gz,ct _ _ ?_⟩;have dH:Below w6.heap.size w6 (w6.alloc (.cells #[.int .i64 y.idx,.int .i64 y.term,.int .i64 y.op,.int .i64 y.sess,.int .i64 y.seq,.slice A6 m3 d6] 59)):=zb.alloc zl _;have Lb:ar (w6.alloc (.cells #[.int .i64 y.idx,.int .i64 y.term,.int .i64 y.op,.int .i64 y.sess,.int .i64 y.seq,.slice A6 m3 d6] 59)) w6.heap.size 59 (bY (.slice A6 m3 d6,y)).toArray:=ar.new w6 59 (bY (.slice A6 m3 d6,y)).toArray;have Cs:=ab gz dH zl;have Qe:=R6.below Cs;have Kb:=Wx.move (bt.below dH);have Ji:k+q<=100000000:=by omega
          have Vp:w5.heap.size<=(w6.alloc (.cells #[.int .i64 y.idx,.int .i64 y.term,.int .i64 y.op,.int .i64 y.sess,.int .i64 y.seq,.slice A6 m3 d6] 59)).heap.size:=by have:=Cs.size;omega
          refine ap fun K2 ge=>?_
          simp only[af,Zx];repeat go_big_quiet_step(fail)
          apply wpQuiet_nil;go_wp2_with fail;refine⟨aq cT Cs,ge _ _ ?_⟩;refine ap fun K3 jx=>?_
          simp only[af,Zx];repeat go_big_quiet_step(fail)
          apply wpQuiet_nil;go_wp2_with (at_builtin;refine pP rfl (.tmp 91) (.tmp 94) rfl w5.heap.size rfl Qe.2.1 w6.heap.size (z:=(.slice A6 m3 d6,y)) rfl Lb rfl Ji Vp ?_;intro A9 c9 w9 oC my hs9 Le);obtain⟨w7,Lu⟩:=zN (w6.alloc (.cells #[.int .i64 y.idx,.int .i64 y.term,.int .i64 y.op,.int .i64 y.sess,.int .i64 y.seq,.slice A6 m3 d6] 59));rw[Lu]at dH Lb Cs Qe Kb my hs9 Le Vp;have Fg:w9.heap[g]?=wA.heap[g]?:=(my.block g jp).trans (Cs.block g xB);have Yr:w9.heap[gy]?=wA.heap[gy]?:=(Le.block gy (by have:=Cs.size;omega) fun hj=>by have:=UI _ hj;omega).trans (Cs.block gy Wa);refine⟨bO Fg Yr,jx _ _ ?_⟩;have Rs:=Qe.1.below my jp;have fg:=Rs.free 2;have cg:=Rs.cell 2;simp only[Zx]at cg;have aF:=zH (Qe.next jp xo my hs9 oC (Kb.mono (bG.wide (L:=TD) (fun _ h=>h) (by omega))) cf.out);clear Qe oC my hs9 Le Kb Wx R6;refine aC ?_;simp only[af,Zx];repeat go_big_quiet_step(fail)
          apply wpQuiet_nil;go_wp2_with fail;exact⟨⟨q+1,A9,c9,_,nC,by go_num,aF.out⟩,by simp[intOf];exact fM.out⟩
         ·obtain rfl:q=p:=by omega
          obtain⟨L1,_,L3,L4,L5,L6,L7,_⟩:=hL;have Po:ar wr gx 59 #[.int .i64 x.idx,.int .i64 x.term,.int .i64 x.op,.int .i64 x.sess,.int .i64 x.seq,.slice B1 m1 d1]:=(L6.block gx TE.lt (jf yV TE (by decide))).trans TE;have z0:=Po.cell 0;simp only[List.getElem?_toArray,List.getElem?_cons_zero]at z0;have aD:=L3 Bh;have oO:(zs.take k++zq).map (·.2)=t.L.take k++x::(ys.map (·.2)).drop (i+1):=by
           rw[List.map_append,List.map_take,h4.l,L5,show((ys.drop i).map (·.2)).take q=(ys.drop i).map (·.2)from List.take_of_length_le (by rw[List.length_map,uM.out];exact Nat.le_refl _),hM.out]
          have gu:w.heap.size<=w5.heap.size:=Js.size;have hP:=zH (show iV B S w g A {t with L:=t.L.take k++x::(ys.map (·.2)).drop (i+1)} wr.heap.size wr from
           ⟨A',k+q,c',_,fun j=>S j\/bG TD w5.heap.size wr j,⟨L1,ed aD (by omega),L4,oO,dG.out,h4.g,fun j hj=>hj.elim (fun hj=>(xo j hj).move L7) fun hj=>hj.2⟩,
            fun j hj=>hj.imp_right fun hj=>⟨by have:=hj.1;omega,by obtain⟨_,cs,fz,ty,h1,_⟩:=hj;exact aV h1⟩,
            fun j hj=>.inr (by have:=(aB aD A' c' rfl j hj).2.1;omega),Nat.le_refl _,(Js.trans L6 fun _ h=>.inl h).mono fun _ h=>.inl h⟩)
          clear aD L1 L3 L4 L5 L6 L7 oO Po;go_wp2_with fail
          go_ret2
          exact⟨by rw[he.out];rfl,by rw[he.out];exact hP.out⟩
     ·obtain rfl:i=m:=by omega
      have he:=zH (uO.out (Hfd.out.trans (by rw[List.drop_eq_nil_of_le (by rw[List.length_map,xf.out];exact Nat.le_refl _)];rfl)));go_wp2_with fail
      go_ret2
      exact⟨by rw[he.out];rfl,by rw[he.out];exact iV.same h hb⟩
  ·have he:=zH (dt.out (by rw[hv];rintro⟨h0,_⟩;injection h0 with h0;exact i2 h0));have i3:(v1==tm)=false:=beq_eq_false_iff_ne.2 i2;have i4:(v1 !=tm)=true:=by rw[bne,i3];rfl
   subst i1;have hv:=zH hv;clear dt;go_enter func43,ntmps43;go_wp2_with fail;refine bh.mono ?_;rintro e w1 ⟨rfl,bs⟩;go_wp2_with fail
   go_ret2
   exact⟨by rw[he.out];rfl,by rw[he.out];exact iV.same h bs⟩
 ·have he:=zH (dt.out (by rw[hv];rintro⟨h0,_⟩;injection h0 with _ h0;exact i1 h0));have i3:(v2==0)=false:=beq_eq_false_iff_ne.2 i1;have i4:(v2 !=0)=true:=by rw[bne,i3];rfl
  have hv:=zH hv;clear dt;go_enter func43,ntmps43;go_wp2_with fail;refine bh.mono ?_;rintro e w1 ⟨rfl,bs⟩;go_wp2_with fail
  go_ret2
  exact⟨by rw[he.out];rfl,by rw[he.out];exact iV.same h bs⟩
end
structure cG(S:Nat->Prop)(w:World)(g:Nat)(t:bB)(A:Option Addr)(n c:Nat)(zs:List (Value×En)):Prop where
 b:ar w g 138 #[.int .i64 t.index,.int .i64 t.term,.slice A n c]
 o:w.ownsRow 0 59 6 (.slice A n c) n (zs.flatMap bY)
 d:bq S w zs
 l:zs.map (·.2)=t.L
 i:t.Inv
section
variable {S:Nat->Prop}{w w':World}{g n c:Nat}{t:bB}{A:Option Addr}{zs:List (Value×En)}
theorem cG.r(h:cG S w g t A n c zs):fu w A n zs:=cn.of_own h.o
theorem cG.len(h:cG S w g t A n c zs):n=t.L.length/\zs.length=n:=by
 have h2:=congrArg List.length h.l;rw[List.length_map]at h2;have:=h.r.len;omega
theorem cG.keep(h:cG S w g t A n c zs)(hk:∀j,(j=g\/az A j\/S j)->j<w.heap.size->w'.heap[j]?=w.heap[j]?):cG S w' g t A n c zs where
 b:=(hk g (.inl rfl) h.b.lt).trans h.b
 o:=cH h.o fun j hj hl=>hk j (.inr (.inl hj)) hl
 d:=h.d.keep fun j hj hl=>hk j (.inr (.inr hj)) hl
 l:=h.l
 i:=h.i
theorem cG.below(h:cG S w g t A n c zs)(hb:Below w.heap.size w w'):cG S w' g t A n c zs:=h.keep fun _ _ hl=>hb.block _ hl
theorem cG.mono{S':Nat->Prop}(h:cG S w g t A n c zs)(hS:∀j,j<w.heap.size->S j->S' j):cG S' w g t A n c zs:=⟨h.b,h.o,h.d.mono hS,h.l,h.i⟩
theorem cG.at_(h:cG S w g t A n c zs){k:Nat}(hk:k<n) :
  ∃ad B m d x,A=some ad/\zs[k]?=some (.slice B m d,x)/\t.L[k]?=some x/\w.cell? (ad.add (k*6))=some (.int .i64 x.idx)/\w.cell? ⟨(ad.add (k*6)).block,(ad.add (k*6)).off+1,none⟩=some (.int .i64 x.term)/\
   w.cell? ⟨(ad.add (k*6)).block,(ad.add (k*6)).off+2,none⟩=some (.int .i64 x.op)/\w.cell? ⟨(ad.add (k*6)).block,(ad.add (k*6)).off+3,none⟩=some (.int .i64 x.sess)/\
   w.cell? ⟨(ad.add (k*6)).block,(ad.add (k*6)).off+4,none⟩=some (.int .i64 x.seq)/\w.cell? ⟨(ad.add (k*6)).block,(ad.add (k*6)).off+5,none⟩=some (.slice B m d):=by
 obtain⟨ad,v,x,e,hz,c0,c1,c2,c3,c4,c5⟩:=h.r.at_ hk;obtain⟨B,m,d,hv,_⟩:=(h.d _ (List.mem_of_getElem? hz)).form;obtain rfl:v=_:=hv;refine⟨ad,B,m,d,x,e,hz,?_,c0,c1,c2,c3,c4,c5⟩;rw[<-h.l,List.getElem?_map,hz];rfl
theorem cG.cells(h:cG S w g t A n c zs):w.cell? ⟨g,0,none⟩=some (.int .i64 t.index)/\w.cell? ⟨g,1,none⟩=some (.int .i64 t.term)/\w.cell? ⟨g,2,none⟩=some (.slice A n c):=⟨h.b.cell 0,h.b.cell 1,h.b.cell 2⟩
end
theorem C8{i tm:Int}(hb:iR i tm=true)(w:World):Calls prog 45 #[.int .i64 i,.int .i64 tm] w fun e w'=>e=.returned (.pointer (some ⟨w.heap.size,0,none⟩))/\ar w' w.heap.size 138 #[.int .i64 i,.int .i64 tm,.slice none 0 0]/\Below w.heap.size w w':=by
 have hA:Below w.heap.size w (w.alloc (.cells #[.int .i64 i,.int .i64 tm,.slice none 0 0] 138)):=zb.alloc zl _;have hk:=ar.new w 138 #[.int .i64 i,.int .i64 tm,.slice none 0 0];by_cases h0:i=0/\tm=0
 ·obtain⟨rfl,rfl⟩:=h0;go_enter func45,ntmps45;go_wp2_with fail;go_ret;exact⟨rfl,hk,hA⟩
 ·have h1:eC i 1=true/\eC tm 1=true:=by
   unfold iR at hb;rw[Bool.or_eq_true,Bool.and_eq_true,Bool.and_eq_true,decide_eq_true_eq,decide_eq_true_eq]at hb;exact hb.resolve_left h0
  have h2:1<=i/\i<=1099511627776/\1<=tm/\tm<=1099511627776:=by
   have:=h1.1;have:=h1.2;simp only[eC,Bool.and_eq_true,decide_eq_true_eq]at *;omega
  obtain⟨a1,a2,a3,a4⟩:=h2;have a5:(i==0)=false:=beq_eq_false_iff_ne.2 (by omega);clear h0 hb h1;go_enter func45,ntmps45;go_wp2_with fail;go_ret;exact⟨rfl,hk,hA⟩
theorem tg(S:Nat->Prop)(x:En)(A:Option Addr)(n c:Nat)(w:World)(hf:aG S w (.slice A n c) x.facts)(hn:n<=maxLen) :
  Calls prog 93 #[ni x (.slice A n c)] w fun e w'=>e=.returned (.bool (dI x))/\Below w.heap.size w w':=by
 have aI:Below w.heap.size w (w.alloc (.cells #[.int .i64 x.idx,.int .i64 x.term,.int .i64 x.op,.int .i64 x.sess,.int .i64 x.seq,.slice A n c] 59)):=zb.alloc zl _;have aH:=qv S (.slice none 0 0) 0 x A n c (w.alloc (.cells #[.int .i64 x.idx,.int .i64 x.term,.int .i64 x.op,.int .i64 x.sess,.int .i64 x.seq,.slice A n c] 59)) (Bn.nil _) (by omega) (hf.keep (bz.below (S:=S) aI)) hn;unfold ni at *;obtain⟨k,hk⟩:=zN (kH x);have hP:=zH (uX hk);rw[hk]at aH;clear hk;go_enter func93,ntmps93;go_wp2_with fail;refine aH.mono ?_;rintro e w1 ⟨v1,rfl,bs⟩;have bs:=ab aI bs zl;go_wp2_with fail;go_ret;exact⟨by rw[hP.out];rfl,bs⟩
section
variable {S:Nat->Prop}{w w':World}{g n c:Nat}{t:bB}{A:Option Addr}{zs:List (Value×En)}
theorem yp(h:cG S w g t A n c zs)(hn:n<=1000000):Calls prog 47 #[.pointer (some ⟨g,0,none⟩)] w fun e w'=>e=.returned (.tuple #[.int .i64 t.lastF.1,.int .i64 t.lastF.2])/\Below w.heap.size w w':=by
 obtain⟨h0,h1,h2⟩:=h.cells;obtain⟨hl,_⟩:=h.len;rcases Nat.eq_zero_or_pos n with rD|rD
 ·have e:=zH (t.lastF_nil (List.eq_nil_of_length_eq_zero (by omega)));subst rD;clear hl;go_enter func47,ntmps47;go_wp2_with fail
  go_quiet (fail)
  go_wp2_with fail
  go_ret2
  exact⟨by rw[e.out];rfl,aA zb _⟩
 ·obtain⟨k,rfl⟩:∃k,n=k+1:=⟨n-1,by omega⟩;obtain⟨ad,B1,m1,d1,x,rfl,hz,hx,c0,c1,c2,c3,c4,c5⟩:=h.at_ (k:=k) (by omega);have e:=zH (show t.lastF=(x.idx,x.term) by
   obtain⟨y,hy,e⟩:=t.lastF_pos (by omega);rw[<-hl,show k+1-1=k by omega,hx]at hy;obtain rfl:=Option.some.inj hy;exact e)
  have la:=aw c0;obtain⟨kg,k0,k1,k2,k3,k4,k5⟩:=KW [g,(ad.add (k*6)).block] h2 c0 c1 c2 c3 c4 c5;have cQ:=h.b.lt;have cT:∀q∈[g,(ad.add (k*6)).block],q<w.heap.size:=by simp;exact⟨cQ,la⟩
  have tH:Below w.heap.size w (w.alloc (.cells #[.int .i64 0,.int .i64 0,.int .i64 0,.int .i64 0,.int .i64 0,.slice none 0 0] 59)).drew:=aA (zb.alloc zl _) 1;have Ey:Below w.heap.size w (w.alloc (.cells #[.int .i64 x.idx,.int .i64 x.term,.int .i64 x.op,.int .i64 x.sess,.int .i64 x.seq,.slice B1 m1 d1] 59)):=zb.alloc zl _;clear hl hz hx c0 c1 c2 c3 c4 c5;have e1:IntKind.i64.wrap (((k+1:Nat):Int)-1)=(k:Int):=by rw[show((k+1:Nat):Int)-1=(k:Int) by omega];exact IntWalk.i64_in _ (by omega)
  go_enter func47,ntmps47;go_wp2_with fail;refine mI [g,(ad.add (k*6)).block] w [([0,1,2,3,4,5,6,7,8,9,10,11],12)] ([],13) ?_;refine ap fun K1 ct=>?_
  simp only[af,Zx];repeat go_big_quiet_step(fail)
  apply wpQuiet_nil;go_wp2_with fail;refine⟨aq cT tH,ct _ _ ?_⟩;refine aC ?_;simp only[af,Zx];repeat go_big_quiet_step(fail)
  apply wpQuiet_nil;go_wp2_with fail
  go_quiet (fail)
  go_wp2_with fail
  go_ret2
  exact⟨by rw[e.out];rfl,aA (aA Ey 1) _⟩
theorem mw(i:Int)(h:cG S w g t A n c zs)(hn:n<=1000000):Calls prog 92 #[.pointer (some ⟨g,0,none⟩),.int .i64 i] w fun e w'=>e=.returned (.tuple #[.int .i64 (t.termF i).1,.int .i64 (t.termF i).2])/\w=w':=by
 obtain⟨h0,h1,h2⟩:=h.cells;have hl:=zH h.len.1;by_cases i1:i<t.index
 ·have he:=zH (show t.termF i=(0,34)from if_pos i1);go_enter func92,ntmps92;go_wp2_with fail
  go_ret2
  exact⟨by rw[he.out];rfl,rfl⟩
 ·by_cases i3:i=t.index
  ·have he:=zH (show t.termF i=(t.term,0) by
    unfold bB.termF;rw[if_neg i1,if_pos i3])
   subst i3;go_enter func92,ntmps92;go_wp2_with fail
   go_ret2
   exact⟨by rw[he.out];rfl,rfl⟩
  ·have i4:(i==t.index)=false:=beq_eq_false_iff_ne.2 i3;go_enter func92,ntmps92;go_wp2_with fail
   go_loop [6] (fun i'=>∃k:Nat,k<=n/\i'=.int .i64 k/\¬(i<=t.index+k)) (fun i'=>n-(intOf i').toNat)
   case atStart=>exact⟨0,Nat.zero_le _,rfl,by omega⟩
   case round=>
    obtain⟨k,hk,rfl,dt⟩:=hrel;by_cases aU:k<n
    ·obtain⟨ad,B1,m1,d1,x,rfl,hz,hx,c0,c1,_⟩:=h.at_ aU;have CB:=h.i.idx _ _ hx;have aP:=zH (show n-(k+1)<n-k by omega);by_cases hm:x.idx=i
     ·have he:=zH (show t.termF i=(x.term,0) by
       unfold bB.termF;rw[if_neg (show ¬i<t.index by omega),if_neg i3,show(i-t.index-1).toNat=k by omega,hx])
      have ui:(x.idx==i)=true:=beq_iff_eq.2 hm;clear hz hx CB hm;generalize x.idx=xi at *;generalize x.term=xt at *;go_wp2_with fail
      go_ret2
      exact⟨by rw[he.out];rfl,rfl⟩
     ·have ui:(x.idx==i)=false:=beq_eq_false_iff_ne.2 hm;have UY:=zH (show ¬(i<=t.index+((k+1:Nat):Int)) by omega);clear hz hx CB hm dt;generalize x.idx=xi at *;generalize x.term=xt at *;go_wp2_with fail;exact⟨⟨k+1,aU,by go_num,UY.out⟩,by simp[intOf];exact aP.out⟩
    ·obtain rfl:k=n:=by omega
     have he:=zH (show t.termF i=(0,33) by
      unfold bB.termF;rw[if_neg (show ¬i<t.index by omega),if_neg i3,List.getElem?_eq_none (by rw[<-hl.out];omega)])
     clear dt;go_wp2_with fail
     go_ret2
     exact⟨by rw[he.out];rfl,rfl⟩
theorem BZ{i term:Int}{k:Nat}{x:En}(hx:t.L[k]?=some x):bB.hintF {t with L:=t.L.take (k+1)} i term=if kR i term x=true then x.idx else bB.hintF {t with L:=t.L.take k} i term:=by
 unfold bB.hintF;dsimp only;rw[g9 hx,List.filter_append];cases hh:kR i term x with
 | true=>
  rw[List.filter_cons,if_pos hh,List.getLast?_append];rfl
 | false=>
  rw[List.filter_cons,hh];simp
theorem DJ(i term:Int)(h:cG S w g t A n c zs)(hn:n<=1000000):Calls prog 142 #[.pointer (some ⟨g,0,none⟩),.int .i64 i,.int .i64 term] w fun e w'=>e=.returned (.int .i64 (t.hintF i term))/\w=w':=by
 obtain⟨h0,h1,h2⟩:=h.cells;have hl:=zH h.len.1;go_enter func142,ntmps142;go_wp2_with fail
 go_loop [7,8] (fun b i'=>∃(k:Nat) (v:Int),k<=n/\i'=.int .i64 k/\b=.int .i64 v/\bB.hintF {t with L:=t.L.take k} i term=v) (fun _ i'=>n-(intOf i').toNat)
 case atStart=>exact⟨0,t.index,Nat.zero_le _,rfl,rfl,rfl⟩
 case round=>
  obtain⟨k,v,hk,rfl,rfl,hv⟩:=hrel;by_cases aU:k<n
  ·obtain⟨ad,B1,m1,d1,x,rfl,hz,hx,c0,c1,_⟩:=h.at_ aU;have hs:=BZ (t:=t) (i:=i) (term:=term) hx;rw[hv]at hs;have aP:=zH (show n-(k+1)<n-k by omega);by_cases m1':x.idx<i
   ·by_cases m2':x.term<=term
    ·have hh:kR i term x=true:=by unfold kR;rw[decide_eq_true m1',decide_eq_true m2'];rfl
     rw[if_pos hh]at hs;have hs:=zH hs;clear hz hx hv hh;go_wp2_with fail;exact⟨⟨k+1,x.idx,aU,by go_num,rfl,hs.out⟩,by simp[intOf];exact aP.out⟩
    ·have hh:kR i term x=false:=by unfold kR;rw[decide_eq_true m1',decide_eq_false m2'];rfl
     rw[hh]at hs;have hs:=zH hs;clear hz hx hv hh;go_wp2_with fail;exact⟨⟨k+1,v,aU,by go_num,rfl,hs.out⟩,by simp[intOf];exact aP.out⟩
   ·have hh:kR i term x=false:=by unfold kR;rw[decide_eq_false m1'];rfl
    rw[hh]at hs;have hs:=zH hs;clear hz hx hv hh;go_wp2_with fail;exact⟨⟨k+1,v,aU,by go_num,rfl,hs.out⟩,by simp[intOf];exact aP.out⟩
  ·obtain rfl:k=n:=by omega
   have he:=zH (show t.hintF i term=v by rw[<-hv,List.take_of_length_le (by rw[<-hl.out];exact Nat.le_refl _)]);clear hv;go_wp2_with fail;go_ret;exact⟨by rw[he.out];rfl,rfl⟩
end
def sl(zs:List (Value×En))(on:Bool)(k nn j:Nat):List (Value×En):=if on then((zs.take j).drop k).take nn else[]
theorem FM{zs:List (Value×En)}{k nn j:Nat}{z:Value×En}(hz:zs[j]?=some z)(hk:k<=j)(hn:(sl zs true k nn j).length<nn):sl zs true k nn (j+1)=sl zs true k nn j++[z]:=by
 have hj:=(List.getElem?_eq_some_iff.1 hz).1;unfold sl at *;simp only[if_true]at *;have hl:((zs.take j).drop k).length=j-k:=by rw[List.length_drop,List.length_take,Nat.min_eq_left (by omega)]
 have dM:(((zs.take j).drop k).take nn).length=min nn (j-k):=by rw[List.length_take,hl]
 rw[dM]at hn;rw[g9 hz,List.drop_append_of_le_length (by rw[List.length_take,Nat.min_eq_left (by omega)];exact hk),List.take_append,hl];rw[List.take_of_length_le (l:=[z]) (by simp;omega)]
theorem CA{zs:List (Value×En)}{k nn j:Nat}(hn:¬(sl zs true k nn j).length<nn):sl zs true k nn (j+1)=sl zs true k nn j:=by
 unfold sl at *;simp only[if_true]at *;rcases Nat.lt_or_ge j zs.length with hj|hj
 ·have hl:((zs.take j).drop k).length=j-k:=by rw[List.length_drop,List.length_take,Nat.min_eq_left (by omega)]
  have dM:(((zs.take j).drop k).take nn).length=min nn (j-k):=by rw[List.length_take,hl]
  rw[dM]at hn;rcases Nat.lt_or_ge j k with h|h
  ·have:nn=0:=by omega
   subst this;simp
  ·rw[g9 (List.getElem?_eq_getElem hj),List.drop_append_of_le_length (by rw[List.length_take,Nat.min_eq_left (by omega)];exact h),List.take_append,hl,show nn-(j-k)=0 by omega];simp
 ·have e1:zs.take (j+1)=zs:=List.take_of_length_le (by omega);have e2:zs.take j=zs:=List.take_of_length_le (by omega);rw[e1,e2]
theorem yk{zs:List (Value×En)}{k nn j:Nat}(h:j<=k):sl zs true k nn j=[]:=by
 unfold sl;rw[if_pos rfl,List.drop_eq_nil_of_le (by rw[List.length_take];omega),List.take_nil]
theorem MU{zs:List (Value×En)}{on:Bool}{k nn j:Nat}:∀z∈sl zs on k nn j,z∈zs:=fun z hz=>by
 unfold sl at hz;split at hz
 ·exact List.mem_of_mem_take (List.mem_of_mem_drop (List.mem_of_mem_take hz))
 ·cases hz
section
variable {S:Nat->Prop}{w w':World}{g n c:Nat}{t:bB}{A:Option Addr}{zs:List (Value×En)}
theorem LV{on:Bool}{k nn:Nat}{i m:Int}(hl:zs.map (·.2)=t.L)(ho:on=decide (t.index<i))(hk:on=true->(i-t.index-1)=k)(hn:m.toNat=nn):(sl zs on k nn zs.length).map (·.2)=t.sliceF i m:=by
 unfold sl bB.sliceF;by_cases h:t.index<i
 ·rw[decide_eq_true h]at ho;rw[if_pos ho,List.take_of_length_le zl,List.map_take,List.map_drop,hl];by_cases h1:m<1
  ·rw[if_pos (.inr h1),show nn=0 by omega];rfl
  ·rw[if_neg (by omega),hk ho,hn];rfl
 ·rw[decide_eq_false h]at ho;subst ho;rw[if_pos (show i<=t.index\/m<1 from .inl (by omega))];rfl
theorem Cn(i m:Int)(h:cG S w g t A n c zs)(hn:n<=1000000):Calls prog 133 #[.pointer (some ⟨g,0,none⟩),.int .i64 i,.int .i64 m] w fun e w'=>∃(A':Option Addr) (n' c':Nat) (zs':List (Value×En)),e=.returned (.slice A' n' c')/\w'.ownsRow w.heap.size 59 6 (.slice A' n' c') n' (zs'.flatMap bY)/\(∀z∈zs',z∈zs)/\zs'.map (·.2)=t.sliceF i m/\Below w.heap.size w w':=by
 have xb:=zH h.len.2;obtain⟨on,Se⟩:=zN (decide (t.index<i));obtain⟨k,hk⟩:∃k:Nat,(i-t.index-1).toNat=k:=⟨_,rfl⟩;obtain⟨nn,fp⟩:∃nn:Nat,m.toNat=nn:=⟨_,rfl⟩;have oO:=zH (LV (on:=on) (k:=k) (nn:=nn) (i:=i) (m:=m) h.l Se.symm (fun h=>by rw[h,decide_eq_true_eq]at Se;omega) fp);have Z0:∀j:Nat,(on&&decide (k<j))=(on&&decide (k<j)):=fun _=>rfl
 go_enter func133,ntmps133;go_wp2_with fail
 go_loopw [7,8,9] (fun o th i' wr=>∃(j:Nat) (A':Option Addr) (q c':Nat) (b:Bool),j<=n/\i'=.int .i64 j/\o=.slice A' q c'/\th=.bool b/\b=(on&&decide (k<j))/\wr.ownsRow w.heap.size 59 6 (.slice A' q c') q ((sl zs on k nn j).flatMap bY)/\Below w.heap.size w wr) (fun _ _ i' _=>n-(intOf i').toNat)
 case atStart=>exact⟨0,none,0,0,false,Nat.zero_le _,rfl,rfl,rfl,by simp,by
   have e:sl zs on k nn 0=[]:=by unfold sl;cases on <;> simp
   rw[e];exact b9 _ _,Below.refl _ _⟩
 case round=>
  obtain⟨j,A',q,c',b,hj,rfl,rfl,rfl,hb,aD,gQ⟩:=hrel;have h':=h.below gQ;obtain⟨h0,h1,h2⟩:=h'.cells;by_cases aU:j<n
  ·obtain⟨ad,B1,m1,d1,x,rfl,hz,hx,c0,c1,c2,c3,c4,c5⟩:=h'.at_ aU;have CB:=h.i.idx _ _ hx;have aP:=zH (show n-(j+1)<n-j by omega);have pl:(sl zs on k nn j).length=q:=by
    have:=aD.1;rw[fv fj]at this;omega
   have aI:Below wr.heap.size wr (wr.alloc (.cells #[.int .i64 x.idx,.int .i64 x.term,.int .i64 x.op,.int .i64 x.sess,.int .i64 x.seq,.slice B1 m1 d1] 59)):=zb.alloc zl _;have cv:=bf aD aI;have mQ:=ab gQ aI zl;have dv:=ar.new wr 59 (bY (.slice B1 m1 d1,x)).toArray;have nK:q+1<=1000000000:=by
    have:(sl zs on k nn j).length<=n:=by
     unfold sl;split
     ·rw[List.length_take,List.length_drop,List.length_take];omega
     ·exact Nat.zero_le _
    omega
   have cj:(b=true/\on=true/\k<j)\/(b=false/\on=true/\k=j/\(x.idx==i)=true)\/(b=false/\(on&&decide (k<j+1))=false/\(x.idx==i)=false/\sl zs on k nn (j+1)=sl zs on k nn j):=by
    cases on with
    | false=>
     rw[decide_eq_false_iff_not]at Se;exact .inr (.inr ⟨by simpa using hb,rfl,beq_eq_false_iff_ne.2 (by omega),rfl⟩)
    | true=>
     rw[decide_eq_true_eq]at Se;rcases Nat.lt_trichotomy k j with h3|h3|h3
     ·exact .inl ⟨by rw[hb,decide_eq_true h3];rfl,rfl,h3⟩
     ·exact .inr (.inl ⟨by rw[hb,decide_eq_false (by omega)];rfl,rfl,h3,beq_iff_eq.2 (by omega)⟩)
     ·refine .inr (.inr ⟨by rw[hb,decide_eq_false (by omega)];rfl,by rw[decide_eq_false (by omega)];rfl,beq_eq_false_iff_ne.2 (by omega),?_⟩);rw[yk (by omega),yk (by omega)]
   rcases cj with⟨bs,h3,h4⟩|⟨bs,h3,h4,M5⟩|⟨bs,h3,M5,h4⟩
   ·subst h3;rw[bs];have fi:=zH (show true=(true&&decide (k<j+1)) by rw[decide_eq_true (by omega)];rfl);clear hb bs;by_cases Ws:(q:Int)<m
    ·have dL:=zH (FM (nn:=nn) hz (show k<=j by omega) (by rw[pl];omega));clear hz hx CB pl aD gQ;go_wp2_with (at_builtin;refine aW rfl (.tmp 39) (.tmp 47) rfl w.heap.size rfl cv rfl (fu.one dv) (fun y hy=>by rw[List.mem_singleton.1 hy];rfl) nK mQ.size ?_;intro A6 c6 w6 ff hfr6 gz hrow6);exact⟨⟨j+1,A6,q+1,c6,true,aU,by go_num,rfl,rfl,fi.out,by rw[dL.out];exact ff,mQ.trans gz⟩,by simp[intOf];exact aP.out⟩
    ·have dL:=zH (CA (nn:=nn) (j:=j) (zs:=zs) (k:=k) (by rw[pl];omega));clear hz hx CB pl cv mQ;go_wp2_with fail;exact⟨⟨j+1,A',q,c',true,aU,by go_num,rfl,rfl,fi.out,by rw[dL.out];exact aD,gQ⟩,by simp[intOf];exact aP.out⟩
   ·subst h3;rw[bs];have fi:=zH (show true=(true&&decide (k<j+1)) by rw[decide_eq_true (by omega)];rfl);clear hb bs;by_cases Ws:(q:Int)<m
    ·have dL:=zH (FM (nn:=nn) hz (show k<=j by omega) (by rw[pl];omega));clear hz hx CB pl aD gQ;go_wp2_with (at_builtin;refine aW rfl (.tmp 39) (.tmp 47) rfl w.heap.size rfl cv rfl (fu.one dv) (fun y hy=>by rw[List.mem_singleton.1 hy];rfl) nK mQ.size ?_;intro A6 c6 w6 ff hfr6 gz hrow6);exact⟨⟨j+1,A6,q+1,c6,true,aU,by go_num,rfl,rfl,fi.out,by rw[dL.out];exact ff,mQ.trans gz⟩,by simp[intOf];exact aP.out⟩
    ·have dL:=zH (CA (nn:=nn) (j:=j) (zs:=zs) (k:=k) (by rw[pl];omega));clear hz hx CB pl cv mQ;go_wp2_with fail;exact⟨⟨j+1,A',q,c',true,aU,by go_num,rfl,rfl,fi.out,by rw[dL.out];exact aD,gQ⟩,by simp[intOf];exact aP.out⟩
   ·rw[bs];have h4:=zH h4;have h3:=zH h3;clear hz hx CB pl cv mQ hb bs;go_wp2_with fail;exact⟨⟨j+1,A',q,c',false,aU,by go_num,rfl,rfl,h3.out.symm,by rw[h4.out];exact aD,gQ⟩,by simp[intOf];exact aP.out⟩
  ·obtain rfl:j=n:=by omega
   clear hb;go_wp2_with fail;go_ret;exact⟨A',q,c',_,rfl,aD,MU,by have:=oO.out;rw[xb.out]at this;exact this,gQ⟩
end
def fQ(S:Nat->Prop)(w:World)(g:Nat)(A:Option Addr)(t':bB)(w':World):Prop:=
 ∃(A':Option Addr) (n' c':Nat) (zs':List (Value×En)),cG S w' g t' A' n' c' zs'/\(∀j,az A' j->az A j\/w.heap.size<=j)/\Fr (fun j=>j=g) w w'
section
variable {S:Nat->Prop}{w w':World}{g n c:Nat}{t:bB}{A:Option Addr}{zs:List (Value×En)}
theorem fQ.same(h:cG S w g t A n c zs)(hb:Below w.heap.size w w'):fQ S w g A t w':=⟨A,n,c,zs,h.below hb,fun _ h=>.inl h,Fr.of_below hb⟩
theorem cG.moveF{X:Nat->Prop}(h:cG S w g t A n c zs)(hF:Fr X w w')(hX:∀j,(j=g\/az A j\/S j)->j<w.heap.size->¬X j):cG S w' g t A n c zs:=h.keep fun j hj hl=>hF.block j hl (hX j hj hl)
theorem cG.rowlt(h:cG S w g t A n c zs):∀j,az A j->j<w.heap.size:=fun j hj=>(aB h.o A c rfl j hj).1
theorem cG.setRow{w7:World}{A7:Option Addr}{n7 c7:Nat}{zs7:List (Value×En)}{L7:List En}{base:Nat}(hk:ar w7 g 138 #[.int .i64 t.index,.int .i64 t.term,.slice A n c])
  (ho:w7.ownsRow base 59 6 (.slice A7 n7 c7) n7 (zs7.flatMap bY)) (hd:bq S w7 zs7) (hl:zs7.map (·.2)=L7) (hi:bB.Inv {t with L:=L7}) (hS:∀j,S j->j≠g) :
  cG S (w7.setCell ⟨g,2,none⟩ (.slice A7 n7 c7)) g {t with L:=L7} A7 n7 c7 zs7 where
 b:=by simpa using hk.set_ 2 (.slice A7 n7 c7)
 o:=cH (ed ho zz) fun j hj hl=>(Fr.set g 2 _).block j hl fun e=>by
  obtain⟨_,_,cs,h⟩:=aB ho A7 c7 rfl j hj;exact jf hk h (by decide) e
 d:=hd.keep fun j hj hl=>(Fr.set g 2 _).block j hl (hS j hj)
 l:=hl
 i:=hi
theorem EW{w7:World}{A7:Option Addr}{c7 base g3:Nat}{v:Value}{e:En}{cs0:Array Value}(h:cG S w g t A n c zs)(mR:Below w.heap.size w w7)(eM:w7.ownsRow base 59 6 (.slice A7 (n+1) c7) (n+1) ((zs++[(v,e)]).flatMap bY))
  (bl:w.heap.size+1<base) (hf:aG S w v e.facts) (OD:ar w7 (w.heap.size+1) 59 cs0) (fX:cs0.size=6) (BY:ar w7 g3 59 (bY (v,e)).toArray) (gK:w.heap.size<=g3) (hS:∀j,S j->j<w.heap.size/\j≠g) (dG:bB.Inv {t with L:=t.L++[e]}) :
  ar w7 g 138 #[.int .i64 t.index,.int .i64 t.term,.slice A n c]/\ar (w7.setCell ⟨g,2,none⟩ (.slice A7 (n+1) c7)) (w.heap.size+1) 59 cs0/\ar (w7.setCell ⟨g,2,none⟩ (.slice A7 (n+1) c7)) g3 59 (bY (v,e)).toArray/\
   ar (set6 (w7.setCell ⟨g,2,none⟩ (.slice A7 (n+1) c7)) (w.heap.size+1) (v,e)) (w.heap.size+1) 59 (bY (v,e)).toArray/\
   aG S (set6 (w7.setCell ⟨g,2,none⟩ (.slice A7 (n+1) c7)) (w.heap.size+1) (v,e)) v e.facts/\fQ S w g A {t with L:=t.L++[e]} (set6 (w7.setCell ⟨g,2,none⟩ (.slice A7 (n+1) c7)) (w.heap.size+1) (v,e)):=by
 have cQ:=h.b.lt;have QK:ar w7 g 138 #[.int .i64 t.index,.int .i64 t.term,.slice A n c]:=(mR.block g cQ).trans h.b;have Kb:aG S w7 v e.facts:=hf.keep (bz.below (S:=S) mR);have Tb:bq S w7 (zs++[(v,e)]):=(h.d.keep (bz.below (S:=S) mR)).append fun z hz=>by
  rw[List.mem_singleton.1 hz];exact Kb
 have h8:=cG.setRow (t:=t) QK eM Tb (L7:=t.L++[e]) (by rw[List.map_append,h.l];rfl) dG fun j hj=>(hS j hj).2
 have FV:Fr (fun j=>j=g) w (w7.setCell ⟨g,2,none⟩ (.slice A7 (n+1) c7)):=(Fr.of_below (X:=fun j=>j=g) mR).trans (Fr.set g 2 _) fun _ h=>.inl h
 have KU:∀j,az A7 j->az A j\/w.heap.size<=j:=fun j hj=>.inr (by have:=(aB eM A7 c7 rfl j hj).2.1;omega)
 have L0:=BY.far (p:=⟨g,2,none⟩) (show g3≠g by omega) (.slice A7 (n+1) c7);have fZ:=OD.far (p:=⟨g,2,none⟩) (show w.heap.size+1≠g by omega) (.slice A7 (n+1) c7);obtain⟨s1,s2,s3⟩:=eW (v,e) fZ fX;have s4:=Fr.set6 (w7.setCell ⟨g,2,none⟩ (.slice A7 (n+1) c7)) (w.heap.size+1) (v,e);have nz:=h8.moveF s4 fun j hj _=>by
  rcases hj with rfl|hj|hj
  ·omega
  ·have h0:=(aB eM A7 c7 rfl j hj).2.1;omega
  ·have:=(hS j hj).1;omega
 exact⟨QK,fZ,L0,s1,(Kb.keep ((Fr.set (w:=w7) g 2 (.slice A7 (n+1) c7)).stay fun j hj _=>(hS j hj).2)).keep (s4.stay fun j hj _=>by have:=(hS j hj).1;omega),
   A7,n+1,c7,_,nz,KU,FV.trans s4 fun j hj=>.inr (by omega)⟩
theorem FH(tm:Int)(x:En)(V:Option Addr)(m d:Nat)(h:cG S w g t A n c zs)(hn:n<=1000000)(hf:aG S w (.slice V m d) x.facts)(hm:m<=maxLen)(hS:∀j,S j->j<w.heap.size/\j≠g) :
  Calls prog 69 #[.pointer (some ⟨g,0,none⟩),.int .i64 tm,qL x (.slice V m d)] w fun e w'=>∃vy,e=.returned (.tuple #[ni (t.putF tm x).1.1 vy,.int .i64 (t.putF tm x).1.2])/\aG S w' vy (t.putF tm x).1.1.facts/\fQ S w g A (t.putF tm x).2 w':=by
 have CR:=h.i.last;have hb:=h.i.b;have hr:=h.i.room;rw[<-h.len.1]at CR hr;have iw:=h.i.lastB;have oY:=zH (fun h1=>uP (t:=t) (tm:=tm) (x:=x) h1);have qN:=zH (fun h1 h2=>yY (t:=t) (tm:=tm) (x:=x) h1 h2);have cB:=zH (fun h1 h2 h3=>CT (t:=t) (tm:=tm) (x:=x) h1 h2 h3);have jy:=zH (fun p q r=>h.i.put (x:=lq (t.lastF.1+1) tm x) p q r);obtain⟨aI,cl,eb⟩:=fC w 42 59 #[.int .i64 x.op,.int .i64 x.sess,.int .i64 x.seq,.slice V m d] #[.int .i64 0,.int .i64 0,.int .i64 0,.int .i64 0,.int .i64 0,.slice none 0 0];have hA:=h.below aI;have OJ:=hf.keep (bz.below (S:=S) aI);have bI:=yp hA hn;obtain⟨l2,dM⟩:=zN (t.lastF.2);obtain⟨l1,cy⟩:=zN (t.lastF.1);rw[cy]at CR oY qN cB jy;rw[dM]at iw qN cB jy;rw[cy,dM]at bI;have DF:0<=l1/\l1<=1099511627776:=by omega
 clear cy dM CR hr;unfold qL;go_enter func69,ntmps69;go_wp2_with fail;generalize(w.alloc (.cells #[.int .i64 x.op,.int .i64 x.sess,.int .i64 x.seq,.slice V m d] 42)).alloc (.cells #[.int .i64 0,.int .i64 0,.int .i64 0,.int .i64 0,.int .i64 0,.slice none 0 0] 59)=w1 at *;refine bI.mono ?_;rintro e w2 ⟨rfl,bJ⟩;clear bI;have h2:=hA.below bJ;have qV:=OJ.keep (bz.below (S:=S) bJ);have du:=ab aI bJ zl;have b1:=cl.kept bJ;have b2:=eb.kept bJ;obtain⟨c0,c1,c2,c3,-⟩:=b1.cs [0,1,2,3];simp only[Zx]at c0 c1 c2 c3;have rl:=b2.lt;clear hA OJ cl eb bJ b1;have cQ:=h.b.lt;have CC:=h.rowlt;have fin:∀(w5 w6:World) (y:En) (v:Value),Below w.heap.size w w5->ar w5 (w.heap.size+1) 59 #[.int .i64 0,.int .i64 0,.int .i64 0,.int .i64 0,.int .i64 0,.slice none 0 0]->set6 w5 (w.heap.size+1) (v,y)=w6->
   ar w6 (w.heap.size+1) 59 #[.int .i64 y.idx,.int .i64 y.term,.int .i64 y.op,.int .i64 y.sess,.int .i64 y.seq,v]/\Below w.heap.size w w6/\Fr (fun j=>j=w.heap.size+1) w5 w6:=fun w5 w6 y v hb hk e=>by
  subst e;obtain⟨s1,s2,s3⟩:=eW (v,y) hk rfl;exact⟨s1,hb.trans (s3 _ (by omega)),Fr.set6 _ _ _⟩
 have finE:∀(w5 w6:World) (k:Int),cG S w5 g t A n c zs->Below w.heap.size w w5->ar w5 (w.heap.size+1) 59 #[.int .i64 0,.int .i64 0,.int .i64 0,.int .i64 0,.int .i64 0,.slice none 0 0]->set6 w5 (w.heap.size+1) (.slice none 0 0,gk)=w6->t.putF tm x=((gk,k),t)->
   ar w6 (w.heap.size+1) 59 #[.int .i64 0,.int .i64 0,.int .i64 0,.int .i64 0,.int .i64 0,.slice none 0 0]/\
   ∃vy,Ending.returned (.tuple #[.agg #[.int .i64 0,.int .i64 0,.int .i64 0,.int .i64 0,.int .i64 0,.slice none 0 0],.int .i64 k])=.returned (.tuple #[ni (t.putF tm x).1.1 vy,.int .i64 (t.putF tm x).1.2])/\aG S w6 vy (t.putF tm x).1.1.facts/\fQ S w g A (t.putF tm x).2 w6:=fun w5 w6 k h5 hb hk e he=>by
  obtain⟨s1,s3,s4⟩:=fin w5 w6 gk _ hb hk e;rw[he];refine⟨s1,.slice none 0 0,rfl,aG.nil _ _,A,n,c,zs,?_,fun _ h=>.inl h,Fr.of_below s3⟩;exact h5.moveF s4 fun j hj _=>by
   rcases hj with rfl|hj|hj
   ·omega
   ·have:=CC j hj;omega
   ·have:=(hS j hj).1;omega
 by_cases i1:l1=1099511627776
 ·have he:=oY.out (by omega);obtain⟨d0,d1,d2,d3,d4,d5,-⟩:=b2.cs [0,1,2,3,4,5];obtain⟨f0,f1,f2,f3,f4,f5,-⟩:=b2.fs [0,1,2,3,4,5];simp only[Zx]at d0 d1 d2 d3 d4 d5;have aF:=zH (finE w2 _ 41 h2 du b2 rfl he);subst i1;clear he finE fin CC oY qN cB jy;go_wp2_with fail;replace aF:=aF.out;show bodyPost _ _ _ _ _ (set6 w2 (w.heap.size+1) (.slice none 0 0,gk));generalize set6 w2 (w.heap.size+1) (.slice none 0 0,gk)=w9 at *;obtain⟨q,aF⟩:=aF;obtain⟨r0,r1,r2,r3,r4,r5,-⟩:=q.cs [0,1,2,3,4,5];simp only[Zx]at r0 r1 r2 r3 r4 r5;exact bodyPost_ret (v:=.tuple #[.agg #[.int .i64 0,.int .i64 0,.int .i64 0,.int .i64 0,.int .i64 0,.slice none 0 0],.int .i64 41]) (by simp[results,results69,go_sem,r0,r1,r2,r3,r4,r5]) rfl aF
 ·have i1b:(l1==1099511627776)=false:=beq_eq_false_iff_ne.2 i1;have sY:Below w2.heap.size w2 (w2.alloc (.cells #[.int .i64 (l1+1),.int .i64 tm,.int .i64 x.op,.int .i64 x.sess,.int .i64 x.seq,.slice V m d] 59)):=zb.alloc zl _;have b3:=ar.new w2 59 #[.int .i64 (l1+1),.int .i64 tm,.int .i64 x.op,.int .i64 x.sess,.int .i64 x.seq,.slice V m d];have b2:=b2.kept sY;have h3:=h2.below sY;have uc:=qV.keep (bz.below (S:=S) sY);have eE:=ab du sY zl;obtain⟨bp,pu⟩:=zN (dI (lq (l1+1) tm x));have aH:=tg S (lq (l1+1) tm x) V m d _ uc hm;rw[pu]at aH;unfold ni lq at aH;dsimp only at aH;have Xa:l1<=1099511627775:=by omega
  go_wp2_with fail;generalize iU:w2.alloc (.cells #[.int .i64 (l1+1),.int .i64 tm,.int .i64 x.op,.int .i64 x.sess,.int .i64 x.seq,.slice V m d] 59)=w3 at *;clear iU sY h2 qV c0 c1 c2 c3;have GV:w.heap.size+1≠w2.heap.size:=by omega
  have KO:w.heap.size<=w2.heap.size:=by omega
  generalize w2.heap.size=g3 at *;clear du rl;refine aH.mono ?_;rintro e w4 ⟨rfl,cz⟩;have b2:=b2.kept cz;have b3:=b3.kept cz;have h4:=h3.below cz;have DB:=uc.keep (bz.below (S:=S) cz);have iN:=ab eE cz zl;clear h3 uc cz eE aH;have dt:(tm<l2\/(l2<=tm/\bp=false))\/(l2<=tm/\bp=true):=by
   by_cases h0:tm<l2
   ·exact .inl (.inl h0)
   ·cases bp
    ·exact .inl (.inr ⟨by omega,rfl⟩)
    ·exact .inr ⟨by omega,rfl⟩
  obtain⟨d0,d1,d2,d3,d4,d5,-⟩:=b2.cs [0,1,2,3,4,5];obtain⟨f0,f1,f2,f3,f4,f5,-⟩:=b2.fs [0,1,2,3,4,5];simp only[Zx]at d0 d1 d2 d3 d4 d5;rcases dt with dt|⟨i2,dt⟩
  ·have he:=qN.out (by omega) (dt.imp_right fun h=>by rw[pu];exact h.2);have aF:=zH (finE w4 _ 1 h4 iN b2 rfl he);clear he finE fin CC oY qN cB jy pu;rcases dt with dt|⟨i2,dt⟩
   all_goals
    first
     | subst dt
     | skip
    go_wp2_with fail;replace aF:=aF.out;show bodyPost _ _ _ _ _ (set6 w4 (w.heap.size+1) (.slice none 0 0,gk));generalize set6 w4 (w.heap.size+1) (.slice none 0 0,gk)=w9 at *;obtain⟨q,aF⟩:=aF;obtain⟨r0,r1,r2,r3,r4,r5,-⟩:=q.cs [0,1,2,3,4,5];simp only[Zx]at r0 r1 r2 r3 r4 r5;exact bodyPost_ret (v:=.tuple #[.agg #[.int .i64 0,.int .i64 0,.int .i64 0,.int .i64 0,.int .i64 0,.slice none 0 0],.int .i64 1]) (by simp[results,results69,go_sem,r0,r1,r2,r3,r4,r5]) rfl aF
  ·subst dt;have J6:=b2.lt;have gK:=b3.lt;have he:=zH (cB.out (by omega) (by omega) pu);have dG:=zH (jy.out rfl pu (by show l2<=tm;omega));clear finE oY qN cB jy pu d0 d1 d2 d3 d4 d5 f0 f1 f2 f3 f4 f5;have q2:=h4.cells.2.2;obtain⟨a0,a1,a2,a3,a4,a5,-⟩:=b3.cs [0,1,2,3,4,5];simp only[Zx]at a0 a1 a2 a3 a4 a5;have fR:w4.ownsRow w4.heap.size 59 6 (.slice none 0 0) 0 (([]:List (Value×En)).flatMap bY):=b9 _ _;have gq:=h4.d.one;have WI:=h4.r;have iI:n+1<=1000000000:=by omega
   go_wp2_with (first
    | (at_builtin;refine aW rfl (.tmp 36) (.tmp 40) rfl w4.heap.size rfl fR rfl (ys:=zs) WI gq (by omega) zl ?_;intro A5 c5 w5 dm hfr5 cD oH;simp only[Nat.zero_add,List.nil_append]at dm ⊢;replace b2:=b2.kept cD;replace b3:=b3.kept cD;have h5:=h4.below cD;have kw:=ab iN cD zl;clear a0 a1 a2 a3 a4 a5 q2 WI;obtain⟨a0,a1,a2,a3,a4,a5,-⟩:=b3.cs [0,1,2,3,4,5];simp only[Zx]at a0 a1 a2 a3 a4 a5;have dH:Below w5.heap.size w5 (w5.alloc (.cells #[.int .i64 (l1+1),.int .i64 tm,.int .i64 x.op,.int .i64 x.sess,.int .i64 x.seq,.slice V m d] 59)):=zb.alloc zl _;have dv:ar (w5.alloc (.cells #[.int .i64 (l1+1),.int .i64 tm,.int .i64 x.op,.int .i64 x.sess,.int .i64 x.seq,.slice V m d] 59)) w5.heap.size 59 (bY (.slice V m d,lq (l1+1) tm x)).toArray:=ar.new w5 59 (bY (.slice V m d,lq (l1+1) tm x)).toArray;have ff:=bf dm dH;have E8:w4.heap.size<=(w5.alloc (.cells #[.int .i64 (l1+1),.int .i64 tm,.int .i64 x.op,.int .i64 x.sess,.int .i64 x.seq,.slice V m d] 59)).heap.size:=by have:=dH.size;have:=cD.size;omega)
    | (at_builtin;refine aW rfl (.tmp 42) (.tmp 44) rfl w4.heap.size rfl ff rfl (fu.one dv) (fun y hy=>by rw[List.mem_singleton.1 hy];rfl) iI E8 ?_;intro A7 c7 w7 eM pO io nf;obtain⟨w6,E6⟩:=zN (w5.alloc (.cells #[.int .i64 (l1+1),.int .i64 tm,.int .i64 x.op,.int .i64 x.sess,.int .i64 x.seq,.slice V m d] 59));rw[E6]at dH dv ff pO io nf E8;clear E6 a0 a1 a2 a3 a4 a5 fR;have vX:=ab kw dH zl;have mR:Below w.heap.size w w7:=vX.trans (io.mono (by have:=iN.size;omega));have OD:ar w7 (w.heap.size+1) 59 #[.int .i64 0,.int .i64 0,.int .i64 0,.int .i64 0,.int .i64 0,.slice none 0 0]:=(io.block _ J6).trans (b2.kept dH);have BY:ar w7 g3 59 #[.int .i64 (l1+1),.int .i64 tm,.int .i64 x.op,.int .i64 x.sess,.int .i64 x.seq,.slice V m d]:=(io.block g3 gK).trans (b3.kept dH);obtain⟨QK,fZ,L0,s1,hP⟩:=EW h mR eM J6 hf OD rfl BY KO hS dG.out;have L0:ar (w7.setCell ⟨g,2,none⟩ (.slice A7 (n+1) c7)) g3 59 #[.int .i64 (l1+1),.int .i64 tm,.int .i64 x.op,.int .i64 x.sess,.int .i64 x.seq,.slice V m d]:=L0;have hP:=zH hP;have s1:=zH s1;have fg:=QK.free 2;have cg:=QK.cell 2;obtain⟨d0,d1,d2,d3,d4,d5,-⟩:=fZ.cs [0,1,2,3,4,5];obtain⟨f0,f1,f2,f3,f4,f5,-⟩:=fZ.fs [0,1,2,3,4,5];obtain⟨a0,a1,a2,a3,a4,a5,-⟩:=L0.cs [0,1,2,3,4,5];have Xd:¬g3=g:=(by omega);have Z4:¬w.heap.size+1=g:=(by omega);have ZE:¬g3=w.heap.size+1:=(by omega);simp only[Zx]at cg d0 d1 d2 d3 d4 d5 a0 a1 a2 a3 a4 a5;clear eM pO nf ff dm hfr5 oH)
    | fail)
   show bodyPost _ _ _ _ _ (set6 (w7.setCell ⟨g,2,none⟩ (.slice A7 (n+1) c7)) (w.heap.size+1) (.slice V m d,lq (l1+1) tm x));clear d0 d1 d2 d3 d4 d5 a0 a1 a2 a3 a4 a5 f0 f1 f2 f3 f4 f5 fZ L0;replace s1:=s1.out;replace hP:=hP.out;generalize set6 (w7.setCell ⟨g,2,none⟩ (.slice A7 (n+1) c7)) (w.heap.size+1) (.slice V m d,lq (l1+1) tm x)=w10 at *;obtain⟨r0,r1,r2,r3,r4,r5,-⟩:=s1.cs [0,1,2,3,4,5];simp only[bY,vi,lq,Zx]at r0 r1 r2 r3 r4 r5;exact bodyPost_ret (v:=.tuple #[.agg #[.int .i64 (l1+1),.int .i64 tm,.int .i64 x.op,.int .i64 x.sess,.int .i64 x.seq,.slice V m d],.int .i64 0]) (by simp[results,results69,go_sem,r0,r1,r2,r3,r4,r5]) rfl ⟨.slice V m d,by rw[he.out];rfl,by rw[he.out];exact hP.1,by rw[he.out];exact hP.2⟩
end
section
variable {S:Nat->Prop}{w w':World}{g n c:Nat}{t:bB}{A:Option Addr}{zs:List (Value×En)}
theorem cG.setAll{w7:World}{A7:Option Addr}{n7 c7:Nat}{zs7:List (Value×En)}{L7:List En}{i tm:Int}{base:Nat}(hk:ar w7 g 138 #[.int .i64 t.index,.int .i64 t.term,.slice A n c])
  (ho:w7.ownsRow base 59 6 (.slice A7 n7 c7) n7 (zs7.flatMap bY)) (hd:bq S w7 zs7) (hl:zs7.map (·.2)=L7) (hi:bB.Inv ⟨i,tm,L7⟩) (hS:∀j,S j->j≠g) :
  cG S (((w7.setCell ⟨g,2,none⟩ (.slice A7 n7 c7)).setCell ⟨g,0,none⟩ (.int .i64 i)).setCell ⟨g,1,none⟩ (.int .i64 tm)) g ⟨i,tm,L7⟩ A7 n7 c7 zs7:=by
 have k2:=hk.set_ 2 (.slice A7 n7 c7);have k0:=k2.set_ 0 (.int .i64 i);have k1:=k0.set_ 1 (.int .i64 tm);have hF:Fr (fun j=>j=g) w7 (((w7.setCell ⟨g,2,none⟩ (.slice A7 n7 c7)).setCell ⟨g,0,none⟩ (.int .i64 i)).setCell ⟨g,1,none⟩ (.int .i64 tm)):=((Fr.set g 2 _).trans (Fr.set g 0 _) fun _ h=>.inl h).trans (Fr.set g 1 _) fun _ h=>.inl h
 exact
 {b:=by simpa using k1
  o:=cH (ed ho zz) fun j hj hl=>hF.block j hl fun e=>by
   obtain⟨_,_,cs,h⟩:=aB ho A7 c7 rfl j hj;exact jf hk h (by decide) e
  d:=hd.keep fun j hj hl=>hF.block j hl (hS j hj)
  l:=hl
  i:=hi}
theorem ud{α:Type}{l:List α}{k j:Nat}{x:α}(h:l[j]?=some x)(hk:k<=j):(l.take (j+1)).drop k=(l.take j).drop k++[x]:=by
 have hj:=(List.getElem?_eq_some_iff.1 h).1;rw[g9 h,List.drop_append_of_le_length (by rw[List.length_take,Nat.min_eq_left (by omega)];exact hk)]
theorem kv{α:Type}{l:List α}{k j:Nat}(hk:j<=k):(l.take j).drop k=[]:=List.drop_eq_nil_of_le (by rw[List.length_take];omega)
theorem ES(i:Int)(h:cG S w g t A n c zs)(hn:n<=1000000)(hS:∀j,S j->j≠g):Calls prog 128 #[.pointer (some ⟨g,0,none⟩),.int .i64 i] w fun e w'=>e=.returned (.int .i64 (t.dropF i).1)/\fQ S w g A (t.dropF i).2 w':=by
 have bh:=mw i h hn;have dG:=h.i.dropF i;obtain⟨v1,bH⟩:∃v,(t.termF i).1=v:=⟨_,rfl⟩;rcases kW t i with h2|h2|h2
 ·have he:=zH (show t.dropF i=(0,t) by unfold bB.dropF;rw[h2];rfl);rw[h2,bH]at bh;clear dG bH h2;go_enter func128,ntmps128;go_wp2_with fail;refine bh.mono ?_;rintro e w1 ⟨rfl,rfl⟩;go_wp2_with fail;go_ret;exact⟨by rw[he.out];rfl,by rw[he.out];exact fQ.same h zb⟩
 ·have he:=zH (show t.dropF i=(33,t) by unfold bB.dropF;rw[h2];rfl);rw[h2,bH]at bh;clear dG bH h2;go_enter func128,ntmps128;go_wp2_with fail;refine bh.mono ?_;rintro e w1 ⟨rfl,rfl⟩;go_wp2_with fail;go_ret;exact⟨by rw[he.out];rfl,by rw[he.out];exact fQ.same h zb⟩
 ·obtain⟨h5,h6,_⟩:=eU (t:=t) (i:=i) (term:=(t.termF i).1) (by rw[<-h2]);rw[<-h.len.1]at h6;have hb:=h.i.b;obtain⟨k,hk⟩:∃k:Nat,i-t.index=k:=⟨(i-t.index).toNat,by omega⟩;have zO:t.dropF i=(0,⟨i,v1,t.L.drop k⟩):=by
   unfold bB.dropF;rw[h2,bH,hk];rfl
  rw[zO]at dG;have he:=zH zO;rw[h2,bH]at bh;have Db:k<=n:=by omega
  have xb:=zH h.len.2;clear bH h2 zO;go_enter func128,ntmps128;go_wp2_with fail;refine bh.mono ?_;rintro e w1 ⟨rfl,rfl⟩;clear bh;obtain⟨q0,q1,q2⟩:=h.cells;go_wp2_with fail
  go_loopw [7,8] (fun o i' wr=>∃(j:Nat) (A':Option Addr) (c':Nat),j<=n/\i'=.int .i64 j/\o=.slice A' (j-k) c'/\wr.ownsRow w.heap.size 59 6 (.slice A' (j-k) c') (j-k) (((zs.take j).drop k).flatMap bY)/\Below w.heap.size w wr) (fun _ i' _=>n-(intOf i').toNat)
  case atStart=>exact⟨0,none,0,Nat.zero_le _,rfl,by rw[Nat.zero_sub],by rw[Nat.zero_sub,kv zz];exact b9 _ _,Below.refl _ _⟩
  case round=>
   clear q0 q1 q2;obtain⟨j,A',c',hj,rfl,rfl,aD,gQ⟩:=hrel;have h':=h.below gQ;obtain⟨q0,q1,q2⟩:=h'.cells;by_cases aU:j<n
   ·obtain⟨ad,B1,m1,d1,x,rfl,hz,hx,c0,c1,c2,c3,c4,c5⟩:=h'.at_ aU;have CB:=h.i.idx _ _ hx;have aP:=zH (show n-(j+1)<n-j by omega);have aI:Below wr.heap.size wr (wr.alloc (.cells #[.int .i64 x.idx,.int .i64 x.term,.int .i64 x.op,.int .i64 x.sess,.int .i64 x.seq,.slice B1 m1 d1] 59)):=zb.alloc zl _;have cv:=bf aD aI;have mQ:=ab gQ aI zl;have dv:=ar.new wr 59 (bY (.slice B1 m1 d1,x)).toArray;by_cases WA:k<=j
    ·have Ti:i<x.idx:=by omega
     have ci:=zH (ud hz WA);have nK:j-k+1<=1000000000:=by omega
     have kE:=zH (show j+1-k=j-k+1 by omega);obtain⟨q,hq⟩:=zN (j-k);rw[hq]at cv nK kE;simp only[hq];clear hz hx CB aD gQ hq;go_wp2_with (at_builtin;refine aW rfl (.tmp 39) (.tmp 47) rfl w.heap.size rfl cv rfl (fu.one dv) (fun y hy=>by rw[List.mem_singleton.1 hy];rfl) nK mQ.size ?_;intro A6 c6 w6 ff hfr6 gz hrow6);exact⟨⟨j+1,A6,c6,aU,by go_num,by rw[kE.out],by rw[kE.out,ci.out];exact ff,mQ.trans gz⟩,by simp[intOf];exact aP.out⟩
    ·have Ti:¬i<x.idx:=by omega
     have ci:=zH (show((zs.take (j+1)).drop k=(zs.take j).drop k) by rw[kv (by omega),kv (by omega)]);have kE:=zH (show j+1-k=j-k by omega);obtain⟨q,hq⟩:=zN (j-k);rw[hq]at aD kE;simp only[hq];clear hz hx CB cv mQ hq;go_wp2_with fail;exact⟨⟨j+1,A',c',aU,by go_num,by rw[kE.out],by rw[kE.out,ci.out];exact aD,gQ⟩,by simp[intOf];exact aP.out⟩
   ·obtain rfl:j=n:=by omega
    have gL:(zs.take j).drop k=zs.drop k:=by rw[List.take_of_length_le (by rw[xb.out];exact Nat.le_refl _)]
    rw[gL]at aD;have oI:bq S wr (zs.drop k):=h'.d.sub fun y hy=>List.mem_of_mem_drop hy
    have nz:=cG.setAll (t:=t) (i:=i) (tm:=v1) h'.b aD oI (by rw[List.map_drop,h.l]) dG hS;have hF:Fr (fun j=>j=g) w (((wr.setCell ⟨g,2,none⟩ (.slice A' (j-k) c')).setCell ⟨g,0,none⟩ (.int .i64 i)).setCell ⟨g,1,none⟩ (.int .i64 v1)):=
     (Fr.of_below gQ).trans (((Fr.set g 2 _).trans (Fr.set g 0 _) fun _ h=>.inl h).trans (Fr.set g 1 _) fun _ h=>.inl h) fun j hj=>.inl hj
    have hP:=zH (show fQ S w g A ⟨i,v1,t.L.drop k⟩ _ from⟨A',j-k,c',_,nz,fun j hj=>.inr (aB aD A' c' rfl j hj).2.1,hF⟩);obtain⟨f0,f1,f2,-⟩:=h'.b.fs [0,1,2];clear nz hF aD oI;go_wp2_with fail;go_ret;exact⟨by rw[he.out];rfl,by rw[he.out];exact hP.out⟩
end
section
variable {S:Nat->Prop}{w w':World}{g n c:Nat}{t:bB}{A:Option Addr}{zs:List (Value×En)}
theorem FP{α:Type}{l:List α}{k j:Nat}{x:α}(h:l[j]?=some x)(hk:j<k):l.take (min (j+1) k)=l.take (min j k)++[x]:=by
 rw[Nat.min_eq_left (by omega),Nat.min_eq_left (by omega),g9 h]
theorem AS{w7 wr:World}{A7:Option Addr}{N q i c7:Nat}{ad2:Addr}{v:Value}{ys:List (Value×En)}{x:En}{R:List En}(h:cG S w g t A n c zs)(gQ:Below w.heap.size w wr)(io:Below w.heap.size wr w7)
  (eM:w7.ownsRow w.heap.size 59 6 (.slice A7 N c7) N ((zs.take q++ys.drop i).flatMap bY)) (hd:bq S w ys) (hM:(ys.drop i).map (·.2)=x::R) (dG:bB.Inv {t with L:=t.L.take q++x::R}) (hS:∀j,S j->j≠g)
  (o0:w.cell? (ad2.add (i*6))=some v) (Dg:ad2.block≠g) :
  ar w7 g 138 #[.int .i64 t.index,.int .i64 t.term,.slice A n c]/\(w7.setCell ⟨g,2,none⟩ (.slice A7 N c7)).cell? (ad2.add (i*6))=some v/\fQ S w g A {t with L:=t.L.take q++x::R} (w7.setCell ⟨g,2,none⟩ (.slice A7 N c7)):=by
 have mR:Below w.heap.size w w7:=gQ.trans io;have PQ:ar w7 g 138 #[.int .i64 t.index,.int .i64 t.term,.slice A n c]:=(mR.block g h.b.lt).trans h.b;have Tb:bq S w7 (zs.take q++ys.drop i):=((h.d.keep (bz.below (S:=S) mR)).sub fun y hy=>List.mem_of_mem_take hy).append ((hd.keep (bz.below (S:=S) mR)).sub fun y hy=>List.mem_of_mem_drop hy);have oO:(zs.take q++ys.drop i).map (·.2)=t.L.take q++x::R:=by rw[List.map_append,List.map_take,h.l,hM]
 have h8:=cG.setRow (t:=t) PQ eM Tb oO dG hS;have o7:=(mR.cell (aw o0)).trans o0;refine⟨PQ,?_,A7,_,c7,_,h8,fun j hj=>.inr (aB eM A7 c7 rfl j hj).2.1,(Fr.of_below (X:=fun j=>j=g) mR).trans (Fr.set g 2 _) fun _ h=>.inl h⟩;rw[World.cell?_setCell_other]
 ·exact o7
 ·intro e;have:=congrArg Addr.block e;rw[dJ]at this;exact Dg this.symm
theorem DN(idx tm:Int)(A2:Option Addr)(m c2:Nat)(ys:List (Value×En))(h:cG S w g t A n c zs)(hn:n<=1000000)(hr:fu w A2 m ys)(hd:bq S w ys)
  (hm:m<=100000) (Ao:m<=c2) (_hcc:c2<=maxLen) (hS:∀j,S j->j≠g) (Dg:0<m->∀j,az A2 j->j≠g) :
  Calls prog 46 #[.pointer (some ⟨g,0,none⟩),.int .i64 idx,.int .i64 tm,.slice A2 m c2] w fun e w'=>
   e=.returned (.tuple #[.int .i64 (t.takeF idx tm (ys.map (·.2))).1.1,.bool (t.takeF idx tm (ys.map (·.2))).1.2])/\fQ S w g A (t.takeF idx tm (ys.map (·.2))).2 w':=by
 have bh:=mw idx h hn;have dt:=zH (fun h0=>yh (t:=t) (idx:=idx) (tm:=tm) (L:=ys.map (·.2)) h0);obtain⟨v1,bH⟩:∃v,(t.termF idx).1=v:=⟨_,rfl⟩;obtain⟨v2,fY⟩:∃v,(t.termF idx).2=v:=⟨_,rfl⟩;have hv:t.termF idx=(v1,v2):=by rw[<-bH,<-fY]
 rw[bH,fY]at bh;clear bH fY;have hl:=zH h.len.1;have xb:=zH h.len.2;have xf:=zH hr.len;have kp:=h.i.b;have TP:=h.i.room;rw[<-h.len.1]at TP;by_cases i1:v2=0
 ·by_cases i2:v1=tm
  ·subst i1;subst i2;have Ps:=eU hv;rw[<-h.len.1]at Ps;obtain⟨rP,N7,Er⟩:=Ps;clear Er;have uO:=zH (fun(bN:bL idx 0 v1 (ys.map (·.2))=true) (h0:t.findDiff (ys.map (·.2))=none)=>se hv bN h0);have vk:=zH (fun(bN:bL idx 0 v1 (ys.map (·.2))=true) (x:En) (R:List En) (h0:t.findDiff (ys.map (·.2))=some (x,R))=>sG hv bN h0);have uB:=zH (fun(bN:bL idx 0 v1 (ys.map (·.2))=true) (x:En) (R:List En) (h0:t.findDiff (ys.map (·.2))=some (x,R))=>iA (t:=t) (i:=0) (idx:=idx) (term:=v1) (x:=x) (r:=R) (by rw[show idx+((0:Nat):Int)=idx by omega];exact hv) bN h0);have kG:=zH (fun(bN:bL idx 0 v1 (ys.map (·.2))=true)=>nh bN);have dG:=zH (h.i.takeF idx v1 (ys.map (·.2)));have hv:=zH hv;go_enter func46,ntmps46;go_wp2_with fail;refine bh.mono ?_;rintro e w1 ⟨rfl,rfl⟩;clear bh
   skip
   go_wp2_with fail
   go_loopw [12] (fun i' wr=>∃i:Nat,i<=m/\i'=.int .i64 i/\bL idx 0 v1 (ys.map (·.2))=bL idx i (iP v1 (ys.map (·.2)) i) ((ys.map (·.2)).drop i)/\Below w.heap.size w wr) (fun i' _=>m-(intOf i').toNat)
   case atStart=>exact⟨0,Nat.zero_le _,rfl,rfl,Below.refl _ _⟩
   case round=>
    obtain⟨i,hi,rfl,vC,hb⟩:=hrel;by_cases aU:i<m
    ·obtain⟨ad2,v3,x,rfl,hx,c0,c1,c2',c3,c4,c5⟩:=(hr.below hb).at_ aU;have fx:=(hd _ (List.mem_of_getElem? hx)).keep (bz.below (S:=S) hb);obtain⟨B1,m1,d1,bH,l1,l2,l3⟩:=fx.form;obtain rfl:v3=_:=bH;have GS:(ys.map (·.2))[i]?=some x:=by rw[List.getElem?_map,hx];rfl
     have vh:=gF GS;rw[vh]at vC;have dh:=zH (show iP v1 (ys.map (·.2)) (i+1)=x.term by rw[ef,GS]);obtain⟨pv,Nv⟩:=zN (iP v1 (ys.map (·.2)) i);rw[Nv]at vC;have vC:bL idx 0 v1 (ys.map (·.2))=(dI x&&(decide (x.idx=idx+1+i)&&(decide (pv<=x.term)&&bL idx (i+1) x.term ((ys.map (·.2)).drop (i+1))))):=vC;have aP:=zH (show m-(i+1)<m-i by omega);have aH:=tg S x B1 m1 d1 _ fx (Nat.le_trans l1 l2);unfold ni at aH;have LF:(i=0/\v1=pv)\/(∃k,i=k+1/\k<m/\∃w0:Unit,wr.cell? ⟨(ad2.add (k*6)).block,(ad2.add (k*6)).off+1,none⟩=some (.int .i64 pv)):=by
      rcases Nat.eq_zero_or_pos i with h0|h0
      ·subst h0;exact .inl ⟨rfl,Nv⟩
      ·obtain⟨k,rfl⟩:∃k,i=k+1:=⟨i-1,by omega⟩;obtain⟨ad3,v4,y,e3,hy,e0,e1,_⟩:=(hr.below hb).at_ (show k<m by omega);obtain rfl:=Option.some.inj e3;have:pv=y.term:=by rw[<-Nv,ef,List.getElem?_map,hy];rfl
       rw[this];exact .inr ⟨k,rfl,by omega,(),e1⟩
     obtain⟨bp,pu⟩:=zN (dI x);rw[pu]at aH vC;have xm:=zH (fun h0:bL idx 0 v1 (ys.map (·.2))=false=>dt.out (by rw[h0];simp));have Dx:=zH pu;have P3:=zH vC;clear hx GS vh Nv fx pu vC;go_wp2_with fail;refine aH.mono ?_;rintro e w1 ⟨rfl,bs⟩;clear aH;have iM:=ab hb bs zl;have c0:=(bs.cell (aw c0)).trans c0;have c1:=(bs.cell (aw c1)).trans c1;have HC:(bp=false/\bL idx 0 v1 (ys.map (·.2))=false)\/(bp=true/\¬x.idx=idx+1+i/\bL idx 0 v1 (ys.map (·.2))=false)\/(bp=true/\x.idx=idx+1+i/\x.term<pv/\bL idx 0 v1 (ys.map (·.2))=false)\/
       (bp=true/\x.idx=idx+1+i/\¬x.term<pv/\bL idx 0 v1 (ys.map (·.2))=bL idx (i+1) x.term ((ys.map (·.2)).drop (i+1))):=by
      have vC:=P3.out;cases bp with
      | false=>exact .inl ⟨rfl,vC⟩
      | true=>
       by_cases j1:x.idx=idx+1+i
       ·rw[decide_eq_true j1]at vC;by_cases j2:x.term<pv
        ·rw[decide_eq_false (show ¬pv<=x.term by omega)]at vC;exact .inr (.inr (.inl ⟨rfl,j1,j2,vC⟩))
        ·rw[decide_eq_true (show pv<=x.term by omega)]at vC;exact .inr (.inr (.inr ⟨rfl,j1,j2,vC⟩))
       ·rw[decide_eq_false j1]at vC;exact .inr (.inl ⟨rfl,j1,vC⟩)
     clear c2' c3 c4 c5 P3 uB vk uO kG dG;rcases LF with⟨iy,fo⟩|⟨k,iy,Ro,_,fo⟩
     ·subst fo;have hz:¬(0:Int)<(i:Int):=by omega
      clear iy;rcases HC with⟨j0,j4⟩|⟨j0,j1,j4⟩|⟨j0,j1,j2,j4⟩|⟨j0,j1,j2,j4⟩
      ·have he:=zH (xm.out j4);subst j0;clear j4 xm;go_wp2_with fail
       go_ret2
       exact⟨by rw[he.out];rfl,by rw[he.out];exact fQ.same h iM⟩
      ·have he:=zH (xm.out j4);subst j0;clear j4 xm;go_wp2_with fail
       go_ret2
       exact⟨by rw[he.out];rfl,by rw[he.out];exact fQ.same h iM⟩
      ·have he:=zH (xm.out j4);subst j0;clear j4 xm;go_wp2_with fail
       go_ret2
       exact⟨by rw[he.out];rfl,by rw[he.out];exact fQ.same h iM⟩
      ·have j4:=zH j4;subst j0;clear xm;go_wp2_with fail
       go_roundw
       case rel=>exact⟨i+1,aU,by go_num,by rw[dh.out];exact j4.out,iM⟩
       case measure=>simp[intOf];exact aP.out
     ·have hz:(0:Int)<(i:Int):=by omega
      have ZZ:(i:Int)-1=(k:Int):=by omega
      have fo:=(bs.cell (aw fo)).trans fo;clear iy;rcases HC with⟨j0,j4⟩|⟨j0,j1,j4⟩|⟨j0,j1,j2,j4⟩|⟨j0,j1,j2,j4⟩
      ·have he:=zH (xm.out j4);subst j0;clear j4 xm;go_wp2_with fail
       go_ret2
       exact⟨by rw[he.out];rfl,by rw[he.out];exact fQ.same h iM⟩
      ·have he:=zH (xm.out j4);subst j0;clear j4 xm;go_wp2_with fail
       go_ret2
       exact⟨by rw[he.out];rfl,by rw[he.out];exact fQ.same h iM⟩
      ·have he:=zH (xm.out j4);subst j0;clear j4 xm;go_wp2_with fail
       go_ret2
       exact⟨by rw[he.out];rfl,by rw[he.out];exact fQ.same h iM⟩
      ·have j4:=zH j4;subst j0;clear xm;go_wp2_with fail
       go_roundw
       case rel=>exact⟨i+1,aU,by go_num,by rw[dh.out];exact j4.out,iM⟩
       case measure=>simp[intOf];exact aP.out
    ·have bN:bL idx 0 v1 (ys.map (·.2))=true:=vC.trans (by rw[List.drop_eq_nil_of_le (by rw[List.length_map,xf.out];omega)];rfl);have kG:=zH (kG.out bN);have uB:=zH (uB.out bN);have vk:=zH (vk.out bN);have uO:=zH (uO.out bN);clear vC dt bN;go_wp2_with fail;clear hi aU;rename_i wr0;have jA:=hb;clear hb
     go_loopw [15] (fun i' wr=>∃i:Nat,i<=m/\i'=.int .i64 i/\t.findDiff (ys.map (·.2))=t.findDiff ((ys.map (·.2)).drop i)/\Below w.heap.size w wr) (fun i' _=>m-(intOf i').toNat)
     case atStart=>exact⟨0,Nat.zero_le _,rfl,rfl,jA⟩
     case round=>
      clear jA;obtain⟨i,hi,rfl,N3,hb⟩:=hrel;have Hfd:=zH N3;clear N3;by_cases aU:i<m
      ·have Dg:=Dg (Nat.zero_lt_of_lt aU);obtain⟨ad2,v3,x,rfl,hx,c0w,c1w,_,_,_,_⟩:=hr.at_ aU;have c0:=(Below.cell hb (aw c0w)).trans c0w;have c1:=(Below.cell hb (aw c1w)).trans c1w;have fx:=(hd _ (List.mem_of_getElem? hx)).keep (bz.below (S:=S) hb);obtain⟨B1,m1,d1,bH,l1,l2,l3⟩:=fx.form;obtain rfl:v3=_:=bH;have GS:(ys.map (·.2))[i]?=some x:=by rw[List.getElem?_map,hx];rfl
       have vh:=gF GS;rw[vh]at Hfd;have W9:=j5 (kG.out x (List.mem_of_getElem? GS));have aP:=zH (show m-(i+1)<m-i by omega);have h3:=h.below hb;have aH:=mw x.idx h3 hn;obtain⟨u1,M8⟩:∃v,(t.termF x.idx).1=v:=⟨_,rfl⟩;obtain⟨u2,Jo⟩:∃v,(t.termF x.idx).2=v:=⟨_,rfl⟩;have hu:=zH (show t.termF x.idx=(u1,u2) by rw[<-M8,<-Jo]);rw[M8,Jo]at aH;have qd:=zH (show ys.drop i=(.slice B1 m1 d1,x)::ys.drop (i+1)from gF hx);clear M8 Jo GS hx vh;go_wp2_with fail;refine aH.mono ?_;rintro e w4 ⟨rfl,rfl⟩;clear aH;by_cases jj:u2=0/\u1=x.term
       ·obtain⟨j1,j2⟩:=jj;subst j1;subst j2;have Hn:=zH (Hfd.out.trans (show _=t.findDiff ((ys.map (·.2)).drop (i+1)) by
         show(if t.termF x.idx=(x.term,0)then _ else _)=_;rw[if_pos hu.out]))
        go_wp2_with fail
        go_roundw
        case rel=>exact⟨i+1,aU,by go_num,Hn.out,hb⟩
        case measure=>simp[intOf];exact aP.out
       ·have Bp:t.findDiff (ys.map (·.2))=some (x,(ys.map (·.2)).drop (i+1)):=Hfd.out.trans (by
         show(if t.termF x.idx=(x.term,0)then _ else _)=_;rw[if_neg (by rw[hu.out];rintro h0;injection h0 with h1 h2;exact jj ⟨h2,h1⟩)])
        obtain⟨j,term',_,e1,e2,_,_,_⟩:=uB.out x _ Bp;have e3:=eU e2;rw[<-hl.out]at e3;obtain⟨e4,e5,e6⟩:=e3;clear e6 e2;obtain⟨k,hk⟩:∃k:Nat,x.idx-t.index-1=k:=⟨(x.idx-t.index-1).toNat,by omega⟩;have Db:k<=n:=by omega
        have zO:=vk.out x _ Bp;rw[hk,show(k:Int).toNat=k from rfl]at zO;have he:=zH zO;have dG:=dG.out;rw[zO]at dG;have dG:=zH dG;have hM:=zH (show(ys.drop i).map (·.2)=x::(ys.map (·.2)).drop (i+1) by rw[qd.out,List.map_cons,List.map_drop]);have uM:=zH (show(ys.drop i).length=m-i by rw[List.length_drop,xf.out]);clear Bp e1 e4 e5 zO;have Te:¬c2=i:=by omega
        have c0x:w.cell? (ad2.add (i*6))=some (.int .i64 x.idx):=c0w;have On:(u2≠0/\(u2==0)=false)\/(u2=0/\(u1==x.term)=false):=by
         by_cases j1:u2=0
         ·exact .inr ⟨j1,beq_eq_false_iff_ne.2 fun e=>jj ⟨j1,e⟩⟩
         ·exact .inl ⟨j1,beq_eq_false_iff_ne.2 j1⟩
        clear jj;rcases On with⟨jj,jjj⟩|⟨jj,jjj⟩
        all_goals
         go_wp2_with fail
         go_loopw [18,19] (fun o j' w2=>∃(j q:Nat) (A':Option Addr) (c':Nat),j<=n/\j'=.int .i64 j/\o=.slice A' q c'/\q=min j k/\w2.ownsRow w.heap.size 59 6 (.slice A' q c') q ((zs.take (min j k)).flatMap bY)/\Below w.heap.size w w2) (fun _ j' _=>n-(intOf j').toNat)
         case atStart=>exact⟨0,0,none,0,Nat.zero_le _,rfl,rfl,by rw[Nat.zero_min],by rw[Nat.zero_min];exact b9 _ _,hb⟩
         case round=>
          obtain⟨j,q,A',c',hj,rfl,rfl,hq,aD,gQ⟩:=hrel
          rename World=>wr2
          have h':=h.below gQ;obtain⟨q0,q1,q2⟩:=h'.cells;have o0:=(Below.cell gQ (aw c0x)).trans c0x;by_cases xp:j<n
          ·obtain⟨bd,B3,m3,d3,y,Kk,hz,hy,p0,p1,p2,p3,p4,p5⟩:=h'.at_ xp;have VY:=h.i.idx _ _ hy;have fM:=zH (show n-(j+1)<n-j by omega);have aI:∀q,Below wr2.heap.size wr2 ((wr2.drewN q).alloc (.cells #[.int .i64 y.idx,.int .i64 y.term,.int .i64 y.op,.int .i64 y.sess,.int .i64 y.seq,.slice B3 m3 d3] 59)):=fun q=>(aA zb q).alloc zl _
           have cv:=fun q=>bf aD (aI q)
           have mQ:=fun q=>ab gQ (aI q) zl
           have dv:=fun q=>ar.new (wr2.drewN q) 59 (bY (.slice B3 m3 d3,y)).toArray
           rw[Kk]at q2;by_cases R0:j<k
           ·have ZM:y.idx<x.idx:=by omega
            have ci:=zH (FP hz R0);have kE:=zH (show q+1=min (j+1) k by omega);have nK:q+1<=1000000000:=by omega
            clear hz hy VY aD gQ hq;go_wp2_with fail
            go_quiet (fail)
            go_wp2_with (at_builtin;refine aW rfl (.tmp 126) (.tmp 134) rfl w.heap.size rfl (cv nq) rfl (fu.one (dv nq)) (fun y hy=>by rw[List.mem_singleton.1 hy];rfl) nK (mQ nq).size ?_;intro A6 c6 w6 ff hfr6 gz hrow6);refine⟨?_,by simp[intOf];exact fM.out⟩;first|(show ∃j':Nat,_;exact⟨j+1,q+1,A6,c6,xp,by go_num,rfl,kE.out,by rw[ci.out];exact ff,(mQ nq).trans gz⟩)|((repeat apply Exists.intro);(repeat apply Exists.intro);(repeat apply Exists.intro);(repeat apply Exists.intro);refine⟨?_,rfl⟩;exact⟨j+1,q+1,A6,c6,xp,by go_num,rfl,kE.out,by rw[ci.out];exact ff,(mQ nq).trans gz⟩)
           ·have ZM:¬y.idx<x.idx:=by omega
            have kE:=zH (show q=min (j+1) k/\min (j+1) k=min j k by omega);clear hz hy VY cv mQ hq;go_wp2_with fail
            go_quiet (fail)
            go_wp2_with fail;refine⟨?_,by simp[intOf];exact fM.out⟩;first|(show ∃j':Nat,_;exact⟨j+1,q,A',c',xp,by go_num,rfl,kE.out.1,by rw[kE.out.2];exact aD,aA gQ _⟩)|((repeat apply Exists.intro);(repeat apply Exists.intro);(repeat apply Exists.intro);(repeat apply Exists.intro);refine⟨?_,rfl⟩;exact⟨j+1,q,A',c',xp,by go_num,rfl,kE.out.1,by rw[kE.out.2];exact aD,aA gQ _⟩)
          ·obtain rfl:j=n:=by omega
           have Vn:q=k:=by omega
           rw[Nat.min_eq_right Db,Vn]at aD;have bP:fu wr2 (some (ad2.add (i*6))) (m-i) (ys.drop i):=by
            have:=cn.cut (size:=6) (hr.below gQ) (k:=i) hi Ao;rw[if_neg Te,<-mH fj]at this;exact this
           have gq:=fun z hz=>hd.one z (List.mem_of_mem_drop (i:=i) hz)
           have tL:k+(m-i)<=1000000000:=by omega
           have uL:=h'.b.lt;subst Vn;clear q0 q1 hq hj xp;have mM:=h'.b;clear h';have Sh:ad2.block≠g:=Dg _ ⟨ad2,rfl,rfl⟩;go_wp2_with (at_builtin;refine aW rfl (.tmp 136) (.tmp 139) rfl w.heap.size rfl aD rfl bP gq tL gQ.size ?_;intro A7 c7 w7 eM pO io nf;obtain⟨KB,z7,hP⟩:=AS h gQ io eM hd hM.out dG.out hS c0x Sh;have f7:=KB.free 2;have g7:=KB.cell 2;replace hP:=zH hP;simp only[Zx]at g7;clear eM pO io nf)
           go_ret2
           exact⟨by rw[he.out];rfl,by rw[he.out];exact hP.out⟩
      ·obtain rfl:i=m:=by omega
       have he:=zH (uO.out (Hfd.out.trans (by rw[List.drop_eq_nil_of_le (by rw[List.length_map,xf.out];exact Nat.le_refl _)];rfl)));go_wp2_with fail
       go_ret2
       exact⟨by rw[he.out];rfl,by rw[he.out];exact fQ.same h hb⟩
  ·have he:=zH (dt.out (by rw[hv];rintro⟨h0,_⟩;injection h0 with h0;exact i2 h0));have i3:(v1==tm)=false:=beq_eq_false_iff_ne.2 i2;have i4:(v1 !=tm)=true:=by rw[bne,i3];rfl
   subst i1;have hv:=zH hv;clear dt;go_enter func46,ntmps46;go_wp2_with fail;refine bh.mono ?_;rintro e w1 ⟨rfl,rfl⟩;go_wp2_with fail
   go_ret2
   exact⟨by rw[he.out];rfl,by rw[he.out];exact fQ.same h zb⟩
 ·have he:=zH (dt.out (by rw[hv];rintro⟨h0,_⟩;injection h0 with h1 h2;exact i1 h2));have i3:(v2==0)=false:=beq_eq_false_iff_ne.2 i1;have i4:(v2 !=0)=true:=by rw[bne,i3];rfl
  have hv:=zH hv;clear dt;go_enter func46,ntmps46;go_wp2_with fail;refine bh.mono ?_;rintro e w1 ⟨rfl,rfl⟩;go_wp2_with fail
  go_ret2
  exact⟨by rw[he.out];rfl,by rw[he.out];exact fQ.same h zb⟩
end
def Hz(n:Int):Int:=if 1<=n/\n<=7 then n/2+1 else 0
theorem sn{n:Int}(h:¬(1<=n/\n<=7)):Hz n=0:=if_neg h
theorem pj{n:Int}(h:1<=n/\n<=7):Hz n=n/2+1:=if_pos h
theorem oe(n:Int)(w:World):Calls prog 139 #[.int .i64 n] w fun e w'=>e=.returned (.int .i64 (Hz n))/\w=w':=by
 by_cases h:1<=n/\n<=7
 ·have Hs:=zH (pj h);obtain⟨h1,h2⟩:=h;go_enter func139,ntmps139
  go_wp2
  go_ret;exact⟨by rw[Hs.out];rfl,rfl⟩
 ·have Hs:=zH (sn h);rcases(show n<1\/(1<=n/\7<n) by omega)with h1|⟨h1,h2⟩
  all_goals
   clear h;go_enter func139,ntmps139
   go_wp2
   go_ret;exact⟨by rw[Hs.out];rfl,rfl⟩
def gf(i t l u:Int):Bool:=decide (u<t\/(t=u/\l<=i))
theorem EG(i t l u:Int)(w:World):Calls prog 151 #[.int .i64 i,.int .i64 t,.int .i64 l,.int .i64 u] w fun e w'=>e=.returned (.bool (gf i t l u))/\w=w':=by
 rcases Int.lt_trichotomy u t with h|h|h
 ·have Hs:=zH (show gf i t l u=true from decide_eq_true (.inl h));go_enter func151,ntmps151
  go_wp2
  go_ret;exact⟨by rw[Hs.out];rfl,rfl⟩
 ·subst h;have E1:decide (u<u)=false:=by simp
  have E2:((u:Int)==u)=true:=by simp
  by_cases hl:l<=i
  ·have Hs:=zH (show gf i u l u=true from decide_eq_true (.inr ⟨rfl,hl⟩));go_enter func151,ntmps151
   go_wp2
   go_ret;exact⟨by rw[Hs.out];rfl,rfl⟩
  ·have Hs:=zH (show gf i u l u=false from decide_eq_false (by omega));have E3:decide (l<=i)=false:=by simp;omega
   go_enter func151,ntmps151
   go_wp2
   go_ret;exact⟨by rw[Hs.out];rfl,rfl⟩
 ·have Hs:=zH (show gf i t l u=false from decide_eq_false (by omega));have E1:decide (u<t)=false:=by simp;omega
  have E2:((t:Int)==u)=false:=by simp;omega
  have h':¬u<t:=by omega
  go_enter func151,ntmps151
  go_wp2
  go_ret;exact⟨by rw[Hs.out];rfl,rfl⟩
theorem wv(i t l u:Int)(w:World):Calls prog 115 #[.int .i64 i,.int .i64 t,.int .i64 l,.int .i64 u] w fun e w'=>e=.returned (.bool (gf i t l u))/\w=w':=by
 rcases Int.lt_trichotomy u t with h|h|h
 ·have Hs:=zH (show gf i t l u=true from decide_eq_true (.inl h));have E2:((t:Int) !=u)=true:=by rw[bne_iff_ne];omega
  go_enter func115,ntmps115
  go_wp2
  go_ret;exact⟨by rw[Hs.out];rfl,rfl⟩
 ·subst h;have E2:((u:Int) !=u)=false:=by simp
  by_cases hl:l<=i
  ·have Hs:=zH (show gf i u l u=true from decide_eq_true (.inr ⟨rfl,hl⟩));go_enter func115,ntmps115
   go_wp2
   go_ret;exact⟨by rw[Hs.out];rfl,rfl⟩
  ·have Hs:=zH (show gf i u l u=false from decide_eq_false (by omega));have E3:decide (l<=i)=false:=by simp;omega
   go_enter func115,ntmps115
   go_wp2
   go_ret;exact⟨by rw[Hs.out];rfl,rfl⟩
 ·have Hs:=zH (show gf i t l u=false from decide_eq_false (by omega));have E2:((t:Int) !=u)=true:=by rw[bne_iff_ne];omega
  have E1:decide (u<t)=false:=by simp;omega
  go_enter func115,ntmps115
  go_wp2
  go_ret;exact⟨by rw[Hs.out];rfl,rfl⟩
def M7(d:Int):Int:=if d<0 then -(d+1)else d
def gG(d:Int):Int:=10+M7 d%20
theorem yG{d:Int}(h:d<0):M7 d=-(d+1):=if_pos h
theorem za{d:Int}(h:¬d<0):M7 d=d:=if_neg h
theorem yf(d:Int)(h1:-9223372036854775808<=d)(h2:d<0):bits .xor .i64 (-1) d=-(d+1):=by
 show IntKind.i64.wrap ((BitVec.ofInt 64 (-1) ^^^ BitVec.ofInt 64 d).toNat:Int)=_;have h1:BitVec.ofInt 64 (-1)=BitVec.allOnes 64:=by decide
 rw[h1,BitVec.allOnes_xor,BitVec.toNat_not,BitVec.toNat_ofInt];simp[IntKind.wrap,IntKind.bits,IntKind.signed];omega
theorem zw(d:Int)(h2:d<0):wrap64 (10+(-(d+1)).tmod 20)=10+-(d+1)%20:=by
 rw[Int.tmod_eq_emod_of_nonneg (by omega)];unfold wrap64;omega
theorem Hl(d:Int)(w:World)(h1:-9223372036854775808<=d)(h2:d<=9223372036854775807):Calls prog 49 #[.int .i64 d] w fun e w'=>e=.returned (.int .i64 (gG d))/\w=w':=by
 by_cases h:d<0
 ·have Hs:=zH (show gG d=wrap64 (10+(bits .xor .i64 (-1) d).tmod 20) by unfold gG;rw[yG h,yf d h1 h,zw d h]);go_enter func49,ntmps49
  go_wp2
  go_ret;exact⟨by rw[Hs.out];rfl,rfl⟩
 ·have Hs:=zH (za h);go_enter func49,ntmps49
  go_wp2
  go_ret;exact⟨by unfold gG;rw[Hs.out];rfl,rfl⟩
theorem At(d:Int)(w:World)(h1:-9223372036854775808<=d)(h2:d<=9223372036854775807):Calls prog 55 #[.int .i64 d] w fun e w'=>e=.returned (.int .i64 (gG d))/\w=w':=by
 by_cases h:d<0
 ·have Hs:=zH (show gG d=wrap64 (10+-((d+1).tmod 20)) by unfold gG;rw[yG h,<-Int.neg_tmod,zw d h]);go_enter func55,ntmps55
  go_wp2
  go_ret;exact⟨by rw[Hs.out];rfl,rfl⟩
 ·have Hs:=zH (za h);go_enter func55,ntmps55
  go_wp2
  go_ret;exact⟨by unfold gG;rw[Hs.out];rfl,rfl⟩
def HZ(x:Nat):Nat:=((List.range 8).filter fun i=>x.testBit i).length
def p1(x:Int):Int:=IntKind.u64.wrap (bits .and .u64 (x/2) 6148914691236517205+bits .and .u64 x 6148914691236517205)
def p2(x:Int):Int:=IntKind.u64.wrap (bits .and .u64 (x/4) 3689348814741910323+bits .and .u64 x 3689348814741910323)
def p3(x:Int):Int:=bits .and .u64 (IntKind.u64.wrap (x/16+x)) 1085102592571150095
def p4(x:Int):Int:=IntKind.u64.wrap (x+x/256)
def p5(x:Int):Int:=IntKind.u64.wrap (x+x/65536)
def p6(x:Int):Int:=IntKind.u64.wrap (x+x/4294967296)
theorem JW:∀x,x<256->bits .and .i64 (wrap64 (p6 (p5 (p4 (p3 (p2 (p1 (x:Nat)))))))) 127=(HZ x:Nat):=by decide +kernel
theorem BB(x:Nat)(w:World)(hx:x<256):Calls prog 162 #[.int .u64 x] w fun e w'=>e=.returned (.int .i64 (HZ x:Nat))/\w=w':=by
 have Hs:=zH (JW x hx);go_enter func162,ntmps162
 go_wp2
 go_ret;refine⟨?_,rfl⟩;rw[<-Hs.out];rfl
def ly(n:Nat)(l:List Int):Nat:=((List.range n).filter fun i=>decide (((i+1:Nat):Int)∈l)).length
def lz(n:Int)(l:List Int):Bool:=decide ((1<=n/\n<=7)/\n<2*(ly n.toNat l:Int))
theorem uz(n:Nat)(l:List Int):ly (n+1) l=ly n l+if((n+1:Nat):Int)∈l then 1 else 0:=by
 unfold ly;rw[List.range_succ,List.filter_append,List.length_append];congr 1;by_cases h:((n+1:Nat):Int)∈l
 ·rw[if_pos h,List.filter_cons_of_pos (by exact decide_eq_true h)];rfl
 ·rw[if_neg h,List.filter_cons_of_neg (by simpa using h)];rfl
theorem rk(n:Nat)(l:List Int):ly n l<=n:=by
 unfold ly;exact Nat.le_trans (List.length_filter_le _ _) (by simp)
def zL(n:Int)(x:Nat)(s:Int):Nat:=if(1<=s/\s<=n)/\s<=7 then x|||2^s.toNat else x
def DU(n:Int)(l:List Int):Nat:=l.foldl (zL n) 0
theorem Hh(n:Int)(l:List Int)(s:Int):DU n (l++[s])=zL n (DU n l) s:=by simp[DU]
theorem Dd(s:Int)(h1:1<=s)(h7:s<=7):2^s.toNat<2^8:=Nat.pow_lt_pow_right (by omega) (by omega)
theorem IH(n:Int)(x:Nat)(s:Int)(h:x<256):zL n x s<256:=by
 unfold zL;split
 ·rename_i h';exact Nat.or_lt_two_pow (n:=8) h (Dd s h'.1.1 h'.2)
 ·exact h
theorem DT{α β:Type}(P:β->Prop)(f:β->α->β)(hf:∀b a,P b->P (f b a))(l:List α):∀b,P b->P (l.foldl f b):=by
 induction l with
 | nil=>intro b h;exact h
 | cons a l ih=>intro b h;exact ih _ (hf b a h)
theorem If(n:Int)(l:List Int):DU n l<256:=DT (· < 256) _ (fun b a h=>IH n b a h) l 0 (by omega)
theorem DH(n:Int)(i:Nat)(l:List Int):∀x:Nat,(l.foldl (zL n) x).testBit i=(x.testBit i||decide ((i:Int)∈l/\1<=i/\(i:Int)<=n/\i<=7)):=by
 induction l with
 | nil=>intro x;simp
 | cons s l ih=>
  intro x;rw[List.foldl_cons,ih];unfold zL;by_cases h:(1<=s/\s<=n)/\s<=7
  ·rw[if_pos h,Nat.testBit_or,Nat.testBit_two_pow];by_cases e:s.toNat=i
   ·have e':s=(i:Int):=by omega
    subst e';have:(1<=i/\(i:Int)<=n/\i<=7):=by omega
    simp[this]
   ·have e':¬(i:Int)=s:=by omega
    simp[e,e']
  ·rw[if_neg h];by_cases e':(i:Int)=s
   ·subst e';have:¬(1<=i/\(i:Int)<=n/\i<=7):=by omega
    simp[this]
   ·simp[e']
theorem I1(n:Int)(l:List Int)(i:Nat):(DU n l).testBit i=decide ((i:Int)∈l/\1<=i/\(i:Int)<=n/\i<=7):=by
 unfold DU;rw[DH];simp
theorem GR(n:Nat)(hn:n<=7)(l:List Int):HZ (DU n l)=ly n l:=by
 have key:∀k,k<=8->((List.range k).filter fun i=>(DU n l).testBit i).length=ly (min (k-1) n) l:=by
  intro k;induction k with
  | zero=>intro _;simp[ly]
  | succ k ih=>
   intro hk;rw[List.range_succ,List.filter_append,List.length_append,ih (by omega)];simp only[List.filter_cons,List.filter_nil,I1];by_cases TK:k=0
   ·subst TK;simp
   by_cases Db:k<=n
   ·obtain⟨j,rfl⟩:∃j,k=j+1:=⟨k-1,by omega⟩;rw[show min (j+1-1) n=j by omega,show min (j+1+1-1) n=j+1 by omega,uz];by_cases hm:((j+1:Nat):Int)∈l
    ·rw[if_pos hm,if_pos (by simp only[decide_eq_true_eq];exact⟨hm,by omega⟩)];rfl
    ·rw[if_neg hm,if_neg (by simp only[decide_eq_true_eq];exact fun h=>hm h.1)];rfl
   ·rw[show min (k-1) n=min (k+1-1) n by omega,if_neg (by simp only[decide_eq_true_eq];omega)];rfl
 have:=key 8 (by omega);rw[show min (8-1) n=n by omega]at this;exact this
theorem QC(x:Nat)(hx:x<256)(s:Int)(h1:1<=s)(h7:s<=7):bits .or .u64 (x:Int) (IntKind.u64.wrap (2^s.toNat))=((x|||2^s.toNat:Nat):Int):=by
 have hp:=Dd s h1 h7;have e:IntKind.u64.wrap (2^s.toNat)=((2^s.toNat:Nat):Int):=by
  rw[IntKind.wrap_u64,show((2:Int)^s.toNat)=((2^s.toNat:Nat):Int) by simp];exact Int.emod_eq_of_lt (Int.natCast_nonneg _) (by omega)
 rw[e,bits_or_u64_nat x _ (by omega) (by omega)]
theorem vg{k m c:Nat}(h:k<m)(hc:m<=c)(hm:c<=maxLen):wrap64 ((k:Int)+1)=((k+1:Nat):Int):=by
 unfold maxLen at hm;unfold wrap64;omega
theorem FO(x:Nat)(w:World)(hx:x<256):Calls prog 150 #[.int .u64 x] w fun e w'=>e=.returned (.int .i64 (HZ x:Nat))/\w=w':=by
 go_enter func150,ntmps150;go_wp2_with fail;refine(BB x _ hx).mono ?_;rintro e w' ⟨rfl,rfl⟩;go_wp2_with fail;go_ret;exact⟨rfl,rfl⟩
theorem CS(n:Int)(A:Option Addr)(m c:Nat)(l:List Int)(w:World)(hl:fB w A m l)(hm:c<=maxLen)(Ao:m<=c) :
  Calls prog 132 #[.int .i64 n,.slice A m c] w fun e w'=>e=.returned (.bool (lz n l))/\w=w':=by
 have ah:=hl.len;go_enter func132,ntmps132;go_wp2_with fail
 go_loop [5,11] (fun a b=>∃k,k<=m/\a=.int .u64 ((DU n (l.take k):Nat):Int)/\b=.int .i64 (k:Nat)) (fun a b=>(m-intOf b).toNat)
 case atStart=>exact⟨0,by omega,rfl,rfl⟩
 case round=>
  obtain⟨k,hk,rfl,rfl⟩:=hrel;by_cases aU:k<m
  ·obtain⟨ad,rfl,ee⟩:=hl.at_ aU;have wk:=vg aU Ao hm;have hx:=If n (l.take k);have es:=uA l 0 k (by omega);have hn:DU n (l.take (k+1))=zL n (DU n (l.take k)) (l[k]?.getD 0):=by rw[es,Hh]
   clear es;generalize l[k]?.getD 0=s at *;generalize DU n (l.take k)=x at *;go_wp2_with fail
   all_goals
    rw[wk];refine⟨⟨k+1,by omega,?_,rfl⟩,by simp[intOf];omega⟩;rw[hn];unfold zL
    first
     | (rw[if_pos (by omega),QC x hx s (by omega) (by omega)];done)
     | rw[if_neg (by omega)]
  ·obtain rfl:k=m:=by omega
   rw[List.take_of_length_le (by omega:l.length<=k)];have hx:=If n l;by_cases h:1<=n/\n<=7
   ·have hs:=pj h;have hp:HZ (DU n l)=ly n.toNat l:=by
     have:=GR n.toNat (by omega) l
     rwa [show(n.toNat:Int)=n by omega]at this
    have hw:lz n l=decide (n/2+1<=(ly n.toNat l:Nat)):=by
     unfold lz;exact decide_eq_decide.2 (by omega)
    have Hw:=zH hw;clear hw;obtain⟨h1,h2⟩:=h;go_wp2_with fail;refine(oe n _).mono ?_;rintro e w' ⟨rfl,rfl⟩;rw[hs];clear hs;go_wp2_with fail;refine(FO _ _ hx).mono ?_;rintro e w' ⟨rfl,rfl⟩;rw[hp];go_wp2_with fail;go_ret;exact⟨by rw[Hw.out];rfl,rfl⟩
   ·have hs:=sn h;have Hw:=zH (show lz n l=false from decide_eq_false fun h'=>h h'.1);clear h;go_wp2_with fail;refine(oe n _).mono ?_;rintro e w' ⟨rfl,rfl⟩;rw[hs];clear hs;go_wp2_with fail;go_ret;exact⟨by rw[Hw.out];rfl,rfl⟩
theorem Bf{s:Int}{k:Nat}(h:((k+1:Nat):Int)=s)(hk:k<7):wrap64 (s+1)=((k+1+1:Nat):Int):=by
 unfold wrap64;omega
theorem Ny{k n:Nat}(h:k<=n)(hk:n<7):wrap64 ((k:Int)+1)=((k+1:Nat):Int):=by
 unfold wrap64;omega
theorem QB{m j:Nat}(h:j<m):((m:Int)-intOf (.int .i64 ((j+1:Nat):Int))).toNat<((m:Int)-intOf (.int .i64 ((j:Nat):Int))).toNat:=by
 simp only[intOf];omega
theorem Gp{m j:Nat}{s:Int}(h:j<m)(hs:((j+1:Nat):Int)=s):((m:Int)+1-intOf (.int .i64 ((j+1+1:Nat):Int))).toNat<((m:Int)+1-intOf (.int .i64 s)).toNat:=by
 simp only[intOf];omega
theorem Hp(l:List Int)(x s:Int):decide (s∈l++[x])=(decide (s∈l)||decide (x=s)):=by
 rw[Bool.eq_iff_iff,Bool.or_eq_true,decide_eq_true_eq,decide_eq_true_eq,decide_eq_true_eq,List.mem_append,List.mem_singleton];exact or_congr Iff.rfl ⟨Eq.symm,Eq.symm⟩
theorem sV(n:Int)(A:Option Addr)(m c:Nat)(l:List Int)(w:World)(hl:fB w A m l)(hm:c<=maxLen)(Ao:m<=c) :
  Calls prog 134 #[.int .i64 n,.slice A m c] w fun e w'=>e=.returned (.bool (lz n l))/\w=w':=by
 have ah:=hl.len;by_cases h:1<=n/\n<=7
 ·obtain⟨N,rfl⟩:∃N:Nat,n=N:=⟨n.toNat,by omega⟩;have hw:lz N l=decide ((N:Int)<2*(ly N l:Int)):=by
   unfold lz;exact decide_eq_decide.2 (by rw[Int.toNat_natCast];omega)
  have Hw:=zH hw;clear hw;obtain⟨h1,h2⟩:=h;go_enter func134,ntmps134;go_wp2_with fail
  go_loop [5,6] (fun a b=>∃k:Nat,k<=N/\a=.int .i64 (ly k l:Nat)/\b=.int .i64 (k+1:Nat)) (fun a b=>(N+1-intOf b).toNat)
  case atStart=>exact⟨0,by omega,rfl,rfl⟩
  case round=>
   obtain⟨k,hk,rfl,rfl⟩:=hrel;by_cases aU:k<N
   ·have eB:=rk k l;generalize hs:((k+1:Nat):Int)=s at *;have cl:(k:Int)+1=s:=by omega
    have tM:s<=N:=by omega
    have mM:k<7:=by omega
    go_wp2_with fail
    go_loop [7,8] (fun a b=>∃j:Nat,j<=m/\a=.bool (decide (s∈l.take j))/\b=.int .i64 (j:Nat)) (fun a b=>(m-intOf b).toNat)
    case atStart=>exact⟨0,by omega,by simp,rfl⟩
    case round=>
     obtain⟨j,hj,rfl,rfl⟩:=hrel;by_cases nj:j<m
     ·obtain⟨ad,rfl,ee⟩:=hl.at_ nj;have es:=uA l 0 j (by omega);have hn:=Hp (l.take j) (l[j]?.getD 0) s;rw[<-es]at hn;clear es;generalize l[j]?.getD 0=x at *;generalize decide (s∈l.take j)=p at *;have hxs:(x==s)=decide (x=s):=rfl;have wk:=vg nj Ao hm;cases p
      ·go_wp2_with fail;rw[wk];refine⟨⟨j+1,?_,?_,rfl⟩,?_⟩
       ·exact nj
       ·rw[hn,Bool.false_or]
       ·exact QB nj
      ·go_wp2_with fail;rw[wk];refine⟨⟨j+1,?_,?_,rfl⟩,?_⟩
       ·exact nj
       ·rw[hn,Bool.true_or]
       ·exact QB nj
     ·obtain rfl:j=m:=by omega
      rw[List.take_of_length_le (by omega:l.length<=j)];have cu:=uz k l;have wk:=zH (Bf hs mM);have wc:=zH (Ny (rk k l) mM);have eB:=rk k l;have Hm:=zH (Gp aU hs);rw[hs]at cu;clear hs cl mM;by_cases wG:s∈l
      ·rw[decide_eq_true wG];rw[if_pos wG]at cu;clear wG;have Hcs:=zH cu;clear cu;go_wp2_with fail;rw[wk.out];exact⟨⟨k+1,aU,by rw[Hcs.out];rfl,rfl⟩,Hm.out⟩
      ·rw[decide_eq_false wG];rw[if_neg wG]at cu;clear wG;have Hcs:=zH cu;clear cu;go_wp2_with fail;rw[wk.out];exact⟨⟨k+1,aU,by rw[Hcs.out];rfl,rfl⟩,Hm.out⟩
   ·obtain rfl:k=N:=by omega
    have eB:=rk k l;have cl:((k+1:Nat):Int)=(k:Int)+1:=by omega
    go_wp2_with fail;go_ret;exact⟨by rw[Hw.out];rfl,rfl⟩
 ·have Hw:=zH (show lz n l=false from decide_eq_false fun h'=>h h'.1);rcases(show n<1\/(1<=n/\7<n) by omega)with h1|⟨h1,h2⟩
  all_goals
   clear h;go_enter func134,ntmps134;go_wp2_with fail;go_ret;exact⟨by rw[Hw.out];rfl,rfl⟩
section
open Go.Shelf
def Ph:Go.Shelf.Ren:=⟨fun|189=>140|125=>153|257=>152|128=>172|129=>173|294=>163|295=>164|296=>165|297=>166|298=>167|299=>168|216=>169|300=>170|301=>171|328=>179|329=>180|330=>181|331=>182|332=>183|215=>184|343=>190|n=>n,fun|28=>76|3=>3|46=>197|0=>0|51=>206|53=>208|4=>4|183=>211|182=>210|131=>111|5=>5|9=>9|218=>220|222=>224|228=>227|229=>113|n=>n,fun|n=>n⟩
theorem MJ:Go.Proofs.Lays.n189 prog Ph:={
 mixed:=by kernel_rfl
 f125:=func153.trans (congrArg some (by kernel_rfl))
 f128:=func172.trans (congrArg some (by kernel_rfl))
 f129:=func173.trans (congrArg some (by kernel_rfl))
 f189:=func140.trans (congrArg some (by kernel_rfl))
 f215:=func184.trans (congrArg some (by kernel_rfl))
 f216:=func169.trans (congrArg some (by kernel_rfl))
 f257:=func152.trans (congrArg some (by kernel_rfl))
 f294:=func163.trans (congrArg some (by kernel_rfl))
 f295:=func164.trans (congrArg some (by kernel_rfl))
 f296:=func165.trans (congrArg some (by kernel_rfl))
 f297:=func166.trans (congrArg some (by kernel_rfl))
 f298:=func167.trans (congrArg some (by kernel_rfl))
 f299:=func168.trans (congrArg some (by kernel_rfl))
 f300:=func170.trans (congrArg some (by kernel_rfl))
 f301:=func171.trans (congrArg some (by kernel_rfl))
 f328:=func179.trans (congrArg some (by kernel_rfl))
 f329:=func180.trans (congrArg some (by kernel_rfl))
 f330:=func181.trans (congrArg some (by kernel_rfl))
 f331:=func182.trans (congrArg some (by kernel_rfl))
 f332:=func183.trans (congrArg some (by kernel_rfl))
 f343:=func190.trans (congrArg some (by kernel_rfl))
 t0:=underlying0
 a0:=isAgg0
 z0:=sizeOf0
 v0:=zeroValue0
 t3:=underlying3
 a3:=isAgg3
 z3:=sizeOf3
 v3:=zeroValue3
 t4:=underlying4
 a4:=isAgg4
 z4:=sizeOf4
 v4:=zeroValue4
 t5:=underlying5
 a5:=isAgg5
 z5:=sizeOf5
 v5:=zeroValue5
 t9:=underlying9
 a9:=isAgg9
 z9:=sizeOf9
 v9:=zeroValue9
 t28:=underlying76
 a28:=isAgg76
 z28:=sizeOf76
 v28:=zeroValue76
 t46:=underlying197
 a46:=isAgg197
 z46:=sizeOf197
 v46:=zeroValue197
 t51:=underlying206
 a51:=isAgg206
 z51:=sizeOf206
 v51:=zeroValue206
 t53:=underlying208
 a53:=isAgg208
 z53:=sizeOf208
 v53:=zeroValue208
 t131:=underlying111
 a131:=isAgg111
 z131:=sizeOf111
 v131:=zeroValue111
 t182:=underlying210
 a182:=isAgg210
 z182:=sizeOf210
 v182:=zeroValue210
 t183:=underlying211
 a183:=isAgg211
 z183:=sizeOf211
 v183:=zeroValue211
 t218:=underlying220
 a218:=isAgg220
 z218:=sizeOf220
 v218:=zeroValue220
 t222:=underlying224
 a222:=isAgg224
 z222:=sizeOf224
 v222:=zeroValue224
 t228:=underlying227
 a228:=isAgg227
 z228:=sizeOf227
 v228:=zeroValue227
 t229:=underlying113
 a229:=isAgg113
 z229:=sizeOf113
 v229:=zeroValue113}
end
section
open Go.Sort hiding Below
def pp(N:Nat)(l:List Int)(k:Nat):List Int:=(List.range N).map fun i=>if i<k then max 0 (l[i]?.getD 0)else 0
theorem tn(N:Nat)(l:List Int)(k:Nat):(pp N l k).length=N:=by simp[pp]
theorem lF(N:Nat)(l:List Int)(k i:Nat)(h:i<N):(pp N l k)[i]?=some (if i<k then max 0 (l[i]?.getD 0)else 0):=by
 simp[pp,h]
theorem mB(N:Nat)(l:List Int)(k i:Nat)(h:N<=i):(pp N l k)[i]?=none:=List.getElem?_eq_none (by rw[tn];exact h)
theorem Ht(N:Nat)(l:List Int)(k:Nat)(h:k<N):(pp N l k).set k (max 0 (l[k]?.getD 0))=pp N l (k+1):=by
 refine List.ext_getElem? fun i=>?_
 rcases Nat.lt_or_ge i N with hi|hi
 ·rw[lF _ _ _ _ hi,List.getElem?_set];by_cases e:k=i
  ·subst e;rw[if_pos rfl,if_pos (by rw[tn];exact h),if_pos (Nat.lt_succ_self _)]
  ·rw[if_neg e,lF _ _ _ _ hi];by_cases h2:i<k
   ·rw[if_pos h2,if_pos (by omega)]
   ·rw[if_neg h2,if_neg (by omega)]
 ·rw[mB _ _ _ _ hi,List.getElem?_eq_none (by rw[List.length_set,tn];exact hi)]
theorem Ea(N:Nat)(l:List Int)(k:Nat)(h:l.length<=k):pp N l (k+1)=pp N l k:=by
 refine List.ext_getElem? fun i=>?_
 rcases Nat.lt_or_ge i N with hi|hi
 ·rw[lF _ _ _ _ hi,lF _ _ _ _ hi];by_cases e:i=k
  ·subst e;rw[if_pos (Nat.lt_succ_self _),if_neg (Nat.lt_irrefl _),List.getElem?_eq_none h];rfl
  ·by_cases h2:i<k
   ·rw[if_pos h2,if_pos (by omega)]
   ·rw[if_neg h2,if_neg (by omega)]
 ·rw[mB _ _ _ _ hi,mB _ _ _ _ hi]
def oJ(N:Nat)(l:List Int):List Int:=(List.range N).map fun i=>max 0 (l[i]?.getD 0)
theorem G8(N:Nat)(l:List Int):pp N l N=oJ N l:=by
 unfold pp oJ;refine List.map_congr_left fun i hi=>if_pos (List.mem_range.1 hi)
def tz(l:List Int):List Int:=l.mergeSort fun x y=>decide (x<=y)
theorem nU(l:List Int):(tz l).length=l.length:=List.length_mergeSort l
def F9(N:Nat)(l:List Int):Int:=(tz (oJ N l))[N-(N/2+1)]?.getD 0
def eO(n:Int)(l:List Int):Int:=if 1<=n/\n<=7 then F9 n.toNat l else 0
theorem sL{n:Int}(h:¬(1<=n/\n<=7))(l:List Int):eO n l=0:=if_neg h
theorem jL{N:Nat}(h:1<=(N:Int)/\(N:Int)<=7)(l:List Int):eO N l=F9 N l:=by unfold eO;rw[if_pos h];rfl
theorem xa{g:Nat}{w:World}{xs:Array Int}{n:Nat}{os:Array Obj}(hg:g<w.heap.size):Below g w (grow (putRow (Value.int .i64) (Sort.ahead w n) g 0 xs) os):=by
 refine⟨rfl,rfl,rfl,?_,fun k hk=>?_⟩
 ·simp[grow,putRow,mapBlock,Sort.ahead]
 ·rw[heap_grow_old _ _ (by simp[putRow,mapBlock,Sort.ahead];omega)];simp only[putRow,mapBlock,Array.getElem?_modify];rw[if_neg (by omega)];rfl
theorem G7{w:World}{base g n c:Nat}{T:TypeId}{l:List Int}(h:w.ownsRow base T 1 (.slice (some ⟨g,0,none⟩) n c) n (l.map vi))(hg:g<w.heap.size)(hn:n<=1000000000) :
  Calls prog 140 #[.slice (some ⟨g,0,none⟩) n c] w fun e w'=>e=.returned (.tuple #[])/\(∀j,j<n->w'.cell? ⟨g,j,none⟩=some (.int .i64 ((tz l)[j]?.getD 0)))/\Below g w w':=by
 have hl:l.length=n:=by have:=h.1;simpa using this
 have hH:Holds (Value.int .i64) w g 0 l.toArray:=fun j hj=>by
  have Jt:j<l.length:=by simpa using hj
  obtain⟨g',e,_,h1,h2⟩:=lW h (k:=j) (by omega);injection e with e;injection e with e;subst e;rw[Nat.zero_add];refine⟨h1.trans ?_,h2⟩;simp[List.getElem?_eq_getElem Jt]
 have:=Any.slices_Sort_int MJ g 0 c l w hH hg (by omega);rw[hl]at this;refine this.mono ?_;rintro e w' ⟨rfl,q,os,rfl⟩;refine⟨rfl,fun j hj=>?_,xa hg⟩;have YO:Holds (Value.int .i64) (Sort.ahead w q) g 0 l.toArray:=holds_ahead _ _ _ _ _ _ hH;rw[cell?_grow _ _ _ (by simp[putRow,mapBlock,Sort.ahead];exact hg)];have hs:(tz l).toArray.size=l.toArray.size:=by simp[nU]
 have:=(holds_putRow (Value.int .i64) (Sort.ahead w q) g 0 l.toArray (tz l).toArray YO hs j (by simp[nU];omega)).1;rw[Nat.zero_add]at this;refine this.trans ?_;have:j<(tz l).length:=by rw[nU];omega
 simp[List.getElem?_eq_getElem this]
theorem Cl(N:Nat)(l:List Int):(madeCells (Value.int .i64 0).cells (N*1)).toList=(pp N l 0).map vi:=by
 refine List.ext_getElem? fun i=>?_
 rcases Nat.lt_or_ge i N with hi|hi
 ·rw[List.getElem?_map,lF _ _ _ _ hi];simp[madeCells,vi,hi,Value.cells,Nat.mod_one]
 ·rw[List.getElem?_map,mB _ _ _ _ hi];simp[madeCells,hi]
theorem M3{k N:Nat}(h:k<N)(h7:N<=7):wrap64 ((k:Int)+1)=((k+1:Nat):Int):=by
 unfold wrap64;omega
theorem ky(n:Int)(A:Option Addr)(m c:Nat)(l:List Int)(w:World)(hl:fB w A m l) :
  Calls prog 110 #[.int .i64 n,.slice A m c] w fun e w'=>e=.returned (.int .i64 (eO n l))/\Below w.heap.size w w':=by
 have ah:=hl.len;by_cases h:1<=n/\n<=7
 ·obtain⟨N,rfl⟩:∃N:Nat,n=N:=⟨n.toNat,by omega⟩;have Hw:=zH (jL h l);have hs:=pj h;have Yw:1<=N:=by omega
  have Wn:N<=7:=by omega
  clear h;go_enter func110,ntmps110;go_wp2_with fail;refine(oe _ _).mono ?_;rintro e w' ⟨rfl,rfl⟩;rw[hs];clear hs;go_wp2_with fail;obtain⟨i0,iy,jK,iL,gL⟩:=info_parts rJ;obtain⟨w1,lv,r1,r2⟩:=run_make_full (P:=prog) w w.heap.size 76 3 i0 _ 1 underlying76 iy jK iL .i64 .i64 N (by rw[gL];omega) (by unfold maxLen;omega) zl;rw[lv];clear lv;rw[Cl N l]at r1;have bs:Below w.heap.size w w1:=zb.grown r2 zl (fun k hk=>by cases hk);go_wp2_with fail
  go_loopw [15] (fun i wr=>∃k:Nat,k<=N/\i=.int .i64 k/\wr.ownsRow w.heap.size 3 1 (.slice (some ⟨w.heap.size,0,none⟩) N N) N ((pp N l k).map vi)/\Below w.heap.size w wr) (fun i _=>N-(intOf i).toNat)
  case atStart=>exact⟨0,Nat.zero_le _,rfl,r1,bs⟩
  case round=>
   obtain⟨k,hk,rfl,aD,hb⟩:=hrel;by_cases aU:k<N
   ·have wk:=zH (M3 aU Wn);by_cases Ro:k<m
    ·obtain⟨ad,rfl,fX⟩:=hl.at_ Ro;have hc:=(hb.cell (aw fX)).trans fX;have aE:=aD.stored k (vi (max 0 (l[k]?.getD 0)));rw[<-List.map_set,Ht N l k aU]at aE;obtain⟨g',e,_,nS,iC⟩:=lW aD aU;injection e with e;injection e with e;subst e;generalize l[k]?.getD 0=x at *;go_wp2_with fail;refine⟨⟨k+1,aU,by go_num,aE.1,hb.setCell zl _⟩,by simp[intOf];omega⟩
    ·have mA:=Ea N l k (by omega);go_wp2_with fail;exact⟨⟨k+1,aU,by go_num,by rw[mA];exact aD,hb⟩,by simp[intOf];omega⟩
   ·obtain rfl:k=N:=by omega
    rw[G8]at aD;have gu:w.heap.size<wr.heap.size:=by
     obtain⟨g',e,_,nS,_⟩:=lW aD (k:=0) (by omega);injection e with e;injection e with e;subst e;exact aw nS
    have KC:=G7 aD gu (by omega);go_wp2_with fail;refine KC.mono ?_;rintro e w2 ⟨rfl,V8,bJ⟩;clear KC;have hq:=V8 (k-(k/2+1)) (by omega);clear V8;have bS:=hb.trans bJ;generalize hr:(tz (oJ k l))[k-(k/2+1)]?.getD 0=r at hq;have Hr:=zH (Hw.out.trans hr);clear hr Hw r1 r2 bs aD gu hb bJ hl aU hk;rcases(show k=1\/k=2\/k=3\/k=4\/k=5\/k=6\/k=7 by omega)with rfl|rfl|rfl|rfl|rfl|rfl|rfl
    all_goals
     simp only[Nat.reduceDiv,Nat.reduceAdd,Nat.reduceSub]at hq;go_wp2_with fail;go_ret;exact⟨by rw[Hr.out];rfl,bS⟩
 ·have Hw:=zH (sL h l);have hs:=sn h;clear h;go_enter func110,ntmps110;go_wp2_with fail;refine(oe _ _).mono ?_;rintro e w' ⟨rfl,rfl⟩;rw[hs];clear hs;go_wp2_with fail;go_ret;exact⟨by rw[Hw.out];rfl,Below.refl _ _⟩
end
end Go.Proofs.YtjcninheccmpoaaGreat
