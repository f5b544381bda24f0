import Derived.Test.YtjcninheccmpoaaGreatM1
import Derived.Lib.SliceRun
import Derived.Deep.DeepCutAuto
import Derived.Deep.CutBlock
set_option maxRecDepth 100000
set_option maxHeartbeats 8000000
set_option linter.all false
namespace Go.Proofs.YtjcninheccmpoaaGreat
open Go.RowKit Go.Proofs.Tryz
theorem yI(S:Nat->Prop)(v:Value)(m:Nat)(A:Option Addr)(n c:Nat)(fs:List Fa)(w:World)(hv:Bn w v m)(hm:m<=10000)(hf:aG S w (.slice A n c) fs)(hn:n<=maxLen) :
  Calls prog 160 #[v,.slice A n c] w fun e w'=>∃v',e=.returned (.tuple #[v',.int .i64 (qK fs)])/\Below w.heap.size w w':=by
 have H1:=zH (mC hf);unfold maxLen at hn;by_cases h8:8<n
 ·have hE:=zH (uo (fs:=fs) (by rw[H1.out];exact h8));go_enter func160,ntmps160;go_wp2_with fail
  go_ret2
  exact⟨_,by rw[hE.out];rfl,Below.refl _ _⟩
 ·go_enter func160,ntmps160;go_wp2_with fail;refine(cO v m _ w hv (by omega)).mono ?_;rintro e w1 ⟨v1,n1,rfl,Sv,iI,bs⟩;go_wp2_with fail
  go_loopw [6,7] (fun b i wr=>∃(k q:Nat),k<=n/\i=.int .i64 k/\Bn wr b q/\q<=10010+200*k/\(∀j f,j<k->fs[j]?=some f->eP f=true)/\Below w.heap.size w wr) (fun _ i _=>n-(intOf i).toNat)
  case atStart=>exact⟨0,n1,Nat.zero_le _,rfl,Sv.bn,by omega,fun j f h=>by omega,bs⟩
  case round=>
   obtain⟨k,q,hk,rfl,fi,hq,dt,hb⟩:=hrel;have Hno:=zH dt;clear dt;by_cases aU:k<n
   ·obtain⟨ad,f,B,mp,d,C,mv,r,rfl,DW,c0,c1,hp,Oh,vw,Fb,mx,JU,KP,wN⟩:=(hf.keep (bz.below (S:=S) hb)).at_ aU;have aP:=zH (show n-(k+1)<n-k by omega);have l0:=aw c0;have l1:=aw c1;have Hpl:=zH mx;have Hvl:=zH wN;clear mx wN;go_wp2_with fail;refine(vR _ _ _ _ _ _ _ f _ hp Oh (Nat.le_trans vw Fb) (Nat.le_trans JU KP)).mono ?_;rintro e w3 ⟨rfl,bS⟩;have c0':=(bS.cell l0).trans c0;have c1':=(bS.cell (p:=⟨(ad.add (k*2)).block,(ad.add (k*2)).off+1,none⟩) l1).trans c1;cases jv:eP f with
    | false=>
     have hE:=zH (zh (fs:=fs) (by rw[H1.out];exact h8) (List.mem_of_getElem? DW) jv);clear DW;go_wp2_with fail
     go_ret2
     exact⟨_,by rw[hE.out];rfl,ab hb bS zl⟩
    | true=>
     have Hst:=zH (show ∀j y,j<k+1->fs[j]?=some y->eP y=true from fun j y hj hy=>by
      rcases Nat.lt_or_ge j k with h|h
      ·exact Hno.out j y h hy
      ·obtain rfl:j=k:=by omega
       obtain rfl:f=y:=Option.some.inj (DW.symm.trans hy);exact jv)
     obtain⟨N8,Ex,fY⟩:=kK jv;rw[Hpl.out]at Ex;rw[Hvl.out]at fY;have Hps:=zH N8;clear DW jv N8;go_wp2_with fail;refine(cO _ q _ w3 (fi.below bS) (by omega)).mono ?_;rintro e w4 ⟨v4,n4,rfl,LW,Em,cz⟩;have rZ:=ab bS cz zl;have U6:=hp.keep (bz.below (S:=S) rZ);have iN:=ab hb rZ zl;have d0:=(rZ.cell l0).trans c0;have d1:=(rZ.cell (p:=⟨(ad.add (k*2)).block,(ad.add (k*2)).off+1,none⟩) l1).trans c1;have e0:(ad.add (k*2)).block<w4.heap.size:=Nat.lt_of_lt_of_le l0 rZ.size;clear c0' c1';unfold maxLen at Fb KP;go_wp2_with fail
     go_loopw [6,9] (fun b i wr'=>∃(k' q':Nat),k'<=mp/\i=.int .i64 k'/\Bn wr' b q'/\q'<=n4+49*k'/\Below w4.heap.size w4 wr') (fun _ i _=>mp-(intOf i).toNat)
     case atStart=>exact⟨0,n4,Nat.zero_le _,rfl,LW.bn,by omega,Below.refl _ _⟩
     case round=>
      obtain⟨k',q',BK,rfl,Fn,PZ,jH⟩:=hrel;have f0:=(jH.cell (p:=ad.add (k*2)) e0).trans d0;by_cases ku:k'<mp
      ·obtain⟨ad',p,B',m',d',rfl,jz,IF,xA,Qr,U7,NH⟩:=(U6.keep (bz.below (S:=S) jH)).at_ ku;have mO:=Hps.out p (List.mem_of_getElem? jz);have fM:=zH (show mp-(k'+1)<mp-k' by omega);clear jz NH;go_wp2_with fail;refine(xM _ _ _ p _ xA.rd mO).mono ?_;rintro e w5 ⟨s,rfl,hs,cD⟩;go_wp2_with fail;refine(sA _ q' s _ (Fn.below cD) (by omega) (by omega)).mono ?_;rintro e w6 ⟨v6,n6,rfl,SS,Kj,gz⟩;go_wp2_with fail
       go_roundw
       case rel=>exact⟨k'+1,n6,ku,by go_num,SS.bn,by omega,ab (ab jH cD zl) gz zl⟩
       case measure=>simp[intOf];exact fM.out
      ·obtain rfl:k'=mp:=by omega
       obtain⟨w7,rfl⟩:∃wo:World,wo=wr:=⟨_,rfl⟩;have f1:=(jH.cell (p:=⟨(ad.add (k*2)).block,(ad.add (k*2)).off+1,none⟩) e0).trans d1;have DD:=ab rZ jH zl;have mR:=ab iN jH zl;go_wp2_with fail;refine(cO _ q' _ w7 Fn (by omega)).mono ?_;rintro e w8 ⟨v8,n8,rfl,ST,YF,ug⟩;have e7:(ad.add (k*2)).block<w7.heap.size:=Nat.lt_of_lt_of_le e0 jH.size;have g1:=(ug.cell (p:=⟨(ad.add (k*2)).block,(ad.add (k*2)).off+1,none⟩) e7).trans f1;have e8:(ad.add (k*2)).block<w8.heap.size:=Nat.lt_of_lt_of_le e7 ug.size;have xy:=Oh.keep (bz.below (S:=S) (ab DD ug zl));have xO:=ab mR ug zl;clear f0 f1 d0 d1 c0 c1;go_wp2_with fail
       go_loopw [6,12] (fun b i wr'=>∃(j' p':Nat),j'<=mv/\i=.int .i64 j'/\Bn wr' b p'/\p'<=n8+10*j'/\Below w8.heap.size w8 wr') (fun _ i _=>mv-(intOf i).toNat)
       case atStart=>exact⟨0,n8,Nat.zero_le _,rfl,ST.bn,by omega,Below.refl _ _⟩
       case round=>
        obtain⟨j',p',Jt,rfl,zQ,RQ,xU⟩:=hrel;have h1:=(xU.cell (p:=⟨(ad.add (k*2)).block,(ad.add (k*2)).off+1,none⟩) e8).trans g1;by_cases yz:j'<mv
        ·obtain⟨ad',rfl,IF⟩:=(xy.keep (bz.below (S:=S) xU)).rd.at_ yz;have fM:=zH (show mv-(j'+1)<mv-j' by omega);generalize f.vals[j']?.getD 0=z at *;go_wp2_with fail;refine(cO _ p' _ _ zQ (by omega)).mono ?_;rintro e w9 ⟨v9,n9,rfl,Tf,PY,my⟩;go_wp2_with fail
         go_roundw
         case rel=>exact⟨j'+1,n9,yz,by go_num,Tf.bn,by omega,ab xU my zl⟩
         case measure=>simp[intOf];exact fM.out
        ·obtain rfl:j'=mv:=by omega
         go_wp2_with fail
         go_roundw
         case rel=>exact⟨k+1,p',aU,by go_num,zQ,by omega,Hst.out,ab xO xU zl⟩
         case measure=>simp[intOf];exact aP.out
   ·obtain rfl:k=n:=by omega
    have hE:=zH (CL (fs:=fs) (by rw[H1.out];exact h8) (fun f hf=>by
     obtain⟨i,hi,e⟩:=List.getElem_of_mem hf;exact Hno.out i f (by rw[<-H1.out];exact hi) (by rw[List.getElem?_eq_getElem hi,e])))
    go_wp2_with fail
    go_ret2
    exact⟨_,by rw[hE.out];rfl,hb⟩
theorem qR{z k:Int}(h:z<k):eC z k=false:=by unfold eC;rw[decide_eq_false (by omega)];rfl
theorem rh{z k:Int}(h:1099511627776<z):eC z k=false:=by unfold eC;rw[decide_eq_false (show ¬z<=1099511627776 by omega)];simp
theorem qU{z k:Int}(h:k<=z)(h':z<=1099511627776):eC z k=true:=by unfold eC;rw[decide_eq_true h,decide_eq_true h'];rfl
theorem uk(S:Nat->Prop)(v:Value)(m:Nat)(x:En)(A:Option Addr)(n c:Nat)(w:World)(hv:Bn w v m)(hm:m<=9000)(hf:aG S w (.slice A n c) x.facts)(hn:n<=maxLen) :
  Calls prog 149 #[v,qL x (.slice A n c)] w (RJ (kY x) w):=by
 unfold qL;have aI:Below w.heap.size w (w.alloc (.cells #[.int .i64 x.op,.int .i64 x.sess,.int .i64 x.seq,.slice A n c] 42)):=zb.alloc zl _;have dv:=ar.new w 42 #[.int .i64 x.op,.int .i64 x.sess,.int .i64 x.seq,.slice A n c];obtain⟨fX,gC,tF,Br,-⟩:=dv.cs [0,1,2,3];simp only[Zx]at fX gC tF Br;have bH:=hv.below aI;have nc:=hf.keep (bz.below (S:=S) aI);have cu:(x.op<0/\kY x=24)\/(0<=x.op/\3<x.op/\kY x=24)\/(0<=x.op/\x.op<=3/\x.sess<0/\kY x=1)\/(0<=x.op/\x.op<=3/\0<=x.sess/\1099511627776<x.sess/\kY x=1)\/
   (0<=x.op/\x.op<=3/\0<=x.sess/\x.sess<=1099511627776/\x.seq<0/\kY x=1)\/(0<=x.op/\x.op<=3/\0<=x.sess/\x.sess<=1099511627776/\0<=x.seq/\1099511627776<x.seq/\kY x=1)\/
   (0<=x.op/\x.op<=3/\0<=x.sess/\x.sess<=1099511627776/\0<=x.seq/\x.seq<=1099511627776/\kY x=qK x.facts):=by
  by_cases h1:x.op<0
  ·exact .inl ⟨h1,wP (.inl h1)⟩
  by_cases h2:3<x.op
  ·exact .inr (.inl ⟨by omega,h2,wP (.inr h2)⟩)
  have HM:¬(x.op<0\/3<x.op):=by omega
  by_cases h3:x.sess<0
  ·exact .inr (.inr (.inl ⟨by omega,by omega,h3,lQ HM (by rw[qR h3];rfl)⟩))
  by_cases h4:1099511627776<x.sess
  ·exact .inr (.inr (.inr (.inl ⟨by omega,by omega,by omega,h4,lQ HM (by rw[rh h4];rfl)⟩)))
  by_cases h5:x.seq<0
  ·exact .inr (.inr (.inr (.inr (.inl ⟨by omega,by omega,by omega,by omega,h5,lQ HM (by rw[qR h5];simp)⟩))))
  by_cases h6:1099511627776<x.seq
  ·exact .inr (.inr (.inr (.inr (.inr (.inl ⟨by omega,by omega,by omega,by omega,by omega,h6,lQ HM (by rw[rh h6];simp)⟩)))))
  ·exact .inr (.inr (.inr (.inr (.inr (.inr ⟨by omega,by omega,by omega,by omega,by omega,by omega,yN HM (qU (by omega) (by omega)) (qU (by omega) (by omega))⟩)))))
 rcases cu with⟨a1,hE⟩|⟨a1,a2,hE⟩|⟨a1,a2,a3,hE⟩|⟨a1,a2,a3,a4,hE⟩|⟨a1,a2,a3,a4,a5,hE⟩|⟨a1,a2,a3,a4,a5,a6,hE⟩|⟨a1,a2,a3,a4,a5,a6,hE⟩
 all_goals
  have HE:=zH hE;clear hE;go_enter func149,ntmps149;go_wp2_with fail
 all_goals try(go_ret2;exact⟨_,by rw[HE.out];rfl,aI⟩)
 all_goals try(exfalso;omega)
 generalize w.alloc (.cells #[.int .i64 x.op,.int .i64 x.sess,.int .i64 x.seq,.slice A n c] 42)=w1 at *;have cQ:=dv.lt;refine(cO v m _ _ bH (by omega)).mono ?_;rintro e w2 ⟨v2,n2,rfl,II,lB,bJ⟩;have q1:=(bJ.cell (p:=⟨w.heap.size,1,none⟩) cQ).trans gC;go_wp2_with fail;refine(cO v2 n2 _ _ II.bn (by omega)).mono ?_;rintro e w3 ⟨v3,n3,rfl,MR,AN,bS⟩;have gr:=ab bJ bS zl;have q2:=(gr.cell (p:=⟨w.heap.size,2,none⟩) cQ).trans tF;go_wp2_with fail;refine(cO v3 n3 _ _ MR.bn (by omega)).mono ?_;rintro e w4 ⟨v4,n4,rfl,LW,Em,cz⟩;have gV:=ab gr cz zl;have q3:=(gV.cell (p:=⟨w.heap.size,3,none⟩) cQ).trans Br;go_wp2_with fail;refine(yI S v4 n4 _ _ _ _ _ LW.bn (by omega) (nc.keep (bz.below gV)) hn).mono ?_;rintro e w5 ⟨v5,rfl,cD⟩;have Nt:=ab gV cD zl;go_wp2_with fail
 go_ret2
 exact⟨_,by rw[HE.out];rfl,ab aI Nt zl⟩
theorem qv(S:Nat->Prop)(v:Value)(m:Nat)(x:En)(A:Option Addr)(n c:Nat)(w:World)(hv:Bn w v m)(hm:m<=8000)(hf:aG S w (.slice A n c) x.facts)(hn:n<=maxLen) :
  Calls prog 130 #[v,ni x (.slice A n c)] w (RJ (kH x) w):=by
 unfold ni;have aI:Below w.heap.size w (w.alloc (.cells #[.int .i64 x.idx,.int .i64 x.term,.int .i64 x.op,.int .i64 x.sess,.int .i64 x.seq,.slice A n c] 59)):=zb.alloc zl _;have dv:=ar.new w 59 #[.int .i64 x.idx,.int .i64 x.term,.int .i64 x.op,.int .i64 x.sess,.int .i64 x.seq,.slice A n c];obtain⟨fX,gC,tF,Br,Ft,N1,-⟩:=dv.cs [0,1,2,3,4,5];simp only[Zx]at fX gC tF Br Ft N1;have bH:=hv.below aI;have nc:=hf.keep (bz.below (S:=S) aI);have cu:(x.idx<1/\kH x=1)\/(1<=x.idx/\1099511627776<x.idx/\kH x=1)\/
   (1<=x.idx/\x.idx<=1099511627776/\x.term<1/\kH x=1)\/(1<=x.idx/\x.idx<=1099511627776/\1<=x.term/\1099511627776<x.term/\kH x=1)\/
   (1<=x.idx/\x.idx<=1099511627776/\1<=x.term/\x.term<=1099511627776/\kH x=kY x):=by
  by_cases h3:x.idx<1
  ·exact .inl ⟨h3,ke (by rw[qR h3];rfl)⟩
  by_cases h4:1099511627776<x.idx
  ·exact .inr (.inl ⟨by omega,h4,ke (by rw[rh h4];rfl)⟩)
  by_cases h5:x.term<1
  ·exact .inr (.inr (.inl ⟨by omega,by omega,h5,ke (by rw[qR h5];simp)⟩))
  by_cases h6:1099511627776<x.term
  ·exact .inr (.inr (.inr (.inl ⟨by omega,by omega,by omega,h6,ke (by rw[rh h6];simp)⟩)))
  ·exact .inr (.inr (.inr (.inr ⟨by omega,by omega,by omega,by omega,xE (qU (by omega) (by omega)) (qU (by omega) (by omega))⟩)))
 rcases cu with⟨a1,hE⟩|⟨a1,a2,hE⟩|⟨a1,a2,a3,hE⟩|⟨a1,a2,a3,a4,hE⟩|⟨a1,a2,a3,a4,hE⟩
 all_goals
  have HE:=zH hE;clear hE;go_enter func130,ntmps130;go_wp2_with fail
 all_goals try(go_ret2;exact⟨_,by rw[HE.out];rfl,aI⟩)
 all_goals try(exfalso;omega)
 generalize w.alloc (.cells #[.int .i64 x.idx,.int .i64 x.term,.int .i64 x.op,.int .i64 x.sess,.int .i64 x.seq,.slice A n c] 59)=w1 at *;have cQ:=dv.lt;refine(cO v m _ _ bH (by omega)).mono ?_;rintro e w2 ⟨v2,n2,rfl,II,lB,bJ⟩;have q1:=(bJ.cell (p:=⟨w.heap.size,1,none⟩) cQ).trans gC;go_wp2_with fail;refine(cO v2 n2 _ _ II.bn (by omega)).mono ?_;rintro e w3 ⟨v3,n3,rfl,MR,AN,bS⟩;have gr:=ab bJ bS zl;have q2:=(gr.cell (p:=⟨w.heap.size,2,none⟩) cQ).trans tF;have q3:=(gr.cell (p:=⟨w.heap.size,3,none⟩) cQ).trans Br;have q4:=(gr.cell (p:=⟨w.heap.size,4,none⟩) cQ).trans Ft;have q5:=(gr.cell (p:=⟨w.heap.size,5,none⟩) cQ).trans N1;go_wp2_with fail;refine(uk S v3 n3 x _ _ _ _ MR.bn (by omega) (nc.keep (bz.below gr)) hn).mono ?_;rintro e w5 ⟨v5,rfl,cD⟩;have Nt:=ab gr cD zl;go_wp2_with fail
 go_ret2
 exact⟨_,by rw[HE.out];rfl,ab aI Nt zl⟩
def bC(gs:List Nat)(w:World):Type:={w':World // ∀g∈gs,w'.heap[g]?=w.heap[g]?}
instance (gs:List Nat) (w:World):Nonempty (bC gs w):=⟨⟨w,fun _ _=>rfl⟩⟩
def dP(gs:List Nat)(w:World):World->Prop:=fun w'=>∃x:bC gs w,w'=x.1
attribute [go_sem] dP
theorem aR{gs:List Nat}{w:World}:dP gs w w.drew:=⟨⟨w.drew,fun _ _=>rfl⟩,rfl⟩
theorem dN{gs:List Nat}{w w':World}(h:∀g∈gs,w'.heap[g]?=w.heap[g]?):dP gs w w':=⟨⟨w',h⟩,rfl⟩
theorem ae{gs:List Nat}{w:World}{p:Addr}{v:Value}(h:w.cell? p=some v)(hp:p.block∈gs):∀x:bC gs w,x.1.cell? p=some v:=
 fun x=>by rw[<-h];exact World.cell?_of_block (x.2 _ hp)
theorem aq{gs:List Nat}{w w':World}(hg:∀g∈gs,g<w.heap.size)(hb:Below w.heap.size w w'):dP gs w w':=dN fun g h=>hb.block g (hg g h)
theorem aV{w:World}{j:Nat}{o:Obj}(h:w.heap[j]?=some o):j<w.heap.size:=by
 rcases Nat.lt_or_ge j w.heap.size with aU|tq
 ·exact aU
 ·rw[Array.getElem?_eq_none tq]at h;cases h
theorem Dv{A B:Option Addr}{n c d:Nat}{l:List Int}{w:World}(h1:fB w A n l)(h2:fB w B n l)(hn:n<=maxLen) :
  Calls prog 157 #[.slice A n c,.slice B n d] w fun e w'=>e=.returned (.bool true)/\Below w.heap.size w w':=by
 unfold maxLen at hn;go_enter func157,ntmps157;go_wp2_with fail
 go_loopw [5] (fun i wr=>∃k q:Nat,k<=n/\i=.int .i64 k/\wr=w.drewN q) (fun i _=>n-(intOf i).toNat)
 case atStart=>exact⟨0,0,Nat.zero_le _,rfl,rfl⟩
 case round=>
  obtain⟨k,q,hk,rfl,rfl⟩:=hrel;by_cases aU:k<n
  ·obtain⟨ad,rfl,c1⟩:=h1.at_ aU;obtain⟨ad2,rfl,c2⟩:=h2.at_ aU;generalize l[k]?.getD 0=b at *;go_wp2_with fail
   go_quiet (fail)
   go_wp2_with fail;exact⟨⟨k+1,_,aU,by go_num,rfl⟩,by simp[intOf];omega⟩
  ·go_wp2_with fail;go_ret;exact⟨rfl,aA zb q⟩
theorem DV{A B:Option Addr}{n c d:Nat}{l:List ByteArray}{w:World}(h1:wu w A n l)(h2:wu w B n l)(hn:n<=maxLen) :
  Calls prog 158 #[.slice A n c,.slice B n d] w fun e w'=>e=.returned (.bool true)/\Below w.heap.size w w':=by
 unfold maxLen at hn;go_enter func158,ntmps158;go_wp2_with fail
 go_loopw [5] (fun i wr=>∃k q:Nat,k<=n/\i=.int .i64 k/\wr=w.drewN q) (fun i _=>n-(intOf i).toNat)
 case atStart=>exact⟨0,0,Nat.zero_le _,rfl,rfl⟩
 case round=>
  obtain⟨k,q,hk,rfl,rfl⟩:=hrel;by_cases aU:k<n
  ·obtain⟨ad,s,rfl,hs,c1⟩:=h1.at_ aU;obtain⟨ad2,s2,rfl,Ev,c2⟩:=h2.at_ aU;rw[hs]at Ev;obtain rfl:=Option.some.inj Ev;clear hs Ev;go_wp2_with fail
   go_quiet (fail)
   go_wp2_with fail;exact⟨⟨k+1,_,aU,by go_num,rfl⟩,by simp[intOf];omega⟩
  ·go_wp2_with fail;go_ret;exact⟨rfl,aA zb q⟩
theorem D5{S S':Nat->Prop}{A B:Option Addr}{n c d:Nat}{fs:List Fa}{w:World}(h1:aG S w (.slice A n c) fs)(h2:aG S' w (.slice B n d) fs)(hn:n<=maxLen) :
  Calls prog 145 #[.slice A n c,.slice B n d] w fun e w'=>e=.returned (.bool true)/\Below w.heap.size w w':=by
 unfold maxLen at hn;go_enter func145,ntmps145;go_wp2_with fail
 go_loopw [5] (fun i wr=>∃k:Nat,k<=n/\i=.int .i64 k/\Below w.heap.size w wr) (fun i _=>n-(intOf i).toNat)
 case atStart=>exact⟨0,Nat.zero_le _,rfl,Below.refl _ _⟩
 case round=>
  obtain⟨k,hk,rfl,hb⟩:=hrel;by_cases aU:k<n
  ·obtain⟨ad,f,A1,m1,d1,B1,q1,r1,rfl,nc,c0,c1,p1,v1,x1,x2,x3,x4,x5,x6⟩:=(h1.keep (bz.below (S:=S) hb)).at_ aU;obtain⟨bd,f2,A2,m2,d2,B2,q2,r2,rfl,qV,e0,e1,p2,v2,y1,y2,y3,y4,y5,y6⟩:=(h2.keep (bz.below (S:=S') hb)).at_ aU;rw[nc]at qV;obtain rfl:=Option.some.inj qV;obtain rfl:m2=m1:=by omega
   obtain rfl:q2=q1:=by omega
   clear nc qV;have aP:=zH (show n-(k+1)<n-k by omega);have ka:=ae (gs:=[(ad.add (k*2)).block,(bd.add (k*2)).block]) c1 (by simp);have kb:=ae (gs:=[(ad.add (k*2)).block,(bd.add (k*2)).block]) e1 (by simp);go_wp2_with fail;refine cF (C:=dP [(ad.add (k*2)).block,(bd.add (k*2)).block] wr) [([0,1,2,3,4,5,6,7,8,9],10)] [11] (by kernel_rfl) (by kernel_rfl) (fun _ _ _ _ e h=>⟨e.symm.trans h.1,h.2⟩) aR ?_;refine av fun K1 ct=>?_
   simp only[af,Zx];repeat go_big_quiet_step(fail)
   apply wpQuiet_nil;go_wp2_with fail;refine(Dv (w:=wr.drew) v1.rd v2.rd (Nat.le_trans x4 x5)).mono ?_;rintro e w6 ⟨rfl,gz⟩;have gz:Below wr.heap.size wr w6:=(aA (Below.refl wr.heap.size wr) 1).trans gz;have la:=aw c0;have lb:=aw e0;have c0':=(gz.cell la).trans c0;have e0':=(gz.cell lb).trans e0;go_wp2_with fail;have cT:∀g∈[(ad.add (k*2)).block,(bd.add (k*2)).block],g<wr.heap.size:=by simp;exact⟨la,lb⟩
   refine⟨aq cT gz,ct _ _ ?_⟩;refine aj ?_;simp only[af,Zx];repeat go_big_quiet_step(fail)
   apply wpQuiet_nil;go_wp2_with fail
   go_quiet (fail)
   have vX:=ab hb gz zl;have Fc:=p1.keep (bz.below (S:=S) gz);have QD:=p2.keep (bz.below (S:=S') gz);have la':(ad.add (k*2)).block<w6.heap.size:=Nat.lt_of_lt_of_le la gz.size;have lb':(bd.add (k*2)).block<w6.heap.size:=Nat.lt_of_lt_of_le lb gz.size;clear gz c0 e0 c1 e1 ka kb p1 p2 v1 v2;unfold maxLen at x2;go_wp2_with fail
   go_loopw [7] (fun i wr'=>∃j:Nat,j<=m2/\i=.int .i64 j/\Below w6.heap.size w6 wr') (fun i _=>m2-(intOf i).toNat)
   case atStart=>exact⟨0,Nat.zero_le _,rfl,aA zb _⟩
   case round=>
    obtain⟨j,hj,rfl,jH⟩:=hrel;have c0:=(jH.cell la').trans c0';have e0:=(jH.cell lb').trans e0';have lc:=Nat.lt_of_lt_of_le la' jH.size;have ld:=Nat.lt_of_lt_of_le lb' jH.size;by_cases ku:j<m2
    ·obtain⟨cd,p,C1,s1,t1,rfl,nK,c2,z1,z2,z3,z4⟩:=(Fc.keep (bz.below (S:=S) jH)).at_ ku;obtain⟨dd,p',C2,s2,t2,rfl,kE,e2,z5,z6,z7,z8⟩:=(QD.keep (bz.below (S:=S') jH)).at_ ku;rw[nK]at kE;obtain rfl:=Option.some.inj kE;obtain rfl:s2=s1:=by omega
     clear nK kE;have le:=aw c2;have lf:=aw e2;rw[dJ]at le lf;have fM:=zH (show m2-(j+1)<m2-j by omega);have ka:=ae (gs:=[(ad.add (k*2)).block,(bd.add (k*2)).block,cd.block,dd.block]) c0 (by simp);have kb:=ae (gs:=[(ad.add (k*2)).block,(bd.add (k*2)).block,cd.block,dd.block]) e0 (by simp);have kc:=ae (gs:=[(ad.add (k*2)).block,(bd.add (k*2)).block,cd.block,dd.block]) c2 (by simp[dJ]);have kd:=ae (gs:=[(ad.add (k*2)).block,(bd.add (k*2)).block,cd.block,dd.block]) e2 (by simp[dJ]);have cT:∀g∈[(ad.add (k*2)).block,(bd.add (k*2)).block,cd.block,dd.block],g<wr.heap.size:=by simp;exact⟨lc,ld,le,lf⟩
     go_wp2_with fail;refine cF (C:=dP [(ad.add (k*2)).block,(bd.add (k*2)).block,cd.block,dd.block] wr) [([0,1,2,3,4,5,6,7,8,9,10,11,12,13,14,15],16)] [17] (by kernel_rfl) (by kernel_rfl) (fun _ _ _ _ e h=>⟨e.symm.trans h.1,h.2⟩) aR ?_;refine av fun K1 ct=>?_
     simp only[af,Zx];repeat go_big_quiet_step(fail)
     apply wpQuiet_nil;go_wp2_with fail;refine(DV (w:=wr.drew) z1.rd z5.rd (Nat.le_trans z2 z3)).mono ?_;rintro e w7 ⟨rfl,io⟩;have io:Below wr.heap.size wr w7:=(aA (Below.refl wr.heap.size wr) 1).trans io;go_wp2_with fail;refine⟨aq cT io,ct _ _ ?_⟩;refine aj ?_;simp only[af,Zx];repeat go_big_quiet_step(fail)
     apply wpQuiet_nil;go_wp2_with fail
     go_roundw
     case rel=>exact⟨j+1,ku,by go_num,ab jH io zl⟩
     case measure=>simp[intOf];exact fM.out
    ·obtain rfl:j=m2:=by omega
     go_wp2_with fail
     go_roundw
     case rel=>exact⟨k+1,aU,by go_num,ab vX jH zl⟩
     case measure=>simp[intOf];exact aP.out
  ·go_wp2_with fail;go_ret;exact⟨rfl,hb⟩
theorem fC(w:World)(T T':TypeId)(cs ds:Array Value):Below w.heap.size w ((w.alloc (.cells cs T)).alloc (.cells ds T'))/\ar ((w.alloc (.cells cs T)).alloc (.cells ds T')) w.heap.size T cs/\ar ((w.alloc (.cells cs T)).alloc (.cells ds T')) (w.heap.size+1) T' ds:=by
 refine⟨(zb.alloc zl _).alloc (by simp) _,(ar.new w T cs).alloc _,?_⟩;have:=ar.new (w.alloc (.cells cs T)) T' ds;have e:(w.alloc (.cells cs T)).heap.size=w.heap.size+1:=by simp
 rwa [e]at this
theorem xK{S S':Nat->Prop}{A B:Option Addr}{n c d:Nat}{x:En}{w:World}(h1:aG S w (.slice A n c) x.facts)(h2:aG S' w (.slice B n d) x.facts)(hn:n<=maxLen) :
  Calls prog 126 #[qL x (.slice A n c),qL x (.slice B n d)] w fun e w'=>e=.returned (.bool true)/\Below w.heap.size w w':=by
 unfold qL;obtain⟨aI,cl,eb⟩:=fC w 42 42 #[.int .i64 x.op,.int .i64 x.sess,.int .i64 x.seq,.slice A n c] #[.int .i64 x.op,.int .i64 x.sess,.int .i64 x.seq,.slice B n d];have g1:=h1.keep (bz.below (S:=S) aI);have g2:=h2.keep (bz.below (S:=S') aI);go_enter func126,ntmps126;go_wp2_with fail;generalize(w.alloc (.cells #[.int .i64 x.op,.int .i64 x.sess,.int .i64 x.seq,.slice A n c] 42)).alloc (.cells #[.int .i64 x.op,.int .i64 x.sess,.int .i64 x.seq,.slice B n d] 42)=w1 at *;refine(D5 g1 g2 hn).mono ?_;rintro e w2 ⟨rfl,bJ⟩;have b1:=cl.kept bJ;have b2:=eb.kept bJ;obtain⟨a0,a1,a2,-⟩:=b1.cs [0,1,2];obtain⟨d0,d1,d2,-⟩:=b2.cs [0,1,2];simp only[Zx]at a0 a1 a2 d0 d1 d2;go_wp2_with fail;go_ret;exact⟨by simp,ab aI bJ zl⟩
theorem sz{S S':Nat->Prop}{A B:Option Addr}{n c d:Nat}{x:En}{w:World}(h1:aG S w (.slice A n c) x.facts)(h2:aG S' w (.slice B n d) x.facts)(hn:n<=maxLen) :
  Calls prog 73 #[ni x (.slice A n c),ni x (.slice B n d)] w fun e w'=>e=.returned (.bool true)/\Below w.heap.size w w':=by
 unfold ni;obtain⟨aI,cl,eb⟩:=fC w 59 59 #[.int .i64 x.idx,.int .i64 x.term,.int .i64 x.op,.int .i64 x.sess,.int .i64 x.seq,.slice A n c] #[.int .i64 x.idx,.int .i64 x.term,.int .i64 x.op,.int .i64 x.sess,.int .i64 x.seq,.slice B n d];have g1:=h1.keep (bz.below (S:=S) aI);have g2:=h2.keep (bz.below (S:=S') aI);go_enter func73,ntmps73;go_wp2_with fail;generalize(w.alloc (.cells #[.int .i64 x.idx,.int .i64 x.term,.int .i64 x.op,.int .i64 x.sess,.int .i64 x.seq,.slice A n c] 59)).alloc (.cells #[.int .i64 x.idx,.int .i64 x.term,.int .i64 x.op,.int .i64 x.sess,.int .i64 x.seq,.slice B n d] 59)=w1 at *;refine(xK (x:=x) g1 g2 hn).mono ?_;rintro e w2 ⟨rfl,bJ⟩;have b1:=cl.kept bJ;have b2:=eb.kept bJ;obtain⟨a0,a1,-⟩:=b1.cs [0,1];obtain⟨d0,d1,-⟩:=b2.cs [0,1];simp only[Zx]at a0 a1 d0 d1;go_wp2_with fail;go_ret;exact⟨by simp,ab aI bJ zl⟩
def fu(w:World)(A:Option Addr)(n:Nat)(zs:List (Value×En)):Prop:=cn w 6 A n (zs.flatMap bY)
theorem fu.len{w:World}{A:Option Addr}{n:Nat}{zs:List (Value×En)}(h:fu w A n zs):zs.length=n:=by
 have:=h.1;rw[fv fj]at this;omega
theorem fu.at_{w:World}{A:Option Addr}{n k:Nat}{zs:List (Value×En)}(h:fu w A n zs)(hk:k<n) :
  ∃ad v x,A=some ad/\zs[k]?=some (v,x)/\w.cell? (ad.add (k*6))=some (.int .i64 x.idx)/\w.cell? ⟨(ad.add (k*6)).block,(ad.add (k*6)).off+1,none⟩=some (.int .i64 x.term)/\
   w.cell? ⟨(ad.add (k*6)).block,(ad.add (k*6)).off+2,none⟩=some (.int .i64 x.op)/\w.cell? ⟨(ad.add (k*6)).block,(ad.add (k*6)).off+3,none⟩=some (.int .i64 x.sess)/\
   w.cell? ⟨(ad.add (k*6)).block,(ad.add (k*6)).off+4,none⟩=some (.int .i64 x.seq)/\w.cell? ⟨(ad.add (k*6)).block,(ad.add (k*6)).off+5,none⟩=some v:=by
 have hl:=h.len;have h':cn w 6 A n (zs.flatMap bY):=h;obtain⟨ad,rfl,hc⟩:=h'.2 (by omega);have hz:zs[k]?=some (zs[k]'(by omega)):=List.getElem?_eq_getElem (by omega);obtain⟨⟨v,x⟩,Qv⟩:∃z,z=zs[k]'(by omega):=⟨_,rfl⟩;rw[<-Qv]at hz;have key:∀j u,j<6->(bY (v,x))[j]?=some u->w.cell? (ad.add (k*6+j))=some u:=fun j u hj hu=>hc _ _ ((eo fj hj hz).trans hu)
 have c0:=key 0 _ (by omega) rfl;have c1:=key 1 _ (by omega) rfl;have c2:=key 2 _ (by omega) rfl;have c3:=key 3 _ (by omega) rfl;have c4:=key 4 _ (by omega) rfl;have c5:=key 5 _ (by omega) rfl;rw[<-gY,ml _ _ (by omega)]at c1 c2 c3 c4 c5;exact⟨ad,v,x,rfl,hz,c0,c1,c2,c3,c4,c5⟩
theorem fu.below{w w':World}{A:Option Addr}{n:Nat}{zs:List (Value×En)}(h:fu w A n zs)(hb:Below w.heap.size w w'):fu w' A n zs:=cn.below h hb
theorem nA{S S':Nat->Prop}{A B:Option Addr}{n c d:Nat}{xs ys:List (Value×En)}{w:World}(h1:fu w A n xs)(h2:fu w B n ys)(he:xs.map (·.2)=ys.map (·.2))(d1:bq S w xs)(d2:bq S' w ys)(hn:n<=maxLen) :
  Calls prog 26 #[.slice A n c,.slice B n d] w fun e w'=>e=.returned (.bool true)/\Below w.heap.size w w':=by
 unfold maxLen at hn;have he:=zH he;go_enter func26,ntmps26;go_wp2_with fail
 go_loopw [5] (fun i wr=>∃k:Nat,k<=n/\i=.int .i64 k/\Below w.heap.size w wr) (fun i _=>n-(intOf i).toNat)
 case atStart=>exact⟨0,Nat.zero_le _,rfl,Below.refl _ _⟩
 case round=>
  obtain⟨k,hk,rfl,hb⟩:=hrel;by_cases aU:k<n
  ·obtain⟨ad,v1,x,rfl,hx,c0,c1,c2,c3,c4,c5⟩:=(h1.below hb).at_ aU;obtain⟨bd,v2,y,rfl,hy,e0,e1,e2,e3,e4,e5⟩:=(h2.below hb).at_ aU;have Lk:x=y:=by
    have:=congrArg (fun l=>l[k]?) he.out;simp only[List.getElem?_map,hx,hy,Option.map_some]at this;exact Option.some.inj this
   subst Lk;have f1:=(d1 _ (List.mem_of_getElem? hx)).keep (bz.below (S:=S) hb);have f2:=(d2 _ (List.mem_of_getElem? hy)).keep (bz.below (S:=S') hb);obtain⟨A1,m1,t1,bH,l1,l2,l3⟩:=f1.form;obtain⟨A2,m2,t2,fY,l4,l5,l6⟩:=f2.form;obtain rfl:v1=_:=bH;obtain rfl:v2=_:=fY;obtain rfl:m2=m1:=by simp only at l3 l6;omega
   clear hx hy;have aP:=zH (show n-(k+1)<n-k by omega);have la:=aw c0;have lb:=aw e0;have cT:∀g∈[(ad.add (k*6)).block,(bd.add (k*6)).block],g<wr.heap.size:=by simp;exact⟨la,lb⟩
   have ka0:=ae (gs:=[(ad.add (k*6)).block,(bd.add (k*6)).block]) c0 (by simp);have ka1:=ae (gs:=[(ad.add (k*6)).block,(bd.add (k*6)).block]) c1 (by simp);have ka2:=ae (gs:=[(ad.add (k*6)).block,(bd.add (k*6)).block]) c2 (by simp);have ka3:=ae (gs:=[(ad.add (k*6)).block,(bd.add (k*6)).block]) c3 (by simp);have ka4:=ae (gs:=[(ad.add (k*6)).block,(bd.add (k*6)).block]) c4 (by simp);have ka5:=ae (gs:=[(ad.add (k*6)).block,(bd.add (k*6)).block]) c5 (by simp);have kb0:=ae (gs:=[(ad.add (k*6)).block,(bd.add (k*6)).block]) e0 (by simp);have kb1:=ae (gs:=[(ad.add (k*6)).block,(bd.add (k*6)).block]) e1 (by simp);have kb2:=ae (gs:=[(ad.add (k*6)).block,(bd.add (k*6)).block]) e2 (by simp);have kb3:=ae (gs:=[(ad.add (k*6)).block,(bd.add (k*6)).block]) e3 (by simp);have kb4:=ae (gs:=[(ad.add (k*6)).block,(bd.add (k*6)).block]) e4 (by simp);have kb5:=ae (gs:=[(ad.add (k*6)).block,(bd.add (k*6)).block]) e5 (by simp);clear c0 c1 c2 c3 c4 c5 e0 e1 e2 e3 e4 e5;go_wp2_with fail;refine cF (C:=dP [(ad.add (k*6)).block,(bd.add (k*6)).block] wr) [([0,1,2,3,4,5,6,7],8)] [9] (by kernel_rfl) (by kernel_rfl) (fun _ _ _ _ e h=>⟨e.symm.trans h.1,h.2⟩) aR ?_;refine av fun K1 ct=>?_
   simp only[af,Zx];repeat go_big_quiet_step(fail)
   apply wpQuiet_nil;go_wp2_with fail;refine(sz (w:=wr.drew) (x:=x) f1 f2 (Nat.le_trans l1 l2)).mono ?_;rintro e w7 ⟨rfl,io⟩;have io:Below wr.heap.size wr w7:=(aA (Below.refl wr.heap.size wr) 1).trans io;go_wp2_with fail;refine⟨aq cT io,ct _ _ ?_⟩;refine aj ?_;simp only[af,Zx];repeat go_big_quiet_step(fail)
   apply wpQuiet_nil;go_wp2_with fail
   go_roundw
   case rel=>exact⟨k+1,aU,by go_num,ab hb io zl⟩
   case measure=>simp[intOf];exact aP.out
  ·obtain rfl:k=n:=by omega
   go_wp2_with fail;go_ret;exact⟨rfl,hb⟩
theorem zK (gs:List Nat){w:World}{p:Addr}{v:Value}(h:w.cell? p=some v)(hp:p.block∈gs):∀x:bC gs w,x.1.cell? p=some v:=ae h hp
theorem CV (gs:List Nat){w:World}{p0:Addr}{v0:Value}(h0:w.cell? p0=some v0)(q0:p0.block∈gs:=by simp):(∀x:bC gs w,x.1.cell? p0=some v0):=ae h0 q0
theorem nY (gs:List Nat){w:World}{p0 p1:Addr}{v0 v1:Value}(h0:w.cell? p0=some v0)(h1:w.cell? p1=some v1)(q0:p0.block∈gs:=by simp)(q1:p1.block∈gs:=by simp):(∀x:bC gs w,x.1.cell? p0=some v0)/\(∀x:bC gs w,x.1.cell? p1=some v1):=⟨ae h0 q0,ae h1 q1⟩
theorem sD (gs:List Nat){w:World}{p0 p1 p2:Addr}{v0 v1 v2:Value}(h0:w.cell? p0=some v0)(h1:w.cell? p1=some v1)(h2:w.cell? p2=some v2)(q0:p0.block∈gs:=by simp)(q1:p1.block∈gs:=by simp)(q2:p2.block∈gs:=by simp):(∀x:bC gs w,x.1.cell? p0=some v0)/\(∀x:bC gs w,x.1.cell? p1=some v1)/\(∀x:bC gs w,x.1.cell? p2=some v2):=⟨ae h0 q0,ae h1 q1,ae h2 q2⟩
theorem GD (gs:List Nat){w:World}{p0 p1 p2 p3:Addr}{v0 v1 v2 v3:Value}(h0:w.cell? p0=some v0)(h1:w.cell? p1=some v1)(h2:w.cell? p2=some v2)(h3:w.cell? p3=some v3)(q0:p0.block∈gs:=by simp)(q1:p1.block∈gs:=by simp)(q2:p2.block∈gs:=by simp)(q3:p3.block∈gs:=by simp):(∀x:bC gs w,x.1.cell? p0=some v0)/\(∀x:bC gs w,x.1.cell? p1=some v1)/\(∀x:bC gs w,x.1.cell? p2=some v2)/\(∀x:bC gs w,x.1.cell? p3=some v3):=⟨ae h0 q0,ae h1 q1,ae h2 q2,ae h3 q3⟩
theorem MZ (gs:List Nat){w:World}{p0 p1 p2 p3 p4:Addr}{v0 v1 v2 v3 v4:Value}(h0:w.cell? p0=some v0)(h1:w.cell? p1=some v1)(h2:w.cell? p2=some v2)(h3:w.cell? p3=some v3)(h4:w.cell? p4=some v4)(q0:p0.block∈gs:=by simp)(q1:p1.block∈gs:=by simp)(q2:p2.block∈gs:=by simp)(q3:p3.block∈gs:=by simp)(q4:p4.block∈gs:=by simp):(∀x:bC gs w,x.1.cell? p0=some v0)/\(∀x:bC gs w,x.1.cell? p1=some v1)/\(∀x:bC gs w,x.1.cell? p2=some v2)/\(∀x:bC gs w,x.1.cell? p3=some v3)/\(∀x:bC gs w,x.1.cell? p4=some v4):=⟨ae h0 q0,ae h1 q1,ae h2 q2,ae h3 q3,ae h4 q4⟩
theorem NO (gs:List Nat){w:World}{p0 p1 p2 p3 p4 p5:Addr}{v0 v1 v2 v3 v4 v5:Value}(h0:w.cell? p0=some v0)(h1:w.cell? p1=some v1)(h2:w.cell? p2=some v2)(h3:w.cell? p3=some v3)(h4:w.cell? p4=some v4)(h5:w.cell? p5=some v5)(q0:p0.block∈gs:=by simp)(q1:p1.block∈gs:=by simp)(q2:p2.block∈gs:=by simp)(q3:p3.block∈gs:=by simp)(q4:p4.block∈gs:=by simp)(q5:p5.block∈gs:=by simp):(∀x:bC gs w,x.1.cell? p0=some v0)/\(∀x:bC gs w,x.1.cell? p1=some v1)/\(∀x:bC gs w,x.1.cell? p2=some v2)/\(∀x:bC gs w,x.1.cell? p3=some v3)/\(∀x:bC gs w,x.1.cell? p4=some v4)/\(∀x:bC gs w,x.1.cell? p5=some v5):=⟨ae h0 q0,ae h1 q1,ae h2 q2,ae h3 q3,ae h4 q4,ae h5 q5⟩
theorem KW (gs:List Nat){w:World}{p0 p1 p2 p3 p4 p5 p6:Addr}{v0 v1 v2 v3 v4 v5 v6:Value}(h0:w.cell? p0=some v0)(h1:w.cell? p1=some v1)(h2:w.cell? p2=some v2)(h3:w.cell? p3=some v3)(h4:w.cell? p4=some v4)(h5:w.cell? p5=some v5)(h6:w.cell? p6=some v6)(q0:p0.block∈gs:=by simp)(q1:p1.block∈gs:=by simp)(q2:p2.block∈gs:=by simp)(q3:p3.block∈gs:=by simp)(q4:p4.block∈gs:=by simp)(q5:p5.block∈gs:=by simp)(q6:p6.block∈gs:=by simp):(∀x:bC gs w,x.1.cell? p0=some v0)/\(∀x:bC gs w,x.1.cell? p1=some v1)/\(∀x:bC gs w,x.1.cell? p2=some v2)/\(∀x:bC gs w,x.1.cell? p3=some v3)/\(∀x:bC gs w,x.1.cell? p4=some v4)/\(∀x:bC gs w,x.1.cell? p5=some v5)/\(∀x:bC gs w,x.1.cell? p6=some v6):=⟨ae h0 q0,ae h1 q1,ae h2 q2,ae h3 q3,ae h4 q4,ae h5 q5,ae h6 q6⟩
theorem TJ (gs:List Nat){w:World}{p0 p1 p2 p3 p4 p5 p6 p7:Addr}{v0 v1 v2 v3 v4 v5 v6 v7:Value}(h0:w.cell? p0=some v0)(h1:w.cell? p1=some v1)(h2:w.cell? p2=some v2)(h3:w.cell? p3=some v3)(h4:w.cell? p4=some v4)(h5:w.cell? p5=some v5)(h6:w.cell? p6=some v6)(h7:w.cell? p7=some v7)(q0:p0.block∈gs:=by simp)(q1:p1.block∈gs:=by simp)(q2:p2.block∈gs:=by simp)(q3:p3.block∈gs:=by simp)(q4:p4.block∈gs:=by simp)(q5:p5.block∈gs:=by simp)(q6:p6.block∈gs:=by simp)(q7:p7.block∈gs:=by simp):(∀x:bC gs w,x.1.cell? p0=some v0)/\(∀x:bC gs w,x.1.cell? p1=some v1)/\(∀x:bC gs w,x.1.cell? p2=some v2)/\(∀x:bC gs w,x.1.cell? p3=some v3)/\(∀x:bC gs w,x.1.cell? p4=some v4)/\(∀x:bC gs w,x.1.cell? p5=some v5)/\(∀x:bC gs w,x.1.cell? p6=some v6)/\(∀x:bC gs w,x.1.cell? p7=some v7):=⟨ae h0 q0,ae h1 q1,ae h2 q2,ae h3 q3,ae h4 q4,ae h5 q5,ae h6 q6,ae h7 q7⟩
theorem zK9 (gs:List Nat){w:World}{p0 p1 p2 p3 p4 p5 p6 p7 p8:Addr}{v0 v1 v2 v3 v4 v5 v6 v7 v8:Value}(h0:w.cell? p0=some v0)(h1:w.cell? p1=some v1)(h2:w.cell? p2=some v2)(h3:w.cell? p3=some v3)(h4:w.cell? p4=some v4)(h5:w.cell? p5=some v5)(h6:w.cell? p6=some v6)(h7:w.cell? p7=some v7)(h8:w.cell? p8=some v8)(q0:p0.block∈gs:=by simp)(q1:p1.block∈gs:=by simp)(q2:p2.block∈gs:=by simp)(q3:p3.block∈gs:=by simp)(q4:p4.block∈gs:=by simp)(q5:p5.block∈gs:=by simp)(q6:p6.block∈gs:=by simp)(q7:p7.block∈gs:=by simp)(q8:p8.block∈gs:=by simp):(∀x:bC gs w,x.1.cell? p0=some v0)/\(∀x:bC gs w,x.1.cell? p1=some v1)/\(∀x:bC gs w,x.1.cell? p2=some v2)/\(∀x:bC gs w,x.1.cell? p3=some v3)/\(∀x:bC gs w,x.1.cell? p4=some v4)/\(∀x:bC gs w,x.1.cell? p5=some v5)/\(∀x:bC gs w,x.1.cell? p6=some v6)/\(∀x:bC gs w,x.1.cell? p7=some v7)/\(∀x:bC gs w,x.1.cell? p8=some v8):=⟨ae h0 q0,ae h1 q1,ae h2 q2,ae h3 q3,ae h4 q4,ae h5 q5,ae h6 q6,ae h7 q7,ae h8 q8⟩
theorem Zt (gs:List Nat){w:World}{p0 p1 p2 p3 p4 p5 p6 p7 p8 p9:Addr}{v0 v1 v2 v3 v4 v5 v6 v7 v8 v9:Value}(h0:w.cell? p0=some v0)(h1:w.cell? p1=some v1)(h2:w.cell? p2=some v2)(h3:w.cell? p3=some v3)(h4:w.cell? p4=some v4)(h5:w.cell? p5=some v5)(h6:w.cell? p6=some v6)(h7:w.cell? p7=some v7)(h8:w.cell? p8=some v8)(h9:w.cell? p9=some v9)(q0:p0.block∈gs:=by simp)(q1:p1.block∈gs:=by simp)(q2:p2.block∈gs:=by simp)(q3:p3.block∈gs:=by simp)(q4:p4.block∈gs:=by simp)(q5:p5.block∈gs:=by simp)(q6:p6.block∈gs:=by simp)(q7:p7.block∈gs:=by simp)(q8:p8.block∈gs:=by simp)(q9:p9.block∈gs:=by simp):(∀x:bC gs w,x.1.cell? p0=some v0)/\(∀x:bC gs w,x.1.cell? p1=some v1)/\(∀x:bC gs w,x.1.cell? p2=some v2)/\(∀x:bC gs w,x.1.cell? p3=some v3)/\(∀x:bC gs w,x.1.cell? p4=some v4)/\(∀x:bC gs w,x.1.cell? p5=some v5)/\(∀x:bC gs w,x.1.cell? p6=some v6)/\(∀x:bC gs w,x.1.cell? p7=some v7)/\(∀x:bC gs w,x.1.cell? p8=some v8)/\(∀x:bC gs w,x.1.cell? p9=some v9):=⟨ae h0 q0,ae h1 q1,ae h2 q2,ae h3 q3,ae h4 q4,ae h5 q5,ae h6 q6,ae h7 q7,ae h8 q8,ae h9 q9⟩
theorem Yy (gs:List Nat){w:World}{p0 p1 p2 p3 p4 p5 p6 p7 p8 p9 p10:Addr}{v0 v1 v2 v3 v4 v5 v6 v7 v8 v9 v10:Value}(h0:w.cell? p0=some v0)(h1:w.cell? p1=some v1)(h2:w.cell? p2=some v2)(h3:w.cell? p3=some v3)(h4:w.cell? p4=some v4)(h5:w.cell? p5=some v5)(h6:w.cell? p6=some v6)(h7:w.cell? p7=some v7)(h8:w.cell? p8=some v8)(h9:w.cell? p9=some v9)(nz:w.cell? p10=some v10)(q0:p0.block∈gs:=by simp)(q1:p1.block∈gs:=by simp)(q2:p2.block∈gs:=by simp)(q3:p3.block∈gs:=by simp)(q4:p4.block∈gs:=by simp)(q5:p5.block∈gs:=by simp)(q6:p6.block∈gs:=by simp)(q7:p7.block∈gs:=by simp)(q8:p8.block∈gs:=by simp)(q9:p9.block∈gs:=by simp)(q10:p10.block∈gs:=by simp):(∀x:bC gs w,x.1.cell? p0=some v0)/\(∀x:bC gs w,x.1.cell? p1=some v1)/\(∀x:bC gs w,x.1.cell? p2=some v2)/\(∀x:bC gs w,x.1.cell? p3=some v3)/\(∀x:bC gs w,x.1.cell? p4=some v4)/\(∀x:bC gs w,x.1.cell? p5=some v5)/\(∀x:bC gs w,x.1.cell? p6=some v6)/\(∀x:bC gs w,x.1.cell? p7=some v7)/\(∀x:bC gs w,x.1.cell? p8=some v8)/\(∀x:bC gs w,x.1.cell? p9=some v9)/\(∀x:bC gs w,x.1.cell? p10=some v10):=⟨ae h0 q0,ae h1 q1,ae h2 q2,ae h3 q3,ae h4 q4,ae h5 q5,ae h6 q6,ae h7 q7,ae h8 q8,ae h9 q9,ae nz q10⟩
theorem XP (gs:List Nat){w:World}{p0 p1 p2 p3 p4 p5 p6 p7 p8 p9 p10 p11:Addr}{v0 v1 v2 v3 v4 v5 v6 v7 v8 v9 v10 v11:Value}(h0:w.cell? p0=some v0)(h1:w.cell? p1=some v1)(h2:w.cell? p2=some v2)(h3:w.cell? p3=some v3)(h4:w.cell? p4=some v4)(h5:w.cell? p5=some v5)(h6:w.cell? p6=some v6)(h7:w.cell? p7=some v7)(h8:w.cell? p8=some v8)(h9:w.cell? p9=some v9)(nz:w.cell? p10=some v10)(CP:w.cell? p11=some v11)(q0:p0.block∈gs:=by simp)(q1:p1.block∈gs:=by simp)(q2:p2.block∈gs:=by simp)(q3:p3.block∈gs:=by simp)(q4:p4.block∈gs:=by simp)(q5:p5.block∈gs:=by simp)(q6:p6.block∈gs:=by simp)(q7:p7.block∈gs:=by simp)(q8:p8.block∈gs:=by simp)(q9:p9.block∈gs:=by simp)(q10:p10.block∈gs:=by simp)(q11:p11.block∈gs:=by simp):(∀x:bC gs w,x.1.cell? p0=some v0)/\(∀x:bC gs w,x.1.cell? p1=some v1)/\(∀x:bC gs w,x.1.cell? p2=some v2)/\(∀x:bC gs w,x.1.cell? p3=some v3)/\(∀x:bC gs w,x.1.cell? p4=some v4)/\(∀x:bC gs w,x.1.cell? p5=some v5)/\(∀x:bC gs w,x.1.cell? p6=some v6)/\(∀x:bC gs w,x.1.cell? p7=some v7)/\(∀x:bC gs w,x.1.cell? p8=some v8)/\(∀x:bC gs w,x.1.cell? p9=some v9)/\(∀x:bC gs w,x.1.cell? p10=some v10)/\(∀x:bC gs w,x.1.cell? p11=some v11):=⟨ae h0 q0,ae h1 q1,ae h2 q2,ae h3 q3,ae h4 q4,ae h5 q5,ae h6 q6,ae h7 q7,ae h8 q8,ae h9 q9,ae nz q10,ae CP q11⟩
theorem vV (gs:List Nat){w:World}{p0 p1 p2 p3 p4 p5 p6 p7 p8 p9 p10 p11 p12:Addr}{v0 v1 v2 v3 v4 v5 v6 v7 v8 v9 v10 v11 v12:Value}(h0:w.cell? p0=some v0)(h1:w.cell? p1=some v1)(h2:w.cell? p2=some v2)(h3:w.cell? p3=some v3)(h4:w.cell? p4=some v4)(h5:w.cell? p5=some v5)(h6:w.cell? p6=some v6)(h7:w.cell? p7=some v7)(h8:w.cell? p8=some v8)(h9:w.cell? p9=some v9)(nz:w.cell? p10=some v10)(CP:w.cell? p11=some v11)(HM:w.cell? p12=some v12)(q0:p0.block∈gs:=by simp)(q1:p1.block∈gs:=by simp)(q2:p2.block∈gs:=by simp)(q3:p3.block∈gs:=by simp)(q4:p4.block∈gs:=by simp)(q5:p5.block∈gs:=by simp)(q6:p6.block∈gs:=by simp)(q7:p7.block∈gs:=by simp)(q8:p8.block∈gs:=by simp)(q9:p9.block∈gs:=by simp)(q10:p10.block∈gs:=by simp)(q11:p11.block∈gs:=by simp)(q12:p12.block∈gs:=by simp):(∀x:bC gs w,x.1.cell? p0=some v0)/\(∀x:bC gs w,x.1.cell? p1=some v1)/\(∀x:bC gs w,x.1.cell? p2=some v2)/\(∀x:bC gs w,x.1.cell? p3=some v3)/\(∀x:bC gs w,x.1.cell? p4=some v4)/\(∀x:bC gs w,x.1.cell? p5=some v5)/\(∀x:bC gs w,x.1.cell? p6=some v6)/\(∀x:bC gs w,x.1.cell? p7=some v7)/\(∀x:bC gs w,x.1.cell? p8=some v8)/\(∀x:bC gs w,x.1.cell? p9=some v9)/\(∀x:bC gs w,x.1.cell? p10=some v10)/\(∀x:bC gs w,x.1.cell? p11=some v11)/\(∀x:bC gs w,x.1.cell? p12=some v12):=⟨ae h0 q0,ae h1 q1,ae h2 q2,ae h3 q3,ae h4 q4,ae h5 q5,ae h6 q6,ae h7 q7,ae h8 q8,ae h9 q9,ae nz q10,ae CP q11,ae HM q12⟩
def jM(P:Program)(l:List Oper)(C:World->Prop)(Q:Exit->Act->World->Prop)(z:List Nat×Nat):List (List Nat×Nat)->Act->World->Prop
 | [],a,w=>wpQuiet P l.toArray C (fun a'=>wpList P l.toArray Q (af l [z.2]) a' w) (af l z.1) a
 | (seg,i)::more,a,w=>wpQuiet P l.toArray C (fun a'=>wpList P l.toArray (dE C (jM P l C Q z more) Q) (af l [i]) a' w) (af l seg) a
def sS(l:List Oper)(i:Nat):List Nat:=
 (List.range l.length).foldl (fun D q=>if(match l[q]? with|some o=>o.after.any fun e=>Region.binds .any e&&(e.on==i||D.contains e.on)|none=>false)then D++[q]else D) []
def ww(l:List Oper)(i z:Nat)(listed:Array Bool):Bool:=
 (sS l i).contains z&&(sS l i).all fun q=>!(listed.getD q true)&&(match l[q]? with|some o=>o.after.any fun e=>Region.binds .any e&&(e.on==i||(sS l i).contains e.on)|none=>false)
def iG(l:List Oper)(z:Nat):List Nat->Array Bool->Option (Array Bool)
 | [],listed=>some listed
 | i::is,listed=>if(Region.ready .any l.toArray listed).contains i&&Region.free .any l.toArray listed i&&((l[i]?).map tZ).getD false&&ww l i z listed then iG l z is (listed.setIfInBounds i true)else none
def oT(l:List Oper)(z:List Nat×Nat):List (List Nat×Nat)->Array Bool->Bool
 | [],listed=>match iG l z.2 z.1 listed with
  | some r=>Region.ready .any l.toArray r==[z.2]&&(Region.ready .any l.toArray (r.setIfInBounds z.2 true)).isEmpty
  | none=>false
 | (seg,i)::more,listed=>match iG l z.2 seg listed with
  | some r=>Region.ready .any l.toArray r==[i]&&oT l z more (r.setIfInBounds i true)
  | none=>false
def aaa(l:List Oper)(segs:List (List Nat×Nat))(z:List Nat×Nat):Bool:=
 Region.noSelect l.toArray&&(segs.map (fun s=>s.1.length+1)).sum+(z.1.length+1)==l.length&&oT l z segs (Array.replicate l.length false)
section
variable {P:Program}{ops:Array Oper}{Q:Exit->Act->World->Prop}{S:World->Prop}{z:Nat}
def gH(P:Program)(ops:Array Oper)(Q:Exit->Act->World->Prop)(S:World->Prop)(z:Nat):Nat->Array Bool->Act->World->Prop
 | 0,listed,a,w=>Region.ready .any ops listed=[]/\Q .normal a w
 | fuel+1,listed,a,w=>
  (Region.ready .any ops listed=[]->Q .normal a w)/\
  ∀i∈Region.ready .any ops listed,wpOp P ops Q i (fun a' w'=>(i=z\/S w')/\gH P ops Q S z fuel (listed.setIfInBounds i true) a' w') a w
theorem sI:∀(fuel:Nat) (listed:Array Bool) (a:Act) (w:World),gH P ops Q S z fuel listed a w->wpAny P .any ops Q fuel listed a w
 | 0,_,_,_,h=>h
 | fuel+1,_,_,_,h=>⟨h.1,fun i hi=>wpOp_mono (fun a' w' h'=>sI fuel _ a' w' h'.2) (h.2 i hi)⟩
theorem xc{i:Nat}{oi:Oper}{v:Value}{D:List Nat}(hi:ops[i]?=some oi)(PP:∀(j:Nat) (o:Oper) cs b,ops[j]?=some o->o.op≠.select cs b)
  (hQ:∀c a w,Q (.panic c) (a.put oi.dst v) w->Q (.panic c) a w) (Ub:z∈D) (hD:∀q∈D,∃oq,ops[q]?=some oq/\∃e∈oq.after,Region.binds .any e=true/\(e.on=i\/e.on∈D)) :
  ∀(fuel:Nat) (listed:Array Bool) (a:Act) (w:World),
   (∀q∈D,listed.getD q true=false)->
   (∀j oj,ops[j]?=some oj->j≠i->listed.getD j true=false->(∀e∈oj.after,Region.binds .any e=true->e.on≠i)->oi.apart ops oj=true)->
   i∈Region.ready .any ops listed->YieldsIf P ops S oi v a->S w->
   gH P ops Q S z fuel (listed.setIfInBounds i true) (a.put oi.dst v) w->gH P ops Q S z (fuel+1) listed a w:=by
 intro fuel;induction fuel with
 | zero=>
  intro listed a w _ _ hr hy hS H;refine⟨fun h=>(by rw[h]at hr;cases hr),fun j hj=>?_⟩;by_cases Kr:j=i
  ·subst Kr;exact hy.wpOp hi hS ⟨.inr hS,H⟩
  ·have:=ready_mono hj Kr;rw[H.1]at this;cases this
 | succ fuel ih=>
  intro listed a w Qp gT hr hy hS H;refine⟨fun h=>(by rw[h]at hr;cases hr),fun j hj=>?_⟩;by_cases Kr:j=i
  ·subst Kr;exact hy.wpOp hi hS ⟨.inr hS,H⟩
  ·have h1:=H.2 j (ready_mono hj Kr);obtain⟨Ql,oj,RO,eq⟩:=mem_ready.1 hj;have Pe:∀q,listed.getD q true=false->∀e∈oj.after,Region.binds .any e=true->e.on≠q:=fun q h0 e he hb uI=>by
    have h1:=eq e he hb;rw[uI]at h1;rcases Nat.lt_or_ge q listed.size with h'|h'
    ·simp[h']at h0 h1;rw[h0]at h1;cases h1
    ·simp[Array.getElem?_eq_none h']at h1
   have Qu:∀e∈oj.after,Region.binds .any e=true->e.on≠i:=Pe i (mem_ready.1 hr).1;have Wy:j∉D:=fun hm=>by
    obtain⟨oq,Vr,e,he,hb,h2⟩:=hD j hm;rw[RO]at Vr;obtain rfl:=Option.some.inj Vr;rcases h2 with h2|h2
    ·exact Qu e he hb h2
    ·exact Pe e.on (Qp _ h2) e he hb rfl
   have Xq:j≠z:=fun e=>Wy (e▸Ub)
   have h2:=wpOp_putIf RO (gT j oj RO Kr Ql Qu) (fun cs b=>PP i oi cs b hi) (fun cs b=>PP j oj cs b RO) hQ hy h1;have Bd:∀k ok,ops[k]?=some ok->k≠i->(listed.setIfInBounds j true).getD k true=false->
     (∀e∈ok.after,Region.binds .any e=true->e.on≠i)->oi.apart ops ok=true:=fun k ok hk SM Sb dt=>by
    refine gT k ok hk SM ?_ dt;by_cases R0:j=k
    ·subst R0;exact Ql
    ·rw[getD_set_ne true R0]at Sb;exact Sb
   have SE:∀q∈D,(listed.setIfInBounds j true).getD q true=false:=fun q hq=>by
    rw[getD_set_ne true (show j≠q from fun e=>by subst e;exact Wy hq)];exact Qp q hq
   refine wpOp_mono (fun a' w' h3=>⟨h3.2.1,ih (listed.setIfInBounds j true) a' w' SE Bd (ready_mono hr (Ne.symm Kr)) h3.1 (h3.2.1.resolve_left Xq) ?_⟩) h2;rw[Array.setIfInBounds_comm _ _ Kr];exact h3.2.2
theorem zP{i:Nat}{oi:Oper}{v:Value}{D:List Nat}{fuel:Nat}{listed:Array Bool}{a:Act}{w:World}(hi:ops[i]?=some oi)
  (hs:Region.noSelect ops=true) (hf:Region.free .any ops listed i=true) (hr:(Region.ready .any ops listed).contains i=true)
  (hQ:∀c a w,Q (.panic c) (a.put oi.dst v) w->Q (.panic c) a w) (Ub:z∈D) (hD:∀q∈D,∃oq,ops[q]?=some oq/\∃e∈oq.after,Region.binds .any e=true/\(e.on=i\/e.on∈D)) (Sb:∀q∈D,listed.getD q true=false) (hy:YieldsIf P ops S oi v a) (hS:S w)
  (h:gH P ops Q S z fuel (listed.setIfInBounds i true) (a.put oi.dst v) w):gH P ops Q S z (fuel+1) listed a w:=
 xc hi (Region.noSelect_spec hs) hQ Ub hD fuel listed a w Sb (Region.free_spec hi hf) (by simpa using hr) hy hS h
theorem rX{rs:List Nat}{fuel:Nat}{listed:Array Bool}{a:Act}{w:World}(hr:Region.ready .any ops listed=rs)(fV:rs≠[])
  (h:∀i∈rs,wpOp P ops Q i (fun a' w'=>(i=z\/S w')/\gH P ops Q S z fuel (listed.setIfInBounds i true) a' w') a w):gH P ops Q S z (fuel+1) listed a w:=
 ⟨fun h0=>absurd (hr▸h0) fV,hr▸h⟩
theorem xW{listed:Array Bool}{a:Act}{w:World}(hr:Region.ready .any ops listed=[])(h:Q .normal a w) :
  ∀fuel,gH P ops Q S z fuel listed a w
 | 0=>⟨hr,h⟩
 | _+1=>⟨fun _=>h,by rw[hr];simp⟩
end
section
variable {P:Program}{l:List Oper}{C:World->Prop}{Q:Exit->Act->World->Prop}{z:List Nat×Nat}
theorem HU{l:List Oper}{z i:Nat}{listed:Array Bool}(h:ww l i z listed=true) :
  z∈sS l i/\(∀q∈sS l i,∃oq,l.toArray[q]?=some oq/\∃e∈oq.after,Region.binds .any e=true/\(e.on=i\/e.on∈sS l i))/\∀q∈sS l i,listed.getD q true=false:=by
 unfold ww at h;rw[Bool.and_eq_true,List.all_eq_true]at h;refine⟨by simpa using h.1,fun q hq=>?_,fun q hq=>?_⟩
 ·have h1:=h.2 q hq;rw[Bool.and_eq_true]at h1;have h2:=h1.2;cases ho:l[q]? with
  | none=>rw[ho]at h2;cases h2
  | some o=>
   rw[ho]at h2;obtain⟨k,hk,he⟩:=Array.any_eq_true.1 h2;rw[Bool.and_eq_true,Bool.or_eq_true,beq_iff_eq]at he;exact⟨o,by simpa using ho,o.after[k],Array.getElem_mem hk,he.1,he.2.imp id (by simpa using ·)⟩
 ·have h1:=h.2 q hq;rw[Bool.and_eq_true,Bool.not_eq_true']at h1;exact h1.1
theorem ap{seg:List Nat}{i:Nat}{more:List (List Nat×Nat)}{a:Act}{w:World}
  (h:∀K:Act->World->Prop,(∀a w,jM P l C Q z more a w->K a w)->wpQuiet P l.toArray C (fun a'=>wpList P l.toArray (dE C K Q) (af l [i]) a' w) (af l seg) a) :
  jM P l C Q z ((seg,i)::more) a w:=h _ (fun _ _ h=>h)
theorem aC{a:Act}{w:World}(h:wpQuiet P l.toArray C (fun a'=>wpList P l.toArray Q (af l [z.2]) a' w) (af l z.1) a):jM P l C Q z [] a w:=h
theorem Dn{o:Oper}{a:Act}{w:World}{next K':Act->World->Prop}(h:∀a w,next a w->K' a w)(hh:o.wp P a w next Q):o.wp P a w K' Q:=by
 unfold Oper.wp at *;generalize(execOp a.eval o).run P w=r at *;cases r with
 | ok n w'=>
  cases n <;> simp only[Oper.upon]at hh ⊢ <;>
   first
    | exact h _ _ hh
    | exact Calls.mono hh (fun e w'' he=>by cases e <;> first|exact h _ _ he|exact he)
    | exact Rows.mono hh (fun _ _ he=>h _ _ he)
 | halt x w'=>cases x <;> simp only[Oper.upon]at hh ⊢ <;> exact hh
theorem tx{zi:Nat}(hs:Region.noSelect l.toArray=true)(hQ:∀c (a b:Act) w,a.defers=b.defers->Q (.panic c) a w->Q (.panic c) b w)(seg:List Nat) :
  ∀(listed r:Array Bool) (a:Act) (w:World) (fuel:Nat) (K:Act->Prop),iG l zi seg listed=some r->C w->wpQuiet P l.toArray C K (af l seg) a->
   (∀a',K a'->gH P l.toArray Q C zi fuel r a' w)->gH P l.toArray Q C zi (seg.length+fuel) listed a w:=by
 induction seg with
 | nil=>
  intro listed r a w fuel K hr hC h hK;simp only[iG,Option.some.injEq]at hr;subst hr;simpa using hK a h
 | cons i is ih=>
  intro listed r a w fuel K hr hC h hK;unfold iG at hr;by_cases hb:((Region.ready .any l.toArray listed).contains i&&Region.free .any l.toArray listed i&&((l[i]?).map tZ).getD false&&ww l i zi listed)=true
  ·rw[if_pos hb]at hr;rw[Bool.and_eq_true]at hb;obtain⟨w1,w2,w3⟩:=HU hb.2;have hb:=hb.1;simp only[Bool.and_eq_true]at hb;obtain⟨⟨dx,am⟩,oX⟩:=hb;cases ho:l[i]? with
   | none=>rw[ho]at oX;cases oX
   | some o=>
    rw[ho]at oX;have hp:af l (i::is)=o::af l is:=by simp[af,ho]
    rw[hp]at h;have h':wpQuiet P l.toArray C (wpQuiet P l.toArray C K (af l is)) [o] a:=h;obtain⟨v,hy,hn⟩:=jC oX h';rw[show(i::is).length+fuel=(is.length+fuel)+1 by simp;omega];exact zP (by simpa using ho) hs am dx (fun c a w hq=>hQ c _ _ w (uQ _ _ _) hq) w1 w2 w3 hy hC (ih _ r _ w fuel K hr hC hn hK)
  ·rw[if_neg hb]at hr;cases hr
theorem Ca{o:Oper}{a:Act}{w:World}{next K':Act->World->Prop}(h:∀a w,wpList P l.toArray (dE C next Q) [] a w->K' a w)(hh:o.wp P a w (wpList P l.toArray (dE C next Q) []) (dE C next Q)):o.wp P a w K' Q:=by
 unfold Oper.wp at *;generalize(execOp a.eval o).run P w=r at *;cases r with
 | ok n w'=>
  cases n <;> simp only[Oper.upon]at hh ⊢ <;>
   first
    | exact h _ _ hh
    | exact Calls.mono hh (fun e w'' he=>by cases e <;> first|exact h _ _ he|exact he)
    | exact Rows.mono hh (fun _ _ he=>h _ _ he)
 | halt x w'=>cases x <;> simp only[Oper.upon]at hh ⊢ <;> exact hh
theorem Gf(hs:Region.noSelect l.toArray=true)(hQ:∀c (a b:Act) w,a.defers=b.defers->Q (.panic c) a w->Q (.panic c) b w)(segs:List (List Nat×Nat)) :
  ∀(listed:Array Bool) (a:Act) (w:World),oT l z segs listed=true->C w->jM P l C Q z segs a w->
   gH P l.toArray Q C z.2 ((segs.map (fun s=>s.1.length+1)).sum+(z.1.length+1)) listed a w:=by
 induction segs with
 | nil=>
  intro listed a w hr hC h;unfold oT at hr;cases hc:iG l z.2 z.1 listed with
  | none=>rw[hc]at hr;cases hr
  | some r=>
   rw[hc]at hr;simp only[Bool.and_eq_true,beq_iff_eq]at hr;obtain⟨dx,bI⟩:=hr;have ah:((([]:List (List Nat×Nat)).map (fun s=>s.1.length+1)).sum+(z.1.length+1))=z.1.length+(0+1):=by simp
   rw[ah];refine tx (P:=P) (C:=C) (Q:=Q) hs hQ z.1 listed r a w _ _ hc hC h fun a' ha=>?_
   refine rX dx (by simp) fun j hj=>?_
   obtain rfl:j=z.2:=by simpa using hj
   have np:z.2∈Region.ready .any l.toArray r:=by rw[dx];simp
   obtain⟨_,o,ho,_⟩:=mem_ready.1 np;have LO:l[z.2]?=some o:=by simpa using ho
   have hp:af l [z.2]=[o]:=by simp[af,LO]
   rw[hp]at ha;unfold wpOp;rw[ho];simp only[];unfold wpList at ha;have jG:∀a2 w2,wpList P l.toArray Q [] a2 w2->(True\/C w2)/\gH P l.toArray Q C z.2 0 (r.setIfInBounds z.2 true) a2 w2:=
    fun a2 w2 h2=>⟨.inl trivial,xW (by simpa using bI) h2 0⟩
   split
   ·rename_i hw;rw[if_pos hw]at ha;exact ha.imp (Dn jG) (fun h2=>h2)
   ·rename_i hw;rw[if_neg hw]at ha;exact jG _ _ ha
 | cons s more ih=>
  obtain⟨seg,i⟩:=s;intro listed a w hr hC h;unfold oT at hr;cases hc:iG l z.2 seg listed with
  | none=>rw[hc]at hr;cases hr
  | some r=>
   rw[hc]at hr;simp only[Bool.and_eq_true,beq_iff_eq]at hr;obtain⟨dx,Fp⟩:=hr;have ah:(((seg,i)::more).map (fun s=>s.1.length+1)).sum+(z.1.length+1)=seg.length+(((more.map (fun s=>s.1.length+1)).sum+(z.1.length+1))+1):=by
    simp;omega
   rw[ah];refine tx (P:=P) (C:=C) (Q:=Q) hs hQ seg listed r a w _ _ hc hC h fun a' ha=>?_
   refine rX dx (by simp) fun j hj=>?_
   obtain rfl:j=i:=by simpa using hj
   have np:j∈Region.ready .any l.toArray r:=by rw[dx];simp
   obtain⟨_,o,ho,_⟩:=mem_ready.1 np;have LO:l[j]?=some o:=by simpa using ho
   have hp:af l [j]=[o]:=by simp[af,LO]
   rw[hp]at ha;unfold wpOp;rw[ho];simp only[];unfold wpList at ha;have jG:∀a2 w2,wpList P l.toArray (dE C (jM P l C Q z more) Q) [] a2 w2->(j=z.2\/C w2)/\gH P l.toArray Q C z.2 ((more.map (fun s=>s.1.length+1)).sum+(z.1.length+1)) (r.setIfInBounds j true) a2 w2:=
    fun a2 w2 h2=>⟨.inr h2.1,ih _ a2 w2 Fp h2.1 h2.2⟩
   split
   ·rename_i hw;rw[if_pos hw]at ha;exact ha.imp (Ca jG) (fun h2=>h2)
   ·rename_i hw;rw[if_neg hw]at ha;exact jG _ _ ha
theorem bT{id:Nat}{a:Act}{w:World}(segs:List (List Nat×Nat))(z:List Nat×Nat)(hm:P.follows .mixedOrders=true)(hB:aaa l segs z=true)
  (hQ:∀c (a b:Act) w,a.defers=b.defers->Q (.panic c) a w->Q (.panic c) b w) (hC:C w.drew) (h:jM P l C Q z segs a w.drew):(Code.region id l.toArray true).wp P Q a w:=by
 simp only[aaa,Bool.and_eq_true,beq_iff_eq]at hB;obtain⟨⟨hs,ah⟩,bP⟩:=hB;refine wp_region_any hm (sI (S:=C) (z:=z.2) _ _ _ _ ?_);have:=Gf (P:=P) hs hQ segs _ a w.drew bP hC h;rw[ah]at this;simpa using this
end
theorem dV {P:Program}{l:List Oper}{id:Nat}{a:Act}{Q:Exit->Act->World->Prop}(gs:List Nat)(w:World)(segs:List (List Nat × Nat))(last:List Nat)(h:lL P l (dP gs w) Q segs last a w.drew)(hm:P.follows .mixedOrders=true:=by kernel_rfl)(hB:MG l segs last=true:=by kernel_rfl)(hQ:∀c (a b:Act) w,a.defers=b.defers->Q (.panic c) a w->Q (.panic c) b w:=by exact fun _ _ _ _ e h=>⟨e.symm.trans h.1,h.2⟩):(Code.region id l.toArray true).wp P Q a w:=
 cF segs last hm hB hQ aR h
theorem mI {P:Program}{l:List Oper}{id:Nat}{a:Act}{Q:Exit->Act->World->Prop}(gs:List Nat)(w:World)(segs:List (List Nat × Nat))(z:List Nat × Nat)(h:jM P l (dP gs w) Q z segs a w.drew)(hm:P.follows .mixedOrders=true:=by kernel_rfl)(hB:aaa l segs z=true:=by kernel_rfl)(hQ:∀c (a b:Act) w,a.defers=b.defers->Q (.panic c) a w->Q (.panic c) b w:=by exact fun _ _ _ _ e h=>⟨e.symm.trans h.1,h.2⟩):(Code.region id l.toArray true).wp P Q a w:=
 bT segs z hm hB hQ aR h
def sZ(L:List TypeId)(w:World)(j:Nat):Prop:=∃(cs:Array Value) (_:Unit) (ty:TypeId),w.heap[j]?=some (.cells cs ty (0,0))/\ty∈L
def bG(L:List TypeId)(B:Nat)(w:World)(j:Nat):Prop:=B<=j/\sZ L w j
def TD:List TypeId:=[191,193,9,3]
def bt(L:List TypeId)(w w':World):Prop:=∀j,sZ L w j->w'.heap[j]?=w.heap[j]?
section
variable {L L':List TypeId}{B B':Nat}{w w' w'':World}{S:Nat->Prop}
theorem bt.refl(L:List TypeId)(w:World):bt L w w:=fun _ _=>rfl
theorem sZ.move{j:Nat}(h:sZ L w j)(hk:bt L w w'):sZ L w' j:=by
 obtain⟨cs,fz,ty,h1,h2⟩:=id h;exact⟨cs,fz,ty,(hk j h).trans h1,h2⟩
theorem bt.trans(h:bt L w w')(h':bt L w' w''):bt L w w'':=fun j hj=>(h' j (hj.move h)).trans (h j hj)
theorem bt.below(h:Below w.heap.size w w'):bt L w w':=fun j hj=>by
 obtain⟨cs,fz,ty,h1,_⟩:=hj;exact h.block _ (aV h1)
theorem bt.grown{base size n c:Nat}{e:TypeId}{A:Option Addr}{xs:List Value}(h:w.ownsRow base e size (.slice A n c) n xs)(hg:w.grownBy w' (Value.slice A n c).ownBlock)(he:e∉L):bt L w w':=fun j hj=>by
 obtain⟨cs,fz,ty,h1,h2⟩:=hj;refine hg.block j (aV h1) fun ho=>?_
 rcases h.2 with⟨h0,_⟩|⟨g',cap',cur',h0,_,CM,_⟩
 ·rw[h0]at ho;cases ho
 ·rw[h0]at ho;injection ho with ho;rw[show j=g' from ho,CM]at h1;injection h1 with h1;injection h1 with _ h1;exact he (h1▸h2)
theorem bt.set{g i:Nat}{T:TypeId}{cs:Array Value}{u:Value}(hb:ar w g T cs)(hT:T∉L):bt L w (w.setCell ⟨g,i,none⟩ u):=fun j hj=>by
 obtain⟨ds,fz,ty,h1,h2⟩:=hj;refine Below.heap_setCell w _ u j fun e=>?_
 have e:j=g:=e;unfold ar at hb;rw[e,hb]at h1;injection h1 with h1;injection h1 with _ h1;exact hT (h1▸h2)
theorem bG.stay(h:bt L w w'):bz (bG L B w) w w':=fun j hj _=>h j hj.2
theorem bG.moved(h:bt L w w'):∀j,j<w'.heap.size->bG L B w j->bG L B w' j:=fun _ _ hj=>⟨hj.1,hj.2.move h⟩
theorem bG.wide(hL:∀t∈L,t∈L')(hB:B'<=B):∀j,j<w.heap.size->bG L B w j->bG L' B' w j:=fun _ _ hj=>⟨Nat.le_trans hB hj.1,by
 obtain⟨cs,fz,ty,h1,h2⟩:=hj.2;exact⟨cs,fz,ty,h1,hL _ h2⟩⟩
theorem gm.move{v:Value}{p:List ByteArray}(h:gm (bG L B w) w v p)(hk:bt L w w'):gm (bG L B w') w' v p:=(h.keep (bG.stay hk)).mono (bG.moved hk)
theorem fJ.move{v:Value}{p:List Int}(h:fJ (bG L B w) w v p)(hk:bt L w w'):fJ (bG L B w') w' v p:=(h.keep (bG.stay hk)).mono (bG.moved hk)
theorem dS.move{v:Value}{p:List (List ByteArray)}(h:dS (bG L B w) w v p)(hk:bt L w w'):dS (bG L B w') w' v p:=(h.keep (bG.stay hk)).mono (bG.moved hk)
theorem aG.move{v:Value}{p:List Fa}(h:aG (bG L B w) w v p)(hk:bt L w w'):aG (bG L B w') w' v p:=(h.keep (bG.stay hk)).mono (bG.moved hk)
theorem bq.move{zs:List (Value×En)}(h:bq (bG L B w) w zs)(hk:bt L w w'):bq (bG L B w') w' zs:=fun z hz=>(h z hz).move hk
theorem Sl.of_new{base size n c:Nat}{e:TypeId}{A:Option Addr}{xs:List Value}(h:w.ownsRow base e size (.slice A n c) n xs)(he:e∈L):Sl (bG L base w) w size (.slice A n c) n xs:=
 Sl.of_own h fun _ h1 _ ⟨cs,h2⟩=>⟨h1,cs,(),e,h2,he⟩
end
theorem Ig{L:List TypeId}{base size n:Nat}{e:TypeId}{v:Value}{xs:List Value}{w w':World}(h:w.ownsRow base e size v n xs)(he:e∈L)(hk:bt L w w'):w'.ownsRow base e size v n xs:=by
 refine⟨h.1,?_⟩;rcases h.2 with h0|⟨g,cap,cur,h1,h2,h3,h4⟩
 ·exact .inl h0
 ·exact .inr ⟨g,cap,cur,h1,h2,(hk g ⟨cur,(),e,h3,he⟩).trans h3,h4⟩
theorem ar.stay{L:List TypeId}{g:Nat}{T:TypeId}{cs:Array Value}{w w':World}(h:ar w g T cs)(hT:T∈L)(hk:bt L w w'):ar w' g T cs:=(hk g ⟨cs,(),T,h,hT⟩).trans h
theorem cn.one(w:World)(T:TypeId)(v:Value):cn (w.alloc (.cells #[v] T)) 1 (some ⟨w.heap.size,0,none⟩) 1 [v]:=by
 refine⟨rfl,fun _=>⟨_,rfl,fun j u hu=>?_⟩⟩
 match j with
 | 0=>
  simp only[List.getElem?_cons_zero,Option.some.injEq]at hu;subst hu;rw[nL];exact cell_of_row _ _ 0 _ _ _ (heap_alloc_new w _)
 | j+1=>simp at hu
theorem Ga:(prog.info? 9).map (fun i=>(i.zero,i.size,i.bytes))=some (some (.string ByteArray.empty),1,16):=by kernel_rfl
theorem EY:(prog.info? 193).map (fun i=>(i.zero,i.size,i.bytes))=some (some (.slice none 0 0),1,24):=by kernel_rfl
theorem EQ:(prog.info? 191).map (fun i=>(i.zero,i.size,i.bytes))=some (some (.agg #[.slice none 0 0,.slice none 0 0]),2,48):=by kernel_rfl
theorem B5(A:Option Addr)(n c:Nat)(l:List Int)(w:World)(hr:fB w A n l)(hn:n<=1000000) :
  Calls prog 146 #[.slice A n c] w fun e w'=>∃A' c',e=.returned (.slice A' n c')/\
   w'.ownsRow w.heap.size 3 1 (.slice A' n c') n (l.map vi)/\Below w.heap.size w w':=by
 have q30:∀(w:World) (a:Option Addr) (n c n' c':Nat),(binOp .eql 76 (.slice a n c) (.slice none n' c')).run prog w=.ok (.bool a.isNone) w:=fun w a n c n' c'=>Lib.run_eql_slice_nil w _ _ a n c n' c' underlying76
 rcases A with _|ad
 ·have h0:n=0:=by
   rcases Nat.eq_zero_or_pos n with h|h
   ·exact h
   ·obtain⟨ad,e,_⟩:=hr.at_ h;cases e
  subst h0;have hl:l=[]:=List.eq_nil_of_length_eq_zero hr.len;subst hl;go_enter func146,ntmps146
  go_wp2
  go_ret;exact⟨none,0,rfl,b9 _ _,Below.refl _ _⟩
 ·have bs:Below w.heap.size w (w.alloc (.cells #[] 3)):=zb.alloc zl _;have aD:(w.alloc (.cells #[] 3)).ownsRow w.heap.size 3 1 (.slice (some ⟨w.heap.size,0,none⟩) 0 0) 0 (([]:List Int).map vi):=qZ _ [] 0 rfl zz;go_enter func146,ntmps146;go_wp2_with (first
    | (at_builtin;refine bi rfl (.tmp 5) (.tmp 6) rfl w.heap.size rfl aD rfl (hr.alloc _) (by omega) bs.size ?_;intro A3 c3 w3 bF gK bS;clear gK)
    | fail)
  go_ret;simp only[Nat.zero_add,List.nil_append]at bF;exact⟨A3,c3,rfl,bF,bs.trans bS⟩
theorem I6(l:List ByteArray)(u:Value)(h:u∈l.map Od):u.oneCell'=true:=by
 obtain⟨b,_,rfl⟩:=List.mem_map.1 h;rfl
theorem Ck(A:Option Addr)(n c:Nat)(l:List ByteArray)(w:World)(hr:wu w A n l)(hn:n<=1000000) :
  Calls prog 147 #[.slice A n c] w fun e w'=>∃A' c',e=.returned (.slice A' n c')/\
   w'.ownsRow w.heap.size 9 1 (.slice A' n c') n (l.map Od)/\Below w.heap.size w w':=by
 have q30:∀(w:World) (a:Option Addr) (n c n' c':Nat),(binOp .eql 193 (.slice a n c) (.slice none n' c')).run prog w=.ok (.bool a.isNone) w:=fun w a n c n' c'=>Lib.run_eql_slice_nil w _ _ a n c n' c' underlying193
 obtain⟨i0,iy,jK,iL,gL⟩:=info_parts Ga;rcases A with _|ad
 ·have h0:n=0:=by
   rcases Nat.eq_zero_or_pos n with h|h
   ·exact h
   ·obtain⟨ad,_,e,_⟩:=hr.at_ h;cases e
  subst h0;have hl:l=[]:=List.eq_nil_of_length_eq_zero hr.len;subst hl;go_enter func147,ntmps147
  go_wp2
  go_ret;exact⟨none,0,rfl,b9 _ _,Below.refl _ _⟩
 ·have bs:Below w.heap.size w (w.alloc (.cells #[] 9)):=zb.alloc zl _;have aD:(w.alloc (.cells #[] 9)).ownsRow w.heap.size 9 1 (.slice (some ⟨w.heap.size,0,none⟩) 0 0) 0 []:=qZ _ [] 0 rfl zz;have jX:cn (w.alloc (.cells #[] 9)) 1 (some ad) n (l.map Od):=cn.alloc hr _;go_enter func147,ntmps147;go_wp2_with (first
    | (at_builtin;refine bb _ rfl (.tmp 5) (.tmp 6) 193 rfl w.heap.size 9 i0 _ 1 16 underlying193 iy jK iL gL rfl (by omega) _ 0 [] rfl aD (some ad) n c _ rfl jX (I6 l) (by unfold maxLen;omega) (by omega) bs.size ?_;intro A3 c3 w3 bF gK _)
    | fail)
  have bS:=eY aD gK bs.size;simp only[Nat.zero_add,List.nil_append]at bF;clear gK;go_ret;exact⟨A3,c3,rfl,bF,bs.trans bS⟩
def Nd:List TypeId:=[193,9,3]
def Rb:List TypeId:=[9]
def TI1:List TypeId:=[3]
def AY(B:Nat)(w:World)(A:Option Addr)(k c:Nat)(fs:List Fa):Prop:=
 ∃ys:List (Value×Value),w.ownsRow B 191 2 (.slice A k c) k (ys.flatMap Qk)/\ys.length=k/\fs.length=k/\∀(i:Nat) f,fs[i]?=some f->∃y,ys[i]?=some y/\dS (bG Nd B w) w y.1 f.paths/\fJ (bG Nd B w) w y.2 f.vals
def te(B B':Nat)(w:World)(A:Option Addr)(k c:Nat)(ps:List (List ByteArray)):Prop:=
 ∃vs:List Value,w.ownsRow B 193 1 (.slice A k c) k vs/\ps.length=k/\∀(i:Nat) p,ps[i]?=some p->∃u,vs[i]?=some u/\gm (bG Rb B' w) w u p
section
variable {B B':Nat}{w w':World}{A:Option Addr}{k c:Nat}
theorem AY.below{fs:List Fa}(h:AY B w A k c fs)(hb:Below w.heap.size w w'):AY B w' A k c fs:=by
 obtain⟨ys,h1,h2,h3,h4⟩:=h;refine⟨ys,bf h1 hb,h2,h3,fun i f hf=>?_⟩;obtain⟨y,h5,h6,h7⟩:=h4 i f hf;exact⟨y,h5,h6.move (bt.below hb),h7.move (bt.below hb)⟩
theorem te.below{ps:List (List ByteArray)}(h:te B B' w A k c ps)(hb:Below w.heap.size w w'):te B B' w' A k c ps:=by
 obtain⟨vs,h1,h3,h4⟩:=h;refine⟨vs,bf h1 hb,h3,fun i f hf=>?_⟩;obtain⟨u,h5,h6⟩:=h4 i f hf;exact⟨u,h5,h6.move (bt.below hb)⟩
theorem te.stay{ps:List (List ByteArray)}(h:te B B' w A k c ps)(h1:bt [193] w w')(h2:bt Rb w w'):te B B' w' A k c ps:=by
 obtain⟨vs,h3,h4,h5⟩:=h;refine⟨vs,Ig h3 (by decide) h1,h4,fun i f hf=>?_⟩;obtain⟨u,h6,h7⟩:=h5 i f hf;exact⟨u,h6,h7.move h2⟩
theorem te.paths{ps:List (List ByteArray)}(h:te B B w A k c ps):dS (bG Nd B w) w (.slice A k c) ps:=by
 obtain⟨vs,h1,h3,h4⟩:=h;refine⟨vs,?_,fun i p hp=>?_⟩
 ·subst h3;exact Sl.of_new (L:=Nd) h1 (by decide)
 ·obtain⟨u,h5,h6⟩:=h4 i p hp;exact⟨u,h5,h6.mono (bG.wide (by decide) zl)⟩
theorem AY.facts{fs:List Fa}(h:AY B w A k c fs):aG (bG TD B w) w (.slice A k c) fs:=by
 obtain⟨ys,h1,h2,h3,h4⟩:=h;refine⟨ys,?_,by omega,fun i f hf=>?_⟩
 ·subst h3;exact Sl.of_new (L:=TD) h1 (by decide)
 ·obtain⟨y,h5,h6,h7⟩:=h4 i f hf;exact⟨y,h5,h6.mono (bG.wide (by decide) zl),h7.mono (bG.wide (by decide) zl)⟩
end
theorem G3(S:Nat->Prop)(A:Option Addr)(n c:Nat)(fs:List Fa)(w:World)(hf:aG S w (.slice A n c) fs)(hn:n<=100000)(BM:∀f∈fs,f.paths.length<=100000/\f.vals.length<=100000/\∀p∈f.paths,p.length<=100000) :
  Calls prog 129 #[.slice A n c] w fun e w'=>∃A' c',e=.returned (.slice A' n c')/\AY w.heap.size w' A' n c' fs/\Below w.heap.size w w':=by
 have H1:=zH (mC hf);have Hsm:=zH BM;clear BM;go_enter func129,ntmps129;go_wp2_with fail
 go_loopw [3,11] (fun o i wr=>∃(k:Nat) (A':Option Addr) (c':Nat),k<=n/\i=.int .i64 k/\o=.slice A' k c'/\AY w.heap.size wr A' k c' (fs.take k)/\Below w.heap.size w wr) (fun _ i _=>n-(intOf i).toNat)
 case atStart=>exact⟨0,none,0,Nat.zero_le _,rfl,rfl,⟨[],b9 _ _,rfl,rfl,fun i f h=>by cases h⟩,Below.refl _ _⟩
 case round=>
  obtain⟨k,A',c',hk,rfl,rfl,hO,hb⟩:=hrel;by_cases aU:k<n
  ·obtain⟨ad,f,B,mp,d,C,mv,r,rfl,DW,c0,c1,hp,Oh,vw,Fb,mx,JU,KP,wN⟩:=(hf.keep (bz.below (S:=S) hb)).at_ aU;have RR:=Hsm.out f (List.mem_of_getElem? DW);have Hpl:=zH mx;have Hvl:=zH wN;have Z7:mp<=100000:=by rw[<-mx];exact RR.1
   have I5:mv<=100000:=by rw[<-wN];exact RR.2.1
   have Hsp:=zH RR.2.2;have Htk:=zH (show fs.take (k+1)=fs.take k++[f] by rw[List.take_add_one,DW];rfl);have aP:=zH (show n-(k+1)<n-k by omega);clear mx wN RR DW;have aI:Below wr.heap.size wr (wr.alloc (.cells #[.slice B mp d,.slice C mv r] 191)):=zb.alloc zl _;have dv:=ar.new wr 191 #[.slice B mp d,.slice C mv r];have Fc:=hp.keep (bz.below (S:=S) aI);have bH:=Oh.keep (bz.below (S:=S) aI);have iM:=ab hb aI zl;have Vo:=hO.below aI;go_wp2_with fail;generalize wr.alloc (.cells #[.slice B mp d,.slice C mv r] 191)=w2 at *;generalize wr.heap.size=g at *;refine(B5 _ _ _ _ _ bH.rd (by omega)).mono ?_;rintro e w3 ⟨A3,c3,rfl,bF,bS⟩;have fX:=(dv.kept bS).cell 0;simp only[List.getElem?_toArray,List.getElem?_cons_zero]at fX;have Ex:=Fc.keep (bz.below (S:=S) bS);have VV:=Vo.below bS;have eE:=ab iM bS zl;have cQ:=Nat.lt_of_lt_of_le dv.lt bS.size;have cw:=iM.size;clear hO Vo hp Fc hb iM;go_wp2_with fail;have kS:w3.heap.size=w3.heap.size:=rfl;have cz:Below w3.heap.size w3 (w3.alloc (.cells #[.slice none 0 0,.slice A3 mv c3] 191)):=zb.alloc zl _;have ED:=ar.new w3 191 #[.slice none 0 0,.slice A3 mv c3];clear kS;generalize PK:w3.heap.size=g6 at *;have J8:=zH PK;clear PK
   go_loopw [22] (fun i wr'=>∃(j:Nat) (A6:Option Addr) (c6:Nat),j<=mp/\i=.int .i64 j/\ar wr' g6 191 #[.slice A6 j c6,.slice A3 mv c3]/\te g6 g6 wr' A6 j c6 (f.paths.take j)/\Below g6 w3 wr') (fun i _=>mp-(intOf i).toNat)
   case atStart=>exact⟨0,none,0,Nat.zero_le _,rfl,ED,⟨[],b9 _ _,rfl,fun i p h=>by cases h⟩,cz⟩
   case round=>
    obtain⟨j,A6,c6,hj,rfl,fS,hP,jH⟩:=hrel;have PE:=fS.lt;by_cases ku:j<mp
    ·obtain⟨cd,p,C1,s1,t1,rfl,nK,c2,z1,z2,z3,z4⟩:=(Ex.keep (bz.below (S:=S) (by rw[J8.out];exact jH))).at_ ku;have rl:s1<=100000:=by rw[<-z4];exact Hsp.out p (List.mem_of_getElem? nK)
     have Htk':=zH (show f.paths.take (j+1)=f.paths.take j++[p] by rw[List.take_add_one,nK];rfl);have fM:=zH (show mp-(j+1)<mp-j by omega);clear nK;have q0:=fS.cell 0;simp only[List.getElem?_toArray,List.getElem?_cons_zero]at q0;have k0:=CV [g6] q0;go_wp2_with fail;refine mI [g6] wr [([0,1,2],3),([],4),([],5)] ([6],7) ?_;refine ap fun K1 ct=>?_
     simp only[af,Zx];repeat go_big_quiet_step(fail)
     apply wpQuiet_nil;go_wp2_with fail;refine(Ck (w:=wr.drew) _ _ _ _ z1.rd (by omega)).mono ?_;rintro e w5 ⟨A8,c8,rfl,QY,cD⟩;have cD:Below wr.heap.size wr w5:=(aA (Below.refl wr.heap.size wr) 1).trans cD;go_wp2_with fail;refine⟨aq (by simp;exact PE) cD,ct _ _ ?_⟩;have gz:Below w5.heap.size w5 (w5.alloc (.cells #[.slice A8 s1 c8] 193)):=zb.alloc zl _;have KB:=cn.one w5 193 (.slice A8 s1 c8);have vX:=ab cD gz zl;have qp:=hP.below vX;have oC:=bf QY gz;have Rs:=fS.kept vX;have Jd:g6<=(w5.alloc (.cells #[.slice A8 s1 c8] 193)).heap.size:=by have:=vX.size;omega
     refine ap fun K2 ge=>?_
     simp only[af,Zx];repeat go_big_quiet_step(fail)
     apply wpQuiet_nil;go_wp2_with fail;refine⟨aq (by simp;exact PE) vX,ge _ _ ?_⟩;generalize w5.alloc (.cells #[.slice A8 s1 c8] 193)=w6 at *;obtain⟨vs6,bP,qo,lC⟩:=qp;obtain⟨i0,iy,jK,iL,gL⟩:=info_parts EY;have Hi0:=zH iy;have Hz0:=zH jK;have Hz1:=zH iL;have Hz2:=zH gL;clear iy jK iL gL;have KJ:j+1<=1000000:=by omega
     refine ap fun K3 jx=>?_
     simp only[af,Zx];repeat go_big_quiet_step(fail)
     apply wpQuiet_nil;go_wp2_with (at_builtin;refine bb _ rfl (.tmp 27) (.tmp 30) 189 rfl g6 193 i0 _ 1 24 underlying189 Hi0.out Hz0.out Hz1.out Hz2.out rfl (by omega) (.slice A6 j c6) j vs6 rfl bP (some ⟨w5.heap.size,0,none⟩) 1 1 [.slice A8 s1 c8] rfl KB (fun u hu=>by rw[List.mem_singleton.1 hu];rfl) (by unfold maxLen;omega) (by omega) Jd ?_;intro A9 c9 w9 Ge hg9 _);have D8:ar w9 g6 191 #[.slice A6 j c6,.slice A3 mv c3]:=Rs.stay (L:=[191]) (by decide) (bt.grown bP hg9 (by decide));have aE:=bt.grown (L:=Rb) bP hg9 (by decide);have mE:te g6 g6 w9 A9 (j+1) c9 (f.paths.take (j+1)):=by
      refine⟨_,Ge,by rw[Htk'.out,List.length_append,qo];rfl,fun i q hq=>?_⟩;have S8:vs6.length=j:=by have:=bP.1;omega
      rw[Htk'.out]at hq;rcases Nat.lt_or_ge i j with hi|hi
      ·rw[List.getElem?_append_left (by omega)]at hq;obtain⟨u,hu,X6⟩:=lC i q hq;exact⟨u,by rw[List.getElem?_append_left (by omega)];exact hu,X6.move aE⟩
      ·rw[List.getElem?_append_right (by omega),qo]at hq;have iy:i=j:=by
        rcases Nat.eq_zero_or_pos (i-j)with h'|h'
        ·omega
        ·rw[List.getElem?_eq_none (by simp;omega)]at hq;cases hq
       subst iy;simp only[Nat.sub_self,List.getElem?_cons_zero,Option.some.injEq]at hq;subst hq;refine⟨_,by rw[List.getElem?_append_right (by omega),S8,Nat.sub_self];rfl,?_⟩;have h1:=Sl.of_new (L:=Rb) oC (by decide);rw[<-z4]at h1;have h2:gm (bG Rb g6 w6) w6 (.slice A8 s1 c8) p:=Sl.mono (by rw[<-z4];exact h1) (by omega) (bG.wide (fun _ h=>h) (by show g6<=wr.heap.size;omega));exact h2.move aE
     have Sm:Below g6 w6 w9:=eY bP hg9 Jd;have OG:Below g6 w3 w9:=(jH.trans (vX.mono (by omega))).trans Sm;go_wp2_with fail;refine⟨dN (fun q hq=>by rw[List.mem_singleton.1 hq];exact Eq.trans D8 fS.symm),jx _ _ ?_⟩;have f0:=D8.free 0;have r0:=D8.cell 0;simp only[List.getElem?_toArray,List.getElem?_cons_zero]at r0;clear hg9 Ge bP lC;have aF:ar (w9.setCell ⟨g6,0,none⟩ (.slice A9 (j+1) c9)) g6 191 #[.slice A9 (j+1) c9,.slice A3 mv c3]/\te g6 g6 (w9.setCell ⟨g6,0,none⟩ (.slice A9 (j+1) c9)) A9 (j+1) c9 (f.paths.take (j+1))/\Below g6 w3 (w9.setCell ⟨g6,0,none⟩ (.slice A9 (j+1) c9)):=
      ⟨by simpa using D8.set_ 0 (.slice A9 (j+1) c9),mE.stay (bt.set D8 (by decide)) (bt.set D8 (by decide)),OG.setCell zl _⟩
     have aF:=zH aF;clear mE OG aE;refine aC ?_;simp only[af,Zx];repeat go_big_quiet_step(fail)
     apply wpQuiet_nil;go_wp2_with fail;refine⟨⟨j+1,A9,c9,ku,by go_num,aF.out.1,aF.out.2.1,aF.out.2.2⟩,by simp[intOf];exact fM.out⟩
    ·obtain rfl:j=mp:=by omega
     obtain⟨w4,rfl⟩:∃wo:World,wo=wr:=⟨_,rfl⟩;rw[List.take_of_length_le (by rw[Hpl.out];omega)]at hP;have qx:Below w3.heap.size w3 w4:=by rw[J8.out];exact jH
     have fR:=bf bF qx;have VM:=VV.below qx;have Nv:=hP.paths;have VQ:=Sl.of_new (L:=Nd) fR (by decide);obtain⟨r0,r1,-⟩:=fS.cs [0,1];simp only[Zx]at r0 r1;have iN:=ab eE qx zl;have Ty:w.heap.size<=g6:=by rw[<-J8.out];exact eE.size
     have eK:Below w4.heap.size w4 (w4.alloc (.cells #[.slice A6 j c6,.slice A3 mv c3] 191)):=zb.alloc zl _;have gN:=ar.new w4 191 #[.slice A6 j c6,.slice A3 mv c3];have Yq:=VM.below eK;have T9:=Nv.move (bt.below eK);have Nk:fJ (bG Nd w2.heap.size w4) w4 (.slice A3 mv c3) f.vals:=by
      show Sl _ _ _ _ _ _;rw[Hvl.out];exact VQ
     have Nk:=Nk.move (bt.below eK);have kw:=ab iN eK zl;have sx:cn (w4.alloc (.cells #[.slice A6 j c6,.slice A3 mv c3] 191)) 2 (some ⟨w4.heap.size,0,none⟩) 1 [.slice A6 j c6,.slice A3 mv c3]:=⟨rfl,fun _=>⟨_,rfl,fun q u hu=>by
      have e:(⟨w4.heap.size,0,none⟩:Addr).add q=⟨w4.heap.size,q,none⟩:=by unfold Addr.add;split <;> simp[*]
      rw[e,gN.cell q,<-hu];simp⟩⟩
     obtain⟨ys,bP,V6,V0,lC⟩:=Yq;obtain⟨i0,iy,jK,iL,gL⟩:=info_parts EQ;clear VV VM bF fR Nv VQ hP jH;go_wp2_with (at_builtin;refine bb _ rfl (.tmp 34) (.tmp 36) 40 rfl w.heap.size 191 i0 _ 2 48 underlying40 iy jK iL gL rfl (by omega) (.slice A' k c') k _ rfl bP (some ⟨w4.heap.size,0,none⟩) 1 1 _ rfl sx (fun u hu=>by simp at hu;rcases hu with rfl|rfl <;> rfl) (by unfold maxLen;omega) (by omega) kw.size ?_;intro A9 c9 w9 oC hg9 _);have aE:=bt.grown (L:=Nd) bP hg9 (by decide);refine⟨⟨k+1,A9,c9,aU,by go_num,rfl,⟨ys++[(.slice A6 j c6,.slice A3 mv c3)],?_,by simp[V6],by rw[Htk.out,List.length_append,V0];rfl,fun i q hq=>?_⟩,kw.trans (eY bP hg9 kw.size)⟩,by simp[intOf];exact aP.out⟩
     ·rw[List.flatMap_append];exact oC
     ·rw[Htk.out]at hq;rcases Nat.lt_or_ge i k with hi|hi
      ·rw[List.getElem?_append_left (by omega)]at hq;obtain⟨y,hy,h1,h2⟩:=lC i q hq;exact⟨y,by rw[List.getElem?_append_left (by omega)];exact hy,h1.move aE,h2.move aE⟩
      ·rw[List.getElem?_append_right (by omega),V0]at hq;have iy:i=k:=by
        rcases Nat.eq_zero_or_pos (i-k)with h'|h'
        ·omega
        ·rw[List.getElem?_eq_none (by simp;omega)]at hq;cases hq
       subst iy;simp only[Nat.sub_self,List.getElem?_cons_zero,Option.some.injEq]at hq;subst hq;exact⟨_,by rw[List.getElem?_append_right (by omega),V6,Nat.sub_self];rfl,(T9.mono (bG.wide (fun _ h=>h) Ty)).move aE,(Nk.mono (bG.wide (fun _ h=>h) cw)).move aE⟩
  ·obtain rfl:k=n:=by omega
   rw[List.take_of_length_le (by rw[H1.out];omega)]at hO;go_wp2_with fail;go_ret;exact⟨A',c',rfl,hO,hb⟩
def pq(fs:List Fa):Prop:=fs.length<=100000/\∀f∈fs,f.paths.length<=100000/\f.vals.length<=100000/\∀p∈f.paths,p.length<=100000
theorem Cp{fs:List Fa}(h:qK fs=0):pq fs:=by
 unfold qK at h;by_cases h8:8<fs.length
 ·rw[if_pos h8]at h;cases h
 ·rw[if_neg h8]at h;cases ha:fs.any fun f=>!eP f with
  | true=>rw[ha]at h;cases h
  | false=>
   rw[List.any_eq_false]at ha;refine⟨by omega,fun f hf=>?_⟩;have hp:eP f=true:=by have:=ha f hf;simpa using this
   obtain⟨h1,h2,h3⟩:=kK hp;exact⟨by omega,by omega,fun p hp=>by have:=rz (h1 p hp);omega⟩
theorem AQ{x:En}(h:kY x=0):pq x.facts:=by
 unfold kY at h;split at h
 ·cases h
 ·split at h
  ·cases h
  ·exact Cp h
theorem lP{x:En}(h:dI x=true):pq x.facts:=by
 have h:kH x=0:=of_decide_eq_true h;unfold kH at h;split at h
 ·cases h
 ·exact AQ h
def set6(w:World)(g:Nat)(z:Value×En):World:=
 (((((w.setCell ⟨g,0,none⟩ (vi z.2.idx)).setCell ⟨g,1,none⟩ (vi z.2.term)).setCell ⟨g,2,none⟩ (vi z.2.op)).setCell ⟨g,3,none⟩ (vi z.2.sess)).setCell ⟨g,4,none⟩ (vi z.2.seq)).setCell ⟨g,5,none⟩ z.1
theorem eW{w:World}{g:Nat}{T:TypeId}{cs:Array Value}(z:Value×En)(h:ar w g T cs)(hc:cs.size=6) :
  ar (set6 w g z) g T (bY z).toArray/\(∀L,T∉L->bt L w (set6 w g z))/\∀B,B<=g->Below B w (set6 w g z):=by
 have h0:=h.set_ 0 (vi z.2.idx);have h1:=h0.set_ 1 (vi z.2.term);have h2:=h1.set_ 2 (vi z.2.op);have h3:=h2.set_ 3 (vi z.2.sess);have h4:=h3.set_ 4 (vi z.2.seq);have h5:=h4.set_ 5 z.1;refine⟨?_,fun L hL=>?_,fun B hB=>?_⟩
 ·have e:((((((cs.setIfInBounds 0 (vi z.2.idx)).setIfInBounds 1 (vi z.2.term)).setIfInBounds 2 (vi z.2.op)).setIfInBounds 3 (vi z.2.sess)).setIfInBounds 4 (vi z.2.seq)).setIfInBounds 5 z.1)=(bY z).toArray:=by
   apply Array.ext
   ·simp[hc,bY]
   ·intro i rP N7;simp[bY]at N7;rcases(show i=0\/i=1\/i=2\/i=3\/i=4\/i=5 by omega)with rfl|rfl|rfl|rfl|rfl|rfl <;> simp[hc,bY]
  rw[<-e];exact h5
 ·exact(((((bt.set h hL).trans (bt.set h0 hL)).trans (bt.set h1 hL)).trans (bt.set h2 hL)).trans (bt.set h3 hL)).trans (bt.set h4 hL)
 ·exact((((((Below.refl B w).setCell hB _).setCell hB _).setCell hB _).setCell hB _).setCell hB _).setCell hB _
theorem oc(S:Nat->Prop)(x:En)(A:Option Addr)(n c:Nat)(w:World)(hf:aG S w (.slice A n c) x.facts)(hs:pq x.facts) :
  Calls prog 91 #[ni x (.slice A n c)] w fun e w'=>∃A' c',e=.returned (ni x (.slice A' n c'))/\aG (bG TD w.heap.size w') w' (.slice A' n c') x.facts/\Below w.heap.size w w':=by
 have hn:n<=100000:=by rw[<-mC hf];exact hs.1
 unfold ni;obtain⟨aI,cl,eb⟩:=fC w 59 59 #[.int .i64 x.idx,.int .i64 x.term,.int .i64 x.op,.int .i64 x.sess,.int .i64 x.seq,.slice A n c] #[.int .i64 0,.int .i64 0,.int .i64 0,.int .i64 0,.int .i64 0,.slice none 0 0];have g1:=hf.keep (bz.below (S:=S) aI);go_enter func91,ntmps91;go_wp2_with fail;generalize(w.alloc (.cells #[.int .i64 x.idx,.int .i64 x.term,.int .i64 x.op,.int .i64 x.sess,.int .i64 x.seq,.slice A n c] 59)).alloc (.cells #[.int .i64 0,.int .i64 0,.int .i64 0,.int .i64 0,.int .i64 0,.slice none 0 0] 59)=w1 at *;refine(G3 S _ _ _ _ _ g1 hn hs.2).mono ?_;rintro e w2 ⟨A2,c2,rfl,hO,bJ⟩;have b1:=cl.kept bJ;have b2:=eb.kept bJ;obtain⟨a0,a1,a2,a3,a4,a5,-⟩:=b1.cs [0,1,2,3,4,5];have f5:=b1.free 5;obtain⟨d0,d1,d2,d3,d4,d5,-⟩:=b2.cs [0,1,2,3,4,5];obtain⟨f0,f1,f2,f3,f4,f6,-⟩:=b2.fs [0,1,2,3,4,5];simp only[Zx]at a0 a1 a2 a3 a4 a5 d0 d1 d2 d3 d4 d5;go_wp2_with fail;have fV:w.heap.size+1≠w.heap.size:=by omega
 obtain⟨s1,s2,s3⟩:=eW (.slice A2 n c2,x) (b2.far (p:=⟨w.heap.size,5,none⟩) fV (.slice A2 n c2)) rfl;have Cr:aG (bG TD w.heap.size (set6 (w2.setCell ⟨w.heap.size,5,none⟩ (.slice A2 n c2)) (w.heap.size+1) (.slice A2 n c2,x))) (set6 (w2.setCell ⟨w.heap.size,5,none⟩ (.slice A2 n c2)) (w.heap.size+1) (.slice A2 n c2,x)) (.slice A2 n c2) x.facts:=
  (hO.facts.mono (bG.wide (fun _ h=>h) aI.size)).move ((bt.set b1 (by decide)).trans (s2 _ (by decide)))
 have T7:Below w.heap.size w (set6 (w2.setCell ⟨w.heap.size,5,none⟩ (.slice A2 n c2)) (w.heap.size+1) (.slice A2 n c2,x)):=
  ((ab aI bJ zl).setCell zl _).trans (s3 _ (by omega))
 show bodyPost _ _ _ _ _ (set6 (w2.setCell ⟨w.heap.size,5,none⟩ (.slice A2 n c2)) (w.heap.size+1) (.slice A2 n c2,x));generalize set6 (w2.setCell ⟨w.heap.size,5,none⟩ (.slice A2 n c2)) (w.heap.size+1) (.slice A2 n c2,x)=w9 at *;obtain⟨r0,r1,r2,r3,r4,r5,-⟩:=s1.cs [0,1,2,3,4,5];simp only[bY,vi,Zx]at r0 r1 r2 r3 r4 r5;exact bodyPost_ret (v:=.agg #[.int .i64 x.idx,.int .i64 x.term,.int .i64 x.op,.int .i64 x.sess,.int .i64 x.seq,.slice A2 n c2]) (by simp[results,results91,go_sem,r0,r1,r2,r3,r4,r5]) rfl ⟨A2,c2,rfl,Cr,T7⟩
structure bB where
 index:Int
 term:Int
 L:List En
def bB.lastF(t:bB):Int×Int:=match t.L.getLast? with
 | some x=>(x.idx,x.term)
 | none=>(t.index,t.term)
def iP(term:Int)(L:List En)(i:Nat):Int:=match i with
 | 0=>term
 | i+1=>match L[i]? with
  | some x=>x.term
  | none=>term
theorem ef(term:Int)(L:List En)(i:Nat):iP term L (i+1)=match L[i]? with
 | some x=>x.term
 | none=>term:=rfl
structure bB.Inv(t:bB):Prop where
 base:(t.index=0/\t.term=0)\/(1<=t.index/\t.index<=1099511627776/\1<=t.term/\t.term<=1099511627776)
 idx:∀(i:Nat) x,t.L[i]?=some x->x.idx=t.index+1+i
 plain:∀x∈t.L,dI x=true
 mono:∀(i:Nat) x,t.L[i]?=some x->iP t.term t.L i<=x.term
def bB.termF(t:bB)(i:Int):Int×Int:=
 if i<t.index then(0,34)else if i=t.index then(t.term,0)else match t.L[(i-t.index-1).toNat]? with
  | some x=>(x.term,0)
  | none=>(0,33)
def bB.sliceF(t:bB)(i n:Int):List En:=if i<=t.index\/n<1 then[]else(t.L.drop (i-t.index-1).toNat).take n.toNat
def bL(index:Int):Nat->Int->List En->Bool
 | _,_,[]=>true
 | i,term,x::l=>dI x&&(decide (x.idx=index+1+i)&&(decide (term<=x.term)&&bL index (i+1) x.term l))
def bB.findDiff(t:bB):List En->Option (En×List En)
 | []=>none
 | x::l=>if t.termF x.idx=(x.term,0)then t.findDiff l else some (x,l)
def bB.takeF(t:bB)(index term:Int)(l:List En):(Int×Bool)×bB:=
 if t.termF index=(term,0)/\bL index 0 term l=true then
  match t.findDiff l with
  | none=>((0,true),t)
  | some (x,r)=>((x.idx,true),{t with L:=t.L.take (x.idx-t.index-1).toNat++x::r})
 else((0,false),t)
def lq(idx term:Int)(c:En):En:=⟨idx,term,c.op,c.sess,c.seq,c.facts⟩
def bB.putF(t:bB)(term:Int)(c:En):(En×Int)×bB:=
 if 1099511627776<=t.lastF.1 then((gk,41),t)
 else if term<t.lastF.2\/dI (lq (t.lastF.1+1) term c)=false then((gk,1),t)
 else((lq (t.lastF.1+1) term c,0),{t with L:=t.L++[lq (t.lastF.1+1) term c]})
def bB.dropF(t:bB)(i:Int):Int×bB:=
 if(t.termF i).2=33 then(33,t)else if(t.termF i).2=34 then(0,t)else(0,⟨i,(t.termF i).1,t.L.drop (i-t.index).toNat⟩)
def kR(i term:Int)(x:En):Bool:=decide (x.idx<i)&&decide (x.term<=term)
def bB.hintF(t:bB)(i term:Int):Int:=match(t.L.filter (kR i term)).getLast? with
 | some x=>x.idx
 | none=>t.index
theorem j5{x:En}(h:dI x=true):1<=x.idx/\x.idx<=1099511627776/\1<=x.term/\x.term<=1099511627776:=by
 have h:kH x=0:=of_decide_eq_true h;unfold kH eC at h;split at h
 ·cases h
 ·rename_i hh;simp only[Bool.not_eq_false,Bool.and_eq_true,decide_eq_true_eq]at hh;omega
theorem gF{α:Type}{l:List α}{k:Nat}{x:α}(h:l[k]?=some x):l.drop k=x::l.drop (k+1):=by
 obtain⟨hk,e⟩:=List.getElem?_eq_some_iff.1 h;rw[List.drop_eq_getElem_cons hk,e]
theorem ox{term:Int}{L R:List En}{i:Nat}(h:i<=L.length):iP term (L++R) i=iP term L i:=by
 cases i with
 | zero=>rfl
 | succ i=>
  rw[ef,ef,List.getElem?_append_left (by omega)]
theorem rm{term:Int}{L:List En}{i k:Nat}(h:i<=k):iP term (L.take k) i=iP term L i:=by
 cases i with
 | zero=>rfl
 | succ i=>
  rw[ef,ef,List.getElem?_take,if_pos (by omega)]
section
variable {t:bB}
theorem bB.Inv.b(h:t.Inv):0<=t.index/\t.index<=1099511627776/\0<=t.term/\t.term<=1099511627776:=by
 rcases h.base with⟨h1,h2⟩|⟨h1,h2,h3,h4⟩ <;> omega
theorem bB.Inv.room(h:t.Inv):t.index+t.L.length<=1099511627776:=by
 rcases Nat.eq_zero_or_pos t.L.length with h0|h0
 ·have:=h.b;omega
 ·have hx:t.L[t.L.length-1]?=some (t.L[t.L.length-1]'(by omega)):=List.getElem?_eq_getElem (by omega);have h1:=h.idx _ _ hx;have h2:=j5 (h.plain _ (List.mem_of_getElem? hx));omega
theorem bB.lastF_pos(h0:0<t.L.length):∃x,t.L[t.L.length-1]?=some x/\t.lastF=(x.idx,x.term):=by
 refine⟨t.L[t.L.length-1]'(by omega),List.getElem?_eq_getElem (by omega),?_⟩;unfold bB.lastF;rw[List.getLast?_eq_getElem?,List.getElem?_eq_getElem (by omega)]
theorem bB.lastF_nil(h0:t.L=[]):t.lastF=(t.index,t.term):=by unfold bB.lastF;rw[h0];rfl
theorem bB.Inv.last(h:t.Inv):t.lastF.1=t.index+t.L.length:=by
 rcases Nat.eq_zero_or_pos t.L.length with h0|h0
 ·rw[bB.lastF_nil (List.eq_nil_of_length_eq_zero h0),h0];simp
 ·obtain⟨x,hx,e⟩:=bB.lastF_pos h0;rw[e];have:=h.idx _ _ hx;show x.idx=_;omega
theorem bB.lastT(t:bB):t.lastF.2=iP t.term t.L t.L.length:=by
 rcases Nat.eq_zero_or_pos t.L.length with h0|h0
 ·rw[bB.lastF_nil (List.eq_nil_of_length_eq_zero h0),h0];rfl
 ·obtain⟨x,hx,e⟩:=bB.lastF_pos h0;rw[e];obtain⟨k,hk⟩:∃k,t.L.length=k+1:=⟨t.L.length-1,by omega⟩;rw[hk]at hx ⊢;rw[show k+1-1=k by omega]at hx;rw[ef,hx]
theorem bB.Inv.lastB(h:t.Inv):0<=t.lastF.2/\t.lastF.2<=1099511627776:=by
 rcases Nat.eq_zero_or_pos t.L.length with h0|h0
 ·rw[bB.lastF_nil (List.eq_nil_of_length_eq_zero h0)];have:=h.b;exact⟨this.2.2.1,this.2.2.2⟩
 ·obtain⟨x,hx,e⟩:=bB.lastF_pos h0;have:=j5 (h.plain _ (List.mem_of_getElem? hx));rw[e];exact⟨by show 0<=x.term;omega,this.2.2.2⟩
theorem bB.Inv.put(h:t.Inv){x:En}(hi:x.idx=t.lastF.1+1)(hp:dI x=true)(ht:t.lastF.2<=x.term):bB.Inv {t with L:=t.L++[x]}:=by
 refine⟨h.base,fun i y hy=>?_,fun y hy=>?_,fun i y hy=>?_⟩
 ·rcases Nat.lt_or_ge i t.L.length with h1|h1
  ·exact h.idx i y (by rw[<-hy];exact(List.getElem?_append_left h1).symm)
  ·rw[show({t with L:=t.L++[x]}:bB).L=t.L++[x]from rfl,List.getElem?_append_right h1]at hy;rcases Nat.eq_zero_or_pos (i-t.L.length)with h2|h2
   ·rw[h2]at hy;simp only[List.getElem?_cons_zero,Option.some.injEq]at hy;subst hy;rw[hi,h.last];show _=t.index+1+i;omega
   ·rw[List.getElem?_eq_none (by simp;omega)]at hy;cases hy
 ·rcases List.mem_append.1 hy with h1|h1
  ·exact h.plain y h1
  ·rw[List.mem_singleton.1 h1];exact hp
 ·rcases Nat.lt_or_ge i t.L.length with h1|h1
  ·show iP t.term (t.L++[x]) i<=_;rw[ox (by omega)];exact h.mono i y (by rw[<-hy];exact(List.getElem?_append_left h1).symm)
  ·rw[show({t with L:=t.L++[x]}:bB).L=t.L++[x]from rfl,List.getElem?_append_right h1]at hy;rcases Nat.eq_zero_or_pos (i-t.L.length)with h2|h2
   ·rw[h2]at hy;simp only[List.getElem?_cons_zero,Option.some.injEq]at hy;subst hy;show iP t.term (t.L++[x]) i<=_;rw[show i=t.L.length by omega,ox zl,<-t.lastT];exact ht
   ·rw[List.getElem?_eq_none (by simp;omega)]at hy;cases hy
theorem bB.Inv.putF(h:t.Inv)(term:Int)(c:En):(t.putF term c).2.Inv:=by
 unfold bB.putF;split
 ·exact h
 ·split
  ·exact h
  ·rename_i h1;refine h.put rfl ?_ (by show _<=term;omega);cases hp:dI (lq (t.lastF.1+1) term c)with
   | true=>rfl
   | false=>exact absurd (.inr hp) h1
theorem bB.Inv.cut(h:t.Inv)(k:Nat):bB.Inv {t with L:=t.L.take k}:=by
 refine⟨h.base,fun i y hy=>?_,fun y hy=>h.plain y (List.mem_of_mem_take hy),fun i y hy=>?_⟩
 ·rw[show({t with L:=t.L.take k}:bB).L=t.L.take k from rfl,List.getElem?_take]at hy;split at hy
  ·exact h.idx i y hy
  ·cases hy
 ·rw[show({t with L:=t.L.take k}:bB).L=t.L.take k from rfl,List.getElem?_take]at hy;split at hy
  ·show iP t.term (t.L.take k) i<=_;rw[rm (by omega)];exact h.mono i y hy
  ·cases hy
theorem kW(t:bB)(i:Int):(t.termF i).2=34\/(t.termF i).2=33\/(t.termF i).2=0:=by
 unfold bB.termF;split
 ·exact .inl rfl
 ·split
  ·exact .inr (.inr rfl)
  ·cases t.L[(i-t.index-1).toNat]? with
   | none=>exact .inr (.inl rfl)
   | some x=>exact .inr (.inr rfl)
theorem yd{i term:Int}(h:t.termF i=(term,0)):(i=t.index/\term=t.term)\/(t.index<i/\∃x,t.L[(i-t.index-1).toNat]?=some x/\x.term=term):=by
 unfold bB.termF at h;split at h
 ·cases h
 ·split at h
  ·rename_i h2;injection h with h3 _;exact .inl ⟨h2,h3.symm⟩
  ·cases hx:t.L[(i-t.index-1).toNat]? with
   | none=>rw[hx]at h;cases h
   | some x=>
    rw[hx]at h;injection h with h3 _;exact .inr ⟨by omega,x,rfl,h3⟩
theorem eU{i term:Int}(h:t.termF i=(term,0)):t.index<=i/\i<=t.index+t.L.length/\term=iP t.term t.L (i-t.index).toNat:=by
 rcases yd h with⟨h1,h2⟩|⟨h1,x,hx,h2⟩
 ·refine⟨by omega,by omega,?_⟩;rw[h2,h1,show(t.index-t.index).toNat=0 by omega];rfl
 ·have hl:=(List.getElem?_eq_some_iff.1 hx).1;refine⟨by omega,by omega,?_⟩;obtain⟨k,hk⟩:∃k,(i-t.index).toNat=k+1:=⟨(i-t.index-1).toNat,by omega⟩;rw[show(i-t.index-1).toNat=k by omega]at hx;rw[hk,ef,hx,<-h2]
theorem bB.Inv.dropF(h:t.Inv)(i:Int):(t.dropF i).2.Inv:=by
 unfold bB.dropF;split
 ·exact h
 ·rename_i h1;split
  ·exact h
  ·rename_i h2;have h3:(t.termF i).2=0:=by
    rcases kW t i with h|h|h
    ·exact absurd h h2
    ·exact absurd h h1
    ·exact h
   have h4:t.termF i=((t.termF i).1,0):=by rw[<-h3]
   obtain⟨h5,h6,h7⟩:=eU h4;have hr:=h.room;have hb:=h.b;refine⟨?_,fun j y hy=>?_,fun y hy=>h.plain y (List.mem_of_mem_drop hy),fun j y hy=>?_⟩
   ·rcases yd h4 with⟨h8,h9⟩|⟨h8,x,hx,h9⟩
    ·show(i=0/\(t.termF i).1=0)\/_;rw[h9,h8];exact h.base
    ·have:=j5 (h.plain _ (List.mem_of_getElem? hx));refine .inr ⟨by show 1<=i;omega,by show i<=_;omega,?_,?_⟩
     ·show 1<=(t.termF i).1;rw[<-h9];exact this.2.2.1
     ·show(t.termF i).1<=_;rw[<-h9];exact this.2.2.2
   ·rw[List.getElem?_drop]at hy;have:=h.idx _ _ hy;show y.idx=i+1+j;omega
   ·show iP (t.termF i).1 (t.L.drop (i-t.index).toNat) j<=y.term;rw[List.getElem?_drop]at hy;have h8:=h.mono _ _ hy;cases j with
    | zero=>rw[h7];exact h8
    | succ j=>
     rw[ef,List.getElem?_drop];rw[show(i-t.index).toNat+(j+1)=((i-t.index).toNat+j)+1 by omega,ef]at h8;have hn:((i-t.index).toNat+j)<t.L.length:=by have:=(List.getElem?_eq_some_iff.1 hy).1;omega
     rw[List.getElem?_eq_getElem hn]at h8 ⊢;exact h8
theorem iX{idx term:Int}{i:Nat}{x:En}{l:List En}:bL idx i term (x::l)=true↔dI x=true/\x.idx=idx+1+i/\term<=x.term/\bL idx (i+1) x.term l=true:=by
 show(dI x&&(decide (x.idx=idx+1+i)&&(decide (term<=x.term)&&bL idx (i+1) x.term l)))=true↔_;rw[Bool.and_eq_true,Bool.and_eq_true,Bool.and_eq_true,decide_eq_true_eq,decide_eq_true_eq]
theorem bB.lastF_put(t:bB)(x:En):bB.lastF {t with L:=t.L++[x]}=(x.idx,x.term):=by
 unfold bB.lastF;rw[show({t with L:=t.L++[x]}:bB).L=t.L++[x]from rfl,List.getLast?_append];rfl
theorem bB.Inv.puts{idx:Int}{l:List En}:∀{t:bB} {i:Nat} {term:Int},t.Inv->bL idx i term l=true->idx+i=t.lastF.1->term=t.lastF.2->bB.Inv {t with L:=t.L++l}:=by
 induction l with
 | nil=>intro t i term h _ _ _;rw[List.append_nil];exact h
 | cons x l ih=>
  intro t i term h hm hi ht;obtain⟨h1,h2,h3,h4⟩:=iX.1 hm;have hp:=h.put (x:=x) (by omega) h1 (by omega);have hl:=t.lastF_put x;have:=ih hp h4 (by rw[hl];show idx+((i+1:Nat):Int)=x.idx;omega) (by rw[hl]);have e:t.L++[x]++l=t.L++x::l:=by simp
  rw[show({t with L:=t.L++[x]}:bB).L=t.L++[x]from rfl,e]at this;exact this
theorem iA{idx:Int}{l:List En}:∀{i:Nat} {term:Int} {x:En} {r:List En},t.termF (idx+i)=(term,0)->bL idx i term l=true->t.findDiff l=some (x,r)->
  ∃(j:Nat) (term':Int),i<=j/\x.idx=idx+1+j/\t.termF (idx+j)=(term',0)/\bL idx j term' (x::r)=true/\l.drop (j-i)=x::r/\t.termF x.idx≠(x.term,0):=by
 induction l with
 | nil=>intro i term x r _ _ h;cases h
 | cons y l ih=>
  intro i term x r h1 h2 h3;obtain⟨p1,p2,p3,p4⟩:=iX.1 h2;unfold bB.findDiff at h3;by_cases hy:t.termF y.idx=(y.term,0)
  ·rw[if_pos hy]at h3;have e:idx+((i+1:Nat):Int)=y.idx:=by omega
   obtain⟨j,term',h4,h5,h6,h7,h8,h9⟩:=ih (i:=i+1) (by rw[e];exact hy) p4 h3;refine⟨j,term',by omega,h5,h6,h7,?_,h9⟩;rw[show j-i=(j-(i+1))+1 by omega,List.drop_succ_cons];exact h8
  ·rw[if_neg hy]at h3;injection h3 with h3;injection h3 with h4 h5;subst h4;subst h5;exact⟨i,term,Nat.le_refl _,p2,h1,h2,by rw[Nat.sub_self];rfl,hy⟩
theorem bB.Inv.takeF(h:t.Inv)(index term:Int)(l:List En):(t.takeF index term l).2.Inv:=by
 unfold bB.takeF;by_cases hc:t.termF index=(term,0)/\bL index 0 term l=true
 ·rw[if_pos hc];obtain⟨h1,h2⟩:=hc;cases hd:t.findDiff l with
  | none=>exact h
  | some p=>
   obtain⟨x,r⟩:=p;obtain⟨j,term',_,h5,h6,h7,_,_⟩:=iA (i:=0) (by rw[show index+((0:Nat):Int)=index by omega];exact h1) h2 hd;obtain⟨h8,h9,nz⟩:=eU h6;have hc:=h.cut (x.idx-t.index-1).toNat;have hk:(x.idx-t.index-1).toNat<=t.L.length:=by omega
   refine hc.puts (idx:=index) h7 ?_ ?_
   ·rw[hc.last];show _=t.index+((t.L.take _).length:Int);rw[List.length_take,Nat.min_eq_left hk];omega
   ·rw[bB.lastT,nz];show _=iP t.term (t.L.take _) (t.L.take _).length;rw[List.length_take,Nat.min_eq_left hk,rm zl];congr 1;omega
 ·rw[if_neg hc];exact h
end
def az(A:Option Addr)(j:Nat):Prop:=∃ad,A=some ad/\ad.block=j
structure cS(B:Nat)(S:Nat->Prop)(w:World)(g:Nat)(t:bB)(A:Option Addr)(n c:Nat)(zs:List (Value×En)):Prop where
 b:ar w g 152 #[.int .i64 t.index,.int .i64 t.term,.slice A n c]
 o:w.ownsRow B 59 6 (.slice A n c) n (zs.flatMap bY)
 d:bq S w zs
 l:zs.map (·.2)=t.L
 i:t.Inv
 g:B<=g
 s:∀j,S j->sZ TD w j
section
variable {B:Nat}{S:Nat->Prop}{w w':World}{g n c:Nat}{t:bB}{A:Option Addr}{zs:List (Value×En)}
theorem aB{base size:Nat}{e:TypeId}{v:Value}{xs:List Value}(h:w.ownsRow base e size v n xs):∀A c,v=.slice A n c->∀j,az A j->j<w.heap.size/\base<=j/\∃cs,w.heap[j]?=some (.cells cs e (0,0)):=by
 rintro A c rfl j ⟨ad,rfl,rfl⟩;rcases h.2 with⟨h0,_⟩|⟨g,cap,cur,h0,h1,h2,_⟩
 ·cases h0
 ·injection h0 with h0;injection h0 with h0;subst h0;exact⟨aV h2,h1,cur,h2⟩
theorem cH{base size:Nat}{e:TypeId}{xs:List Value}(h:w.ownsRow base e size (.slice A n c) n xs)(hk:∀j,az A j->j<w.heap.size->w'.heap[j]?=w.heap[j]?):w'.ownsRow base e size (.slice A n c) n xs:=by
 refine⟨h.1,?_⟩;rcases h.2 with h0|⟨g,cap,cur,h1,h2,h3,h4⟩
 ·exact .inl h0
 ·have py:=h1;injection py with hA _ _;exact .inr ⟨g,cap,cur,h1,h2,(hk g ⟨_,hA,rfl⟩ (aV h3)).trans h3,h4⟩
theorem cS.len(h:cS B S w g t A n c zs):n=t.L.length/\zs.length=n:=by
 have h1:=h.o.1;rw[fv fj]at h1;have h2:=congrArg List.length h.l;rw[List.length_map]at h2;omega
theorem cS.rd(h:cS B S w g t A n c zs):fu w A n zs:=cn.of_own h.o
theorem cS.keep(h:cS B S w g t A n c zs)(hk:∀j,(j=g\/az A j\/S j)->j<w.heap.size->w'.heap[j]?=w.heap[j]?):cS B S w' g t A n c zs where
 b:=(hk g (.inl rfl) h.b.lt).trans h.b
 o:=cH h.o fun j hj hl=>hk j (.inr (.inl hj)) hl
 d:=h.d.keep fun j hj hl=>hk j (.inr (.inr hj)) hl
 l:=h.l
 i:=h.i
 g:=h.g
 s:=fun j hj=>by
  obtain⟨cs,fz,ty,h1,h2⟩:=h.s j hj;exact⟨cs,fz,ty,(hk j (.inr (.inr hj)) (aV h1)).trans h1,h2⟩
theorem cS.below(h:cS B S w g t A n c zs)(hb:Below w.heap.size w w'):cS B S w' g t A n c zs:=h.keep fun _ _ hl=>hb.block _ hl
theorem cS.at_(h:cS B S w g t A n c zs){k:Nat}(hk:k<n) :
  ∃ad v x,A=some ad/\zs[k]?=some (v,x)/\t.L[k]?=some x/\w.cell? (ad.add (k*6))=some (.int .i64 x.idx)/\w.cell? ⟨(ad.add (k*6)).block,(ad.add (k*6)).off+1,none⟩=some (.int .i64 x.term):=by
 obtain⟨ad,v,x,e,hz,c0,c1,_⟩:=h.rd.at_ hk;refine⟨ad,v,x,e,hz,?_,c0,c1⟩;rw[<-h.l,List.getElem?_map,hz];rfl
theorem cS.cells(h:cS B S w g t A n c zs):w.cell? ⟨g,0,none⟩=some (.int .i64 t.index)/\w.cell? ⟨g,1,none⟩=some (.int .i64 t.term)/\w.cell? ⟨g,2,none⟩=some (.slice A n c):=⟨h.b.cell 0,h.b.cell 1,h.b.cell 2⟩
end
theorem qb(z:Int)(w:World):Calls prog 86 #[.int .i64 z] w fun e w'=>e=.returned (.bool (eC z 1))/\w=w':=by
 unfold eC;by_cases h:1<=z
 ·go_enter func86,ntmps86;go_wp2_with fail;go_ret;exact⟨by simp[h],rfl⟩
 ·go_enter func86,ntmps86;go_wp2_with fail;go_ret;exact⟨by simp;omega,rfl⟩
section
variable {B:Nat}{S:Nat->Prop}{w:World}{g n c:Nat}{t:bB}{A:Option Addr}{zs:List (Value×En)}
theorem D1(h:cS B S w g t A n c zs):Calls prog 80 #[.pointer (some ⟨g,0,none⟩)] w fun e w'=>e=.returned (.tuple #[.int .i64 t.index,.int .i64 t.term])/\∃q,w'=w.drewN q:=by
 obtain⟨h0,h1,h2⟩:=h.cells;generalize t.index=a at *;generalize t.term=b at *;go_enter func80,ntmps80;go_wp2_with fail
 go_quiet (fail)
 go_wp2_with fail
 go_ret2
 exact⟨rfl,_,rfl⟩
theorem ym(h:cS B S w g t A n c zs)(hn:n<=1000000):Calls prog 44 #[.pointer (some ⟨g,0,none⟩)] w fun e w'=>e=.returned (.tuple #[.int .i64 t.lastF.1,.int .i64 t.lastF.2])/\∃q,w'=w.drewN q:=by
 obtain⟨h0,h1,h2⟩:=h.cells;obtain⟨hl,_⟩:=h.len;rcases Nat.eq_zero_or_pos n with rD|rD
 ·have e:=zH (t.lastF_nil (List.eq_nil_of_length_eq_zero (by omega)));subst rD;clear hl;go_enter func44,ntmps44;go_wp2_with fail
  go_quiet (fail)
  go_wp2_with fail
  go_ret2
  exact⟨by rw[e.out];rfl,_,rfl⟩
 ·obtain⟨k,rfl⟩:∃k,n=k+1:=⟨n-1,by omega⟩;obtain⟨ad,v,x,rfl,hz,hx,c0,c1⟩:=h.at_ (k:=k) (by omega);have e:=zH (show t.lastF=(x.idx,x.term) by
   obtain⟨y,hy,e⟩:=t.lastF_pos (by omega);rw[<-hl,show k+1-1=k by omega,hx]at hy;obtain rfl:=Option.some.inj hy;exact e)
  clear hl hz hx;generalize x.idx=a at *;generalize x.term=b at *;go_enter func44,ntmps44;go_wp2_with fail
  go_quiet (fail)
  go_wp2_with fail
  go_ret2
  exact⟨by rw[e.out];rfl,_,rfl⟩
theorem EL(i:Int)(h:cS B S w g t A n c zs)(hn:n<=1000000):Calls prog 89 #[.pointer (some ⟨g,0,none⟩),.int .i64 i] w fun e w'=>e=.returned (.tuple #[.int .i64 (t.termF i).1,.int .i64 (t.termF i).2])/\∃q,w'=w.drewN q:=by
 have CR:=h.i.last;have hl:=h.len.1;have hb:=h.i.b;have hr:=h.i.room;have bI:=ym h hn;rw[CR]at bI;clear CR;go_enter func89,ntmps89;go_wp2_with fail;refine bI.mono ?_;rintro e w1 ⟨rfl,q,rfl⟩;obtain⟨h0,h1,h2⟩:=h.cells;by_cases i1:i<t.index
 ·have he:=zH (show t.termF i=(0,34)from if_pos i1);go_wp2_with fail
  go_ret2
  exact⟨by rw[he.out];rfl,_,rfl⟩
 ·by_cases i2:t.index+t.L.length<i
  ·have he:=zH (show t.termF i=(0,33) by
    unfold bB.termF;rw[if_neg i1,if_neg (by omega),List.getElem?_eq_none (by omega)])
   go_wp2_with fail
   go_ret2
   exact⟨by rw[he.out];rfl,_,rfl⟩
  ·by_cases i3:i=t.index
   ·have he:=zH (show t.termF i=(t.term,0) by
     unfold bB.termF;rw[if_neg i1,if_pos i3])
    subst i3;go_wp2_with fail
    go_ret2
    exact⟨by rw[he.out];rfl,_,rfl⟩
   ·obtain⟨k,hk⟩:∃k:Nat,i-t.index-1=k:=⟨(i-t.index-1).toNat,by omega⟩;have Db:k<n:=by omega
    obtain⟨ad,v,x,rfl,hz,hx,c0,c1⟩:=h.at_ Db;have he:=zH (show t.termF i=(x.term,0) by
     unfold bB.termF;rw[if_neg i1,if_neg i3,hk,show(k:Int).toNat=k from rfl,hx])
    have i4:(i==t.index)=false:=beq_eq_false_iff_ne.2 i3;have i5:t.index<i:=by omega
    have CW:i-t.index-1=(k:Int):=hk;clear hz hx;go_wp2_with fail
    go_quiet (fail)
    go_wp2_with fail
    go_ret2
    exact⟨by rw[he.out];rfl,_,World.drewN_drewN _ _ _⟩
end
theorem zp(S:Nat->Prop)(idx term:Int)(A:Option Addr)(n c:Nat)(zs:List (Value×En))(w:World)(hr:fu w A n zs)(hd:bq S w zs)(hi:0<=idx)(N7:idx<=1099511627776)(hn:n<=1000000) :
  Calls prog 90 #[.int .i64 idx,.int .i64 term,.slice A n c] w fun e w'=>e=.returned (.bool (bL idx 0 term (zs.map (·.2))))/\Below w.heap.size w w':=by
 have H1:=zH hr.len;go_enter func90,ntmps90;go_wp2_with fail
 go_loopw [1,11] (fun tm i wr=>∃(k:Nat) (term':Int),k<=n/\i=.int .i64 k/\tm=.int .i64 term'/\bL idx 0 term (zs.map (·.2))=bL idx k term' ((zs.map (·.2)).drop k)/\Below w.heap.size w wr) (fun _ i _=>n-(intOf i).toNat)
 case atStart=>exact⟨0,term,Nat.zero_le _,rfl,rfl,rfl,Below.refl _ _⟩
 case round=>
  obtain⟨k,term',hk,rfl,rfl,he,hb⟩:=hrel;have He:=zH he;clear he;by_cases aU:k<n
  ·obtain⟨ad,v1,x,rfl,hx,c0,c1,c2,c3,c4,c5⟩:=(hr.below hb).at_ aU;have f1:=(hd _ (List.mem_of_getElem? hx)).keep (bz.below (S:=S) hb);obtain⟨B1,m1,d1,bH,l1,l2,l3⟩:=f1.form;obtain rfl:v1=_:=bH;have vh:(zs.map (·.2)).drop k=x::(zs.map (·.2)).drop (k+1):=gF (by rw[List.getElem?_map,hx];rfl);rw[vh]at He;have aP:=zH (show n-(k+1)<n-k by omega);have aI:Below wr.heap.size wr (wr.alloc (.cells #[.int .i64 x.idx,.int .i64 x.term,.int .i64 x.op,.int .i64 x.sess,.int .i64 x.seq,.slice B1 m1 d1] 59)):=zb.alloc zl _;have dv:=ar.new wr 59 #[.int .i64 x.idx,.int .i64 x.term,.int .i64 x.op,.int .i64 x.sess,.int .i64 x.seq,.slice B1 m1 d1];have f2:=f1.keep (bz.below (S:=S) aI);have iM:=ab hb aI zl;clear hx vh f1;have aH:=sr S x B1 m1 d1 (wr.alloc (.cells #[.int .i64 x.idx,.int .i64 x.term,.int .i64 x.op,.int .i64 x.sess,.int .i64 x.seq,.slice B1 m1 d1] 59)) f2 (Nat.le_trans l1 l2);unfold ni at aH;go_wp2_with fail;generalize wr.alloc (.cells #[.int .i64 x.idx,.int .i64 x.term,.int .i64 x.op,.int .i64 x.sess,.int .i64 x.seq,.slice B1 m1 d1] 59)=w2 at *;refine aH.mono ?_;rintro e w3 ⟨rfl,bS⟩;have b3:=dv.kept bS;obtain⟨a0,a1,-⟩:=b3.cs [0,1];simp only[Zx]at a0 a1;have eE:=ab iM bS zl;clear aH;cases hp:dI x with
   | false=>
    have Hf:=zH (He.out.trans (show _=false by unfold bL;rw[hp];rfl));go_wp2_with fail;go_ret;exact⟨by rw[Hf.out];rfl,eE⟩
   | true=>
    by_cases Er:x.idx=idx+1+k
    ·by_cases ht:term'<=x.term
     ·have Hf:=zH (He.out.trans (show _=bL idx (k+1) x.term ((zs.map (·.2)).drop (k+1)) by
       show(dI x&&(decide (x.idx=idx+1+k)&&(decide (term'<=x.term)&&_)))=_;rw[hp,decide_eq_true Er,decide_eq_true ht];rfl))
      have QU:(x.idx==idx+1+k)=true:=beq_iff_eq.2 Er;have NX:(x.idx !=idx+1+k)=false:=by rw[bne,QU];rfl
      have Er:=zH Er;generalize x.idx=xi at *;generalize x.term=xt at *;go_wp2_with fail;exact⟨⟨k+1,_,aU,by go_num,rfl,Hf.out,eE⟩,by simp[intOf];exact aP.out⟩
     ·have Hf:=zH (He.out.trans (show _=false by
       show(dI x&&(decide (x.idx=idx+1+k)&&(decide (term'<=x.term)&&_)))=_;rw[decide_eq_false ht];simp))
      have QU:(x.idx==idx+1+k)=true:=beq_iff_eq.2 Er;have NX:(x.idx !=idx+1+k)=false:=by rw[bne,QU];rfl
      have Er:=zH Er;have Ed:x.term<term':=by omega
      generalize x.idx=xi at *;generalize x.term=xt at *;go_wp2_with fail;go_ret;exact⟨by rw[Hf.out];rfl,eE⟩
    ·have Hf:=zH (He.out.trans (show _=false by
      show(dI x&&(decide (x.idx=idx+1+k)&&(decide (term'<=x.term)&&_)))=_;rw[decide_eq_false Er];simp))
     have QU:(x.idx==idx+1+k)=false:=beq_eq_false_iff_ne.2 Er;have NX:(x.idx !=idx+1+k)=true:=by rw[bne,QU];rfl
     generalize x.idx=xi at *;generalize x.term=xt at *;go_wp2_with fail;go_ret;exact⟨by rw[Hf.out];rfl,eE⟩
  ·obtain rfl:k=n:=by omega
   have Hf:=zH (He.out.trans (show _=true by rw[List.drop_eq_nil_of_le (by rw[List.length_map,H1.out];omega)];rfl));go_wp2_with fail;go_ret;exact⟨by rw[Hf.out];rfl,hb⟩
theorem G0{t:bB}{i term:Int}{k:Nat}{x:En}(hx:t.L[k]?=some x)(hh:kR i term x=true)(hn:∀j y,k<j->t.L[j]?=some y->kR i term y=false):t.hintF i term=x.idx:=by
 unfold bB.hintF;have e:t.L=t.L.take k++x::t.L.drop (k+1):=by rw[<-gF hx,List.take_append_drop]
 have e2:(t.L.drop (k+1)).filter (kR i term)=[]:=by
  rw[List.filter_eq_nil_iff];intro y hy;obtain⟨j,hj,rfl⟩:=List.getElem_of_mem hy;have:=hn (k+1+j) _ (by omega) (by rw[<-List.getElem?_drop,List.getElem?_eq_getElem hj]);rw[this];simp
 rw[e,List.filter_append,List.filter_cons,if_pos hh,e2,List.getLast?_append];rfl
theorem AR{t:bB}{i term:Int}(hn:∀(j:Nat) y,t.L[j]?=some y->kR i term y=false):t.hintF i term=t.index:=by
 unfold bB.hintF;have e2:t.L.filter (kR i term)=[]:=by
  rw[List.filter_eq_nil_iff];intro y hy;obtain⟨j,hj,rfl⟩:=List.getElem_of_mem hy;rw[hn j _ (List.getElem?_eq_getElem hj)];simp
 rw[e2];rfl
section
variable {B:Nat}{S:Nat->Prop}{w:World}{g n c:Nat}{t:bB}{A:Option Addr}{zs:List (Value×En)}
theorem EV(i term:Int)(h:cS B S w g t A n c zs)(hn:n<=1000000):Calls prog 136 #[.pointer (some ⟨g,0,none⟩),.int .i64 i,.int .i64 term] w fun e w'=>e=.returned (.int .i64 (t.hintF i term))/\Below w.heap.size w w':=by
 have hl:=zH h.len.1;obtain⟨q0,q1,q2⟩:=h.cells;go_enter func136,ntmps136;go_wp2_with fail
 go_loopw [14] (fun i' wr=>∃k:Nat,k<=n/\i'=.int .i64 k/\(∀j y,n-k<=j->t.L[j]?=some y->kR i term y=false)/\Below w.heap.size w wr) (fun i _=>n-(intOf i).toNat)
 case atStart=>exact⟨0,Nat.zero_le _,rfl,fun j y hj hy=>by have:=(List.getElem?_eq_some_iff.1 hy).1;rw[<-hl.out]at this;omega,Below.refl _ _⟩
 case round=>
  obtain⟨k,hk,rfl,dt,hb⟩:=hrel;have Hno:=zH dt;clear dt;have h':=h.below hb;obtain⟨p0,p1,p2⟩:=h'.cells;by_cases aU:k<n
  ·obtain⟨m,hm⟩:∃m:Nat,n-1-k=m:=⟨_,rfl⟩;have Cy:(n:Int)-1-(k:Int)=(m:Int):=by omega
   obtain⟨ad,v1,x,rfl,hx,c0,c1,c2,c3,c4,c5⟩:=h'.rd.at_ (k:=m) (by omega);have zm:t.L[m]?=some x:=by rw[<-h.l,List.getElem?_map,hx];rfl
   have Oo:m<n:=by omega
   have aP:=zH (show n-(k+1)<n-k by omega);have hm:=zH hm;obtain⟨B1,m1,d1,bH,_,_,_⟩:=(h'.d _ (List.mem_of_getElem? hx)).form;obtain rfl:v1=_:=bH;clear hx;have e1:IntKind.i64.wrap ((n:Int)-1)=(n:Int)-1:=IntWalk.i64_in _ (by omega);have e2:IntKind.i64.wrap ((n:Int)-1-(k:Int))=(m:Int):=by rw[Cy];exact IntWalk.i64_in _ (by omega)
   have la:=aw c0;obtain⟨kg,k0,k1,k2,k3,k4,k5⟩:=KW [g,(ad.add (m*6)).block] p2 c0 c1 c2 c3 c4 c5;have cQ:=h'.b.lt;have cT:∀q∈[g,(ad.add (m*6)).block],q<wr.heap.size:=by simp;exact⟨cQ,la⟩
   clear Cy c0 c1 c2 c3 c4 c5 p0 p1 p2;have Ey:Below w.heap.size w (wr.alloc (.cells #[.int .i64 x.idx,.int .i64 x.term,.int .i64 x.op,.int .i64 x.sess,.int .i64 x.seq,.slice B1 m1 d1] 59)).drew:=aA (ab hb (zb.alloc zl _) zl) 1;have tH:Below wr.heap.size wr (wr.alloc (.cells #[.int .i64 0,.int .i64 0,.int .i64 0,.int .i64 0,.int .i64 0,.slice none 0 0] 59)).drew:=aA (zb.alloc zl _) 1;cases hh:kR i term x with
   | true=>
    have Hf:=zH (G0 zm hh fun j y hj hy=>Hno.out j y (by have:=hm.out;omega) hy);have X7:x.idx<i/\x.term<=term:=by
     unfold kR at hh;rw[Bool.and_eq_true,decide_eq_true_eq,decide_eq_true_eq]at hh;exact hh
    obtain⟨i1,i2⟩:=X7;have i3:=Int.not_lt.2 i2;clear zm hh;go_wp2_with fail;refine mI [g,(ad.add (m*6)).block] wr [([0,1,2,3,4,5,6,7,8,9,10,11,12,13],14)] ([],15) ?_;refine ap fun K1 ct=>?_
    simp only[af,Zx];repeat go_big_quiet_step(fail)
    apply wpQuiet_nil;go_wp2_with fail;refine⟨aq cT tH,ct _ _ ?_⟩;refine aC ?_;simp only[af,Zx];repeat go_big_quiet_step(fail)
    apply wpQuiet_nil;go_wp2_with fail;go_ret;exact⟨by rw[Hf.out];rfl,Ey⟩
   | false=>
    have Hst:=zH (show ∀j y,n-(k+1)<=j->t.L[j]?=some y->kR i term y=false from fun j y hj hy=>by
     rcases Nat.lt_or_ge m j with h1|h1
     ·exact Hno.out j y (by have:=hm.out;omega) hy
     ·obtain rfl:j=m:=by have:=hm.out;omega
      obtain rfl:x=y:=Option.some.inj (zm.symm.trans hy);exact hh)
    clear zm;by_cases i1:x.idx<i
    ·have i2:term<x.term:=by
      unfold kR at hh;rw[decide_eq_true i1,Bool.true_and,decide_eq_false_iff_not]at hh;omega
     have i3:=Int.not_le.2 i2;clear hh;go_wp2_with fail;refine mI [g,(ad.add (m*6)).block] wr [([0,1,2,3,4,5,6,7,8,9,10,11,12,13],14)] ([],15) ?_;refine ap fun K1 ct=>?_
     simp only[af,Zx];repeat go_big_quiet_step(fail)
     apply wpQuiet_nil;go_wp2_with fail;refine⟨aq cT tH,ct _ _ ?_⟩;refine aC ?_;simp only[af,Zx];repeat go_big_quiet_step(fail)
     apply wpQuiet_nil;go_wp2_with fail;exact⟨⟨k+1,aU,by go_num,Hst.out,Ey⟩,by simp[intOf];exact aP.out⟩
    ·clear hh;go_wp2_with fail;refine mI [g,(ad.add (m*6)).block] wr [([0,1,2,3,4,5,6,7,8,9,10,11,12,13],14)] ([],15) ?_;refine ap fun K1 ct=>?_
     simp only[af,Zx];repeat go_big_quiet_step(fail)
     apply wpQuiet_nil;go_wp2_with fail;refine⟨aq cT tH,ct _ _ ?_⟩;refine aC ?_;simp only[af,Zx];repeat go_big_quiet_step(fail)
     apply wpQuiet_nil;go_wp2_with fail;exact⟨⟨k+1,aU,by go_num,Hst.out,Ey⟩,by simp[intOf];exact aP.out⟩
  ·obtain rfl:k=n:=by omega
   have Hf:=zH (AR (t:=t) (i:=i) (term:=term) fun j y hy=>Hno.out j y (by omega) hy);go_wp2_with fail;go_ret;exact⟨by rw[Hf.out];rfl,hb⟩
end
structure Fr(X:Nat->Prop)(w w':World):Prop where
 os:w'.os=w.os
 tape:w'.tape=w.tape
 output:w'.output=w.output
 size:w.heap.size<=w'.heap.size
 block:∀k,k<w.heap.size->¬X k->w'.heap[k]?=w.heap[k]?
section
variable {X X' S:Nat->Prop}{B:Nat}{w w' w'':World}
theorem Fr.refl(X:Nat->Prop)(w:World):Fr X w w:=⟨rfl,rfl,rfl,Nat.le_refl _,fun _ _ _=>rfl⟩
theorem Fr.of_below(h:Below w.heap.size w w'):Fr X w w':=⟨h.os,h.tape,h.output,h.size,fun k hk _=>h.block k hk⟩
theorem Fr.trans(h:Fr X w w')(h':Fr X' w' w'')(hX:∀j,X' j->X j\/w.heap.size<=j):Fr X w w'':=
 ⟨h'.os.trans h.os,h'.tape.trans h.tape,h'.output.trans h.output,Nat.le_trans h.size h'.size,fun k hk hn=>
  (h'.block k (Nat.lt_of_lt_of_le hk h.size) fun hx=>(hX k hx).elim hn fun h0=>absurd h0 (by omega)).trans (h.block k hk hn)⟩
theorem Fr.mono(h:Fr X w w')(hX:∀j,X j->X' j):Fr X' w w':=⟨h.os,h.tape,h.output,h.size,fun k hk hn=>h.block k hk fun hx=>hn (hX k hx)⟩
theorem Fr.below(h:Fr X w w')(hX:∀j,X j->B<=j)(hB:B<=w.heap.size):Below B w w':=
 ⟨h.os,h.tape,h.output,h.size,fun k hk=>h.block k (by omega) fun hx=>absurd (hX k hx) (by omega)⟩
theorem Fr.stay(h:Fr X w w')(hS:∀j,S j->j<w.heap.size->¬X j):bz S w w':=fun j h1 h2=>h.block j h2 (hS j h1 h2)
theorem Fr.set(g i:Nat)(u:Value):Fr (fun j=>j=g) w (w.setCell ⟨g,i,none⟩ u):=
 have h:=(Below.refl g w).setCell (show g<=(⟨g,i,none⟩:Addr).block from Nat.le_refl _) u
 ⟨h.os,h.tape,h.output,h.size,fun k _ hn=>Below.heap_setCell w _ u k hn⟩
end
theorem Fr.grown{w w':World}{A:Option Addr}{n c:Nat}(hg:w.grownBy w' (Value.slice A n c).ownBlock):Fr (az A) w w':=
 have h:=(Below.refl 0 w).grown hg zz (fun _ _=>Nat.zero_le _)
 ⟨h.os,h.tape,h.output,h.size,fun k hk hn=>hg.block k hk fun e=>hn (by
  cases A with
  | none=>cases e
  | some ad=>exact⟨ad,rfl,by injection e with e;exact e.symm⟩)⟩
theorem gE{w:World}{A A':Option Addr}{n c n' c':Nat}(h:(Value.slice A' n' c').ownBlock=(Value.slice A n c).ownBlock\/(Value.slice A' n' c').ownBlock=some w.heap.size):∀j,az A' j->az A j\/w.heap.size<=j:=by
 rintro j ⟨ad,rfl,rfl⟩;rcases h with h|h
 ·cases A with
  | none=>cases h
  | some ad'=>exact .inl ⟨ad',rfl,by injection h with h;exact h.symm⟩
 ·injection h with h;exact .inr (by have h:ad.block=w.heap.size:=h;omega)
theorem zG:(prog.info? 59).map (fun i=>(i.zero,i.size,i.bytes))=some (some (.agg #[.int .i64 0,.int .i64 0,.int .i64 0,.int .i64 0,.int .i64 0,.slice none 0 0]),6,64):=by kernel_rfl
theorem C0{ys:List (Value×En)}(h1:∀z∈ys,z.1.oneCell'=true):∀u∈ys.flatMap bY,u.oneCell'=true:=fun u hu=>by
 obtain⟨z,hz,hu⟩:=List.mem_flatMap.1 hu;simp only[bY,List.mem_cons,List.not_mem_nil,or_false]at hu;rcases hu with rfl|rfl|rfl|rfl|rfl|rfl
 all_goals first|rfl|exact h1 z hz
theorem bq.one{S:Nat->Prop}{w:World}{zs:List (Value×En)}(h:bq S w zs):∀z∈zs,z.1.oneCell'=true:=fun z hz=>by
 obtain⟨_,_,_,e,_⟩:=(h z hz).form;rw[e];rfl
theorem aW{w:World}{ops:Array Oper}{rest:List Oper}{o:Oper}{a:Act}{Q:Exit->Act->World->Prop}(kt:o.guard=none)(s x:Operand)
  (ho:o.op=.call {callee:=.builtin .append,args:=#[s,x],argTypes:=#[27,27]})
  (base:Nat) {A:Option Addr} {n c:Nat} {zs:List (Value×En)} (hs:a.eval s=.slice A n c) (aD:w.ownsRow base 59 6 (.slice A n c) n (zs.flatMap bY))
  {B:Option Addr} {m d:Nat} {ys:List (Value×En)} (hx:a.eval x=.slice B m d) (hr:fu w B m ys) (h1:∀z∈ys,z.1.oneCell'=true) (hb:n+m<=1000000000) (bl:base<=w.heap.size)
  (h:∀A' c' w',w'.ownsRow base 59 6 (.slice A' (n+m) c') (n+m) ((zs++ys).flatMap bY)->Fr (az A) w w'->Below base w w'->(∀j,az A' j->az A j\/w.heap.size<=j)->wpList prog ops Q rest (a.put o.dst (.slice A' (n+m) c')) w'):wpList prog ops Q (o::rest) a w:=by
 obtain⟨i0,iy,jK,iL,gL⟩:=info_parts zG;refine bb w kt s x 27 ho base 59 i0 _ 6 64 underlying27 iy jK iL gL rfl (by omega) (.slice A n c) n _ hs aD B m d _ hx hr (C0 h1) (by unfold maxLen;omega) (by omega) bl fun A' c' w' h3 h4 h5=>?_
 rw[<-List.flatMap_append]at h3;exact h A' c' w' h3 (Fr.grown h4) (eY aD h4 bl) (gE h5)
theorem fu.one{w:World}{g:Nat}{z:Value×En}(hg:ar w g 59 (bY z).toArray):fu w (some ⟨g,0,none⟩) 1 [z]:=
 ⟨rfl,fun _=>⟨_,rfl,fun j y hy=>by
  have e:(⟨g,0,none⟩:Addr).add j=⟨g,j,none⟩:=by unfold Addr.add;split <;> simp[*]
  rw[e,hg.cell j,<-hy];simp⟩⟩
theorem bt.row{L:List TypeId}{w w':World}{base size n c:Nat}{e:TypeId}{A:Option Addr}{xs:List Value}(h:w.ownsRow base e size (.slice A n c) n xs)(hf:Fr (az A) w w')(he:e∉L):bt L w w':=fun j hj=>by
 obtain⟨cs,fz,ty,h7,h8⟩:=hj;refine hf.block j (aV h7) fun hx=>?_
 obtain⟨_,_,cs',h9⟩:=aB h A c rfl j hx;rw[h9]at h7;injection h7 with h7;injection h7 with _ h7;exact he (h7▸h8)
def WH(B:Nat)(w:World)(A:Option Addr)(n c:Nat)(zs:List (Value×En)):Prop:=
 (c=n/\fu w A n zs/\∀z∈zs,z.1.oneCell'=true)\/w.ownsRow B 59 6 (.slice A n c) n (zs.flatMap bY)
theorem pP{w:World}{ops:Array Oper}{rest:List Oper}{o:Oper}{a:Act}{Q:Exit->Act->World->Prop}(kt:o.guard=none)(s x:Operand)
  (ho:o.op=.call {callee:=.builtin .append,args:=#[s,x],argTypes:=#[27,27]})
  (base:Nat) {A:Option Addr} {n c:Nat} {zs:List (Value×En)} (hs:a.eval s=.slice A n c) (aD:WH base w A n c zs)
  (g:Nat) {z:Value×En} (hx:a.eval x=.slice (some ⟨g,0,none⟩) 1 1) (hg:ar w g 59 (bY z).toArray) (h1:z.1.oneCell'=true) (hb:n<=100000000) (bl:base<=w.heap.size)
  (h:∀A' c' w',w'.ownsRow base 59 6 (.slice A' (n+1) c') (n+1) ((zs++[z]).flatMap bY)->Below base w w'->(∀L,59∉L->bt L w w')->Fr (az A) w w'->wpList prog ops Q rest (a.put o.dst (.slice A' (n+1) c')) w'):wpList prog ops Q (o::rest) a w:=by
 obtain⟨i0,iy,jK,iL,gL⟩:=info_parts zG;have hr:=fu.one hg;have py:∀y∈[z],y.1.oneCell'=true:=fun y hy=>by rw[List.mem_singleton.1 hy];exact h1
 rcases aD with⟨rfl,dx,Z2⟩|aD
 ·have FX:A=none->c=0/\c=0:=fun e=>by
   rcases Nat.eq_zero_or_pos c with h0|h0
   ·exact⟨h0,h0⟩
   ·obtain⟨ad,e',_⟩:=dx.2 h0;rw[e]at e';cases e'
  refine wpList_append_grows w kt s x 27 ho 59 i0 _ 6 64 underlying27 iy jK iL gL rfl (by omega) A c c (zs.flatMap bY) hs FX dx.1 (fun b hb j y hy=>?_) ⟨g,0,none⟩ 1 1 ([z].flatMap bY) hx rfl (fun j y hy=>?_) (C0 py) (by omega) (by unfold maxLen;omega) (by omega) fun v' w' h3 h4=>?_
  ·have hl:=(List.getElem?_eq_some_iff.1 hy).1;have h0:0<c:=by have:=dx.1;omega
   obtain⟨ad,e,hc⟩:=dx.2 h0;obtain rfl:=Option.some.inj (hb.symm.trans e);exact hc j y hy
  ·obtain⟨ad,e,hc⟩:=hr.2 (by omega);obtain rfl:=Option.some.inj e;exact hc j y hy
  ·obtain⟨A',c',rfl,_⟩:=rt h3;have jH:Below w.heap.size w w':=zb.grown h4 zl (fun k hk=>by cases hk);rw[<-List.flatMap_append]at h3;exact h A' c' w' (ed h3 bl) (jH.mono bl) (fun L _=>bt.below jH) (Fr.of_below jH)
 ·refine aW kt s x ho base hs aD hx hr py (by omega) bl fun A' c' w' h3 h4 h5 h6=>h A' c' w' h3 h5 (fun L hL=>bt.row aD h4 hL) h4
def iR(i tm:Int):Bool:=(decide (i=0)&&decide (tm=0))||(eC i 1&&eC tm 1)
theorem IV{i tm:Int}(hb:iR i tm=true)(w:World):Calls prog 38 #[.int .i64 i,.int .i64 tm] w fun e w'=>e=.returned (.pointer (some ⟨w.heap.size,0,none⟩))/\ar w' w.heap.size 152 #[.int .i64 i,.int .i64 tm,.slice none 0 0]/\Below w.heap.size w w':=by
 have hA:Below w.heap.size w (w.alloc (.cells #[.int .i64 i,.int .i64 tm,.slice none 0 0] 152)):=zb.alloc zl _;have hk:=ar.new w 152 #[.int .i64 i,.int .i64 tm,.slice none 0 0];by_cases h0:i=0/\tm=0
 ·obtain⟨rfl,rfl⟩:=h0;go_enter func38,ntmps38;go_wp2_with fail;go_ret;exact⟨rfl,hk,hA⟩
 ·have h1:eC i 1=true/\eC tm 1=true:=by
   unfold iR at hb;rw[Bool.or_eq_true,Bool.and_eq_true,Bool.and_eq_true,decide_eq_true_eq,decide_eq_true_eq]at hb;exact hb.resolve_left h0
  have h2:i≠0:=by
   rintro rfl;have:=h1.1;simp[eC]at this
  clear h0 hb;go_enter func38,ntmps38;go_wp2_with fail;refine(qb _ _).mono ?_;rintro e w1 ⟨rfl,rfl⟩;rw[h1.1];go_wp2_with fail;refine(qb _ _).mono ?_;rintro e w1 ⟨rfl,rfl⟩;rw[h1.2];go_wp2_with fail;go_ret;exact⟨rfl,hk,hA⟩
theorem g9{α:Type}{l:List α}{i:Nat}{x:α}(h:l[i]?=some x):l.take (i+1)=l.take i++[x]:=by rw[List.take_add_one,h];rfl
section
variable {B:Nat}{S:Nat->Prop}{w:World}{g n c:Nat}{t:bB}{A:Option Addr}{zs:List (Value×En)}
theorem nO(h:cS B S w g t A n c zs)(hn:n<=1000000):Calls prog 44 #[.pointer (some ⟨g,0,none⟩)] w fun e w'=>e=.returned (.tuple #[.int .i64 t.lastF.1,.int .i64 t.lastF.2])/\Below w.heap.size w w':=
 (ym h hn).mono (by rintro e w' ⟨rfl,q,rfl⟩;exact⟨rfl,aA zb q⟩)
theorem jB(i:Int)(h:cS B S w g t A n c zs)(hn:n<=1000000):Calls prog 89 #[.pointer (some ⟨g,0,none⟩),.int .i64 i] w fun e w'=>e=.returned (.tuple #[.int .i64 (t.termF i).1,.int .i64 (t.termF i).2])/\Below w.heap.size w w':=
 (EL i h hn).mono (by rintro e w' ⟨rfl,q,rfl⟩;exact⟨rfl,aA zb q⟩)
def gi(B:Nat)(w:World)(A:Option Addr)(n c:Nat)(zs:List (Value×En))(L:List En):Prop:=
 w.ownsRow B 59 6 (.slice A n c) n (zs.flatMap bY)/\bq (bG TD B w) w zs/\zs.map (·.2)=L
theorem gi.below{w':World}{L:List En}(h:gi B w A n c zs L)(hb:Below w.heap.size w w'):gi B w' A n c zs L:=⟨bf h.1 hb,h.2.1.move (bt.below hb),h.2.2⟩
theorem gi.mono{B':Nat}{L:List En}(h:gi B w A n c zs L)(hb:B'<=B):gi B' w A n c zs L:=⟨ed h.1 hb,h.2.1.mono (bG.wide (fun _ h=>h) hb),h.2.2⟩
theorem gi.nil(B:Nat)(w:World):gi B w none 0 0 [] []:=⟨b9 _ _,fun z hz=>(by cases hz),rfl⟩
theorem gi.len{L:List En}(h:gi B w A n c zs L):zs.length=n/\L.length=n:=by
 have h1:=h.1.1;rw[fv fj]at h1;have h2:=congrArg List.length h.2.2;rw[List.length_map]at h2;omega
theorem Cx(i m:Int)(h:cS B S w g t A n c zs)(hn:n<=1000000):Calls prog 131 #[.pointer (some ⟨g,0,none⟩),.int .i64 i,.int .i64 m] w fun e w'=>∃A' n' c' zs',e=.returned (.slice A' n' c')/\gi w.heap.size w' A' n' c' zs' (t.sliceF i m)/\Below w.heap.size w w':=by
 have CR:=h.i.last;have hb:=h.i.b;have hr:=h.i.room;rw[<-h.len.1]at CR hr;have hl:=zH h.len.1;have bI:=nO h hn;rw[CR]at bI;clear CR;go_enter func131,ntmps131;go_wp2_with fail;refine bI.mono ?_;rintro e w1 ⟨rfl,bs⟩;have h1:=h.below bs;obtain⟨q0,q1,q2⟩:=h1.cells;by_cases i1:i<=t.index
 ·have he:=zH (show t.sliceF i m=[]from if_pos (.inl i1));go_wp2_with fail;go_ret;exact⟨none,0,0,[],rfl,by rw[he.out];exact gi.nil _ _,bs⟩
 ·by_cases i2:t.index+n<i
  ·have he:=zH (show t.sliceF i m=[] by
    unfold bB.sliceF;split
    ·rfl
    ·rw[List.drop_eq_nil_of_le (by rw[<-hl.out];omega),List.take_nil])
   go_wp2_with fail;go_ret;exact⟨none,0,0,[],rfl,by rw[he.out];exact gi.nil _ _,bs⟩
  ·by_cases i3:m<1
   ·have he:=zH (show t.sliceF i m=[]from if_pos (.inr i3));go_wp2_with fail;go_ret;exact⟨none,0,0,[],rfl,by rw[he.out];exact gi.nil _ _,bs⟩
   ·obtain⟨k,hk⟩:∃k:Nat,i-t.index-1=k:=⟨(i-t.index-1).toNat,by omega⟩;have Db:k<n:=by omega
    obtain⟨mm,Cy⟩:∃mm:Nat,m=mm:=⟨m.toNat,by omega⟩;subst Cy;have he:=zH (show t.sliceF i mm=(t.L.drop k).take mm by
     unfold bB.sliceF;rw[if_neg (by omega),hk];rfl)
    obtain⟨AB,oX⟩:=bA h1.o;obtain⟨ad,v0,x0,rfl,_⟩:=h1.at_ Db;obtain⟨p,hp⟩:∃p:Nat,min mm (n-k)=p:=⟨_,rfl⟩;have Gc:min (mm:Int) ((n-k:Nat):Int)=(p:Int):=by omega
    have hpc:p<=c-k:=by omega
    have WU:p<=n-k:=by omega
    have re:¬c=k:=by omega
    have xA:=zH hp;have bP:fu w1 (some (ad.add (k*6))) (n-k) (zs.drop k):=by
     have:=cn.cut (size:=6) h1.rd (k:=k) (by omega) AB;rw[if_neg re]at this;rw[<-mH fj]at this;exact this
    have oI:bq S w1 (zs.drop k):=h1.d.sub fun y hy=>List.mem_of_mem_drop hy
    have xb:=zH (show(zs.drop k).map (·.2)=t.L.drop k by rw[List.map_drop,h1.l]);have kG:=zH (show ∀z∈zs.drop k,pq z.2.facts from fun z hz=>lP (h1.i.plain _ (by rw[<-h1.l];exact List.mem_map_of_mem (List.mem_of_mem_drop hz))));generalize zs.drop k=ys at *;clear hp bI;unfold maxLen at oX;go_wp2_with fail
    go_quiet (fail)
    go_wp2_with fail;clear q0 q1 q2;obtain⟨w2,cw⟩:=zN (w1.drewN nq);rw[cw];have bJ:Below w.heap.size w w2:=by rw[<-cw];exact aA bs _
    have bP:fu w2 (some (ad.add (k*6))) (n-k) ys:=by rw[<-cw];exact bP
    have oI:bq S w2 ys:=by rw[<-cw];exact oI
    clear cw h1 bs
    go_loopw [10,52] (fun o i' wr=>∃(j:Nat) (A':Option Addr) (c':Nat) (zs':List (Value×En)),j<=p/\i'=.int .i64 j/\o=.slice A' j c'/\gi w2.heap.size wr A' j c' zs' ((t.L.drop k).take j)/\Below w2.heap.size w2 wr) (fun _ i' _=>p-(intOf i').toNat)
    case atStart=>exact⟨0,none,0,[],Nat.zero_le _,rfl,rfl,gi.nil _ _,Below.refl _ _⟩
    case round=>
     obtain⟨j,A',c',zs',hj,rfl,rfl,hE,gQ⟩:=hrel;by_cases aU:j<p
     ·obtain⟨cd,v1,x,VN,hx,c0,c1,c2,c3,c4,c5⟩:=(bP.below gQ).at_ (show j<n-k by omega);obtain rfl:ad.add (k*6)=cd:=Option.some.inj VN;have f1:=(oI _ (List.mem_of_getElem? hx)).keep (bz.below (S:=S) gQ);have BM:=kG.out _ (List.mem_of_getElem? hx);obtain⟨B1,m1,d1,bH,l1,l2,l3⟩:=f1.form;obtain rfl:v1=_:=bH;have cf:=zH (g9 (show(t.L.drop k)[j]?=some x by rw[<-xb.out,List.getElem?_map,hx];rfl));have aP:=zH (show p-(j+1)<p-j by omega);have aI:Below wr.heap.size wr (wr.alloc (.cells #[.int .i64 x.idx,.int .i64 x.term,.int .i64 x.op,.int .i64 x.sess,.int .i64 x.seq,.slice B1 m1 d1] 59)):=zb.alloc zl _;have f2:=f1.keep (bz.below (S:=S) aI);have aH:=oc S x B1 m1 d1 _ f2 BM;unfold ni at aH;have Oi:=hE.below aI;have tV:=ab gQ aI zl;clear hx f1 f2 VN hE gQ;go_wp2_with fail;generalize wr.alloc (.cells #[.int .i64 x.idx,.int .i64 x.term,.int .i64 x.op,.int .i64 x.sess,.int .i64 x.seq,.slice B1 m1 d1] 59)=w3 at *;refine aH.mono ?_;rintro e w4 ⟨A4,d4,rfl,DB,cz⟩;have QX:=Oi.below cz;have QV:=ab tV cz zl;have DB:=DB.mono (bG.wide (L:=TD) (fun _ h=>h) tV.size);have dH:Below w4.heap.size w4 (w4.alloc (.cells #[.int .i64 x.idx,.int .i64 x.term,.int .i64 x.op,.int .i64 x.sess,.int .i64 x.seq,.slice A4 m1 d4] 59)):=zb.alloc zl _;have dv:=ar.new w4 59 (bY (.slice A4 m1 d4,x)).toArray;have Rr:=QX.below dH;have Tu:=DB.move (bt.below dH);have Oq:=ab QV dH zl;have WE:j+1<=1000000000:=by omega
      clear Oi QX DB QV tV aH;go_wp2_with (at_builtin;refine aW rfl (.tmp 56) (.tmp 59) rfl w2.heap.size rfl Rr.1 rfl (fu.one dv) (fun y hy=>by rw[List.mem_singleton.1 hy];rfl) WE Oq.size ?_;intro A6 c6 w6 ff hfr6 gz hrow6);have hD:bq (bG TD w2.heap.size w6) w6 (zs'++[(.slice A4 m1 d4,x)]):=(Rr.2.1.append fun z hz=>by rw[List.mem_singleton.1 hz];exact Tu).move (bt.row Rr.1 hfr6 (by decide));have hM:(zs'++[((.slice A4 m1 d4:Value),x)]).map (·.2)=(t.L.drop k).take (j+1):=by rw[List.map_append,Rr.2.2,cf.out];rfl
      go_roundw
      case rel=>exact⟨j+1,A6,c6,_,aU,by go_num,rfl,⟨ff,hD,hM⟩,Oq.trans gz⟩
      case measure=>simp[intOf];exact aP.out
     ·obtain rfl:j=p:=by omega
      go_wp2_with fail;go_ret;refine⟨A',j,c',zs',rfl,?_,ab bJ gQ zl⟩;have Pm:t.sliceF i mm=(t.L.drop k).take j:=by
       rw[he.out,<-xA.out];rw[show(t.L.drop k).take mm=(t.L.drop k).take (min mm (n-k)) by
        rw[<-List.take_take,List.take_of_length_le (i:=n-k) (by rw[List.length_drop,<-hl.out];exact Nat.le_refl _)]]
      rw[Pm];exact hE.mono bJ.size
end
end Go.Proofs.YtjcninheccmpoaaGreat
