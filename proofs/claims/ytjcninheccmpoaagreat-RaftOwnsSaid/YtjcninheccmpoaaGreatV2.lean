import Derived.Test.YtjcninheccmpoaaGreatV1
import Derived.Lib.SliceRun
import Derived.Deep.DeepCutAuto
import Derived.Deep.CutBlock
set_option maxRecDepth 100000
set_option maxHeartbeats 8000000
set_option linter.all false
namespace Go.Proofs.YtjcninheccmpoaaGreat
open Go.RowKit Go.Proofs.Tryz
theorem zI(S:Nat->Prop)(v:Value)(m:Nat)(A:Option Addr)(n c:Nat)(fs:List Fa)(w:World)(hv:Bn w v m)(hm:m<=10000)(hf:aG S w (.slice A n c) fs)(hn:n<=maxLen) :
  Calls prog 160 #[v,.slice A n c] w fun e w'=>∃v',e=.returned (.tuple #[v',.int .i64 (qr fs)])/\Below w.heap.size w w':=by
 have H1:=zH (mw hf);unfold maxLen at hn;by_cases h8:8<n
 ·have hE:=zH (uO (fs:=fs) (by rw[H1.out];exact h8));go_enter func160,ntmps160;go_wp2_with fail
  go_ret2
  exact⟨_,by rw[hE.out];rfl,Below.refl _ _⟩
 ·go_enter func160,ntmps160;go_wp2_with fail;refine(cS v m _ w hv (by omega)).mono ?_;rintro e w1 ⟨v1,n1,rfl,G8,iU,br⟩;go_wp2_with fail
  go_loopw [6,7] (fun b i wr=>∃(k q:Nat),k<=n/\i=.int .i64 k/\Bn wr b q/\q<=10010+200*k/\(∀j f,j<k->fs[j]?=some f->eN f=true)/\Below w.heap.size w wr) (fun _ i _=>n-(intOf i).toNat)
  case atStart=>exact⟨0,n1,Nat.zero_le _,rfl,G8.bn,by omega,fun j f h=>by omega,br⟩
  case round=>
   obtain⟨k,q,hk,rfl,fw,hq,dO,hb⟩:=hrel;have Hno:=zH dO;clear dO;by_cases aU:k<n
   ·obtain⟨ad,f,B,mp,d,C,mv,r,rfl,DK,c0,c1,hp,O6,ur,Fe,nA,JR,Lq,wm⟩:=(hf.keep (bA.below (S:=S) hb)).at_ aU;have aO:=zH (show n-(k+1)<n-k by omega);have l0:=ar c0;have l1:=ar c1;have Hpl:=zH nA;have Hvl:=zH wm;clear nA wm;go_wp2_with fail;refine(wS _ _ _ _ _ _ _ f _ hp O6 (Nat.le_trans ur Fe) (Nat.le_trans JR Lq)).mono ?_;rintro e w3 ⟨rfl,bN⟩;have c0':=(bN.cell l0).trans c0;have c1':=(bN.cell (p:=⟨(ad.add (k*2)).block,(ad.add (k*2)).off+1,none⟩) l1).trans c1;cases jq:eN f with
    | false=>
     have hE:=zH (zA (fs:=fs) (by rw[H1.out];exact h8) (List.mem_of_getElem? DK) jq);clear DK;go_wp2_with fail
     go_ret2
     exact⟨_,by rw[hE.out];rfl,ab hb bN zl⟩
    | true=>
     have Hst:=zH (show ∀j y,j<k+1->fs[j]?=some y->eN y=true from fun j y hj hy=>by
      rcases Nat.lt_or_ge j k with h|h
      ·exact Hno.out j y h hy
      ·obtain rfl:j=k:=by omega
       obtain rfl:f=y:=Option.some.inj (DK.symm.trans hy);exact jq)
     obtain⟨OX,rF,gn⟩:=kO jq;rw[Hpl.out]at rF;rw[Hvl.out]at gn;have Hps:=zH OX;clear DK jq OX;go_wp2_with fail;refine(cS _ q _ w3 (fw.below bN) (by omega)).mono ?_;rintro e w4 ⟨v4,n4,rfl,IN,DS,cO⟩;have rt:=ab bN cO zl;have Rs:=hp.keep (bA.below (S:=S) rt);have iH:=ab hb rt zl;have d0:=(rt.cell l0).trans c0;have d1:=(rt.cell (p:=⟨(ad.add (k*2)).block,(ad.add (k*2)).off+1,none⟩) l1).trans c1;have e0:(ad.add (k*2)).block<w4.heap.size:=Nat.lt_of_lt_of_le l0 rt.size;clear c0' c1';unfold maxLen at Fe Lq;go_wp2_with fail
     go_loopw [6,9] (fun b i wr'=>∃(k' q':Nat),k'<=mp/\i=.int .i64 k'/\Bn wr' b q'/\q'<=n4+49*k'/\Below w4.heap.size w4 wr') (fun _ i _=>mp-(intOf i).toNat)
     case atStart=>exact⟨0,n4,Nat.zero_le _,rfl,IN.bn,by omega,Below.refl _ _⟩
     case round=>
      obtain⟨k',q',yy,rfl,Gj,Ry,iv⟩:=hrel;have f0:=(iv.cell (p:=ad.add (k*2)) e0).trans d0;by_cases kI:k'<mp
      ·obtain⟨ad',p,B',m',d',rfl,o9,Jt,xu,Rb,UA,Nv⟩:=(Rs.keep (bA.below (S:=S) iv)).at_ kI;have mT:=Hps.out p (List.mem_of_getElem? o9);have fK:=zH (show mp-(k'+1)<mp-k' by omega);clear o9 Nv;go_wp2_with fail;refine(zJ _ _ _ p _ xu.rd mT).mono ?_;rintro e w5 ⟨s,rfl,hs,cM⟩;go_wp2_with fail;refine(sq _ q' s _ (Gj.below cM) (by omega) (by omega)).mono ?_;rintro e w6 ⟨v6,n6,rfl,VT,Nh,iT⟩;go_wp2_with fail
       go_roundw
       case rel=>exact⟨k'+1,n6,kI,by go_num,VT.bn,by omega,ab (ab iv cM zl) iT zl⟩
       case measure=>simp[intOf];exact fK.out
      ·obtain rfl:k'=mp:=by omega
       obtain⟨w7,rfl⟩:∃wo:World,wo=wr:=⟨_,rfl⟩;have f1:=(iv.cell (p:=⟨(ad.add (k*2)).block,(ad.add (k*2)).off+1,none⟩) e0).trans d1;have DF:=ab rt iv zl;have mP:=ab iH iv zl;go_wp2_with fail;refine(cS _ q' _ w7 Gj (by omega)).mono ?_;rintro e w8 ⟨v8,n8,rfl,VU,ZD,vO⟩;have e7:(ad.add (k*2)).block<w7.heap.size:=Nat.lt_of_lt_of_le e0 iv.size;have g1:=(vO.cell (p:=⟨(ad.add (k*2)).block,(ad.add (k*2)).off+1,none⟩) e7).trans f1;have e8:(ad.add (k*2)).block<w8.heap.size:=Nat.lt_of_lt_of_le e7 vO.size;have xx:=O6.keep (bA.below (S:=S) (ab DF vO zl));have yk:=ab mP vO zl;clear f0 f1 d0 d1 c0 c1;go_wp2_with fail
       go_loopw [6,12] (fun b i wr'=>∃(j' p':Nat),j'<=mv/\i=.int .i64 j'/\Bn wr' b p'/\p'<=n8+10*j'/\Below w8.heap.size w8 wr') (fun _ i _=>mv-(intOf i).toNat)
       case atStart=>exact⟨0,n8,Nat.zero_le _,rfl,VU.bn,by omega,Below.refl _ _⟩
       case round=>
        obtain⟨j',p',JJ,rfl,yn,S8,yj⟩:=hrel;have h1:=(yj.cell (p:=⟨(ad.add (k*2)).block,(ad.add (k*2)).off+1,none⟩) e8).trans g1;by_cases yG:j'<mv
        ·obtain⟨ad',rfl,Jt⟩:=(xx.keep (bA.below (S:=S) yj)).rd.at_ yG;have fK:=zH (show mv-(j'+1)<mv-j' by omega);generalize f.vals[j']?.getD 0=z at *;go_wp2_with fail;refine(cS _ p' _ _ yn (by omega)).mono ?_;rintro e w9 ⟨v9,n9,rfl,VV,Va,kX⟩;go_wp2_with fail
         go_roundw
         case rel=>exact⟨j'+1,n9,yG,by go_num,VV.bn,by omega,ab yj kX zl⟩
         case measure=>simp[intOf];exact fK.out
        ·obtain rfl:j'=mv:=by omega
         go_wp2_with fail
         go_roundw
         case rel=>exact⟨k+1,p',aU,by go_num,yn,by omega,Hst.out,ab yk yj zl⟩
         case measure=>simp[intOf];exact aO.out
   ·obtain rfl:k=n:=by omega
    have hE:=zH (C0 (fs:=fs) (by rw[H1.out];exact h8) (fun f hf=>by
     obtain⟨i,hi,e⟩:=List.getElem_of_mem hf;exact Hno.out i f (by rw[<-H1.out];exact hi) (by rw[List.getElem?_eq_getElem hi,e])))
    go_wp2_with fail
    go_ret2
    exact⟨_,by rw[hE.out];rfl,hb⟩
theorem qK{z k:Int}(h:z<k):eA z k=false:=by unfold eA;rw[decide_eq_false (by omega)];rfl
theorem qI{z k:Int}(h:1099511627776<z):eA z k=false:=by unfold eA;rw[decide_eq_false (show ¬z<=1099511627776 by omega)];simp
theorem qJ{z k:Int}(h:k<=z)(h':z<=1099511627776):eA z k=true:=by unfold eA;rw[decide_eq_true h,decide_eq_true h'];rfl
theorem tQ(S:Nat->Prop)(v:Value)(m:Nat)(x:En)(A:Option Addr)(n c:Nat)(w:World)(hv:Bn w v m)(hm:m<=9000)(hf:aG S w (.slice A n c) x.facts)(hn:n<=maxLen) :
  Calls prog 149 #[v,qc x (.slice A n c)] w (Sx (ku x) w):=by
 unfold qc;have aI:Below w.heap.size w (w.alloc (.cells #[.int .i64 x.op,.int .i64 x.sess,.int .i64 x.seq,.slice A n c] 42)):=zb.alloc zl _;have di:=ao.new w 42 #[.int .i64 x.op,.int .i64 x.sess,.int .i64 x.seq,.slice A n c];obtain⟨fO,lw,yp,Bu,-⟩:=di.cs [0,1,2,3];simp only[Zx]at fO lw yp Bu;have ci:=hv.below aI;have pH:=hf.keep (bA.below (S:=S) aI);have cB:(x.op<0/\ku x=24)\/(0<=x.op/\3<x.op/\ku x=24)\/(0<=x.op/\x.op<=3/\x.sess<0/\ku x=1)\/(0<=x.op/\x.op<=3/\0<=x.sess/\1099511627776<x.sess/\ku x=1)\/
   (0<=x.op/\x.op<=3/\0<=x.sess/\x.sess<=1099511627776/\x.seq<0/\ku x=1)\/(0<=x.op/\x.op<=3/\0<=x.sess/\x.sess<=1099511627776/\0<=x.seq/\1099511627776<x.seq/\ku x=1)\/
   (0<=x.op/\x.op<=3/\0<=x.sess/\x.sess<=1099511627776/\0<=x.seq/\x.seq<=1099511627776/\ku x=qr x.facts):=by
  by_cases h1:x.op<0
  ·exact .inl ⟨h1,vv (.inl h1)⟩
  by_cases h2:3<x.op
  ·exact .inr (.inl ⟨by omega,h2,vv (.inr h2)⟩)
  have Dv:¬(x.op<0\/3<x.op):=by omega
  by_cases h3:x.sess<0
  ·exact .inr (.inr (.inl ⟨by omega,by omega,h3,lK Dv (by rw[qK h3];rfl)⟩))
  by_cases h4:1099511627776<x.sess
  ·exact .inr (.inr (.inr (.inl ⟨by omega,by omega,by omega,h4,lK Dv (by rw[qI h4];rfl)⟩)))
  by_cases h5:x.seq<0
  ·exact .inr (.inr (.inr (.inr (.inl ⟨by omega,by omega,by omega,by omega,h5,lK Dv (by rw[qK h5];simp)⟩))))
  by_cases h6:1099511627776<x.seq
  ·exact .inr (.inr (.inr (.inr (.inr (.inl ⟨by omega,by omega,by omega,by omega,by omega,h6,lK Dv (by rw[qI h6];simp)⟩)))))
  ·exact .inr (.inr (.inr (.inr (.inr (.inr ⟨by omega,by omega,by omega,by omega,by omega,by omega,xO Dv (qJ (by omega) (by omega)) (qJ (by omega) (by omega))⟩)))))
 rcases cB with⟨a1,hE⟩|⟨a1,a2,hE⟩|⟨a1,a2,a3,hE⟩|⟨a1,a2,a3,a4,hE⟩|⟨a1,a2,a3,a4,a5,hE⟩|⟨a1,a2,a3,a4,a5,a6,hE⟩|⟨a1,a2,a3,a4,a5,a6,hE⟩
 all_goals
  have HE:=zH hE;clear hE;go_enter func149,ntmps149;go_wp2_with fail
 all_goals try(go_ret2;exact⟨_,by rw[HE.out];rfl,aI⟩)
 all_goals try(exfalso;omega)
 generalize w.alloc (.cells #[.int .i64 x.op,.int .i64 x.sess,.int .i64 x.seq,.slice A n c] 42)=w1 at *;have cW:=di.lt;refine(cS v m _ _ ci (by omega)).mono ?_;rintro e w2 ⟨v2,n2,rfl,D2,kJ,bQ⟩;have q1:=(bQ.cell (p:=⟨w.heap.size,1,none⟩) cW).trans lw;go_wp2_with fail;refine(cS v2 n2 _ _ D2.bn (by omega)).mono ?_;rintro e w3 ⟨v3,n3,rfl,D3,Fg,bN⟩;have gl:=ab bQ bN zl;have q2:=(gl.cell (p:=⟨w.heap.size,2,none⟩) cW).trans yp;go_wp2_with fail;refine(cS v3 n3 _ _ D3.bn (by omega)).mono ?_;rintro e w4 ⟨v4,n4,rfl,IN,DS,cO⟩;have gT:=ab gl cO zl;have q3:=(gT.cell (p:=⟨w.heap.size,3,none⟩) cW).trans Bu;go_wp2_with fail;refine(zI S v4 n4 _ _ _ _ _ IN.bn (by omega) (pH.keep (bA.below gT)) hn).mono ?_;rintro e w5 ⟨v5,rfl,cM⟩;have My:=ab gT cM zl;go_wp2_with fail
 go_ret2
 exact⟨_,by rw[HE.out];rfl,ab aI My zl⟩
theorem qs(S:Nat->Prop)(v:Value)(m:Nat)(x:En)(A:Option Addr)(n c:Nat)(w:World)(hv:Bn w v m)(hm:m<=8000)(hf:aG S w (.slice A n c) x.facts)(hn:n<=maxLen) :
  Calls prog 130 #[v,mM x (.slice A n c)] w (Sx (kw x) w):=by
 unfold mM;have aI:Below w.heap.size w (w.alloc (.cells #[.int .i64 x.idx,.int .i64 x.term,.int .i64 x.op,.int .i64 x.sess,.int .i64 x.seq,.slice A n c] 59)):=zb.alloc zl _;have di:=ao.new w 59 #[.int .i64 x.idx,.int .i64 x.term,.int .i64 x.op,.int .i64 x.sess,.int .i64 x.seq,.slice A n c];obtain⟨fO,lw,yp,Bu,Gk,OJ,-⟩:=di.cs [0,1,2,3,4,5];simp only[Zx]at fO lw yp Bu Gk OJ;have ci:=hv.below aI;have pH:=hf.keep (bA.below (S:=S) aI);have cB:(x.idx<1/\kw x=1)\/(1<=x.idx/\1099511627776<x.idx/\kw x=1)\/
   (1<=x.idx/\x.idx<=1099511627776/\x.term<1/\kw x=1)\/(1<=x.idx/\x.idx<=1099511627776/\1<=x.term/\1099511627776<x.term/\kw x=1)\/
   (1<=x.idx/\x.idx<=1099511627776/\1<=x.term/\x.term<=1099511627776/\kw x=ku x):=by
  by_cases h3:x.idx<1
  ·exact .inl ⟨h3,jX (by rw[qK h3];rfl)⟩
  by_cases h4:1099511627776<x.idx
  ·exact .inr (.inl ⟨by omega,h4,jX (by rw[qI h4];rfl)⟩)
  by_cases h5:x.term<1
  ·exact .inr (.inr (.inl ⟨by omega,by omega,h5,jX (by rw[qK h5];simp)⟩))
  by_cases h6:1099511627776<x.term
  ·exact .inr (.inr (.inr (.inl ⟨by omega,by omega,by omega,h6,jX (by rw[qI h6];simp)⟩)))
  ·exact .inr (.inr (.inr (.inr ⟨by omega,by omega,by omega,by omega,xW (qJ (by omega) (by omega)) (qJ (by omega) (by omega))⟩)))
 rcases cB with⟨a1,hE⟩|⟨a1,a2,hE⟩|⟨a1,a2,a3,hE⟩|⟨a1,a2,a3,a4,hE⟩|⟨a1,a2,a3,a4,hE⟩
 all_goals
  have HE:=zH hE;clear hE;go_enter func130,ntmps130;go_wp2_with fail
 all_goals try(go_ret2;exact⟨_,by rw[HE.out];rfl,aI⟩)
 all_goals try(exfalso;omega)
 generalize w.alloc (.cells #[.int .i64 x.idx,.int .i64 x.term,.int .i64 x.op,.int .i64 x.sess,.int .i64 x.seq,.slice A n c] 59)=w1 at *;have cW:=di.lt;refine(cS v m _ _ ci (by omega)).mono ?_;rintro e w2 ⟨v2,n2,rfl,D2,kJ,bQ⟩;have q1:=(bQ.cell (p:=⟨w.heap.size,1,none⟩) cW).trans lw;go_wp2_with fail;refine(cS v2 n2 _ _ D2.bn (by omega)).mono ?_;rintro e w3 ⟨v3,n3,rfl,D3,Fg,bN⟩;have gl:=ab bQ bN zl;have q2:=(gl.cell (p:=⟨w.heap.size,2,none⟩) cW).trans yp;have q3:=(gl.cell (p:=⟨w.heap.size,3,none⟩) cW).trans Bu;have q4:=(gl.cell (p:=⟨w.heap.size,4,none⟩) cW).trans Gk;have q5:=(gl.cell (p:=⟨w.heap.size,5,none⟩) cW).trans OJ;go_wp2_with fail;refine(tQ S v3 n3 x _ _ _ _ D3.bn (by omega) (pH.keep (bA.below gl)) hn).mono ?_;rintro e w5 ⟨v5,rfl,cM⟩;have My:=ab gl cM zl;go_wp2_with fail
 go_ret2
 exact⟨_,by rw[HE.out];rfl,ab aI My zl⟩
def bC(gs:List Nat)(w:World):Type:={w':World // ∀g∈gs,w'.heap[g]?=w.heap[g]?}
instance (gs:List Nat) (w:World):Nonempty (bC gs w):=⟨⟨w,fun _ _=>rfl⟩⟩
def dS(gs:List Nat)(w:World):World->Prop:=fun w'=>∃x:bC gs w,w'=x.1
attribute [go_sem] dS
theorem aQ{gs:List Nat}{w:World}:dS gs w w.drew:=⟨⟨w.drew,fun _ _=>rfl⟩,rfl⟩
theorem dT{gs:List Nat}{w w':World}(h:∀g∈gs,w'.heap[g]?=w.heap[g]?):dS gs w w':=⟨⟨w',h⟩,rfl⟩
theorem ae{gs:List Nat}{w:World}{p:Addr}{v:Value}(h:w.cell? p=some v)(hp:p.block∈gs):∀x:bC gs w,x.1.cell? p=some v:=
 fun x=>by rw[<-h];exact World.cell?_of_block (x.2 _ hp)
theorem av{gs:List Nat}{w w':World}(hg:∀g∈gs,g<w.heap.size)(hb:Below w.heap.size w w'):dS gs w w':=dT fun g h=>hb.block g (hg g h)
theorem aV{w:World}{j:Nat}{o:Obj}(h:w.heap[j]?=some o):j<w.heap.size:=by
 rcases Nat.lt_or_ge j w.heap.size with aU|ry
 ·exact aU
 ·rw[Array.getElem?_eq_none ry]at h;cases h
theorem EC{A B:Option Addr}{n c d:Nat}{l:List Int}{w:World}(h1:fv w A n l)(h2:fv w B n l)(hn:n<=maxLen) :
  Calls prog 157 #[.slice A n c,.slice B n d] w fun e w'=>e=.returned (.bool true)/\Below w.heap.size w w':=by
 unfold maxLen at hn;go_enter func157,ntmps157;go_wp2_with fail
 go_loopw [5] (fun i wr=>∃k q:Nat,k<=n/\i=.int .i64 k/\wr=w.drewN q) (fun i _=>n-(intOf i).toNat)
 case atStart=>exact⟨0,0,Nat.zero_le _,rfl,rfl⟩
 case round=>
  obtain⟨k,q,hk,rfl,rfl⟩:=hrel;by_cases aU:k<n
  ·obtain⟨ad,rfl,c1⟩:=h1.at_ aU;obtain⟨ad2,rfl,c2⟩:=h2.at_ aU;generalize l[k]?.getD 0=b at *;go_wp2_with fail
   go_quiet (fail)
   go_wp2_with fail;exact⟨⟨k+1,_,aU,by go_num,rfl⟩,by simp[intOf];omega⟩
  ·go_wp2_with fail;go_ret;exact⟨rfl,ay zb q⟩
theorem ED{A B:Option Addr}{n c d:Nat}{l:List ByteArray}{w:World}(h1:vo w A n l)(h2:vo w B n l)(hn:n<=maxLen) :
  Calls prog 158 #[.slice A n c,.slice B n d] w fun e w'=>e=.returned (.bool true)/\Below w.heap.size w w':=by
 unfold maxLen at hn;go_enter func158,ntmps158;go_wp2_with fail
 go_loopw [5] (fun i wr=>∃k q:Nat,k<=n/\i=.int .i64 k/\wr=w.drewN q) (fun i _=>n-(intOf i).toNat)
 case atStart=>exact⟨0,0,Nat.zero_le _,rfl,rfl⟩
 case round=>
  obtain⟨k,q,hk,rfl,rfl⟩:=hrel;by_cases aU:k<n
  ·obtain⟨ad,s,rfl,hs,c1⟩:=h1.at_ aU;obtain⟨ad2,s2,rfl,BM,c2⟩:=h2.at_ aU;rw[hs]at BM;obtain rfl:=Option.some.inj BM;clear hs BM;go_wp2_with fail
   go_quiet (fail)
   go_wp2_with fail;exact⟨⟨k+1,_,aU,by go_num,rfl⟩,by simp[intOf];omega⟩
  ·go_wp2_with fail;go_ret;exact⟨rfl,ay zb q⟩
theorem EB{S S':Nat->Prop}{A B:Option Addr}{n c d:Nat}{fs:List Fa}{w:World}(h1:aG S w (.slice A n c) fs)(h2:aG S' w (.slice B n d) fs)(hn:n<=maxLen) :
  Calls prog 145 #[.slice A n c,.slice B n d] w fun e w'=>e=.returned (.bool true)/\Below w.heap.size w w':=by
 unfold maxLen at hn;go_enter func145,ntmps145;go_wp2_with fail
 go_loopw [5] (fun i wr=>∃k:Nat,k<=n/\i=.int .i64 k/\Below w.heap.size w wr) (fun i _=>n-(intOf i).toNat)
 case atStart=>exact⟨0,Nat.zero_le _,rfl,Below.refl _ _⟩
 case round=>
  obtain⟨k,hk,rfl,hb⟩:=hrel;by_cases aU:k<n
  ·obtain⟨ad,f,A1,m1,d1,B1,q1,r1,rfl,pH,c0,c1,p1,v1,x1,x2,x3,x4,x5,x6⟩:=(h1.keep (bA.below (S:=S) hb)).at_ aU;obtain⟨bd,f2,A2,m2,d2,B2,q2,r2,rfl,qz,e0,e1,p2,v2,y1,y2,y3,y4,y5,y6⟩:=(h2.keep (bA.below (S:=S') hb)).at_ aU;rw[pH]at qz;obtain rfl:=Option.some.inj qz;obtain rfl:m2=m1:=by omega
   obtain rfl:q2=q1:=by omega
   clear pH qz;have aO:=zH (show n-(k+1)<n-k by omega);have ka:=ae (gs:=[(ad.add (k*2)).block,(bd.add (k*2)).block]) c1 (by simp);have kb:=ae (gs:=[(ad.add (k*2)).block,(bd.add (k*2)).block]) e1 (by simp);go_wp2_with fail;refine cK (C:=dS [(ad.add (k*2)).block,(bd.add (k*2)).block] wr) [([0,1,2,3,4,5,6,7,8,9],10)] [11] (by kernel_rfl) (by kernel_rfl) (fun _ _ _ _ e h=>⟨e.symm.trans h.1,h.2⟩) aQ ?_;refine aF fun K1 cQ=>?_
   simp only[ah,Zx];repeat go_big_quiet_step(fail)
   apply wpQuiet_nil;go_wp2_with fail;refine(EC (w:=wr.drew) v1.rd v2.rd (Nat.le_trans x4 x5)).mono ?_;rintro e w6 ⟨rfl,iT⟩;have iT:Below wr.heap.size wr w6:=(ay (Below.refl wr.heap.size wr) 1).trans iT;have la:=ar c0;have lb:=ar e0;have c0':=(iT.cell la).trans c0;have e0':=(iT.cell lb).trans e0;go_wp2_with fail;have dA:∀g∈[(ad.add (k*2)).block,(bd.add (k*2)).block],g<wr.heap.size:=by simp;exact⟨la,lb⟩
   refine⟨av dA iT,cQ _ _ ?_⟩;refine al ?_;simp only[ah,Zx];repeat go_big_quiet_step(fail)
   apply wpQuiet_nil;go_wp2_with fail
   go_quiet (fail)
   have vL:=ab hb iT zl;have xr:=p1.keep (bA.below (S:=S) iT);have AI:=p2.keep (bA.below (S:=S') iT);have la':(ad.add (k*2)).block<w6.heap.size:=Nat.lt_of_lt_of_le la iT.size;have lb':(bd.add (k*2)).block<w6.heap.size:=Nat.lt_of_lt_of_le lb iT.size;clear iT c0 e0 c1 e1 ka kb p1 p2 v1 v2;unfold maxLen at x2;go_wp2_with fail
   go_loopw [7] (fun i wr'=>∃j:Nat,j<=m2/\i=.int .i64 j/\Below w6.heap.size w6 wr') (fun i _=>m2-(intOf i).toNat)
   case atStart=>exact⟨0,Nat.zero_le _,rfl,ay zb _⟩
   case round=>
    obtain⟨j,hj,rfl,iv⟩:=hrel;have c0:=(iv.cell la').trans c0';have e0:=(iv.cell lb').trans e0';have lc:=Nat.lt_of_lt_of_le la' iv.size;have ld:=Nat.lt_of_lt_of_le lb' iv.size;by_cases kI:j<m2
    ·obtain⟨cd,p,C1,s1,t1,rfl,nB,c2,z1,z2,z3,z4⟩:=(xr.keep (bA.below (S:=S) iv)).at_ kI;obtain⟨dd,p',C2,s2,t2,rfl,jM,e2,z5,z6,z7,z8⟩:=(AI.keep (bA.below (S:=S') iv)).at_ kI;rw[nB]at jM;obtain rfl:=Option.some.inj jM;obtain rfl:s2=s1:=by omega
     clear nB jM;have le:=ar c2;have lf:=ar e2;rw[bi]at le lf;have fK:=zH (show m2-(j+1)<m2-j by omega);have ka:=ae (gs:=[(ad.add (k*2)).block,(bd.add (k*2)).block,cd.block,dd.block]) c0 (by simp);have kb:=ae (gs:=[(ad.add (k*2)).block,(bd.add (k*2)).block,cd.block,dd.block]) e0 (by simp);have kc:=ae (gs:=[(ad.add (k*2)).block,(bd.add (k*2)).block,cd.block,dd.block]) c2 (by simp[bi]);have kd:=ae (gs:=[(ad.add (k*2)).block,(bd.add (k*2)).block,cd.block,dd.block]) e2 (by simp[bi]);have dA:∀g∈[(ad.add (k*2)).block,(bd.add (k*2)).block,cd.block,dd.block],g<wr.heap.size:=by simp;exact⟨lc,ld,le,lf⟩
     go_wp2_with fail;refine cK (C:=dS [(ad.add (k*2)).block,(bd.add (k*2)).block,cd.block,dd.block] wr) [([0,1,2,3,4,5,6,7,8,9,10,11,12,13,14,15],16)] [17] (by kernel_rfl) (by kernel_rfl) (fun _ _ _ _ e h=>⟨e.symm.trans h.1,h.2⟩) aQ ?_;refine aF fun K1 cQ=>?_
     simp only[ah,Zx];repeat go_big_quiet_step(fail)
     apply wpQuiet_nil;go_wp2_with fail;refine(ED (w:=wr.drew) z1.rd z5.rd (Nat.le_trans z2 z3)).mono ?_;rintro e w7 ⟨rfl,iw⟩;have iw:Below wr.heap.size wr w7:=(ay (Below.refl wr.heap.size wr) 1).trans iw;go_wp2_with fail;refine⟨av dA iw,cQ _ _ ?_⟩;refine al ?_;simp only[ah,Zx];repeat go_big_quiet_step(fail)
     apply wpQuiet_nil;go_wp2_with fail
     go_roundw
     case rel=>exact⟨j+1,kI,by go_num,ab iv iw zl⟩
     case measure=>simp[intOf];exact fK.out
    ·obtain rfl:j=m2:=by omega
     go_wp2_with fail
     go_roundw
     case rel=>exact⟨k+1,aU,by go_num,ab vL iv zl⟩
     case measure=>simp[intOf];exact aO.out
  ·go_wp2_with fail;go_ret;exact⟨rfl,hb⟩
theorem gE(w:World)(T T':TypeId)(cs ds:Array Value):Below w.heap.size w ((w.alloc (.cells cs T)).alloc (.cells ds T'))/\ao ((w.alloc (.cells cs T)).alloc (.cells ds T')) w.heap.size T cs/\ao ((w.alloc (.cells cs T)).alloc (.cells ds T')) (w.heap.size+1) T' ds:=by
 refine⟨(zb.alloc zl _).alloc (by simp) _,(ao.new w T cs).alloc _,?_⟩;have:=ao.new (w.alloc (.cells cs T)) T' ds;have e:(w.alloc (.cells cs T)).heap.size=w.heap.size+1:=by simp
 rwa [e]at this
theorem zP{S S':Nat->Prop}{A B:Option Addr}{n c d:Nat}{x:En}{w:World}(h1:aG S w (.slice A n c) x.facts)(h2:aG S' w (.slice B n d) x.facts)(hn:n<=maxLen) :
  Calls prog 126 #[qc x (.slice A n c),qc x (.slice B n d)] w fun e w'=>e=.returned (.bool true)/\Below w.heap.size w w':=by
 unfold qc;obtain⟨aI,cA,eY⟩:=gE w 42 42 #[.int .i64 x.op,.int .i64 x.sess,.int .i64 x.seq,.slice A n c] #[.int .i64 x.op,.int .i64 x.sess,.int .i64 x.seq,.slice B n d];have g1:=h1.keep (bA.below (S:=S) aI);have g2:=h2.keep (bA.below (S:=S') aI);go_enter func126,ntmps126;go_wp2_with fail;generalize(w.alloc (.cells #[.int .i64 x.op,.int .i64 x.sess,.int .i64 x.seq,.slice A n c] 42)).alloc (.cells #[.int .i64 x.op,.int .i64 x.sess,.int .i64 x.seq,.slice B n d] 42)=w1 at *;refine(EB g1 g2 hn).mono ?_;rintro e w2 ⟨rfl,bQ⟩;have b1:=cA.kept bQ;have b2:=eY.kept bQ;obtain⟨a0,a1,a2,-⟩:=b1.cs [0,1,2];obtain⟨d0,d1,d2,-⟩:=b2.cs [0,1,2];simp only[Zx]at a0 a1 a2 d0 d1 d2;go_wp2_with fail;go_ret;exact⟨by simp,ab aI bQ zl⟩
theorem Ck{S S':Nat->Prop}{A B:Option Addr}{n c d:Nat}{x:En}{w:World}(h1:aG S w (.slice A n c) x.facts)(h2:aG S' w (.slice B n d) x.facts)(hn:n<=maxLen) :
  Calls prog 73 #[mM x (.slice A n c),mM x (.slice B n d)] w fun e w'=>e=.returned (.bool true)/\Below w.heap.size w w':=by
 unfold mM;obtain⟨aI,cA,eY⟩:=gE w 59 59 #[.int .i64 x.idx,.int .i64 x.term,.int .i64 x.op,.int .i64 x.sess,.int .i64 x.seq,.slice A n c] #[.int .i64 x.idx,.int .i64 x.term,.int .i64 x.op,.int .i64 x.sess,.int .i64 x.seq,.slice B n d];have g1:=h1.keep (bA.below (S:=S) aI);have g2:=h2.keep (bA.below (S:=S') aI);go_enter func73,ntmps73;go_wp2_with fail;generalize(w.alloc (.cells #[.int .i64 x.idx,.int .i64 x.term,.int .i64 x.op,.int .i64 x.sess,.int .i64 x.seq,.slice A n c] 59)).alloc (.cells #[.int .i64 x.idx,.int .i64 x.term,.int .i64 x.op,.int .i64 x.sess,.int .i64 x.seq,.slice B n d] 59)=w1 at *;refine(zP (x:=x) g1 g2 hn).mono ?_;rintro e w2 ⟨rfl,bQ⟩;have b1:=cA.kept bQ;have b2:=eY.kept bQ;obtain⟨a0,a1,-⟩:=b1.cs [0,1];obtain⟨d0,d1,-⟩:=b2.cs [0,1];simp only[Zx]at a0 a1 d0 d1;go_wp2_with fail;go_ret;exact⟨by simp,ab aI bQ zl⟩
def ff(w:World)(A:Option Addr)(n:Nat)(zs:List (Value×En)):Prop:=cn w 6 A n (zs.flatMap cl)
theorem ff.len{w:World}{A:Option Addr}{n:Nat}{zs:List (Value×En)}(h:ff w A n zs):zs.length=n:=by
 have:=h.1;rw[eO eX]at this;omega
theorem ff.at_{w:World}{A:Option Addr}{n k:Nat}{zs:List (Value×En)}(h:ff w A n zs)(hk:k<n) :
  ∃ad v x,A=some ad/\zs[k]?=some (v,x)/\w.cell? (ad.add (k*6))=some (.int .i64 x.idx)/\w.cell? ⟨(ad.add (k*6)).block,(ad.add (k*6)).off+1,none⟩=some (.int .i64 x.term)/\
   w.cell? ⟨(ad.add (k*6)).block,(ad.add (k*6)).off+2,none⟩=some (.int .i64 x.op)/\w.cell? ⟨(ad.add (k*6)).block,(ad.add (k*6)).off+3,none⟩=some (.int .i64 x.sess)/\
   w.cell? ⟨(ad.add (k*6)).block,(ad.add (k*6)).off+4,none⟩=some (.int .i64 x.seq)/\w.cell? ⟨(ad.add (k*6)).block,(ad.add (k*6)).off+5,none⟩=some v:=by
 have hl:=h.len;have h':cn w 6 A n (zs.flatMap cl):=h;obtain⟨ad,rfl,hc⟩:=h'.2 (by omega);have hz:zs[k]?=some (zs[k]'(by omega)):=List.getElem?_eq_getElem (by omega);obtain⟨⟨v,x⟩,Sa⟩:∃z,z=zs[k]'(by omega):=⟨_,rfl⟩;rw[<-Sa]at hz;have key:∀j u,j<6->(cl (v,x))[j]?=some u->w.cell? (ad.add (k*6+j))=some u:=fun j u hj hu=>hc _ _ ((dW eX hj hz).trans hu)
 have c0:=key 0 _ (by omega) rfl;have c1:=key 1 _ (by omega) rfl;have c2:=key 2 _ (by omega) rfl;have c3:=key 3 _ (by omega) rfl;have c4:=key 4 _ (by omega) rfl;have c5:=key 5 _ (by omega) rfl;rw[<-eK,io _ _ (by omega)]at c1 c2 c3 c4 c5;exact⟨ad,v,x,rfl,hz,c0,c1,c2,c3,c4,c5⟩
theorem ff.below{w w':World}{A:Option Addr}{n:Nat}{zs:List (Value×En)}(h:ff w A n zs)(hb:Below w.heap.size w w'):ff w' A n zs:=cn.below h hb
theorem kQ{S S':Nat->Prop}{A B:Option Addr}{n c d:Nat}{xs ys:List (Value×En)}{w:World}(h1:ff w A n xs)(h2:ff w B n ys)(he:xs.map (·.2)=ys.map (·.2))(d1:bo S w xs)(d2:bo S' w ys)(hn:n<=maxLen) :
  Calls prog 26 #[.slice A n c,.slice B n d] w fun e w'=>e=.returned (.bool true)/\Below w.heap.size w w':=by
 unfold maxLen at hn;have he:=zH he;go_enter func26,ntmps26;go_wp2_with fail
 go_loopw [5] (fun i wr=>∃k:Nat,k<=n/\i=.int .i64 k/\Below w.heap.size w wr) (fun i _=>n-(intOf i).toNat)
 case atStart=>exact⟨0,Nat.zero_le _,rfl,Below.refl _ _⟩
 case round=>
  obtain⟨k,hk,rfl,hb⟩:=hrel;by_cases aU:k<n
  ·obtain⟨ad,v1,x,rfl,hx,c0,c1,c2,c3,c4,c5⟩:=(h1.below hb).at_ aU;obtain⟨bd,v2,y,rfl,hy,e0,e1,e2,e3,e4,e5⟩:=(h2.below hb).at_ aU;have NR:x=y:=by
    have:=congrArg (fun l=>l[k]?) he.out;simp only[List.getElem?_map,hx,hy,Option.map_some]at this;exact Option.some.inj this
   subst NR;have f1:=(d1 _ (List.mem_of_getElem? hx)).keep (bA.below (S:=S) hb);have f2:=(d2 _ (List.mem_of_getElem? hy)).keep (bA.below (S:=S') hb);obtain⟨A1,m1,t1,ci,l1,l2,l3⟩:=f1.form;obtain⟨A2,m2,t2,gn,l4,l5,l6⟩:=f2.form;obtain rfl:v1=_:=ci;obtain rfl:v2=_:=gn;obtain rfl:m2=m1:=by simp only at l3 l6;omega
   clear hx hy;have aO:=zH (show n-(k+1)<n-k by omega);have la:=ar c0;have lb:=ar e0;have dA:∀g∈[(ad.add (k*6)).block,(bd.add (k*6)).block],g<wr.heap.size:=by simp;exact⟨la,lb⟩
   have ka0:=ae (gs:=[(ad.add (k*6)).block,(bd.add (k*6)).block]) c0 (by simp);have ka1:=ae (gs:=[(ad.add (k*6)).block,(bd.add (k*6)).block]) c1 (by simp);have ka2:=ae (gs:=[(ad.add (k*6)).block,(bd.add (k*6)).block]) c2 (by simp);have ka3:=ae (gs:=[(ad.add (k*6)).block,(bd.add (k*6)).block]) c3 (by simp);have ka4:=ae (gs:=[(ad.add (k*6)).block,(bd.add (k*6)).block]) c4 (by simp);have ka5:=ae (gs:=[(ad.add (k*6)).block,(bd.add (k*6)).block]) c5 (by simp);have kb0:=ae (gs:=[(ad.add (k*6)).block,(bd.add (k*6)).block]) e0 (by simp);have kb1:=ae (gs:=[(ad.add (k*6)).block,(bd.add (k*6)).block]) e1 (by simp);have kb2:=ae (gs:=[(ad.add (k*6)).block,(bd.add (k*6)).block]) e2 (by simp);have kb3:=ae (gs:=[(ad.add (k*6)).block,(bd.add (k*6)).block]) e3 (by simp);have kb4:=ae (gs:=[(ad.add (k*6)).block,(bd.add (k*6)).block]) e4 (by simp);have kb5:=ae (gs:=[(ad.add (k*6)).block,(bd.add (k*6)).block]) e5 (by simp);clear c0 c1 c2 c3 c4 c5 e0 e1 e2 e3 e4 e5;go_wp2_with fail;refine cK (C:=dS [(ad.add (k*6)).block,(bd.add (k*6)).block] wr) [([0,1,2,3,4,5,6,7],8)] [9] (by kernel_rfl) (by kernel_rfl) (fun _ _ _ _ e h=>⟨e.symm.trans h.1,h.2⟩) aQ ?_;refine aF fun K1 cQ=>?_
   simp only[ah,Zx];repeat go_big_quiet_step(fail)
   apply wpQuiet_nil;go_wp2_with fail;refine(Ck (w:=wr.drew) (x:=x) f1 f2 (Nat.le_trans l1 l2)).mono ?_;rintro e w7 ⟨rfl,iw⟩;have iw:Below wr.heap.size wr w7:=(ay (Below.refl wr.heap.size wr) 1).trans iw;go_wp2_with fail;refine⟨av dA iw,cQ _ _ ?_⟩;refine al ?_;simp only[ah,Zx];repeat go_big_quiet_step(fail)
   apply wpQuiet_nil;go_wp2_with fail
   go_roundw
   case rel=>exact⟨k+1,aU,by go_num,ab hb iw zl⟩
   case measure=>simp[intOf];exact aO.out
  ·obtain rfl:k=n:=by omega
   go_wp2_with fail;go_ret;exact⟨rfl,hb⟩
theorem zK (gs:List Nat){w:World}{p:Addr}{v:Value}(h:w.cell? p=some v)(hp:p.block∈gs):∀x:bC gs w,x.1.cell? p=some v:=ae h hp
theorem EY (gs:List Nat){w:World}{p0:Addr}{v0:Value}(h0:w.cell? p0=some v0)(q0:p0.block∈gs:=by simp):(∀x:bC gs w,x.1.cell? p0=some v0):=ae h0 q0
theorem pU (gs:List Nat){w:World}{p0 p1:Addr}{v0 v1:Value}(h0:w.cell? p0=some v0)(h1:w.cell? p1=some v1)(q0:p0.block∈gs:=by simp)(q1:p1.block∈gs:=by simp):(∀x:bC gs w,x.1.cell? p0=some v0)/\(∀x:bC gs w,x.1.cell? p1=some v1):=⟨ae h0 q0,ae h1 q1⟩
theorem tT (gs:List Nat){w:World}{p0 p1 p2:Addr}{v0 v1 v2:Value}(h0:w.cell? p0=some v0)(h1:w.cell? p1=some v1)(h2:w.cell? p2=some v2)(q0:p0.block∈gs:=by simp)(q1:p1.block∈gs:=by simp)(q2:p2.block∈gs:=by simp):(∀x:bC gs w,x.1.cell? p0=some v0)/\(∀x:bC gs w,x.1.cell? p1=some v1)/\(∀x:bC gs w,x.1.cell? p2=some v2):=⟨ae h0 q0,ae h1 q1,ae h2 q2⟩
theorem IA (gs:List Nat){w:World}{p0 p1 p2 p3:Addr}{v0 v1 v2 v3:Value}(h0:w.cell? p0=some v0)(h1:w.cell? p1=some v1)(h2:w.cell? p2=some v2)(h3:w.cell? p3=some v3)(q0:p0.block∈gs:=by simp)(q1:p1.block∈gs:=by simp)(q2:p2.block∈gs:=by simp)(q3:p3.block∈gs:=by simp):(∀x:bC gs w,x.1.cell? p0=some v0)/\(∀x:bC gs w,x.1.cell? p1=some v1)/\(∀x:bC gs w,x.1.cell? p2=some v2)/\(∀x:bC gs w,x.1.cell? p3=some v3):=⟨ae h0 q0,ae h1 q1,ae h2 q2,ae h3 q3⟩
theorem Ov (gs:List Nat){w:World}{p0 p1 p2 p3 p4:Addr}{v0 v1 v2 v3 v4:Value}(h0:w.cell? p0=some v0)(h1:w.cell? p1=some v1)(h2:w.cell? p2=some v2)(h3:w.cell? p3=some v3)(h4:w.cell? p4=some v4)(q0:p0.block∈gs:=by simp)(q1:p1.block∈gs:=by simp)(q2:p2.block∈gs:=by simp)(q3:p3.block∈gs:=by simp)(q4:p4.block∈gs:=by simp):(∀x:bC gs w,x.1.cell? p0=some v0)/\(∀x:bC gs w,x.1.cell? p1=some v1)/\(∀x:bC gs w,x.1.cell? p2=some v2)/\(∀x:bC gs w,x.1.cell? p3=some v3)/\(∀x:bC gs w,x.1.cell? p4=some v4):=⟨ae h0 q0,ae h1 q1,ae h2 q2,ae h3 q3,ae h4 q4⟩
theorem Pb (gs:List Nat){w:World}{p0 p1 p2 p3 p4 p5:Addr}{v0 v1 v2 v3 v4 v5:Value}(h0:w.cell? p0=some v0)(h1:w.cell? p1=some v1)(h2:w.cell? p2=some v2)(h3:w.cell? p3=some v3)(h4:w.cell? p4=some v4)(h5:w.cell? p5=some v5)(q0:p0.block∈gs:=by simp)(q1:p1.block∈gs:=by simp)(q2:p2.block∈gs:=by simp)(q3:p3.block∈gs:=by simp)(q4:p4.block∈gs:=by simp)(q5:p5.block∈gs:=by simp):(∀x:bC gs w,x.1.cell? p0=some v0)/\(∀x:bC gs w,x.1.cell? p1=some v1)/\(∀x:bC gs w,x.1.cell? p2=some v2)/\(∀x:bC gs w,x.1.cell? p3=some v3)/\(∀x:bC gs w,x.1.cell? p4=some v4)/\(∀x:bC gs w,x.1.cell? p5=some v5):=⟨ae h0 q0,ae h1 q1,ae h2 q2,ae h3 q3,ae h4 q4,ae h5 q5⟩
theorem LV (gs:List Nat){w:World}{p0 p1 p2 p3 p4 p5 p6:Addr}{v0 v1 v2 v3 v4 v5 v6:Value}(h0:w.cell? p0=some v0)(h1:w.cell? p1=some v1)(h2:w.cell? p2=some v2)(h3:w.cell? p3=some v3)(h4:w.cell? p4=some v4)(h5:w.cell? p5=some v5)(h6:w.cell? p6=some v6)(q0:p0.block∈gs:=by simp)(q1:p1.block∈gs:=by simp)(q2:p2.block∈gs:=by simp)(q3:p3.block∈gs:=by simp)(q4:p4.block∈gs:=by simp)(q5:p5.block∈gs:=by simp)(q6:p6.block∈gs:=by simp):(∀x:bC gs w,x.1.cell? p0=some v0)/\(∀x:bC gs w,x.1.cell? p1=some v1)/\(∀x:bC gs w,x.1.cell? p2=some v2)/\(∀x:bC gs w,x.1.cell? p3=some v3)/\(∀x:bC gs w,x.1.cell? p4=some v4)/\(∀x:bC gs w,x.1.cell? p5=some v5)/\(∀x:bC gs w,x.1.cell? p6=some v6):=⟨ae h0 q0,ae h1 q1,ae h2 q2,ae h3 q3,ae h4 q4,ae h5 q5,ae h6 q6⟩
theorem Ww (gs:List Nat){w:World}{p0 p1 p2 p3 p4 p5 p6 p7:Addr}{v0 v1 v2 v3 v4 v5 v6 v7:Value}(h0:w.cell? p0=some v0)(h1:w.cell? p1=some v1)(h2:w.cell? p2=some v2)(h3:w.cell? p3=some v3)(h4:w.cell? p4=some v4)(h5:w.cell? p5=some v5)(h6:w.cell? p6=some v6)(h7:w.cell? p7=some v7)(q0:p0.block∈gs:=by simp)(q1:p1.block∈gs:=by simp)(q2:p2.block∈gs:=by simp)(q3:p3.block∈gs:=by simp)(q4:p4.block∈gs:=by simp)(q5:p5.block∈gs:=by simp)(q6:p6.block∈gs:=by simp)(q7:p7.block∈gs:=by simp):(∀x:bC gs w,x.1.cell? p0=some v0)/\(∀x:bC gs w,x.1.cell? p1=some v1)/\(∀x:bC gs w,x.1.cell? p2=some v2)/\(∀x:bC gs w,x.1.cell? p3=some v3)/\(∀x:bC gs w,x.1.cell? p4=some v4)/\(∀x:bC gs w,x.1.cell? p5=some v5)/\(∀x:bC gs w,x.1.cell? p6=some v6)/\(∀x:bC gs w,x.1.cell? p7=some v7):=⟨ae h0 q0,ae h1 q1,ae h2 q2,ae h3 q3,ae h4 q4,ae h5 q5,ae h6 q6,ae h7 q7⟩
theorem Ap (gs:List Nat){w:World}{p0 p1 p2 p3 p4 p5 p6 p7 p8 p9 p10 p11 p12:Addr}{v0 v1 v2 v3 v4 v5 v6 v7 v8 v9 v10 v11 v12:Value}(h0:w.cell? p0=some v0)(h1:w.cell? p1=some v1)(h2:w.cell? p2=some v2)(h3:w.cell? p3=some v3)(h4:w.cell? p4=some v4)(h5:w.cell? p5=some v5)(h6:w.cell? p6=some v6)(h7:w.cell? p7=some v7)(h8:w.cell? p8=some v8)(h9:w.cell? p9=some v9)(lO:w.cell? p10=some v10)(Ax:w.cell? p11=some v11)(Dv:w.cell? p12=some v12)(q0:p0.block∈gs:=by simp)(q1:p1.block∈gs:=by simp)(q2:p2.block∈gs:=by simp)(q3:p3.block∈gs:=by simp)(q4:p4.block∈gs:=by simp)(q5:p5.block∈gs:=by simp)(q6:p6.block∈gs:=by simp)(q7:p7.block∈gs:=by simp)(q8:p8.block∈gs:=by simp)(q9:p9.block∈gs:=by simp)(q10:p10.block∈gs:=by simp)(q11:p11.block∈gs:=by simp)(q12:p12.block∈gs:=by simp):(∀x:bC gs w,x.1.cell? p0=some v0)/\(∀x:bC gs w,x.1.cell? p1=some v1)/\(∀x:bC gs w,x.1.cell? p2=some v2)/\(∀x:bC gs w,x.1.cell? p3=some v3)/\(∀x:bC gs w,x.1.cell? p4=some v4)/\(∀x:bC gs w,x.1.cell? p5=some v5)/\(∀x:bC gs w,x.1.cell? p6=some v6)/\(∀x:bC gs w,x.1.cell? p7=some v7)/\(∀x:bC gs w,x.1.cell? p8=some v8)/\(∀x:bC gs w,x.1.cell? p9=some v9)/\(∀x:bC gs w,x.1.cell? p10=some v10)/\(∀x:bC gs w,x.1.cell? p11=some v11)/\(∀x:bC gs w,x.1.cell? p12=some v12):=⟨ae h0 q0,ae h1 q1,ae h2 q2,ae h3 q3,ae h4 q4,ae h5 q5,ae h6 q6,ae h7 q7,ae h8 q8,ae h9 q9,ae lO q10,ae Ax q11,ae Dv q12⟩
def jH(P:Program)(l:List Oper)(C:World->Prop)(Q:Exit->Act->World->Prop)(z:List Nat×Nat):List (List Nat×Nat)->Act->World->Prop
 | [],a,w=>wpQuiet P l.toArray C (fun a'=>wpList P l.toArray Q (ah l [z.2]) a' w) (ah l z.1) a
 | (seg,i)::more,a,w=>wpQuiet P l.toArray C (fun a'=>wpList P l.toArray (dD C (jH P l C Q z more) Q) (ah l [i]) a' w) (ah l seg) a
def ri(l:List Oper)(i:Nat):List Nat:=
 (List.range l.length).foldl (fun D q=>if(match l[q]? with|some o=>o.after.any fun e=>Region.binds .any e&&(e.on==i||D.contains e.on)|none=>false)then D++[q]else D) []
def xc(l:List Oper)(i z:Nat)(listed:Array Bool):Bool:=
 (ri l i).contains z&&(ri l i).all fun q=>!(listed.getD q true)&&(match l[q]? with|some o=>o.after.any fun e=>Region.binds .any e&&(e.on==i||(ri l i).contains e.on)|none=>false)
def ip(l:List Oper)(z:Nat):List Nat->Array Bool->Option (Array Bool)
 | [],listed=>some listed
 | i::is,listed=>if(Region.ready .any l.toArray listed).contains i&&Region.free .any l.toArray listed i&&((l[i]?).map tv).getD false&&xc l i z listed then ip l z is (listed.setIfInBounds i true)else none
def ow(l:List Oper)(z:List Nat×Nat):List (List Nat×Nat)->Array Bool->Bool
 | [],listed=>match ip l z.2 z.1 listed with
  | some r=>Region.ready .any l.toArray r==[z.2]&&(Region.ready .any l.toArray (r.setIfInBounds z.2 true)).isEmpty
  | none=>false
 | (seg,i)::more,listed=>match ip l z.2 seg listed with
  | some r=>Region.ready .any l.toArray r==[i]&&ow l z more (r.setIfInBounds i true)
  | none=>false
def Ht(l:List Oper)(segs:List (List Nat×Nat))(z:List Nat×Nat):Bool:=
 Region.noSelect l.toArray&&(segs.map (fun s=>s.1.length+1)).sum+(z.1.length+1)==l.length&&ow l z segs (Array.replicate l.length false)
section
variable {P:Program}{ops:Array Oper}{Q:Exit->Act->World->Prop}{S:World->Prop}{z:Nat}
def gG(P:Program)(ops:Array Oper)(Q:Exit->Act->World->Prop)(S:World->Prop)(z:Nat):Nat->Array Bool->Act->World->Prop
 | 0,listed,a,w=>Region.ready .any ops listed=[]/\Q .normal a w
 | fuel+1,listed,a,w=>
  (Region.ready .any ops listed=[]->Q .normal a w)/\
  ∀i∈Region.ready .any ops listed,wpOp P ops Q i (fun a' w'=>(i=z\/S w')/\gG P ops Q S z fuel (listed.setIfInBounds i true) a' w') a w
theorem sW:∀(fuel:Nat) (listed:Array Bool) (a:Act) (w:World),gG P ops Q S z fuel listed a w->wpAny P .any ops Q fuel listed a w
 | 0,_,_,_,h=>h
 | fuel+1,_,_,_,h=>⟨h.1,fun i hi=>wpOp_mono (fun a' w' h'=>sW fuel _ a' w' h'.2) (h.2 i hi)⟩
theorem xd{i:Nat}{oi:Oper}{v:Value}{D:List Nat}(hi:ops[i]?=some oi)(RH:∀(j:Nat) (o:Oper) cs b,ops[j]?=some o->o.op≠.select cs b)
  (hQ:∀c a w,Q (.panic c) (a.put oi.dst v) w->Q (.panic c) a w) (VZ:z∈D) (hD:∀q∈D,∃oq,ops[q]?=some oq/\∃e∈oq.after,Region.binds .any e=true/\(e.on=i\/e.on∈D)) :
  ∀(fuel:Nat) (listed:Array Bool) (a:Act) (w:World),
   (∀q∈D,listed.getD q true=false)->
   (∀j oj,ops[j]?=some oj->j≠i->listed.getD j true=false->(∀e∈oj.after,Region.binds .any e=true->e.on≠i)->oi.apart ops oj=true)->
   i∈Region.ready .any ops listed->YieldsIf P ops S oi v a->S w->
   gG P ops Q S z fuel (listed.setIfInBounds i true) (a.put oi.dst v) w->gG P ops Q S z (fuel+1) listed a w:=by
 intro fuel;induction fuel with
 | zero=>
  intro listed a w _ _ hr hy hS H;refine⟨fun h=>(by rw[h]at hr;cases hr),fun j hj=>?_⟩;by_cases Ld:j=i
  ·subst Ld;exact hy.wpOp hi hS ⟨.inr hS,H⟩
  ·have:=ready_mono hj Ld;rw[H.1]at this;cases this
 | succ fuel ih=>
  intro listed a w RR gM hr hy hS H;refine⟨fun h=>(by rw[h]at hr;cases hr),fun j hj=>?_⟩;by_cases Ld:j=i
  ·subst Ld;exact hy.wpOp hi hS ⟨.inr hS,H⟩
  ·have h1:=H.2 j (ready_mono hj Ld);obtain⟨QR,oj,S4,fl⟩:=mem_ready.1 hj;have Rm:∀q,listed.getD q true=false->∀e∈oj.after,Region.binds .any e=true->e.on≠q:=fun q h0 e he hb ui=>by
    have h1:=fl e he hb;rw[ui]at h1;rcases Nat.lt_or_ge q listed.size with h'|h'
    ·simp[h']at h0 h1;rw[h0]at h1;cases h1
    ·simp[Array.getElem?_eq_none h']at h1
   have Rk:∀e∈oj.after,Region.binds .any e=true->e.on≠i:=Rm i (mem_ready.1 hr).1;have Xt:j∉D:=fun hm=>by
    obtain⟨oq,XH,e,he,hb,h2⟩:=hD j hm;rw[S4]at XH;obtain rfl:=Option.some.inj XH;rcases h2 with h2|h2
    ·exact Rk e he hb h2
    ·exact Rm e.on (RR _ h2) e he hb rfl
   have Zm:j≠z:=fun e=>Xt (e▸VZ)
   have h2:=wpOp_putIf S4 (gM j oj S4 Ld QR Rk) (fun cs b=>RH i oi cs b hi) (fun cs b=>RH j oj cs b S4) hQ hy h1;have Bz:∀k ok,ops[k]?=some ok->k≠i->(listed.setIfInBounds j true).getD k true=false->
     (∀e∈ok.after,Region.binds .any e=true->e.on≠i)->oi.apart ops ok=true:=fun k ok hk GC Te dO=>by
    refine gM k ok hk GC ?_ dO;by_cases SR:j=k
    ·subst SR;exact QR
    ·rw[getD_set_ne true SR]at Te;exact Te
   have VL:∀q∈D,(listed.setIfInBounds j true).getD q true=false:=fun q hq=>by
    rw[getD_set_ne true (show j≠q from fun e=>by subst e;exact Xt hq)];exact RR q hq
   refine wpOp_mono (fun a' w' h3=>⟨h3.2.1,ih (listed.setIfInBounds j true) a' w' VL Bz (ready_mono hr (Ne.symm Ld)) h3.1 (h3.2.1.resolve_left Zm) ?_⟩) h2;rw[Array.setIfInBounds_comm _ _ Ld];exact h3.2.2
theorem Ao{i:Nat}{oi:Oper}{v:Value}{D:List Nat}{fuel:Nat}{listed:Array Bool}{a:Act}{w:World}(hi:ops[i]?=some oi)
  (hs:Region.noSelect ops=true) (hf:Region.free .any ops listed i=true) (hr:(Region.ready .any ops listed).contains i=true)
  (hQ:∀c a w,Q (.panic c) (a.put oi.dst v) w->Q (.panic c) a w) (VZ:z∈D) (hD:∀q∈D,∃oq,ops[q]?=some oq/\∃e∈oq.after,Region.binds .any e=true/\(e.on=i\/e.on∈D)) (Te:∀q∈D,listed.getD q true=false) (hy:YieldsIf P ops S oi v a) (hS:S w)
  (h:gG P ops Q S z fuel (listed.setIfInBounds i true) (a.put oi.dst v) w):gG P ops Q S z (fuel+1) listed a w:=
 xd hi (Region.noSelect_spec hs) hQ VZ hD fuel listed a w Te (Region.free_spec hi hf) (by simpa using hr) hy hS h
theorem sV{rs:List Nat}{fuel:Nat}{listed:Array Bool}{a:Act}{w:World}(hr:Region.ready .any ops listed=rs)(fe:rs≠[])
  (h:∀i∈rs,wpOp P ops Q i (fun a' w'=>(i=z\/S w')/\gG P ops Q S z fuel (listed.setIfInBounds i true) a' w') a w):gG P ops Q S z (fuel+1) listed a w:=
 ⟨fun h0=>absurd (hr▸h0) fe,hr▸h⟩
theorem An{listed:Array Bool}{a:Act}{w:World}(hr:Region.ready .any ops listed=[])(h:Q .normal a w) :
  ∀fuel,gG P ops Q S z fuel listed a w
 | 0=>⟨hr,h⟩
 | _+1=>⟨fun _=>h,by rw[hr];simp⟩
end
section
variable {P:Program}{l:List Oper}{C:World->Prop}{Q:Exit->Act->World->Prop}{z:List Nat×Nat}
theorem Iz{l:List Oper}{z i:Nat}{listed:Array Bool}(h:xc l i z listed=true) :
  z∈ri l i/\(∀q∈ri l i,∃oq,l.toArray[q]?=some oq/\∃e∈oq.after,Region.binds .any e=true/\(e.on=i\/e.on∈ri l i))/\∀q∈ri l i,listed.getD q true=false:=by
 unfold xc at h;rw[Bool.and_eq_true,List.all_eq_true]at h;refine⟨by simpa using h.1,fun q hq=>?_,fun q hq=>?_⟩
 ·have h1:=h.2 q hq;rw[Bool.and_eq_true]at h1;have h2:=h1.2;cases ho:l[q]? with
  | none=>rw[ho]at h2;cases h2
  | some o=>
   rw[ho]at h2;obtain⟨k,hk,he⟩:=Array.any_eq_true.1 h2;rw[Bool.and_eq_true,Bool.or_eq_true,beq_iff_eq]at he;exact⟨o,by simpa using ho,o.after[k],Array.getElem_mem hk,he.1,he.2.imp id (by simpa using ·)⟩
 ·have h1:=h.2 q hq;rw[Bool.and_eq_true,Bool.not_eq_true']at h1;exact h1.1
theorem aq{seg:List Nat}{i:Nat}{more:List (List Nat×Nat)}{a:Act}{w:World}
  (h:∀K:Act->World->Prop,(∀a w,jH P l C Q z more a w->K a w)->wpQuiet P l.toArray C (fun a'=>wpList P l.toArray (dD C K Q) (ah l [i]) a' w) (ah l seg) a) :
  jH P l C Q z ((seg,i)::more) a w:=h _ (fun _ _ h=>h)
theorem aC{a:Act}{w:World}(h:wpQuiet P l.toArray C (fun a'=>wpList P l.toArray Q (ah l [z.2]) a' w) (ah l z.1) a):jH P l C Q z [] a w:=h
theorem EX{o:Oper}{a:Act}{w:World}{next K':Act->World->Prop}(h:∀a w,next a w->K' a w)(hh:o.wp P a w next Q):o.wp P a w K' Q:=by
 unfold Oper.wp at *;generalize(execOp a.eval o).run P w=r at *;cases r with
 | ok n w'=>
  cases n <;> simp only[Oper.upon]at hh ⊢ <;>
   first
    | exact h _ _ hh
    | exact Calls.mono hh (fun e w'' he=>by cases e <;> first|exact h _ _ he|exact he)
    | exact Rows.mono hh (fun _ _ he=>h _ _ he)
 | halt x w'=>cases x <;> simp only[Oper.upon]at hh ⊢ <;> exact hh
theorem rf{zi:Nat}(hs:Region.noSelect l.toArray=true)(hQ:∀c (a b:Act) w,a.defers=b.defers->Q (.panic c) a w->Q (.panic c) b w)(seg:List Nat) :
  ∀(listed r:Array Bool) (a:Act) (w:World) (fuel:Nat) (K:Act->Prop),ip l zi seg listed=some r->C w->wpQuiet P l.toArray C K (ah l seg) a->
   (∀a',K a'->gG P l.toArray Q C zi fuel r a' w)->gG P l.toArray Q C zi (seg.length+fuel) listed a w:=by
 induction seg with
 | nil=>
  intro listed r a w fuel K hr hC h hK;simp only[ip,Option.some.injEq]at hr;subst hr;simpa using hK a h
 | cons i is ih=>
  intro listed r a w fuel K hr hC h hK;unfold ip at hr;by_cases hb:((Region.ready .any l.toArray listed).contains i&&Region.free .any l.toArray listed i&&((l[i]?).map tv).getD false&&xc l i zi listed)=true
  ·rw[if_pos hb]at hr;rw[Bool.and_eq_true]at hb;obtain⟨w1,w2,w3⟩:=Iz hb.2;have hb:=hb.1;simp only[Bool.and_eq_true]at hb;obtain⟨⟨gp,ai⟩,oM⟩:=hb;cases ho:l[i]? with
   | none=>rw[ho]at oM;cases oM
   | some o=>
    rw[ho]at oM;have hp:ah l (i::is)=o::ah l is:=by simp[ah,ho]
    rw[hp]at h;have h':wpQuiet P l.toArray C (wpQuiet P l.toArray C K (ah l is)) [o] a:=h;obtain⟨v,hy,hn⟩:=jI oM h';rw[show(i::is).length+fuel=(is.length+fuel)+1 by simp;omega];exact Ao (by simpa using ho) hs ai gp (fun c a w hq=>hQ c _ _ w (uQ _ _ _) hq) w1 w2 w3 hy hC (ih _ r _ w fuel K hr hC hn hK)
  ·rw[if_neg hb]at hr;cases hr
theorem Cr{o:Oper}{a:Act}{w:World}{next K':Act->World->Prop}(h:∀a w,wpList P l.toArray (dD C next Q) [] a w->K' a w)(hh:o.wp P a w (wpList P l.toArray (dD C next Q) []) (dD C next Q)):o.wp P a w K' Q:=by
 unfold Oper.wp at *;generalize(execOp a.eval o).run P w=r at *;cases r with
 | ok n w'=>
  cases n <;> simp only[Oper.upon]at hh ⊢ <;>
   first
    | exact h _ _ hh
    | exact Calls.mono hh (fun e w'' he=>by cases e <;> first|exact h _ _ he|exact he)
    | exact Rows.mono hh (fun _ _ he=>h _ _ he)
 | halt x w'=>cases x <;> simp only[Oper.upon]at hh ⊢ <;> exact hh
theorem Hu(hs:Region.noSelect l.toArray=true)(hQ:∀c (a b:Act) w,a.defers=b.defers->Q (.panic c) a w->Q (.panic c) b w)(segs:List (List Nat×Nat)) :
  ∀(listed:Array Bool) (a:Act) (w:World),ow l z segs listed=true->C w->jH P l C Q z segs a w->
   gG P l.toArray Q C z.2 ((segs.map (fun s=>s.1.length+1)).sum+(z.1.length+1)) listed a w:=by
 induction segs with
 | nil=>
  intro listed a w hr hC h;unfold ow at hr;cases hc:ip l z.2 z.1 listed with
  | none=>rw[hc]at hr;cases hr
  | some r=>
   rw[hc]at hr;simp only[Bool.and_eq_true,beq_iff_eq]at hr;obtain⟨gp,bH⟩:=hr;have af:((([]:List (List Nat×Nat)).map (fun s=>s.1.length+1)).sum+(z.1.length+1))=z.1.length+(0+1):=by simp
   rw[af];refine rf (P:=P) (C:=C) (Q:=Q) hs hQ z.1 listed r a w _ _ hc hC h fun a' ha=>?_
   refine sV gp (by simp) fun j hj=>?_
   obtain rfl:j=z.2:=by simpa using hj
   have nC:z.2∈Region.ready .any l.toArray r:=by rw[gp];simp
   obtain⟨_,o,ho,_⟩:=mem_ready.1 nC;have Nm:l[z.2]?=some o:=by simpa using ho
   have hp:ah l [z.2]=[o]:=by simp[ah,Nm]
   rw[hp]at ha;unfold wpOp;rw[ho];simp only[];unfold wpList at ha;have jy:∀a2 w2,wpList P l.toArray Q [] a2 w2->(True\/C w2)/\gG P l.toArray Q C z.2 0 (r.setIfInBounds z.2 true) a2 w2:=
    fun a2 w2 h2=>⟨.inl trivial,An (by simpa using bH) h2 0⟩
   split
   ·rename_i hw;rw[if_pos hw]at ha;exact ha.imp (EX jy) (fun h2=>h2)
   ·rename_i hw;rw[if_neg hw]at ha;exact jy _ _ ha
 | cons s more ih=>
  obtain⟨seg,i⟩:=s;intro listed a w hr hC h;unfold ow at hr;cases hc:ip l z.2 seg listed with
  | none=>rw[hc]at hr;cases hr
  | some r=>
   rw[hc]at hr;simp only[Bool.and_eq_true,beq_iff_eq]at hr;obtain⟨gp,GK⟩:=hr;have af:(((seg,i)::more).map (fun s=>s.1.length+1)).sum+(z.1.length+1)=seg.length+(((more.map (fun s=>s.1.length+1)).sum+(z.1.length+1))+1):=by
    simp;omega
   rw[af];refine rf (P:=P) (C:=C) (Q:=Q) hs hQ seg listed r a w _ _ hc hC h fun a' ha=>?_
   refine sV gp (by simp) fun j hj=>?_
   obtain rfl:j=i:=by simpa using hj
   have nC:j∈Region.ready .any l.toArray r:=by rw[gp];simp
   obtain⟨_,o,ho,_⟩:=mem_ready.1 nC;have Nm:l[j]?=some o:=by simpa using ho
   have hp:ah l [j]=[o]:=by simp[ah,Nm]
   rw[hp]at ha;unfold wpOp;rw[ho];simp only[];unfold wpList at ha;have jy:∀a2 w2,wpList P l.toArray (dD C (jH P l C Q z more) Q) [] a2 w2->(j=z.2\/C w2)/\gG P l.toArray Q C z.2 ((more.map (fun s=>s.1.length+1)).sum+(z.1.length+1)) (r.setIfInBounds j true) a2 w2:=
    fun a2 w2 h2=>⟨.inr h2.1,ih _ a2 w2 GK h2.1 h2.2⟩
   split
   ·rename_i hw;rw[if_pos hw]at ha;exact ha.imp (Cr jy) (fun h2=>h2)
   ·rename_i hw;rw[if_neg hw]at ha;exact jy _ _ ha
theorem bU{id:Nat}{a:Act}{w:World}(segs:List (List Nat×Nat))(z:List Nat×Nat)(hm:P.follows .mixedOrders=true)(hB:Ht l segs z=true)
  (hQ:∀c (a b:Act) w,a.defers=b.defers->Q (.panic c) a w->Q (.panic c) b w) (hC:C w.drew) (h:jH P l C Q z segs a w.drew):(Code.region id l.toArray true).wp P Q a w:=by
 simp only[Ht,Bool.and_eq_true,beq_iff_eq]at hB;obtain⟨⟨hs,af⟩,bS⟩:=hB;refine wp_region_any hm (sW (S:=C) (z:=z.2) _ _ _ _ ?_);have:=Hu (P:=P) hs hQ segs _ a w.drew bS hC h;rw[af]at this;simpa using this
end
theorem eE {P:Program}{l:List Oper}{id:Nat}{a:Act}{Q:Exit->Act->World->Prop}(gs:List Nat)(w:World)(segs:List (List Nat × Nat))(last:List Nat)(h:mo P l (dS gs w) Q segs last a w.drew)(hm:P.follows .mixedOrders=true:=by kernel_rfl)(hB:N1 l segs last=true:=by kernel_rfl)(hQ:∀c (a b:Act) w,a.defers=b.defers->Q (.panic c) a w->Q (.panic c) b w:=by exact fun _ _ _ _ e h=>⟨e.symm.trans h.1,h.2⟩):(Code.region id l.toArray true).wp P Q a w:=
 cK segs last hm hB hQ aQ h
theorem nj {P:Program}{l:List Oper}{id:Nat}{a:Act}{Q:Exit->Act->World->Prop}(gs:List Nat)(w:World)(segs:List (List Nat × Nat))(z:List Nat × Nat)(h:jH P l (dS gs w) Q z segs a w.drew)(hm:P.follows .mixedOrders=true:=by kernel_rfl)(hB:Ht l segs z=true:=by kernel_rfl)(hQ:∀c (a b:Act) w,a.defers=b.defers->Q (.panic c) a w->Q (.panic c) b w:=by exact fun _ _ _ _ e h=>⟨e.symm.trans h.1,h.2⟩):(Code.region id l.toArray true).wp P Q a w:=
 bU segs z hm hB hQ aQ h
def qU(L:List TypeId)(w:World)(j:Nat):Prop:=∃(cs:Array Value) (_:Unit) (ty:TypeId),w.heap[j]?=some (.cells cs ty (0,0))/\ty∈L
def bG(L:List TypeId)(B:Nat)(w:World)(j:Nat):Prop:=B<=j/\qU L w j
def TD:List TypeId:=[191,193,9,3]
def bq(L:List TypeId)(w w':World):Prop:=∀j,qU L w j->w'.heap[j]?=w.heap[j]?
section
variable {L L':List TypeId}{B B':Nat}{w w' w'':World}{S:Nat->Prop}
theorem bq.refl(L:List TypeId)(w:World):bq L w w:=fun _ _=>rfl
theorem qU.move{j:Nat}(h:qU L w j)(hk:bq L w w'):qU L w' j:=by
 obtain⟨cs,fz,ty,h1,h2⟩:=id h;exact⟨cs,fz,ty,(hk j h).trans h1,h2⟩
theorem bq.trans(h:bq L w w')(h':bq L w' w''):bq L w w'':=fun j hj=>(h' j (hj.move h)).trans (h j hj)
theorem bq.below(h:Below w.heap.size w w'):bq L w w':=fun j hj=>by
 obtain⟨cs,fz,ty,h1,_⟩:=hj;exact h.block _ (aV h1)
theorem bq.grown{base size n c:Nat}{e:TypeId}{A:Option Addr}{xs:List Value}(h:w.ownsRow base e size (.slice A n c) n xs)(hg:w.grownBy w' (Value.slice A n c).ownBlock)(he:e∉L):bq L w w':=fun j hj=>by
 obtain⟨cs,fz,ty,h1,h2⟩:=hj;refine hg.block j (aV h1) fun ho=>?_
 rcases h.2 with⟨h0,_⟩|⟨g',cap',cur',h0,_,Ma,_⟩
 ·rw[h0]at ho;cases ho
 ·rw[h0]at ho;injection ho with ho;rw[show j=g' from ho,Ma]at h1;injection h1 with h1;injection h1 with _ h1;exact he (h1▸h2)
theorem bq.set{g i:Nat}{T:TypeId}{cs:Array Value}{u:Value}(hb:ao w g T cs)(hT:T∉L):bq L w (w.setCell ⟨g,i,none⟩ u):=fun j hj=>by
 obtain⟨ds,fz,ty,h1,h2⟩:=hj;refine Below.heap_setCell w _ u j fun e=>?_
 have e:j=g:=e;unfold ao at hb;rw[e,hb]at h1;injection h1 with h1;injection h1 with _ h1;exact hT (h1▸h2)
theorem bG.stay(h:bq L w w'):bA (bG L B w) w w':=fun j hj _=>h j hj.2
theorem bG.moved(h:bq L w w'):∀j,j<w'.heap.size->bG L B w j->bG L B w' j:=fun _ _ hj=>⟨hj.1,hj.2.move h⟩
theorem bG.wide(hL:∀t∈L,t∈L')(hB:B'<=B):∀j,j<w.heap.size->bG L B w j->bG L' B' w j:=fun _ _ hj=>⟨Nat.le_trans hB hj.1,by
 obtain⟨cs,fz,ty,h1,h2⟩:=hj.2;exact⟨cs,fz,ty,h1,hL _ h2⟩⟩
theorem gf.move{v:Value}{p:List ByteArray}(h:gf (bG L B w) w v p)(hk:bq L w w'):gf (bG L B w') w' v p:=(h.keep (bG.stay hk)).mono (bG.moved hk)
theorem fF.move{v:Value}{p:List Int}(h:fF (bG L B w) w v p)(hk:bq L w w'):fF (bG L B w') w' v p:=(h.keep (bG.stay hk)).mono (bG.moved hk)
theorem dR.move{v:Value}{p:List (List ByteArray)}(h:dR (bG L B w) w v p)(hk:bq L w w'):dR (bG L B w') w' v p:=(h.keep (bG.stay hk)).mono (bG.moved hk)
theorem aG.move{v:Value}{p:List Fa}(h:aG (bG L B w) w v p)(hk:bq L w w'):aG (bG L B w') w' v p:=(h.keep (bG.stay hk)).mono (bG.moved hk)
theorem bo.move{zs:List (Value×En)}(h:bo (bG L B w) w zs)(hk:bq L w w'):bo (bG L B w') w' zs:=fun z hz=>(h z hz).move hk
theorem Sl.of_new{base size n c:Nat}{e:TypeId}{A:Option Addr}{xs:List Value}(h:w.ownsRow base e size (.slice A n c) n xs)(he:e∈L):Sl (bG L base w) w size (.slice A n c) n xs:=
 Sl.of_own h fun _ h1 _ ⟨cs,h2⟩=>⟨h1,cs,(),e,h2,he⟩
end
theorem HV{L:List TypeId}{base size n:Nat}{e:TypeId}{v:Value}{xs:List Value}{w w':World}(h:w.ownsRow base e size v n xs)(he:e∈L)(hk:bq L w w'):w'.ownsRow base e size v n xs:=by
 refine⟨h.1,?_⟩;rcases h.2 with h0|⟨g,cap,cur,h1,h2,h3,h4⟩
 ·exact .inl h0
 ·exact .inr ⟨g,cap,cur,h1,h2,(hk g ⟨cur,(),e,h3,he⟩).trans h3,h4⟩
theorem ao.stay{L:List TypeId}{g:Nat}{T:TypeId}{cs:Array Value}{w w':World}(h:ao w g T cs)(hT:T∈L)(hk:bq L w w'):ao w' g T cs:=(hk g ⟨cs,(),T,h,hT⟩).trans h
theorem cn.one(w:World)(T:TypeId)(v:Value):cn (w.alloc (.cells #[v] T)) 1 (some ⟨w.heap.size,0,none⟩) 1 [v]:=by
 refine⟨rfl,fun _=>⟨_,rfl,fun j u hu=>?_⟩⟩
 match j with
 | 0=>
  simp only[List.getElem?_cons_zero,Option.some.injEq]at hu;subst hu;rw[ns];exact cell_of_row _ _ 0 _ _ _ (heap_alloc_new w _)
 | j+1=>simp at hu
theorem Ik:(prog.info? 9).map (fun i=>(i.zero,i.size,i.bytes))=some (some (.string ByteArray.empty),1,16):=by kernel_rfl
theorem EJ:(prog.info? 193).map (fun i=>(i.zero,i.size,i.bytes))=some (some (.slice none 0 0),1,24):=by kernel_rfl
theorem Dr:(prog.info? 191).map (fun i=>(i.zero,i.size,i.bytes))=some (some (.agg #[.slice none 0 0,.slice none 0 0]),2,48):=by kernel_rfl
theorem AY(A:Option Addr)(n c:Nat)(l:List Int)(w:World)(hr:fv w A n l)(hn:n<=1000000) :
  Calls prog 146 #[.slice A n c] w fun e w'=>∃A' c',e=.returned (.slice A' n c')/\
   w'.ownsRow w.heap.size 3 1 (.slice A' n c') n (l.map vi)/\Below w.heap.size w w':=by
 have q30:∀(w:World) (a:Option Addr) (n c n' c':Nat),(binOp .eql 76 (.slice a n c) (.slice none n' c')).run prog w=.ok (.bool a.isNone) w:=fun w a n c n' c'=>Lib.run_eql_slice_nil w _ _ a n c n' c' underlying76
 rcases A with _|ad
 ·have h0:n=0:=by
   rcases Nat.eq_zero_or_pos n with h|h
   ·exact h
   ·obtain⟨ad,e,_⟩:=hr.at_ h;cases e
  subst h0;have hl:l=[]:=List.eq_nil_of_length_eq_zero hr.len;subst hl;go_enter func146,ntmps146
  go_wp2
  go_ret;exact⟨none,0,rfl,bX _ _,Below.refl _ _⟩
 ·have br:Below w.heap.size w (w.alloc (.cells #[] 3)):=zb.alloc zl _;have aB:(w.alloc (.cells #[] 3)).ownsRow w.heap.size 3 1 (.slice (some ⟨w.heap.size,0,none⟩) 0 0) 0 (([]:List Int).map vi):=qL _ [] 0 rfl zz;go_enter func146,ntmps146;go_wp2_with (first
    | (at_builtin;refine bh rfl (.tmp 5) (.tmp 6) rfl w.heap.size rfl aB rfl (hr.alloc _) (by omega) br.size ?_;intro A3 c3 w3 bY iy bN;clear iy)
    | fail)
  go_ret;simp only[Nat.zero_add,List.nil_append]at bY;exact⟨A3,c3,rfl,bY,br.trans bN⟩
theorem KD(l:List ByteArray)(u:Value)(h:u∈l.map Pa):u.oneCell'=true:=by
 obtain⟨b,_,rfl⟩:=List.mem_map.1 h;rfl
theorem AZ(A:Option Addr)(n c:Nat)(l:List ByteArray)(w:World)(hr:vo w A n l)(hn:n<=1000000) :
  Calls prog 147 #[.slice A n c] w fun e w'=>∃A' c',e=.returned (.slice A' n c')/\
   w'.ownsRow w.heap.size 9 1 (.slice A' n c') n (l.map Pa)/\Below w.heap.size w w':=by
 have q30:∀(w:World) (a:Option Addr) (n c n' c':Nat),(binOp .eql 193 (.slice a n c) (.slice none n' c')).run prog w=.ok (.bool a.isNone) w:=fun w a n c n' c'=>Lib.run_eql_slice_nil w _ _ a n c n' c' underlying193
 obtain⟨i0,iF,jT,iW,gC⟩:=info_parts Ik;rcases A with _|ad
 ·have h0:n=0:=by
   rcases Nat.eq_zero_or_pos n with h|h
   ·exact h
   ·obtain⟨ad,_,e,_⟩:=hr.at_ h;cases e
  subst h0;have hl:l=[]:=List.eq_nil_of_length_eq_zero hr.len;subst hl;go_enter func147,ntmps147
  go_wp2
  go_ret;exact⟨none,0,rfl,bX _ _,Below.refl _ _⟩
 ·have br:Below w.heap.size w (w.alloc (.cells #[] 9)):=zb.alloc zl _;have aB:(w.alloc (.cells #[] 9)).ownsRow w.heap.size 9 1 (.slice (some ⟨w.heap.size,0,none⟩) 0 0) 0 []:=qL _ [] 0 rfl zz;have lA:cn (w.alloc (.cells #[] 9)) 1 (some ad) n (l.map Pa):=cn.alloc hr _;go_enter func147,ntmps147;go_wp2_with (first
    | (at_builtin;refine bg _ rfl (.tmp 5) (.tmp 6) 193 rfl w.heap.size 9 i0 _ 1 16 underlying193 iF jT iW gC rfl (by omega) _ 0 [] rfl aB (some ad) n c _ rfl lA (KD l) (by unfold maxLen;omega) (by omega) br.size ?_;intro A3 c3 w3 bY iy _)
    | fail)
  have bN:=eS aB iy br.size;simp only[Nat.zero_add,List.nil_append]at bY;clear iy;go_ret;exact⟨A3,c3,rfl,bY,br.trans bN⟩
def LY:List TypeId:=[193,9,3]
def Pf:List TypeId:=[9]
def AN(B:Nat)(w:World)(A:Option Addr)(k c:Nat)(fs:List Fa):Prop:=
 ∃ys:List (Value×Value),w.ownsRow B 191 2 (.slice A k c) k (ys.flatMap Po)/\ys.length=k/\fs.length=k/\∀(i:Nat) f,fs[i]?=some f->∃y,ys[i]?=some y/\dR (bG LY B w) w y.1 f.paths/\fF (bG LY B w) w y.2 f.vals
def qQ(B B':Nat)(w:World)(A:Option Addr)(k c:Nat)(ps:List (List ByteArray)):Prop:=
 ∃vs:List Value,w.ownsRow B 193 1 (.slice A k c) k vs/\ps.length=k/\∀(i:Nat) p,ps[i]?=some p->∃u,vs[i]?=some u/\gf (bG Pf B' w) w u p
section
variable {B B':Nat}{w w':World}{A:Option Addr}{k c:Nat}
theorem AN.below{fs:List Fa}(h:AN B w A k c fs)(hb:Below w.heap.size w w'):AN B w' A k c fs:=by
 obtain⟨ys,h1,h2,h3,h4⟩:=h;refine⟨ys,bf h1 hb,h2,h3,fun i f hf=>?_⟩;obtain⟨y,h5,h6,h7⟩:=h4 i f hf;exact⟨y,h5,h6.move (bq.below hb),h7.move (bq.below hb)⟩
theorem qQ.below{ps:List (List ByteArray)}(h:qQ B B' w A k c ps)(hb:Below w.heap.size w w'):qQ B B' w' A k c ps:=by
 obtain⟨vs,h1,h3,h4⟩:=h;refine⟨vs,bf h1 hb,h3,fun i f hf=>?_⟩;obtain⟨u,h5,h6⟩:=h4 i f hf;exact⟨u,h5,h6.move (bq.below hb)⟩
theorem qQ.stay{ps:List (List ByteArray)}(h:qQ B B' w A k c ps)(h1:bq [193] w w')(h2:bq Pf w w'):qQ B B' w' A k c ps:=by
 obtain⟨vs,h3,h4,h5⟩:=h;refine⟨vs,HV h3 (by decide) h1,h4,fun i f hf=>?_⟩;obtain⟨u,h6,h7⟩:=h5 i f hf;exact⟨u,h6,h7.move h2⟩
theorem qQ.paths{ps:List (List ByteArray)}(h:qQ B B w A k c ps):dR (bG LY B w) w (.slice A k c) ps:=by
 obtain⟨vs,h1,h3,h4⟩:=h;refine⟨vs,?_,fun i p hp=>?_⟩
 ·subst h3;exact Sl.of_new (L:=LY) h1 (by decide)
 ·obtain⟨u,h5,h6⟩:=h4 i p hp;exact⟨u,h5,h6.mono (bG.wide (by decide) zl)⟩
theorem AN.facts{fs:List Fa}(h:AN B w A k c fs):aG (bG TD B w) w (.slice A k c) fs:=by
 obtain⟨ys,h1,h2,h3,h4⟩:=h;refine⟨ys,?_,by omega,fun i f hf=>?_⟩
 ·subst h3;exact Sl.of_new (L:=TD) h1 (by decide)
 ·obtain⟨y,h5,h6,h7⟩:=h4 i f hf;exact⟨y,h5,h6.mono (bG.wide (by decide) zl),h7.mono (bG.wide (by decide) zl)⟩
end
theorem FJ(S:Nat->Prop)(A:Option Addr)(n c:Nat)(fs:List Fa)(w:World)(hf:aG S w (.slice A n c) fs)(hn:n<=100000)(BN:∀f∈fs,f.paths.length<=100000/\f.vals.length<=100000/\∀p∈f.paths,p.length<=100000) :
  Calls prog 129 #[.slice A n c] w fun e w'=>∃A' c',e=.returned (.slice A' n c')/\AN w.heap.size w' A' n c' fs/\Below w.heap.size w w':=by
 have H1:=zH (mw hf);have Hsm:=zH BN;clear BN;go_enter func129,ntmps129;go_wp2_with fail
 go_loopw [3,11] (fun o i wr=>∃(k:Nat) (A':Option Addr) (c':Nat),k<=n/\i=.int .i64 k/\o=.slice A' k c'/\AN w.heap.size wr A' k c' (fs.take k)/\Below w.heap.size w wr) (fun _ i _=>n-(intOf i).toNat)
 case atStart=>exact⟨0,none,0,Nat.zero_le _,rfl,rfl,⟨[],bX _ _,rfl,rfl,fun i f h=>by cases h⟩,Below.refl _ _⟩
 case round=>
  obtain⟨k,A',c',hk,rfl,rfl,hO,hb⟩:=hrel;by_cases aU:k<n
  ·obtain⟨ad,f,B,mp,d,C,mv,r,rfl,DK,c0,c1,hp,O6,ur,Fe,nA,JR,Lq,wm⟩:=(hf.keep (bA.below (S:=S) hb)).at_ aU;have Td:=Hsm.out f (List.mem_of_getElem? DK);have Hpl:=zH nA;have Hvl:=zH wm;have hmp:mp<=100000:=by rw[<-nA];exact Td.1
   have JS:mv<=100000:=by rw[<-wm];exact Td.2.1
   have Hsp:=zH Td.2.2;have Htk:=zH (show fs.take (k+1)=fs.take k++[f] by rw[List.take_add_one,DK];rfl);have aO:=zH (show n-(k+1)<n-k by omega);clear nA wm Td DK;have aI:Below wr.heap.size wr (wr.alloc (.cells #[.slice B mp d,.slice C mv r] 191)):=zb.alloc zl _;have di:=ao.new wr 191 #[.slice B mp d,.slice C mv r];have xr:=hp.keep (bA.below (S:=S) aI);have ci:=O6.keep (bA.below (S:=S) aI);have gJ:=ab hb aI zl;have WX:=hO.below aI;go_wp2_with fail;generalize wr.alloc (.cells #[.slice B mp d,.slice C mv r] 191)=w2 at *;generalize wr.heap.size=g at *;refine(AY _ _ _ _ _ ci.rd (by omega)).mono ?_;rintro e w3 ⟨A3,c3,rfl,bY,bN⟩;have fO:=(di.kept bN).cell 0;simp only[List.getElem?_toArray,List.getElem?_cons_zero]at fO;have rF:=xr.keep (bA.below (S:=S) bN);have WY:=WX.below bN;have eF:=ab gJ bN zl;have cW:=Nat.lt_of_lt_of_le di.lt bN.size;have cZ:=gJ.size;clear hO WX hp xr hb gJ;go_wp2_with fail;have ln:w3.heap.size=w3.heap.size:=rfl;have cO:Below w3.heap.size w3 (w3.alloc (.cells #[.slice none 0 0,.slice A3 mv c3] 191)):=zb.alloc zl _;have Le:=ao.new w3 191 #[.slice none 0 0,.slice A3 mv c3];clear ln;generalize QA:w3.heap.size=g6 at *;have JE:=zH QA;clear QA
   go_loopw [22] (fun i wr'=>∃(j:Nat) (A6:Option Addr) (c6:Nat),j<=mp/\i=.int .i64 j/\ao wr' g6 191 #[.slice A6 j c6,.slice A3 mv c3]/\qQ g6 g6 wr' A6 j c6 (f.paths.take j)/\Below g6 w3 wr') (fun i _=>mp-(intOf i).toNat)
   case atStart=>exact⟨0,none,0,Nat.zero_le _,rfl,Le,⟨[],bX _ _,rfl,fun i p h=>by cases h⟩,cO⟩
   case round=>
    obtain⟨j,A6,c6,hj,rfl,fP,hP,iv⟩:=hrel;have Qy:=fP.lt;by_cases kI:j<mp
    ·obtain⟨cd,p,C1,s1,t1,rfl,nB,c2,z1,z2,z3,z4⟩:=(rF.keep (bA.below (S:=S) (by rw[JE.out];exact iv))).at_ kI;have pK:s1<=100000:=by rw[<-z4];exact Hsp.out p (List.mem_of_getElem? nB)
     have Htk':=zH (show f.paths.take (j+1)=f.paths.take j++[p] by rw[List.take_add_one,nB];rfl);have fK:=zH (show mp-(j+1)<mp-j by omega);clear nB;have q0:=fP.cell 0;simp only[List.getElem?_toArray,List.getElem?_cons_zero]at q0;have k0:=EY [g6] q0;go_wp2_with fail;refine nj [g6] wr [([0,1,2],3),([],4),([],5)] ([6],7) ?_;refine aq fun K1 cQ=>?_
     simp only[ah,Zx];repeat go_big_quiet_step(fail)
     apply wpQuiet_nil;go_wp2_with fail;refine(AZ (w:=wr.drew) _ _ _ _ z1.rd (by omega)).mono ?_;rintro e w5 ⟨A8,c8,rfl,Rq,cM⟩;have cM:Below wr.heap.size wr w5:=(ay (Below.refl wr.heap.size wr) 1).trans cM;go_wp2_with fail;refine⟨av (by simp;exact Qy) cM,cQ _ _ ?_⟩;have iT:Below w5.heap.size w5 (w5.alloc (.cells #[.slice A8 s1 c8] 193)):=zb.alloc zl _;have II:=cn.one w5 193 (.slice A8 s1 c8);have vL:=ab cM iT zl;have vG:=hP.below vL;have jz:=bf Rq iT;have ST:=fP.kept vL;have J2:g6<=(w5.alloc (.cells #[.slice A8 s1 c8] 193)).heap.size:=by have:=vL.size;omega
     refine aq fun K2 iu=>?_
     simp only[ah,Zx];repeat go_big_quiet_step(fail)
     apply wpQuiet_nil;go_wp2_with fail;refine⟨av (by simp;exact Qy) vL,iu _ _ ?_⟩;generalize w5.alloc (.cells #[.slice A8 s1 c8] 193)=w6 at *;obtain⟨vs6,bS,oO,tE⟩:=vG;obtain⟨i0,iF,jT,iW,gC⟩:=info_parts EJ;have Hi0:=zH iF;have Hz0:=zH jT;have Hz1:=zH iW;have Hz2:=zH gC;clear iF jT iW gC;have Lb:j+1<=1000000:=by omega
     refine aq fun K3 jY=>?_
     simp only[ah,Zx];repeat go_big_quiet_step(fail)
     apply wpQuiet_nil;go_wp2_with (at_builtin;refine bg _ rfl (.tmp 27) (.tmp 30) 189 rfl g6 193 i0 _ 1 24 underlying189 Hi0.out Hz0.out Hz1.out Hz2.out rfl (by omega) (.slice A6 j c6) j vs6 rfl bS (some ⟨w5.heap.size,0,none⟩) 1 1 [.slice A8 s1 c8] rfl II (fun u hu=>by rw[List.mem_singleton.1 hu];rfl) (by unfold maxLen;omega) (by omega) J2 ?_;intro A9 c9 w9 GT hg9 _);have DN:ao w9 g6 191 #[.slice A6 j c6,.slice A3 mv c3]:=ST.stay (L:=[191]) (by decide) (bq.grown bS hg9 (by decide));have aD:=bq.grown (L:=Pf) bS hg9 (by decide);have mA:qQ g6 g6 w9 A9 (j+1) c9 (f.paths.take (j+1)):=by
      refine⟨_,GT,by rw[Htk'.out,List.length_append,oO];rfl,fun i q hq=>?_⟩;have VO:vs6.length=j:=by have:=bS.1;omega
      rw[Htk'.out]at hq;rcases Nat.lt_or_ge i j with hi|hi
      ·rw[List.getElem?_append_left (by omega)]at hq;obtain⟨u,hu,JW⟩:=tE i q hq;exact⟨u,by rw[List.getElem?_append_left (by omega)];exact hu,JW.move aD⟩
      ·rw[List.getElem?_append_right (by omega),oO]at hq;have iF:i=j:=by
        rcases Nat.eq_zero_or_pos (i-j)with h'|h'
        ·omega
        ·rw[List.getElem?_eq_none (by simp;omega)]at hq;cases hq
       subst iF;simp only[Nat.sub_self,List.getElem?_cons_zero,Option.some.injEq]at hq;subst hq;refine⟨_,by rw[List.getElem?_append_right (by omega),VO,Nat.sub_self];rfl,?_⟩;have h1:=Sl.of_new (L:=Pf) jz (by decide);rw[<-z4]at h1;have h2:gf (bG Pf g6 w6) w6 (.slice A8 s1 c8) p:=Sl.mono (by rw[<-z4];exact h1) (by omega) (bG.wide (fun _ h=>h) (by show g6<=wr.heap.size;omega));exact h2.move aD
     have Ud:Below g6 w6 w9:=eS bS hg9 J2;have PV:Below g6 w3 w9:=(iv.trans (vL.mono (by omega))).trans Ud;go_wp2_with fail;refine⟨dT (fun q hq=>by rw[List.mem_singleton.1 hq];exact Eq.trans DN fP.symm),jY _ _ ?_⟩;have f0:=DN.free 0;have r0:=DN.cell 0;simp only[List.getElem?_toArray,List.getElem?_cons_zero]at r0;clear hg9 GT bS tE;have aE:ao (w9.setCell ⟨g6,0,none⟩ (.slice A9 (j+1) c9)) g6 191 #[.slice A9 (j+1) c9,.slice A3 mv c3]/\qQ g6 g6 (w9.setCell ⟨g6,0,none⟩ (.slice A9 (j+1) c9)) A9 (j+1) c9 (f.paths.take (j+1))/\Below g6 w3 (w9.setCell ⟨g6,0,none⟩ (.slice A9 (j+1) c9)):=
      ⟨by simpa using DN.set_ 0 (.slice A9 (j+1) c9),mA.stay (bq.set DN (by decide)) (bq.set DN (by decide)),PV.setCell zl _⟩
     have aE:=zH aE;clear mA PV aD;refine aC ?_;simp only[ah,Zx];repeat go_big_quiet_step(fail)
     apply wpQuiet_nil;go_wp2_with fail;refine⟨⟨j+1,A9,c9,kI,by go_num,aE.out.1,aE.out.2.1,aE.out.2.2⟩,by simp[intOf];exact fK.out⟩
    ·obtain rfl:j=mp:=by omega
     obtain⟨w4,rfl⟩:∃wo:World,wo=wr:=⟨_,rfl⟩;rw[List.take_of_length_le (by rw[Hpl.out];omega)]at hP;have qh:Below w3.heap.size w3 w4:=by rw[JE.out];exact iv
     have gz:=bf bY qh;have WZ:=WY.below qh;have Nx:=hP.paths;have Xs:=Sl.of_new (L:=LY) gz (by decide);obtain⟨r0,r1,-⟩:=fP.cs [0,1];simp only[Zx]at r0 r1;have iH:=ab eF qh zl;have UJ:w.heap.size<=g6:=by rw[<-JE.out];exact eF.size
     have fu:Below w4.heap.size w4 (w4.alloc (.cells #[.slice A6 j c6,.slice A3 mv c3] 191)):=zb.alloc zl _;have gK:=ao.new w4 191 #[.slice A6 j c6,.slice A3 mv c3];have YJ:=WZ.below fu;have Vn:=Nx.move (bq.below fu);have M1:fF (bG LY w2.heap.size w4) w4 (.slice A3 mv c3) f.vals:=by
      show Sl _ _ _ _ _ _;rw[Hvl.out];exact Xs
     have M1:=M1.move (bq.below fu);have kE:=ab iH fu zl;have Vr:cn (w4.alloc (.cells #[.slice A6 j c6,.slice A3 mv c3] 191)) 2 (some ⟨w4.heap.size,0,none⟩) 1 [.slice A6 j c6,.slice A3 mv c3]:=⟨rfl,fun _=>⟨_,rfl,fun q u hu=>by
      have e:(⟨w4.heap.size,0,none⟩:Addr).add q=⟨w4.heap.size,q,none⟩:=by unfold Addr.add;split <;> simp[*]
      rw[e,gK.cell q,<-hu];simp⟩⟩
     obtain⟨ys,bS,Lk,XB,tE⟩:=YJ;obtain⟨i0,iF,jT,iW,gC⟩:=info_parts Dr;clear WY WZ bY gz Nx Xs hP iv;go_wp2_with (at_builtin;refine bg _ rfl (.tmp 34) (.tmp 36) 40 rfl w.heap.size 191 i0 _ 2 48 underlying40 iF jT iW gC rfl (by omega) (.slice A' k c') k _ rfl bS (some ⟨w4.heap.size,0,none⟩) 1 1 _ rfl Vr (fun u hu=>by simp at hu;rcases hu with rfl|rfl <;> rfl) (by unfold maxLen;omega) (by omega) kE.size ?_;intro A9 c9 w9 jz hg9 _);have aD:=bq.grown (L:=LY) bS hg9 (by decide);refine⟨⟨k+1,A9,c9,aU,by go_num,rfl,⟨ys++[(.slice A6 j c6,.slice A3 mv c3)],?_,by simp[Lk],by rw[Htk.out,List.length_append,XB];rfl,fun i q hq=>?_⟩,kE.trans (eS bS hg9 kE.size)⟩,by simp[intOf];exact aO.out⟩
     ·rw[List.flatMap_append];exact jz
     ·rw[Htk.out]at hq;rcases Nat.lt_or_ge i k with hi|hi
      ·rw[List.getElem?_append_left (by omega)]at hq;obtain⟨y,hy,h1,h2⟩:=tE i q hq;exact⟨y,by rw[List.getElem?_append_left (by omega)];exact hy,h1.move aD,h2.move aD⟩
      ·rw[List.getElem?_append_right (by omega),XB]at hq;have iF:i=k:=by
        rcases Nat.eq_zero_or_pos (i-k)with h'|h'
        ·omega
        ·rw[List.getElem?_eq_none (by simp;omega)]at hq;cases hq
       subst iF;simp only[Nat.sub_self,List.getElem?_cons_zero,Option.some.injEq]at hq;subst hq;exact⟨_,by rw[List.getElem?_append_right (by omega),Lk,Nat.sub_self];rfl,(Vn.mono (bG.wide (fun _ h=>h) UJ)).move aD,(M1.mono (bG.wide (fun _ h=>h) cZ)).move aD⟩
  ·obtain rfl:k=n:=by omega
   rw[List.take_of_length_le (by rw[H1.out];omega)]at hO;go_wp2_with fail;go_ret;exact⟨A',c',rfl,hO,hb⟩
def oQ(fs:List Fa):Prop:=fs.length<=100000/\∀f∈fs,f.paths.length<=100000/\f.vals.length<=100000/\∀p∈f.paths,p.length<=100000
theorem Cc{fs:List Fa}(h:qr fs=0):oQ fs:=by
 unfold qr at h;by_cases h8:8<fs.length
 ·rw[if_pos h8]at h;cases h
 ·rw[if_neg h8]at h;cases ha:fs.any fun f=>!eN f with
  | true=>rw[ha]at h;cases h
  | false=>
   rw[List.any_eq_false]at ha;refine⟨by omega,fun f hf=>?_⟩;have hp:eN f=true:=by have:=ha f hf;simpa using this
   obtain⟨h1,h2,h3⟩:=kO hp;exact⟨by omega,by omega,fun p hp=>by have:=rU (h1 p hp);omega⟩
theorem Ba{x:En}(h:ku x=0):oQ x.facts:=by
 unfold ku at h;split at h
 ·cases h
 ·split at h
  ·cases h
  ·exact Cc h
theorem lZ{x:En}(h:dM x=true):oQ x.facts:=by
 have h:kw x=0:=of_decide_eq_true h;unfold kw at h;split at h
 ·cases h
 ·exact Ba h
def set6(w:World)(g:Nat)(z:Value×En):World:=
 (((((w.setCell ⟨g,0,none⟩ (vi z.2.idx)).setCell ⟨g,1,none⟩ (vi z.2.term)).setCell ⟨g,2,none⟩ (vi z.2.op)).setCell ⟨g,3,none⟩ (vi z.2.sess)).setCell ⟨g,4,none⟩ (vi z.2.seq)).setCell ⟨g,5,none⟩ z.1
theorem eT{w:World}{g:Nat}{T:TypeId}{cs:Array Value}(z:Value×En)(h:ao w g T cs)(hc:cs.size=6) :
  ao (set6 w g z) g T (cl z).toArray/\(∀L,T∉L->bq L w (set6 w g z))/\∀B,B<=g->Below B w (set6 w g z):=by
 have h0:=h.set_ 0 (vi z.2.idx);have h1:=h0.set_ 1 (vi z.2.term);have h2:=h1.set_ 2 (vi z.2.op);have h3:=h2.set_ 3 (vi z.2.sess);have h4:=h3.set_ 4 (vi z.2.seq);have h5:=h4.set_ 5 z.1;refine⟨?_,fun L hL=>?_,fun B hB=>?_⟩
 ·have e:((((((cs.setIfInBounds 0 (vi z.2.idx)).setIfInBounds 1 (vi z.2.term)).setIfInBounds 2 (vi z.2.op)).setIfInBounds 3 (vi z.2.sess)).setIfInBounds 4 (vi z.2.seq)).setIfInBounds 5 z.1)=(cl z).toArray:=by
   apply Array.ext
   ·simp[hc,cl]
   ·intro i oN IH;simp[cl]at IH;rcases(show i=0\/i=1\/i=2\/i=3\/i=4\/i=5 by omega)with rfl|rfl|rfl|rfl|rfl|rfl <;> simp[hc,cl]
  rw[<-e];exact h5
 ·exact(((((bq.set h hL).trans (bq.set h0 hL)).trans (bq.set h1 hL)).trans (bq.set h2 hL)).trans (bq.set h3 hL)).trans (bq.set h4 hL)
 ·exact((((((Below.refl B w).setCell hB _).setCell hB _).setCell hB _).setCell hB _).setCell hB _).setCell hB _
theorem oz(S:Nat->Prop)(x:En)(A:Option Addr)(n c:Nat)(w:World)(hf:aG S w (.slice A n c) x.facts)(hs:oQ x.facts) :
  Calls prog 91 #[mM x (.slice A n c)] w fun e w'=>∃A' c',e=.returned (mM x (.slice A' n c'))/\aG (bG TD w.heap.size w') w' (.slice A' n c') x.facts/\Below w.heap.size w w':=by
 have hn:n<=100000:=by rw[<-mw hf];exact hs.1
 unfold mM;obtain⟨aI,cA,eY⟩:=gE w 59 59 #[.int .i64 x.idx,.int .i64 x.term,.int .i64 x.op,.int .i64 x.sess,.int .i64 x.seq,.slice A n c] #[.int .i64 0,.int .i64 0,.int .i64 0,.int .i64 0,.int .i64 0,.slice none 0 0];have g1:=hf.keep (bA.below (S:=S) aI);go_enter func91,ntmps91;go_wp2_with fail;generalize(w.alloc (.cells #[.int .i64 x.idx,.int .i64 x.term,.int .i64 x.op,.int .i64 x.sess,.int .i64 x.seq,.slice A n c] 59)).alloc (.cells #[.int .i64 0,.int .i64 0,.int .i64 0,.int .i64 0,.int .i64 0,.slice none 0 0] 59)=w1 at *;refine(FJ S _ _ _ _ _ g1 hn hs.2).mono ?_;rintro e w2 ⟨A2,c2,rfl,hO,bQ⟩;have b1:=cA.kept bQ;have b2:=eY.kept bQ;obtain⟨a0,a1,a2,a3,a4,a5,-⟩:=b1.cs [0,1,2,3,4,5];have f5:=b1.free 5;obtain⟨d0,d1,d2,d3,d4,d5,-⟩:=b2.cs [0,1,2,3,4,5];obtain⟨f0,f1,f2,f3,f4,f6,-⟩:=b2.fs [0,1,2,3,4,5];simp only[Zx]at a0 a1 a2 a3 a4 a5 d0 d1 d2 d3 d4 d5;go_wp2_with fail;have fe:w.heap.size+1≠w.heap.size:=by omega
 obtain⟨s1,s2,s3⟩:=eT (.slice A2 n c2,x) (b2.far (p:=⟨w.heap.size,5,none⟩) fe (.slice A2 n c2)) rfl;have Bk:aG (bG TD w.heap.size (set6 (w2.setCell ⟨w.heap.size,5,none⟩ (.slice A2 n c2)) (w.heap.size+1) (.slice A2 n c2,x))) (set6 (w2.setCell ⟨w.heap.size,5,none⟩ (.slice A2 n c2)) (w.heap.size+1) (.slice A2 n c2,x)) (.slice A2 n c2) x.facts:=
  (hO.facts.mono (bG.wide (fun _ h=>h) aI.size)).move ((bq.set b1 (by decide)).trans (s2 _ (by decide)))
 have TJ:Below w.heap.size w (set6 (w2.setCell ⟨w.heap.size,5,none⟩ (.slice A2 n c2)) (w.heap.size+1) (.slice A2 n c2,x)):=
  ((ab aI bQ zl).setCell zl _).trans (s3 _ (by omega))
 show bodyPost _ _ _ _ _ (set6 (w2.setCell ⟨w.heap.size,5,none⟩ (.slice A2 n c2)) (w.heap.size+1) (.slice A2 n c2,x));generalize set6 (w2.setCell ⟨w.heap.size,5,none⟩ (.slice A2 n c2)) (w.heap.size+1) (.slice A2 n c2,x)=w9 at *;obtain⟨r0,r1,r2,r3,r4,r5,-⟩:=s1.cs [0,1,2,3,4,5];simp only[cl,vi,Zx]at r0 r1 r2 r3 r4 r5;exact bodyPost_ret (v:=.agg #[.int .i64 x.idx,.int .i64 x.term,.int .i64 x.op,.int .i64 x.sess,.int .i64 x.seq,.slice A2 n c2]) (by simp[results,results91,go_sem,r0,r1,r2,r3,r4,r5]) rfl ⟨A2,c2,rfl,Bk,TJ⟩
structure bD where
 index:Int
 term:Int
 L:List En
def bD.lastF(t:bD):Int×Int:=match t.L.getLast? with
 | some x=>(x.idx,x.term)
 | none=>(t.index,t.term)
def iO(term:Int)(L:List En)(i:Nat):Int:=match i with
 | 0=>term
 | i+1=>match L[i]? with
  | some x=>x.term
  | none=>term
theorem eo(term:Int)(L:List En)(i:Nat):iO term L (i+1)=match L[i]? with
 | some x=>x.term
 | none=>term:=rfl
structure bD.Inv(t:bD):Prop where
 base:(t.index=0/\t.term=0)\/(1<=t.index/\t.index<=1099511627776/\1<=t.term/\t.term<=1099511627776)
 idx:∀(i:Nat) x,t.L[i]?=some x->x.idx=t.index+1+i
 plain:∀x∈t.L,dM x=true
 mono:∀(i:Nat) x,t.L[i]?=some x->iO t.term t.L i<=x.term
def bD.termF(t:bD)(i:Int):Int×Int:=
 if i<t.index then(0,34)else if i=t.index then(t.term,0)else match t.L[(i-t.index-1).toNat]? with
  | some x=>(x.term,0)
  | none=>(0,33)
def bD.sliceF(t:bD)(i n:Int):List En:=if i<=t.index\/n<1 then[]else(t.L.drop (i-t.index-1).toNat).take n.toNat
def bI(index:Int):Nat->Int->List En->Bool
 | _,_,[]=>true
 | i,term,x::l=>dM x&&(decide (x.idx=index+1+i)&&(decide (term<=x.term)&&bI index (i+1) x.term l))
def bD.findDiff(t:bD):List En->Option (En×List En)
 | []=>none
 | x::l=>if t.termF x.idx=(x.term,0)then t.findDiff l else some (x,l)
def bD.takeF(t:bD)(index term:Int)(l:List En):(Int×Bool)×bD:=
 if t.termF index=(term,0)/\bI index 0 term l=true then
  match t.findDiff l with
  | none=>((0,true),t)
  | some (x,r)=>((x.idx,true),{t with L:=t.L.take (x.idx-t.index-1).toNat++x::r})
 else((0,false),t)
def lh(idx term:Int)(c:En):En:=⟨idx,term,c.op,c.sess,c.seq,c.facts⟩
def bD.putF(t:bD)(term:Int)(c:En):(En×Int)×bD:=
 if 1099511627776<=t.lastF.1 then((gc,41),t)
 else if term<t.lastF.2\/dM (lh (t.lastF.1+1) term c)=false then((gc,1),t)
 else((lh (t.lastF.1+1) term c,0),{t with L:=t.L++[lh (t.lastF.1+1) term c]})
def bD.dropF(t:bD)(i:Int):Int×bD:=
 if(t.termF i).2=33 then(33,t)else if(t.termF i).2=34 then(0,t)else(0,⟨i,(t.termF i).1,t.L.drop (i-t.index).toNat⟩)
def kG(i term:Int)(x:En):Bool:=decide (x.idx<i)&&decide (x.term<=term)
def bD.hintF(t:bD)(i term:Int):Int:=match(t.L.filter (kG i term)).getLast? with
 | some x=>x.idx
 | none=>t.index
theorem kf{x:En}(h:dM x=true):1<=x.idx/\x.idx<=1099511627776/\1<=x.term/\x.term<=1099511627776:=by
 have h:kw x=0:=of_decide_eq_true h;unfold kw eA at h;split at h
 ·cases h
 ·rename_i hh;simp only[Bool.not_eq_false,Bool.and_eq_true,decide_eq_true_eq]at hh;omega
theorem iq{α:Type}{l:List α}{k:Nat}{x:α}(h:l[k]?=some x):l.drop k=x::l.drop (k+1):=by
 obtain⟨hk,e⟩:=List.getElem?_eq_some_iff.1 h;rw[List.drop_eq_getElem_cons hk,e]
theorem oB{term:Int}{L R:List En}{i:Nat}(h:i<=L.length):iO term (L++R) i=iO term L i:=by
 cases i with
 | zero=>rfl
 | succ i=>
  rw[eo,eo,List.getElem?_append_left (by omega)]
theorem sm{term:Int}{L:List En}{i k:Nat}(h:i<=k):iO term (L.take k) i=iO term L i:=by
 cases i with
 | zero=>rfl
 | succ i=>
  rw[eo,eo,List.getElem?_take,if_pos (by omega)]
section
variable {t:bD}
theorem bD.Inv.b(h:t.Inv):0<=t.index/\t.index<=1099511627776/\0<=t.term/\t.term<=1099511627776:=by
 rcases h.base with⟨h1,h2⟩|⟨h1,h2,h3,h4⟩ <;> omega
theorem bD.Inv.room(h:t.Inv):t.index+t.L.length<=1099511627776:=by
 rcases Nat.eq_zero_or_pos t.L.length with h0|h0
 ·have:=h.b;omega
 ·have hx:t.L[t.L.length-1]?=some (t.L[t.L.length-1]'(by omega)):=List.getElem?_eq_getElem (by omega);have h1:=h.idx _ _ hx;have h2:=kf (h.plain _ (List.mem_of_getElem? hx));omega
theorem bD.lastF_pos(h0:0<t.L.length):∃x,t.L[t.L.length-1]?=some x/\t.lastF=(x.idx,x.term):=by
 refine⟨t.L[t.L.length-1]'(by omega),List.getElem?_eq_getElem (by omega),?_⟩;unfold bD.lastF;rw[List.getLast?_eq_getElem?,List.getElem?_eq_getElem (by omega)]
theorem bD.lastF_nil(h0:t.L=[]):t.lastF=(t.index,t.term):=by unfold bD.lastF;rw[h0];rfl
theorem bD.Inv.last(h:t.Inv):t.lastF.1=t.index+t.L.length:=by
 rcases Nat.eq_zero_or_pos t.L.length with h0|h0
 ·rw[bD.lastF_nil (List.eq_nil_of_length_eq_zero h0),h0];simp
 ·obtain⟨x,hx,e⟩:=bD.lastF_pos h0;rw[e];have:=h.idx _ _ hx;show x.idx=_;omega
theorem bD.lastT(t:bD):t.lastF.2=iO t.term t.L t.L.length:=by
 rcases Nat.eq_zero_or_pos t.L.length with h0|h0
 ·rw[bD.lastF_nil (List.eq_nil_of_length_eq_zero h0),h0];rfl
 ·obtain⟨x,hx,e⟩:=bD.lastF_pos h0;rw[e];obtain⟨k,hk⟩:∃k,t.L.length=k+1:=⟨t.L.length-1,by omega⟩;rw[hk]at hx ⊢;rw[show k+1-1=k by omega]at hx;rw[eo,hx]
theorem bD.Inv.lastB(h:t.Inv):0<=t.lastF.2/\t.lastF.2<=1099511627776:=by
 rcases Nat.eq_zero_or_pos t.L.length with h0|h0
 ·rw[bD.lastF_nil (List.eq_nil_of_length_eq_zero h0)];have:=h.b;exact⟨this.2.2.1,this.2.2.2⟩
 ·obtain⟨x,hx,e⟩:=bD.lastF_pos h0;have:=kf (h.plain _ (List.mem_of_getElem? hx));rw[e];exact⟨by show 0<=x.term;omega,this.2.2.2⟩
theorem bD.Inv.put(h:t.Inv){x:En}(hi:x.idx=t.lastF.1+1)(hp:dM x=true)(ht:t.lastF.2<=x.term):bD.Inv {t with L:=t.L++[x]}:=by
 refine⟨h.base,fun i y hy=>?_,fun y hy=>?_,fun i y hy=>?_⟩
 ·rcases Nat.lt_or_ge i t.L.length with h1|h1
  ·exact h.idx i y (by rw[<-hy];exact(List.getElem?_append_left h1).symm)
  ·rw[show({t with L:=t.L++[x]}:bD).L=t.L++[x]from rfl,List.getElem?_append_right h1]at hy;rcases Nat.eq_zero_or_pos (i-t.L.length)with h2|h2
   ·rw[h2]at hy;simp only[List.getElem?_cons_zero,Option.some.injEq]at hy;subst hy;rw[hi,h.last];show _=t.index+1+i;omega
   ·rw[List.getElem?_eq_none (by simp;omega)]at hy;cases hy
 ·rcases List.mem_append.1 hy with h1|h1
  ·exact h.plain y h1
  ·rw[List.mem_singleton.1 h1];exact hp
 ·rcases Nat.lt_or_ge i t.L.length with h1|h1
  ·show iO t.term (t.L++[x]) i<=_;rw[oB (by omega)];exact h.mono i y (by rw[<-hy];exact(List.getElem?_append_left h1).symm)
  ·rw[show({t with L:=t.L++[x]}:bD).L=t.L++[x]from rfl,List.getElem?_append_right h1]at hy;rcases Nat.eq_zero_or_pos (i-t.L.length)with h2|h2
   ·rw[h2]at hy;simp only[List.getElem?_cons_zero,Option.some.injEq]at hy;subst hy;show iO t.term (t.L++[x]) i<=_;rw[show i=t.L.length by omega,oB zl,<-t.lastT];exact ht
   ·rw[List.getElem?_eq_none (by simp;omega)]at hy;cases hy
theorem bD.Inv.putF(h:t.Inv)(term:Int)(c:En):(t.putF term c).2.Inv:=by
 unfold bD.putF;split
 ·exact h
 ·split
  ·exact h
  ·rename_i h1;refine h.put rfl ?_ (by show _<=term;omega);cases hp:dM (lh (t.lastF.1+1) term c)with
   | true=>rfl
   | false=>exact absurd (.inr hp) h1
theorem bD.Inv.cut(h:t.Inv)(k:Nat):bD.Inv {t with L:=t.L.take k}:=by
 refine⟨h.base,fun i y hy=>?_,fun y hy=>h.plain y (List.mem_of_mem_take hy),fun i y hy=>?_⟩
 ·rw[show({t with L:=t.L.take k}:bD).L=t.L.take k from rfl,List.getElem?_take]at hy;split at hy
  ·exact h.idx i y hy
  ·cases hy
 ·rw[show({t with L:=t.L.take k}:bD).L=t.L.take k from rfl,List.getElem?_take]at hy;split at hy
  ·show iO t.term (t.L.take k) i<=_;rw[sm (by omega)];exact h.mono i y hy
  ·cases hy
theorem kT(t:bD)(i:Int):(t.termF i).2=34\/(t.termF i).2=33\/(t.termF i).2=0:=by
 unfold bD.termF;split
 ·exact .inl rfl
 ·split
  ·exact .inr (.inr rfl)
  ·cases t.L[(i-t.index-1).toNat]? with
   | none=>exact .inr (.inl rfl)
   | some x=>exact .inr (.inr rfl)
theorem Ai{i term:Int}(h:t.termF i=(term,0)):(i=t.index/\term=t.term)\/(t.index<i/\∃x,t.L[(i-t.index-1).toNat]?=some x/\x.term=term):=by
 unfold bD.termF at h;split at h
 ·cases h
 ·split at h
  ·rename_i h2;injection h with h3 _;exact .inl ⟨h2,h3.symm⟩
  ·cases hx:t.L[(i-t.index-1).toNat]? with
   | none=>rw[hx]at h;cases h
   | some x=>
    rw[hx]at h;injection h with h3 _;exact .inr ⟨by omega,x,rfl,h3⟩
theorem eR{i term:Int}(h:t.termF i=(term,0)):t.index<=i/\i<=t.index+t.L.length/\term=iO t.term t.L (i-t.index).toNat:=by
 rcases Ai h with⟨h1,h2⟩|⟨h1,x,hx,h2⟩
 ·refine⟨by omega,by omega,?_⟩;rw[h2,h1,show(t.index-t.index).toNat=0 by omega];rfl
 ·have hl:=(List.getElem?_eq_some_iff.1 hx).1;refine⟨by omega,by omega,?_⟩;obtain⟨k,hk⟩:∃k,(i-t.index).toNat=k+1:=⟨(i-t.index-1).toNat,by omega⟩;rw[show(i-t.index-1).toNat=k by omega]at hx;rw[hk,eo,hx,<-h2]
theorem bD.Inv.dropF(h:t.Inv)(i:Int):(t.dropF i).2.Inv:=by
 unfold bD.dropF;split
 ·exact h
 ·rename_i h1;split
  ·exact h
  ·rename_i h2;have h3:(t.termF i).2=0:=by
    rcases kT t i with h|h|h
    ·exact absurd h h2
    ·exact absurd h h1
    ·exact h
   have h4:t.termF i=((t.termF i).1,0):=by rw[<-h3]
   obtain⟨h5,h6,h7⟩:=eR h4;have hr:=h.room;have hb:=h.b;refine⟨?_,fun j y hy=>?_,fun y hy=>h.plain y (List.mem_of_mem_drop hy),fun j y hy=>?_⟩
   ·rcases Ai h4 with⟨h8,h9⟩|⟨h8,x,hx,h9⟩
    ·show(i=0/\(t.termF i).1=0)\/_;rw[h9,h8];exact h.base
    ·have:=kf (h.plain _ (List.mem_of_getElem? hx));refine .inr ⟨by show 1<=i;omega,by show i<=_;omega,?_,?_⟩
     ·show 1<=(t.termF i).1;rw[<-h9];exact this.2.2.1
     ·show(t.termF i).1<=_;rw[<-h9];exact this.2.2.2
   ·rw[List.getElem?_drop]at hy;have:=h.idx _ _ hy;show y.idx=i+1+j;omega
   ·show iO (t.termF i).1 (t.L.drop (i-t.index).toNat) j<=y.term;rw[List.getElem?_drop]at hy;have h8:=h.mono _ _ hy;cases j with
    | zero=>rw[h7];exact h8
    | succ j=>
     rw[eo,List.getElem?_drop];rw[show(i-t.index).toNat+(j+1)=((i-t.index).toNat+j)+1 by omega,eo]at h8;have hn:((i-t.index).toNat+j)<t.L.length:=by have:=(List.getElem?_eq_some_iff.1 hy).1;omega
     rw[List.getElem?_eq_getElem hn]at h8 ⊢;exact h8
theorem iY{idx term:Int}{i:Nat}{x:En}{l:List En}:bI idx i term (x::l)=true↔dM x=true/\x.idx=idx+1+i/\term<=x.term/\bI idx (i+1) x.term l=true:=by
 show(dM x&&(decide (x.idx=idx+1+i)&&(decide (term<=x.term)&&bI idx (i+1) x.term l)))=true↔_;rw[Bool.and_eq_true,Bool.and_eq_true,Bool.and_eq_true,decide_eq_true_eq,decide_eq_true_eq]
theorem bD.lastF_put(t:bD)(x:En):bD.lastF {t with L:=t.L++[x]}=(x.idx,x.term):=by
 unfold bD.lastF;rw[show({t with L:=t.L++[x]}:bD).L=t.L++[x]from rfl,List.getLast?_append];rfl
theorem bD.Inv.puts{idx:Int}{l:List En}:∀{t:bD} {i:Nat} {term:Int},t.Inv->bI idx i term l=true->idx+i=t.lastF.1->term=t.lastF.2->bD.Inv {t with L:=t.L++l}:=by
 induction l with
 | nil=>intro t i term h _ _ _;rw[List.append_nil];exact h
 | cons x l ih=>
  intro t i term h hm hi ht;obtain⟨h1,h2,h3,h4⟩:=iY.1 hm;have hp:=h.put (x:=x) (by omega) h1 (by omega);have hl:=t.lastF_put x;have:=ih hp h4 (by rw[hl];show idx+((i+1:Nat):Int)=x.idx;omega) (by rw[hl]);have e:t.L++[x]++l=t.L++x::l:=by simp
  rw[show({t with L:=t.L++[x]}:bD).L=t.L++[x]from rfl,e]at this;exact this
theorem ig{idx:Int}{l:List En}:∀{i:Nat} {term:Int} {x:En} {r:List En},t.termF (idx+i)=(term,0)->bI idx i term l=true->t.findDiff l=some (x,r)->
  ∃(j:Nat) (term':Int),i<=j/\x.idx=idx+1+j/\t.termF (idx+j)=(term',0)/\bI idx j term' (x::r)=true/\l.drop (j-i)=x::r/\t.termF x.idx≠(x.term,0):=by
 induction l with
 | nil=>intro i term x r _ _ h;cases h
 | cons y l ih=>
  intro i term x r h1 h2 h3;obtain⟨p1,p2,p3,p4⟩:=iY.1 h2;unfold bD.findDiff at h3;by_cases hy:t.termF y.idx=(y.term,0)
  ·rw[if_pos hy]at h3;have e:idx+((i+1:Nat):Int)=y.idx:=by omega
   obtain⟨j,term',h4,h5,h6,h7,h8,h9⟩:=ih (i:=i+1) (by rw[e];exact hy) p4 h3;refine⟨j,term',by omega,h5,h6,h7,?_,h9⟩;rw[show j-i=(j-(i+1))+1 by omega,List.drop_succ_cons];exact h8
  ·rw[if_neg hy]at h3;injection h3 with h3;injection h3 with h4 h5;subst h4;subst h5;exact⟨i,term,Nat.le_refl _,p2,h1,h2,by rw[Nat.sub_self];rfl,hy⟩
theorem bD.Inv.takeF(h:t.Inv)(index term:Int)(l:List En):(t.takeF index term l).2.Inv:=by
 unfold bD.takeF;by_cases hc:t.termF index=(term,0)/\bI index 0 term l=true
 ·rw[if_pos hc];obtain⟨h1,h2⟩:=hc;cases hd:t.findDiff l with
  | none=>exact h
  | some p=>
   obtain⟨x,r⟩:=p;obtain⟨j,term',_,h5,h6,h7,_,_⟩:=ig (i:=0) (by rw[show index+((0:Nat):Int)=index by omega];exact h1) h2 hd;obtain⟨h8,h9,lO⟩:=eR h6;have hc:=h.cut (x.idx-t.index-1).toNat;have hk:(x.idx-t.index-1).toNat<=t.L.length:=by omega
   refine hc.puts (idx:=index) h7 ?_ ?_
   ·rw[hc.last];show _=t.index+((t.L.take _).length:Int);rw[List.length_take,Nat.min_eq_left hk];omega
   ·rw[bD.lastT,lO];show _=iO t.term (t.L.take _) (t.L.take _).length;rw[List.length_take,Nat.min_eq_left hk,sm zl];congr 1;omega
 ·rw[if_neg hc];exact h
end
def aA(A:Option Addr)(j:Nat):Prop:=∃ad,A=some ad/\ad.block=j
structure cX(B:Nat)(S:Nat->Prop)(w:World)(g:Nat)(t:bD)(A:Option Addr)(n c:Nat)(zs:List (Value×En)):Prop where
 b:ao w g 152 #[.int .i64 t.index,.int .i64 t.term,.slice A n c]
 o:w.ownsRow B 59 6 (.slice A n c) n (zs.flatMap cl)
 d:bo S w zs
 l:zs.map (·.2)=t.L
 i:t.Inv
 g:B<=g
 s:∀j,S j->qU TD w j
section
variable {B:Nat}{S:Nat->Prop}{w w':World}{g n c:Nat}{t:bD}{A:Option Addr}{zs:List (Value×En)}
theorem aw{base size:Nat}{e:TypeId}{v:Value}{xs:List Value}(h:w.ownsRow base e size v n xs):∀A c,v=.slice A n c->∀j,aA A j->j<w.heap.size/\base<=j/\∃cs,w.heap[j]?=some (.cells cs e (0,0)):=by
 rintro A c rfl j ⟨ad,rfl,rfl⟩;rcases h.2 with⟨h0,_⟩|⟨g,cap,cur,h0,h1,h2,_⟩
 ·cases h0
 ·injection h0 with h0;injection h0 with h0;subst h0;exact⟨aV h2,h1,cur,h2⟩
theorem cN{base size:Nat}{e:TypeId}{xs:List Value}(h:w.ownsRow base e size (.slice A n c) n xs)(hk:∀j,aA A j->j<w.heap.size->w'.heap[j]?=w.heap[j]?):w'.ownsRow base e size (.slice A n c) n xs:=by
 refine⟨h.1,?_⟩;rcases h.2 with h0|⟨g,cap,cur,h1,h2,h3,h4⟩
 ·exact .inl h0
 ·have Sy:=h1;injection Sy with hA _ _;exact .inr ⟨g,cap,cur,h1,h2,(hk g ⟨_,hA,rfl⟩ (aV h3)).trans h3,h4⟩
theorem cX.len(h:cX B S w g t A n c zs):n=t.L.length/\zs.length=n:=by
 have h1:=h.o.1;rw[eO eX]at h1;have h2:=congrArg List.length h.l;rw[List.length_map]at h2;omega
theorem cX.rd(h:cX B S w g t A n c zs):ff w A n zs:=cn.of_own h.o
theorem cX.keep(h:cX B S w g t A n c zs)(hk:∀j,(j=g\/aA A j\/S j)->j<w.heap.size->w'.heap[j]?=w.heap[j]?):cX B S w' g t A n c zs where
 b:=(hk g (.inl rfl) h.b.lt).trans h.b
 o:=cN h.o fun j hj hl=>hk j (.inr (.inl hj)) hl
 d:=h.d.keep fun j hj hl=>hk j (.inr (.inr hj)) hl
 l:=h.l
 i:=h.i
 g:=h.g
 s:=fun j hj=>by
  obtain⟨cs,fz,ty,h1,h2⟩:=h.s j hj;exact⟨cs,fz,ty,(hk j (.inr (.inr hj)) (aV h1)).trans h1,h2⟩
theorem cX.below(h:cX B S w g t A n c zs)(hb:Below w.heap.size w w'):cX B S w' g t A n c zs:=h.keep fun _ _ hl=>hb.block _ hl
theorem cX.at_(h:cX B S w g t A n c zs){k:Nat}(hk:k<n) :
  ∃ad v x,A=some ad/\zs[k]?=some (v,x)/\t.L[k]?=some x/\w.cell? (ad.add (k*6))=some (.int .i64 x.idx)/\w.cell? ⟨(ad.add (k*6)).block,(ad.add (k*6)).off+1,none⟩=some (.int .i64 x.term):=by
 obtain⟨ad,v,x,e,hz,c0,c1,_⟩:=h.rd.at_ hk;refine⟨ad,v,x,e,hz,?_,c0,c1⟩;rw[<-h.l,List.getElem?_map,hz];rfl
theorem cX.cells(h:cX B S w g t A n c zs):w.cell? ⟨g,0,none⟩=some (.int .i64 t.index)/\w.cell? ⟨g,1,none⟩=some (.int .i64 t.term)/\w.cell? ⟨g,2,none⟩=some (.slice A n c):=⟨h.b.cell 0,h.b.cell 1,h.b.cell 2⟩
end
theorem pT(z:Int)(w:World):Calls prog 86 #[.int .i64 z] w fun e w'=>e=.returned (.bool (eA z 1))/\w=w':=by
 unfold eA;by_cases h:1<=z
 ·go_enter func86,ntmps86;go_wp2_with fail;go_ret;exact⟨by simp[h],rfl⟩
 ·go_enter func86,ntmps86;go_wp2_with fail;go_ret;exact⟨by simp;omega,rfl⟩
section
variable {B:Nat}{S:Nat->Prop}{w:World}{g n c:Nat}{t:bD}{A:Option Addr}{zs:List (Value×En)}
theorem EK(h:cX B S w g t A n c zs):Calls prog 80 #[.pointer (some ⟨g,0,none⟩)] w fun e w'=>e=.returned (.tuple #[.int .i64 t.index,.int .i64 t.term])/\∃q,w'=w.drewN q:=by
 obtain⟨h0,h1,h2⟩:=h.cells;generalize t.index=a at *;generalize t.term=b at *;go_enter func80,ntmps80;go_wp2_with fail
 go_quiet (fail)
 go_wp2_with fail
 go_ret2
 exact⟨rfl,_,rfl⟩
theorem Af(h:cX B S w g t A n c zs)(hn:n<=1000000):Calls prog 44 #[.pointer (some ⟨g,0,none⟩)] w fun e w'=>e=.returned (.tuple #[.int .i64 t.lastF.1,.int .i64 t.lastF.2])/\∃q,w'=w.drewN q:=by
 obtain⟨h0,h1,h2⟩:=h.cells;obtain⟨hl,_⟩:=h.len;rcases Nat.eq_zero_or_pos n with lz|lz
 ·have e:=zH (t.lastF_nil (List.eq_nil_of_length_eq_zero (by omega)));subst lz;clear hl;go_enter func44,ntmps44;go_wp2_with fail
  go_quiet (fail)
  go_wp2_with fail
  go_ret2
  exact⟨by rw[e.out];rfl,_,rfl⟩
 ·obtain⟨k,rfl⟩:∃k,n=k+1:=⟨n-1,by omega⟩;obtain⟨ad,v,x,rfl,hz,hx,c0,c1⟩:=h.at_ (k:=k) (by omega);have e:=zH (show t.lastF=(x.idx,x.term) by
   obtain⟨y,hy,e⟩:=t.lastF_pos (by omega);rw[<-hl,show k+1-1=k by omega,hx]at hy;obtain rfl:=Option.some.inj hy;exact e)
  clear hl hz hx;generalize x.idx=a at *;generalize x.term=b at *;go_enter func44,ntmps44;go_wp2_with fail
  go_quiet (fail)
  go_wp2_with fail
  go_ret2
  exact⟨by rw[e.out];rfl,_,rfl⟩
theorem EU(i:Int)(h:cX B S w g t A n c zs)(hn:n<=1000000):Calls prog 89 #[.pointer (some ⟨g,0,none⟩),.int .i64 i] w fun e w'=>e=.returned (.tuple #[.int .i64 (t.termF i).1,.int .i64 (t.termF i).2])/\∃q,w'=w.drewN q:=by
 have CI:=h.i.last;have hl:=h.len.1;have hb:=h.i.b;have hr:=h.i.room;have bH:=Af h hn;rw[CI]at bH;clear CI;go_enter func89,ntmps89;go_wp2_with fail;refine bH.mono ?_;rintro e w1 ⟨rfl,q,rfl⟩;obtain⟨h0,h1,h2⟩:=h.cells;by_cases i1:i<t.index
 ·have he:=zH (show t.termF i=(0,34)from if_pos i1);go_wp2_with fail
  go_ret2
  exact⟨by rw[he.out];rfl,_,rfl⟩
 ·by_cases i2:t.index+t.L.length<i
  ·have he:=zH (show t.termF i=(0,33) by
    unfold bD.termF;rw[if_neg i1,if_neg (by omega),List.getElem?_eq_none (by omega)])
   go_wp2_with fail
   go_ret2
   exact⟨by rw[he.out];rfl,_,rfl⟩
  ·by_cases i3:i=t.index
   ·have he:=zH (show t.termF i=(t.term,0) by
     unfold bD.termF;rw[if_neg i1,if_pos i3])
    subst i3;go_wp2_with fail
    go_ret2
    exact⟨by rw[he.out];rfl,_,rfl⟩
   ·obtain⟨k,hk⟩:∃k:Nat,i-t.index-1=k:=⟨(i-t.index-1).toNat,by omega⟩;have CH:k<n:=by omega
    obtain⟨ad,v,x,rfl,hz,hx,c0,c1⟩:=h.at_ CH;have he:=zH (show t.termF i=(x.term,0) by
     unfold bD.termF;rw[if_neg i1,if_neg i3,hk,show(k:Int).toNat=k from rfl,hx])
    have i4:(i==t.index)=false:=beq_eq_false_iff_ne.2 i3;have i5:t.index<i:=by omega
    have CG:i-t.index-1=(k:Int):=hk;clear hz hx;go_wp2_with fail
    go_quiet (fail)
    go_wp2_with fail
    go_ret2
    exact⟨by rw[he.out];rfl,_,World.drewN_drewN _ _ _⟩
end
theorem zh(S:Nat->Prop)(idx term:Int)(A:Option Addr)(n c:Nat)(zs:List (Value×En))(w:World)(hr:ff w A n zs)(hd:bo S w zs)(hi:0<=idx)(IH:idx<=1099511627776)(hn:n<=1000000) :
  Calls prog 90 #[.int .i64 idx,.int .i64 term,.slice A n c] w fun e w'=>e=.returned (.bool (bI idx 0 term (zs.map (·.2))))/\Below w.heap.size w w':=by
 have H1:=zH hr.len;go_enter func90,ntmps90;go_wp2_with fail
 go_loopw [1,11] (fun tm i wr=>∃(k:Nat) (term':Int),k<=n/\i=.int .i64 k/\tm=.int .i64 term'/\bI idx 0 term (zs.map (·.2))=bI idx k term' ((zs.map (·.2)).drop k)/\Below w.heap.size w wr) (fun _ i _=>n-(intOf i).toNat)
 case atStart=>exact⟨0,term,Nat.zero_le _,rfl,rfl,rfl,Below.refl _ _⟩
 case round=>
  obtain⟨k,term',hk,rfl,rfl,he,hb⟩:=hrel;have He:=zH he;clear he;by_cases aU:k<n
  ·obtain⟨ad,v1,x,rfl,hx,c0,c1,c2,c3,c4,c5⟩:=(hr.below hb).at_ aU;have f1:=(hd _ (List.mem_of_getElem? hx)).keep (bA.below (S:=S) hb);obtain⟨B1,m1,d1,ci,l1,l2,l3⟩:=f1.form;obtain rfl:v1=_:=ci;have yr:(zs.map (·.2)).drop k=x::(zs.map (·.2)).drop (k+1):=iq (by rw[List.getElem?_map,hx];rfl);rw[yr]at He;have aO:=zH (show n-(k+1)<n-k by omega);have aI:Below wr.heap.size wr (wr.alloc (.cells #[.int .i64 x.idx,.int .i64 x.term,.int .i64 x.op,.int .i64 x.sess,.int .i64 x.seq,.slice B1 m1 d1] 59)):=zb.alloc zl _;have di:=ao.new wr 59 #[.int .i64 x.idx,.int .i64 x.term,.int .i64 x.op,.int .i64 x.sess,.int .i64 x.seq,.slice B1 m1 d1];have f2:=f1.keep (bA.below (S:=S) aI);have gJ:=ab hb aI zl;clear hx yr f1;have aH:=sN S x B1 m1 d1 (wr.alloc (.cells #[.int .i64 x.idx,.int .i64 x.term,.int .i64 x.op,.int .i64 x.sess,.int .i64 x.seq,.slice B1 m1 d1] 59)) f2 (Nat.le_trans l1 l2);unfold mM at aH;go_wp2_with fail;generalize wr.alloc (.cells #[.int .i64 x.idx,.int .i64 x.term,.int .i64 x.op,.int .i64 x.sess,.int .i64 x.seq,.slice B1 m1 d1] 59)=w2 at *;refine aH.mono ?_;rintro e w3 ⟨rfl,bN⟩;have b3:=di.kept bN;obtain⟨a0,a1,-⟩:=b3.cs [0,1];simp only[Zx]at a0 a1;have eF:=ab gJ bN zl;clear aH;cases hp:dM x with
   | false=>
    have Hf:=zH (He.out.trans (show _=false by unfold bI;rw[hp];rfl));go_wp2_with fail;go_ret;exact⟨by rw[Hf.out];rfl,eF⟩
   | true=>
    by_cases DM:x.idx=idx+1+k
    ·by_cases ht:term'<=x.term
     ·have Hf:=zH (He.out.trans (show _=bI idx (k+1) x.term ((zs.map (·.2)).drop (k+1)) by
       show(dM x&&(decide (x.idx=idx+1+k)&&(decide (term'<=x.term)&&_)))=_;rw[hp,decide_eq_true DM,decide_eq_true ht];rfl))
      have QL:(x.idx==idx+1+k)=true:=beq_iff_eq.2 DM;have QM:(x.idx !=idx+1+k)=false:=by rw[bne,QL];rfl
      have DM:=zH DM;generalize x.idx=xi at *;generalize x.term=xt at *;go_wp2_with fail;exact⟨⟨k+1,_,aU,by go_num,rfl,Hf.out,eF⟩,by simp[intOf];exact aO.out⟩
     ·have Hf:=zH (He.out.trans (show _=false by
       show(dM x&&(decide (x.idx=idx+1+k)&&(decide (term'<=x.term)&&_)))=_;rw[decide_eq_false ht];simp))
      have QL:(x.idx==idx+1+k)=true:=beq_iff_eq.2 DM;have QM:(x.idx !=idx+1+k)=false:=by rw[bne,QL];rfl
      have DM:=zH DM;have J4:x.term<term':=by omega
      generalize x.idx=xi at *;generalize x.term=xt at *;go_wp2_with fail;go_ret;exact⟨by rw[Hf.out];rfl,eF⟩
    ·have Hf:=zH (He.out.trans (show _=false by
      show(dM x&&(decide (x.idx=idx+1+k)&&(decide (term'<=x.term)&&_)))=_;rw[decide_eq_false DM];simp))
     have QL:(x.idx==idx+1+k)=false:=beq_eq_false_iff_ne.2 DM;have QM:(x.idx !=idx+1+k)=true:=by rw[bne,QL];rfl
     generalize x.idx=xi at *;generalize x.term=xt at *;go_wp2_with fail;go_ret;exact⟨by rw[Hf.out];rfl,eF⟩
  ·obtain rfl:k=n:=by omega
   have Hf:=zH (He.out.trans (show _=true by rw[List.drop_eq_nil_of_le (by rw[List.length_map,H1.out];omega)];rfl));go_wp2_with fail;go_ret;exact⟨by rw[Hf.out];rfl,hb⟩
theorem GB{t:bD}{i term:Int}{k:Nat}{x:En}(hx:t.L[k]?=some x)(hh:kG i term x=true)(hn:∀j y,k<j->t.L[j]?=some y->kG i term y=false):t.hintF i term=x.idx:=by
 unfold bD.hintF;have e:t.L=t.L.take k++x::t.L.drop (k+1):=by rw[<-iq hx,List.take_append_drop]
 have e2:(t.L.drop (k+1)).filter (kG i term)=[]:=by
  rw[List.filter_eq_nil_iff];intro y hy;obtain⟨j,hj,rfl⟩:=List.getElem_of_mem hy;have:=hn (k+1+j) _ (by omega) (by rw[<-List.getElem?_drop,List.getElem?_eq_getElem hj]);rw[this];simp
 rw[e,List.filter_append,List.filter_cons,if_pos hh,e2,List.getLast?_append];rfl
theorem BC{t:bD}{i term:Int}(hn:∀(j:Nat) y,t.L[j]?=some y->kG i term y=false):t.hintF i term=t.index:=by
 unfold bD.hintF;have e2:t.L.filter (kG i term)=[]:=by
  rw[List.filter_eq_nil_iff];intro y hy;obtain⟨j,hj,rfl⟩:=List.getElem_of_mem hy;rw[hn j _ (List.getElem?_eq_getElem hj)];simp
 rw[e2];rfl
section
variable {B:Nat}{S:Nat->Prop}{w:World}{g n c:Nat}{t:bD}{A:Option Addr}{zs:List (Value×En)}
theorem EN(i term:Int)(h:cX B S w g t A n c zs)(hn:n<=1000000):Calls prog 136 #[.pointer (some ⟨g,0,none⟩),.int .i64 i,.int .i64 term] w fun e w'=>e=.returned (.int .i64 (t.hintF i term))/\Below w.heap.size w w':=by
 have hl:=zH h.len.1;obtain⟨q0,q1,q2⟩:=h.cells;go_enter func136,ntmps136;go_wp2_with fail
 go_loopw [14] (fun i' wr=>∃k:Nat,k<=n/\i'=.int .i64 k/\(∀j y,n-k<=j->t.L[j]?=some y->kG i term y=false)/\Below w.heap.size w wr) (fun i _=>n-(intOf i).toNat)
 case atStart=>exact⟨0,Nat.zero_le _,rfl,fun j y hj hy=>by have:=(List.getElem?_eq_some_iff.1 hy).1;rw[<-hl.out]at this;omega,Below.refl _ _⟩
 case round=>
  obtain⟨k,hk,rfl,dO,hb⟩:=hrel;have Hno:=zH dO;clear dO;have h':=h.below hb;obtain⟨p0,p1,p2⟩:=h'.cells;by_cases aU:k<n
  ·obtain⟨m,hm⟩:∃m:Nat,n-1-k=m:=⟨_,rfl⟩;have CK:(n:Int)-1-(k:Int)=(m:Int):=by omega
   obtain⟨ad,v1,x,rfl,hx,c0,c1,c2,c3,c4,c5⟩:=h'.rd.at_ (k:=m) (by omega);have xy:t.L[m]?=some x:=by rw[<-h.l,List.getElem?_map,hx];rfl
   have Rg:m<n:=by omega
   have aO:=zH (show n-(k+1)<n-k by omega);have hm:=zH hm;obtain⟨B1,m1,d1,ci,_,_,_⟩:=(h'.d _ (List.mem_of_getElem? hx)).form;obtain rfl:v1=_:=ci;clear hx;have e1:IntKind.i64.wrap ((n:Int)-1)=(n:Int)-1:=IntWalk.i64_in _ (by omega);have e2:IntKind.i64.wrap ((n:Int)-1-(k:Int))=(m:Int):=by rw[CK];exact IntWalk.i64_in _ (by omega)
   have la:=ar c0;obtain⟨kg,k0,k1,k2,k3,k4,k5⟩:=LV [g,(ad.add (m*6)).block] p2 c0 c1 c2 c3 c4 c5;have cW:=h'.b.lt;have dA:∀q∈[g,(ad.add (m*6)).block],q<wr.heap.size:=by simp;exact⟨cW,la⟩
   clear CK c0 c1 c2 c3 c4 c5 p0 p1 p2;have DG:Below w.heap.size w (wr.alloc (.cells #[.int .i64 x.idx,.int .i64 x.term,.int .i64 x.op,.int .i64 x.sess,.int .i64 x.seq,.slice B1 m1 d1] 59)).drew:=ay (ab hb (zb.alloc zl _) zl) 1;have qi:Below wr.heap.size wr (wr.alloc (.cells #[.int .i64 0,.int .i64 0,.int .i64 0,.int .i64 0,.int .i64 0,.slice none 0 0] 59)).drew:=ay (zb.alloc zl _) 1;cases hh:kG i term x with
   | true=>
    have Hf:=zH (GB xy hh fun j y hj hy=>Hno.out j y (by have:=hm.out;omega) hy);have Y9:x.idx<i/\x.term<=term:=by
     unfold kG at hh;rw[Bool.and_eq_true,decide_eq_true_eq,decide_eq_true_eq]at hh;exact hh
    obtain⟨i1,i2⟩:=Y9;have i3:=Int.not_lt.2 i2;clear xy hh;go_wp2_with fail;refine nj [g,(ad.add (m*6)).block] wr [([0,1,2,3,4,5,6,7,8,9,10,11,12,13],14)] ([],15) ?_;refine aq fun K1 cQ=>?_
    simp only[ah,Zx];repeat go_big_quiet_step(fail)
    apply wpQuiet_nil;go_wp2_with fail;refine⟨av dA qi,cQ _ _ ?_⟩;refine aC ?_;simp only[ah,Zx];repeat go_big_quiet_step(fail)
    apply wpQuiet_nil;go_wp2_with fail;go_ret;exact⟨by rw[Hf.out];rfl,DG⟩
   | false=>
    have Hst:=zH (show ∀j y,n-(k+1)<=j->t.L[j]?=some y->kG i term y=false from fun j y hj hy=>by
     rcases Nat.lt_or_ge m j with h1|h1
     ·exact Hno.out j y (by have:=hm.out;omega) hy
     ·obtain rfl:j=m:=by have:=hm.out;omega
      obtain rfl:x=y:=Option.some.inj (xy.symm.trans hy);exact hh)
    clear xy;by_cases i1:x.idx<i
    ·have i2:term<x.term:=by
      unfold kG at hh;rw[decide_eq_true i1,Bool.true_and,decide_eq_false_iff_not]at hh;omega
     have i3:=Int.not_le.2 i2;clear hh;go_wp2_with fail;refine nj [g,(ad.add (m*6)).block] wr [([0,1,2,3,4,5,6,7,8,9,10,11,12,13],14)] ([],15) ?_;refine aq fun K1 cQ=>?_
     simp only[ah,Zx];repeat go_big_quiet_step(fail)
     apply wpQuiet_nil;go_wp2_with fail;refine⟨av dA qi,cQ _ _ ?_⟩;refine aC ?_;simp only[ah,Zx];repeat go_big_quiet_step(fail)
     apply wpQuiet_nil;go_wp2_with fail;exact⟨⟨k+1,aU,by go_num,Hst.out,DG⟩,by simp[intOf];exact aO.out⟩
    ·clear hh;go_wp2_with fail;refine nj [g,(ad.add (m*6)).block] wr [([0,1,2,3,4,5,6,7,8,9,10,11,12,13],14)] ([],15) ?_;refine aq fun K1 cQ=>?_
     simp only[ah,Zx];repeat go_big_quiet_step(fail)
     apply wpQuiet_nil;go_wp2_with fail;refine⟨av dA qi,cQ _ _ ?_⟩;refine aC ?_;simp only[ah,Zx];repeat go_big_quiet_step(fail)
     apply wpQuiet_nil;go_wp2_with fail;exact⟨⟨k+1,aU,by go_num,Hst.out,DG⟩,by simp[intOf];exact aO.out⟩
  ·obtain rfl:k=n:=by omega
   have Hf:=zH (BC (t:=t) (i:=i) (term:=term) fun j y hy=>Hno.out j y (by omega) hy);go_wp2_with fail;go_ret;exact⟨by rw[Hf.out];rfl,hb⟩
end
structure Fr(X:Nat->Prop)(w w':World):Prop where
 os:w'.os=w.os
 tape:w'.tape=w.tape
 output:w'.output=w.output
 size:w.heap.size<=w'.heap.size
 block:∀k,k<w.heap.size->¬X k->w'.heap[k]?=w.heap[k]?
section
variable {X X' S:Nat->Prop}{B:Nat}{w w' w'':World}
theorem Fr.refl(X:Nat->Prop)(w:World):Fr X w w:=⟨rfl,rfl,rfl,Nat.le_refl _,fun _ _ _=>rfl⟩
theorem Fr.of_below(h:Below w.heap.size w w'):Fr X w w':=⟨h.os,h.tape,h.output,h.size,fun k hk _=>h.block k hk⟩
theorem Fr.trans(h:Fr X w w')(h':Fr X' w' w'')(hX:∀j,X' j->X j\/w.heap.size<=j):Fr X w w'':=
 ⟨h'.os.trans h.os,h'.tape.trans h.tape,h'.output.trans h.output,Nat.le_trans h.size h'.size,fun k hk hn=>
  (h'.block k (Nat.lt_of_lt_of_le hk h.size) fun hx=>(hX k hx).elim hn fun h0=>absurd h0 (by omega)).trans (h.block k hk hn)⟩
theorem Fr.mono(h:Fr X w w')(hX:∀j,X j->X' j):Fr X' w w':=⟨h.os,h.tape,h.output,h.size,fun k hk hn=>h.block k hk fun hx=>hn (hX k hx)⟩
theorem Fr.below(h:Fr X w w')(hX:∀j,X j->B<=j)(hB:B<=w.heap.size):Below B w w':=
 ⟨h.os,h.tape,h.output,h.size,fun k hk=>h.block k (by omega) fun hx=>absurd (hX k hx) (by omega)⟩
theorem Fr.stay(h:Fr X w w')(hS:∀j,S j->j<w.heap.size->¬X j):bA S w w':=fun j h1 h2=>h.block j h2 (hS j h1 h2)
theorem Fr.set(g i:Nat)(u:Value):Fr (fun j=>j=g) w (w.setCell ⟨g,i,none⟩ u):=
 have h:=(Below.refl g w).setCell (show g<=(⟨g,i,none⟩:Addr).block from Nat.le_refl _) u
 ⟨h.os,h.tape,h.output,h.size,fun k _ hn=>Below.heap_setCell w _ u k hn⟩
end
theorem Fr.grown{w w':World}{A:Option Addr}{n c:Nat}(hg:w.grownBy w' (Value.slice A n c).ownBlock):Fr (aA A) w w':=
 have h:=(Below.refl 0 w).grown hg zz (fun _ _=>Nat.zero_le _)
 ⟨h.os,h.tape,h.output,h.size,fun k hk hn=>hg.block k hk fun e=>hn (by
  cases A with
  | none=>cases e
  | some ad=>exact⟨ad,rfl,by injection e with e;exact e.symm⟩)⟩
theorem iA{w:World}{A A':Option Addr}{n c n' c':Nat}(h:(Value.slice A' n' c').ownBlock=(Value.slice A n c).ownBlock\/(Value.slice A' n' c').ownBlock=some w.heap.size):∀j,aA A' j->aA A j\/w.heap.size<=j:=by
 rintro j ⟨ad,rfl,rfl⟩;rcases h with h|h
 ·cases A with
  | none=>cases h
  | some ad'=>exact .inl ⟨ad',rfl,by injection h with h;exact h.symm⟩
 ·injection h with h;exact .inr (by have h:ad.block=w.heap.size:=h;omega)
theorem xX:(prog.info? 59).map (fun i=>(i.zero,i.size,i.bytes))=some (some (.agg #[.int .i64 0,.int .i64 0,.int .i64 0,.int .i64 0,.int .i64 0,.slice none 0 0]),6,64):=by kernel_rfl
theorem Cv{ys:List (Value×En)}(h1:∀z∈ys,z.1.oneCell'=true):∀u∈ys.flatMap cl,u.oneCell'=true:=fun u hu=>by
 obtain⟨z,hz,hu⟩:=List.mem_flatMap.1 hu;simp only[cl,List.mem_cons,List.not_mem_nil,or_false]at hu;rcases hu with rfl|rfl|rfl|rfl|rfl|rfl
 all_goals first|rfl|exact h1 z hz
theorem bo.one{S:Nat->Prop}{w:World}{zs:List (Value×En)}(h:bo S w zs):∀z∈zs,z.1.oneCell'=true:=fun z hz=>by
 obtain⟨_,_,_,e,_⟩:=(h z hz).form;rw[e];rfl
theorem aW{w:World}{ops:Array Oper}{rest:List Oper}{o:Oper}{a:Act}{Q:Exit->Act->World->Prop}(lq:o.guard=none)(s x:Operand)
  (ho:o.op=.call {callee:=.builtin .append,args:=#[s,x],argTypes:=#[27,27]})
  (base:Nat) {A:Option Addr} {n c:Nat} {zs:List (Value×En)} (hs:a.eval s=.slice A n c) (aB:w.ownsRow base 59 6 (.slice A n c) n (zs.flatMap cl))
  {B:Option Addr} {m d:Nat} {ys:List (Value×En)} (hx:a.eval x=.slice B m d) (hr:ff w B m ys) (h1:∀z∈ys,z.1.oneCell'=true) (hb:n+m<=1000000000) (bE:base<=w.heap.size)
  (h:∀A' c' w',w'.ownsRow base 59 6 (.slice A' (n+m) c') (n+m) ((zs++ys).flatMap cl)->Fr (aA A) w w'->Below base w w'->(∀j,aA A' j->aA A j\/w.heap.size<=j)->wpList prog ops Q rest (a.put o.dst (.slice A' (n+m) c')) w'):wpList prog ops Q (o::rest) a w:=by
 obtain⟨i0,iF,jT,iW,gC⟩:=info_parts xX;refine bg w lq s x 27 ho base 59 i0 _ 6 64 underlying27 iF jT iW gC rfl (by omega) (.slice A n c) n _ hs aB B m d _ hx hr (Cv h1) (by unfold maxLen;omega) (by omega) bE fun A' c' w' h3 h4 h5=>?_
 rw[<-List.flatMap_append]at h3;exact h A' c' w' h3 (Fr.grown h4) (eS aB h4 bE) (iA h5)
theorem ff.one{w:World}{g:Nat}{z:Value×En}(hg:ao w g 59 (cl z).toArray):ff w (some ⟨g,0,none⟩) 1 [z]:=
 ⟨rfl,fun _=>⟨_,rfl,fun j y hy=>by
  have e:(⟨g,0,none⟩:Addr).add j=⟨g,j,none⟩:=by unfold Addr.add;split <;> simp[*]
  rw[e,hg.cell j,<-hy];simp⟩⟩
theorem bq.row{L:List TypeId}{w w':World}{base size n c:Nat}{e:TypeId}{A:Option Addr}{xs:List Value}(h:w.ownsRow base e size (.slice A n c) n xs)(hf:Fr (aA A) w w')(he:e∉L):bq L w w':=fun j hj=>by
 obtain⟨cs,fz,ty,h7,h8⟩:=hj;refine hf.block j (aV h7) fun hx=>?_
 obtain⟨_,_,cs',h9⟩:=aw h A c rfl j hx;rw[h9]at h7;injection h7 with h7;injection h7 with _ h7;exact he (h7▸h8)
def Wx(B:Nat)(w:World)(A:Option Addr)(n c:Nat)(zs:List (Value×En)):Prop:=
 (c=n/\ff w A n zs/\∀z∈zs,z.1.oneCell'=true)\/w.ownsRow B 59 6 (.slice A n c) n (zs.flatMap cl)
theorem pt{w:World}{ops:Array Oper}{rest:List Oper}{o:Oper}{a:Act}{Q:Exit->Act->World->Prop}(lq:o.guard=none)(s x:Operand)
  (ho:o.op=.call {callee:=.builtin .append,args:=#[s,x],argTypes:=#[27,27]})
  (base:Nat) {A:Option Addr} {n c:Nat} {zs:List (Value×En)} (hs:a.eval s=.slice A n c) (aB:Wx base w A n c zs)
  (g:Nat) {z:Value×En} (hx:a.eval x=.slice (some ⟨g,0,none⟩) 1 1) (hg:ao w g 59 (cl z).toArray) (h1:z.1.oneCell'=true) (hb:n<=100000000) (bE:base<=w.heap.size)
  (h:∀A' c' w',w'.ownsRow base 59 6 (.slice A' (n+1) c') (n+1) ((zs++[z]).flatMap cl)->Below base w w'->(∀L,59∉L->bq L w w')->Fr (aA A) w w'->wpList prog ops Q rest (a.put o.dst (.slice A' (n+1) c')) w'):wpList prog ops Q (o::rest) a w:=by
 obtain⟨i0,iF,jT,iW,gC⟩:=info_parts xX;have hr:=ff.one hg;have Sy:∀y∈[z],y.1.oneCell'=true:=fun y hy=>by rw[List.mem_singleton.1 hy];exact h1
 rcases aB with⟨rfl,gp,h1z⟩|aB
 ·have GQ:A=none->c=0/\c=0:=fun e=>by
   rcases Nat.eq_zero_or_pos c with h0|h0
   ·exact⟨h0,h0⟩
   ·obtain⟨ad,e',_⟩:=gp.2 h0;rw[e]at e';cases e'
  refine wpList_append_grows w lq s x 27 ho 59 i0 _ 6 64 underlying27 iF jT iW gC rfl (by omega) A c c (zs.flatMap cl) hs GQ gp.1 (fun b hb j y hy=>?_) ⟨g,0,none⟩ 1 1 ([z].flatMap cl) hx rfl (fun j y hy=>?_) (Cv Sy) (by omega) (by unfold maxLen;omega) (by omega) fun v' w' h3 h4=>?_
  ·have hl:=(List.getElem?_eq_some_iff.1 hy).1;have h0:0<c:=by have:=gp.1;omega
   obtain⟨ad,e,hc⟩:=gp.2 h0;obtain rfl:=Option.some.inj (hb.symm.trans e);exact hc j y hy
  ·obtain⟨ad,e,hc⟩:=hr.2 (by omega);obtain rfl:=Option.some.inj e;exact hc j y hy
  ·obtain⟨A',c',rfl,_⟩:=sh h3;have iv:Below w.heap.size w w':=zb.grown h4 zl (fun k hk=>by cases hk);rw[<-List.flatMap_append]at h3;exact h A' c' w' (eB h3 bE) (iv.mono bE) (fun L _=>bq.below iv) (Fr.of_below iv)
 ·refine aW lq s x ho base hs aB hx hr Sy (by omega) bE fun A' c' w' h3 h4 h5 h6=>h A' c' w' h3 h5 (fun L hL=>bq.row aB h4 hL) h4
def iK(i tm:Int):Bool:=(decide (i=0)&&decide (tm=0))||(eA i 1&&eA tm 1)
theorem KC{i tm:Int}(hb:iK i tm=true)(w:World):Calls prog 38 #[.int .i64 i,.int .i64 tm] w fun e w'=>e=.returned (.pointer (some ⟨w.heap.size,0,none⟩))/\ao w' w.heap.size 152 #[.int .i64 i,.int .i64 tm,.slice none 0 0]/\Below w.heap.size w w':=by
 have hA:Below w.heap.size w (w.alloc (.cells #[.int .i64 i,.int .i64 tm,.slice none 0 0] 152)):=zb.alloc zl _;have hk:=ao.new w 152 #[.int .i64 i,.int .i64 tm,.slice none 0 0];by_cases h0:i=0/\tm=0
 ·obtain⟨rfl,rfl⟩:=h0;go_enter func38,ntmps38;go_wp2_with fail;go_ret;exact⟨rfl,hk,hA⟩
 ·have h1:eA i 1=true/\eA tm 1=true:=by
   unfold iK at hb;rw[Bool.or_eq_true,Bool.and_eq_true,Bool.and_eq_true,decide_eq_true_eq,decide_eq_true_eq]at hb;exact hb.resolve_left h0
  have h2:i≠0:=by
   rintro rfl;have:=h1.1;simp[eA]at this
  clear h0 hb;go_enter func38,ntmps38;go_wp2_with fail;refine(pT _ _).mono ?_;rintro e w1 ⟨rfl,rfl⟩;rw[h1.1];go_wp2_with fail;refine(pT _ _).mono ?_;rintro e w1 ⟨rfl,rfl⟩;rw[h1.2];go_wp2_with fail;go_ret;exact⟨rfl,hk,hA⟩
theorem ib{α:Type}{l:List α}{i:Nat}{x:α}(h:l[i]?=some x):l.take (i+1)=l.take i++[x]:=by rw[List.take_add_one,h];rfl
section
variable {B:Nat}{S:Nat->Prop}{w:World}{g n c:Nat}{t:bD}{A:Option Addr}{zs:List (Value×En)}
theorem nL(h:cX B S w g t A n c zs)(hn:n<=1000000):Calls prog 44 #[.pointer (some ⟨g,0,none⟩)] w fun e w'=>e=.returned (.tuple #[.int .i64 t.lastF.1,.int .i64 t.lastF.2])/\Below w.heap.size w w':=
 (Af h hn).mono (by rintro e w' ⟨rfl,q,rfl⟩;exact⟨rfl,ay zb q⟩)
theorem jG(i:Int)(h:cX B S w g t A n c zs)(hn:n<=1000000):Calls prog 89 #[.pointer (some ⟨g,0,none⟩),.int .i64 i] w fun e w'=>e=.returned (.tuple #[.int .i64 (t.termF i).1,.int .i64 (t.termF i).2])/\Below w.heap.size w w':=
 (EU i h hn).mono (by rintro e w' ⟨rfl,q,rfl⟩;exact⟨rfl,ay zb q⟩)
def ge(B:Nat)(w:World)(A:Option Addr)(n c:Nat)(zs:List (Value×En))(L:List En):Prop:=
 w.ownsRow B 59 6 (.slice A n c) n (zs.flatMap cl)/\bo (bG TD B w) w zs/\zs.map (·.2)=L
theorem ge.below{w':World}{L:List En}(h:ge B w A n c zs L)(hb:Below w.heap.size w w'):ge B w' A n c zs L:=⟨bf h.1 hb,h.2.1.move (bq.below hb),h.2.2⟩
theorem ge.mono{B':Nat}{L:List En}(h:ge B w A n c zs L)(hb:B'<=B):ge B' w A n c zs L:=⟨eB h.1 hb,h.2.1.mono (bG.wide (fun _ h=>h) hb),h.2.2⟩
theorem ge.nil(B:Nat)(w:World):ge B w none 0 0 [] []:=⟨bX _ _,fun z hz=>(by cases hz),rfl⟩
theorem ge.len{L:List En}(h:ge B w A n c zs L):zs.length=n/\L.length=n:=by
 have h1:=h.1.1;rw[eO eX]at h1;have h2:=congrArg List.length h.2.2;rw[List.length_map]at h2;omega
theorem Cq(i m:Int)(h:cX B S w g t A n c zs)(hn:n<=1000000):Calls prog 131 #[.pointer (some ⟨g,0,none⟩),.int .i64 i,.int .i64 m] w fun e w'=>∃A' n' c' zs',e=.returned (.slice A' n' c')/\ge w.heap.size w' A' n' c' zs' (t.sliceF i m)/\Below w.heap.size w w':=by
 have CI:=h.i.last;have hb:=h.i.b;have hr:=h.i.room;rw[<-h.len.1]at CI hr;have hl:=zH h.len.1;have bH:=nL h hn;rw[CI]at bH;clear CI;go_enter func131,ntmps131;go_wp2_with fail;refine bH.mono ?_;rintro e w1 ⟨rfl,br⟩;have h1:=h.below br;obtain⟨q0,q1,q2⟩:=h1.cells;by_cases i1:i<=t.index
 ·have he:=zH (show t.sliceF i m=[]from if_pos (.inl i1));go_wp2_with fail;go_ret;exact⟨none,0,0,[],rfl,by rw[he.out];exact ge.nil _ _,br⟩
 ·by_cases i2:t.index+n<i
  ·have he:=zH (show t.sliceF i m=[] by
    unfold bD.sliceF;split
    ·rfl
    ·rw[List.drop_eq_nil_of_le (by rw[<-hl.out];omega),List.take_nil])
   go_wp2_with fail;go_ret;exact⟨none,0,0,[],rfl,by rw[he.out];exact ge.nil _ _,br⟩
  ·by_cases i3:m<1
   ·have he:=zH (show t.sliceF i m=[]from if_pos (.inr i3));go_wp2_with fail;go_ret;exact⟨none,0,0,[],rfl,by rw[he.out];exact ge.nil _ _,br⟩
   ·obtain⟨k,hk⟩:∃k:Nat,i-t.index-1=k:=⟨(i-t.index-1).toNat,by omega⟩;have CH:k<n:=by omega
    obtain⟨mm,CK⟩:∃mm:Nat,m=mm:=⟨m.toNat,by omega⟩;subst CK;have he:=zH (show t.sliceF i mm=(t.L.drop k).take mm by
     unfold bD.sliceF;rw[if_neg (by omega),hk];rfl)
    obtain⟨vX,oM⟩:=bB h1.o;obtain⟨ad,v0,x0,rfl,_⟩:=h1.at_ CH;obtain⟨p,hp⟩:∃p:Nat,min mm (n-k)=p:=⟨_,rfl⟩;have GV:min (mm:Int) ((n-k:Nat):Int)=(p:Int):=by omega
    have hpc:p<=c-k:=by omega
    have ZQ:p<=n-k:=by omega
    have AE:¬c=k:=by omega
    have xu:=zH hp;have bS:ff w1 (some (ad.add (k*6))) (n-k) (zs.drop k):=by
     have:=cn.cut (size:=6) h1.rd (k:=k) (by omega) vX;rw[if_neg AE]at this;rw[<-mx eX]at this;exact this
    have ob:bo S w1 (zs.drop k):=h1.d.sub fun y hy=>List.mem_of_mem_drop hy
    have xA:=zH (show(zs.drop k).map (·.2)=t.L.drop k by rw[List.map_drop,h1.l]);have kK:=zH (show ∀z∈zs.drop k,oQ z.2.facts from fun z hz=>lZ (h1.i.plain _ (by rw[<-h1.l];exact List.mem_map_of_mem (List.mem_of_mem_drop hz))));generalize zs.drop k=ys at *;clear hp bH;unfold maxLen at oM;go_wp2_with fail
    go_quiet (fail)
    go_wp2_with fail;clear q0 q1 q2;obtain⟨w2,cZ⟩:=zN (w1.drewN nq);rw[cZ];have bQ:Below w.heap.size w w2:=by rw[<-cZ];exact ay br _
    have bS:ff w2 (some (ad.add (k*6))) (n-k) ys:=by rw[<-cZ];exact bS
    have ob:bo S w2 ys:=by rw[<-cZ];exact ob
    clear cZ h1 br
    go_loopw [10,52] (fun o i' wr=>∃(j:Nat) (A':Option Addr) (c':Nat) (zs':List (Value×En)),j<=p/\i'=.int .i64 j/\o=.slice A' j c'/\ge w2.heap.size wr A' j c' zs' ((t.L.drop k).take j)/\Below w2.heap.size w2 wr) (fun _ i' _=>p-(intOf i').toNat)
    case atStart=>exact⟨0,none,0,[],Nat.zero_le _,rfl,rfl,ge.nil _ _,Below.refl _ _⟩
    case round=>
     obtain⟨j,A',c',zs',hj,rfl,rfl,hE,gL⟩:=hrel;by_cases aU:j<p
     ·obtain⟨cd,v1,x,Xg,hx,c0,c1,c2,c3,c4,c5⟩:=(bS.below gL).at_ (show j<n-k by omega);obtain rfl:ad.add (k*6)=cd:=Option.some.inj Xg;have f1:=(ob _ (List.mem_of_getElem? hx)).keep (bA.below (S:=S) gL);have BN:=kK.out _ (List.mem_of_getElem? hx);obtain⟨B1,m1,d1,ci,l1,l2,l3⟩:=f1.form;obtain rfl:v1=_:=ci;have cx:=zH (ib (show(t.L.drop k)[j]?=some x by rw[<-xA.out,List.getElem?_map,hx];rfl));have aO:=zH (show p-(j+1)<p-j by omega);have aI:Below wr.heap.size wr (wr.alloc (.cells #[.int .i64 x.idx,.int .i64 x.term,.int .i64 x.op,.int .i64 x.sess,.int .i64 x.seq,.slice B1 m1 d1] 59)):=zb.alloc zl _;have f2:=f1.keep (bA.below (S:=S) aI);have aH:=oz S x B1 m1 d1 _ f2 BN;unfold mM at aH;have Px:=hE.below aI;have tD:=ab gL aI zl;clear hx f1 f2 Xg hE gL;go_wp2_with fail;generalize wr.alloc (.cells #[.int .i64 x.idx,.int .i64 x.term,.int .i64 x.op,.int .i64 x.sess,.int .i64 x.seq,.slice B1 m1 d1] 59)=w3 at *;refine aH.mono ?_;rintro e w4 ⟨A4,d4,rfl,Jz,cO⟩;have Py:=Px.below cO;have P9:=ab tD cO zl;have Jz:=Jz.mono (bG.wide (L:=TD) (fun _ h=>h) tD.size);have dX:Below w4.heap.size w4 (w4.alloc (.cells #[.int .i64 x.idx,.int .i64 x.term,.int .i64 x.op,.int .i64 x.sess,.int .i64 x.seq,.slice A4 m1 d4] 59)):=zb.alloc zl _;have di:=ao.new w4 59 (cl (.slice A4 m1 d4,x)).toArray;have SA:=Py.below dX;have UE:=Jz.move (bq.below dX);have Qa:=ab P9 dX zl;have Zl:j+1<=1000000000:=by omega
      clear Px Py Jz P9 tD aH;go_wp2_with (at_builtin;refine aW rfl (.tmp 56) (.tmp 59) rfl w2.heap.size rfl SA.1 rfl (ff.one di) (fun y hy=>by rw[List.mem_singleton.1 hy];rfl) Zl Qa.size ?_;intro A6 c6 w6 eZ hfr6 iT hrow6);have hD:bo (bG TD w2.heap.size w6) w6 (zs'++[(.slice A4 m1 d4,x)]):=(SA.2.1.append fun z hz=>by rw[List.mem_singleton.1 hz];exact UE).move (bq.row SA.1 hfr6 (by decide));have hM:(zs'++[((.slice A4 m1 d4:Value),x)]).map (·.2)=(t.L.drop k).take (j+1):=by rw[List.map_append,SA.2.2,cx.out];rfl
      go_roundw
      case rel=>exact⟨j+1,A6,c6,_,aU,by go_num,rfl,⟨eZ,hD,hM⟩,Qa.trans iT⟩
      case measure=>simp[intOf];exact aO.out
     ·obtain rfl:j=p:=by omega
      go_wp2_with fail;go_ret;refine⟨A',j,c',zs',rfl,?_,ab bQ gL zl⟩;have Qp:t.sliceF i mm=(t.L.drop k).take j:=by
       rw[he.out,<-xu.out];rw[show(t.L.drop k).take mm=(t.L.drop k).take (min mm (n-k)) by
        rw[<-List.take_take,List.take_of_length_le (i:=n-k) (by rw[List.length_drop,<-hl.out];exact Nat.le_refl _)]]
      rw[Qp];exact hE.mono bQ.size
end
end Go.Proofs.YtjcninheccmpoaaGreat
