import Derived.Test.YtjcninheccmpoaaGreatM11
set_option maxRecDepth 100000
set_option maxHeartbeats 8000000
set_option linter.all false
namespace Go.Proofs.YtjcninheccmpoaaGreat
open Go.RowKit Go.Proofs.Tryz
def O2(l:List Value)(b r:Nat)(ok:Bool):Prop:=l.length=191/\l[5]?=some (.pointer (some ⟨b,0,none⟩))/\l[10]?=some (.pointer (some ⟨r,0,none⟩))/\l[14]?=some (.bool ok)
def QN(l:List Value)(b r:Nat)(ok:Bool)(lt:Int):Prop:=l.length=191/\l[5]?=some (.pointer (some ⟨b,0,none⟩))/\l[10]?=some (.pointer (some ⟨r,0,none⟩))/\l[14]?=some (.bool ok)/\l[16]?=some (.int .i64 lt)
theorem Cj{k:Int}{zs:List (Value×En)}{j:Nat}{z:Value×En}(hz:zs[j]?=some z):bU k (zs.take (j+1))=bU k (zs.take j)++(if k<z.2.idx then[z]else[]):=by
 unfold bU;rw[List.take_add_one,hz,List.filter_append];by_cases h:k<z.2.idx
 ·rw[if_pos h,Option.toList_some,List.filter_cons,if_pos (by simp[h])];rfl
 ·rw[if_neg h,Option.toList_some,List.filter_cons,if_neg (by simp[h])];rfl
section
variable {b g gt m1 c1 md cd:Nat}{id n:Int}{A1 Ad:Option Addr}{wx w':World}{K:Act->World->Prop}{Q':Exit->Act->World->Prop}{l:List Value}{s:qm}{H:Ending->World->Prop}{J:World->Prop}{ok:Bool}{li lt:Int}
theorem Y0(hl:LR l b g)(hK:∀l',R9 l' b g (.slice none 0 0)->K ⟨l'.toArray,[]⟩ wx):sQ 6 f14 K Q' l wx:=by
 obtain⟨ah,cA,eR⟩:=hl;obtain⟨fr,rfl,am⟩:=an ah;rw[ia,am _ _ cA,am _ _ eR];clear ah am cA eR;refine cI 6 f14 rfl ?_;go_wp2_with fail;exact⟨rfl,rfl,rfl,rfl⟩
theorem YY(hb:ar wx b 29 (eT s Ad A1 md cd m1 c1)){zs:List (Value×En)}(hr:fu wx A1 m1 zs)(h1:∀z∈zs,z.1.oneCell'=true)(hm:m1<=100000)(hl:R9 l b g (.slice none 0 0))(hK:∀l' w' A' c',R9 l' b g (.slice A' (bU s.snap.idx zs).length c')->w'.ownsRow wx.heap.size 59 6 (.slice A' (bU s.snap.idx zs).length c') (bU s.snap.idx zs).length ((bU s.snap.idx zs).flatMap bY)->Below wx.heap.size wx w'->K ⟨l'.toArray,[]⟩ w'):sP 7 f14 K H l wx:=by
 have xb:=hr.len;have jZ:=hb.lt;obtain⟨ah,cA,eR,sF⟩:=hl;obtain⟨fr,rfl,am⟩:=an ah;rw[ia,am _ _ cA,am _ _ eR,am _ _ sF];clear ah am cA eR sF;refine cI 7 f14 rfl ?_;go_wp2_with fail
 go_loopw [11,12] (fun s11 s12 wr=>∃(j:Nat) (A:Option Addr) (c:Nat),j<=m1/\s12=.int .i64 j/\s11=.slice A (bU s.snap.idx (zs.take j)).length c/\wr.ownsRow wx.heap.size 59 6 (.slice A (bU s.snap.idx (zs.take j)).length c) (bU s.snap.idx (zs.take j)).length ((bU s.snap.idx (zs.take j)).flatMap bY)/\Below wx.heap.size wx wr) (fun _ s12 _=>m1-(intOf s12).toNat)
 case atStart=>exact⟨0,none,0,Nat.zero_le _,rfl,rfl,b9 _ _,Below.refl _ _⟩
 case round=>
  obtain⟨j,A,cc,hj,rfl,rfl,aD,gQ⟩:=hrel;have Fe:=hb.kept gQ;have Ek:fu wr A1 m1 zs:=fu.below hr gQ;obtain⟨y2,y5,-⟩:=Fe.cs [2,5];simp only[eT,vi,Zx]at y2 y5;have Yl:=Fe.lt;have gu:=gQ.size;obtain⟨k,hk⟩:=zN ((bU s.snap.idx (zs.take j)).length);have WA:k<=j:=by
   rw[<-hk];have h2:=List.length_filter_le (fun z:Value×En=>decide (s.snap.idx<z.2.idx)) (zs.take j);have h3:(zs.take j).length<=j:=List.length_take_le _ _;unfold bU;omega
  by_cases xp:j<m1
  ·obtain⟨ad,vf,x,FD,hz,q0,q1,q2,q3,q4,q5⟩:=Ek.at_ xp;have SJ:=h1 _ (List.mem_of_getElem? hz);have aE:=Cj (k:=s.snap.idx) hz;have aP:=zH (show m1-(j+1)<m1-j by omega);have Mq:ad.block<wr.heap.size:=cn.lt Ek (by omega) (by omega) FD;have Ep:(ad.add (j*6)).block=ad.block:=by unfold Addr.add;split <;> rfl
   obtain⟨k5,k2,kq⟩:=sD [b,(ad.add (j*6)).block] y5 y2 q0;subst FD;by_cases hc:s.snap.idx<x.idx
   ·rw[if_pos hc]at aE;have Lr:=aE;have bs:Below wr.heap.size wr ((wr.alloc (.cells (bY (vf,x)).toArray 59)).drew):=((Below.refl wr.heap.size wr).alloc zl _).drew;have gq:fu ((wr.alloc (.cells (bY (vf,x)).toArray 59)).drew) (some ⟨wr.heap.size,0,none⟩) 1 [(vf,x)]:=fu.one (ar.new wr _ _);have lr:=bf aD bs;have tV:=ab gQ bs zl;have rl:=bs.size;have UV:decide (s.snap.idx<x.idx)=true:=decide_eq_true hc;rw[hk]at lr ⊢;have fi:k+1<=1000000000:=by omega
    have bl:wx.heap.size<=((wr.alloc (.cells (bY (vf,x)).toArray 59)).drew).heap.size:=by omega
    have nS:∀z∈[(vf,x)],z.1.oneCell'=true:=fun z xn=>by rw[List.mem_singleton.1 xn];exact SJ
    have aF:∀A3 c3 w3,w3.ownsRow wx.heap.size 59 6 (.slice A3 (k+1) c3) (k+1) ((bU s.snap.idx (zs.take j)++[(vf,x)]).flatMap bY)->Below wx.heap.size ((wr.alloc (.cells (bY (vf,x)).toArray 59)).drew) w3->w3.ownsRow wx.heap.size 59 6 (.slice A3 (bU s.snap.idx (zs.take (j+1))).length c3) (bU s.snap.idx (zs.take (j+1))).length ((bU s.snap.idx (zs.take (j+1))).flatMap bY)/\Below wx.heap.size wx w3/\(bU s.snap.idx (zs.take (j+1))).length=k+1:=fun A3 c3 w3 ho bS=>by
     have e:(bU s.snap.idx (zs.take (j+1))).length=k+1:=by rw[aE,List.length_append,hk];rfl
     rw[e,aE];exact⟨ho,tV.trans bS,rfl⟩
    replace aF:=zH aF;replace aE:=zH aE;replace Lr:=zH Lr;replace hk:=zH hk;replace hc:=zH hc;have O9:=gq;clear Ek hr gQ Fe hb aD gq hz h1 tV bs Ep xb hK;go_wp2_with fail;refine dV [b,(ad.add (j*6)).block] wr [] [0,1,2,3,4,5,6,7,8,9] ?_;refine aj ?_;simp only[af,Zx];repeat go_big_quiet_step(fail)
    apply wpQuiet_nil;go_wp2_with (at_builtin;go_loud (refine aW rfl (.tmp 151) (.tmp 157) rfl wx.heap.size rfl lr rfl O9 nS fi bl ?_;intro A3 c3 w3 I8 uc bS hrw3;obtain⟨Ow,OO,Tw⟩:=aF.out A3 c3 w3 I8 bS;replace Ow:=zH Ow;replace OO:=zH OO;replace Tw:=zH Tw;clear I8 uc bS hrw3));exact⟨⟨j+1,A3,c3,xp,by go_num,by rw[Tw.out],Ow.out,OO.out⟩,by simp[intOf];exact aP.out⟩
   ·rw[if_neg hc,List.append_nil]at aE;have UV:decide (s.snap.idx<x.idx)=false:=decide_eq_false hc;have lr:wr.drew.ownsRow wx.heap.size 59 6 (.slice A (bU s.snap.idx (zs.take (j+1))).length cc) (bU s.snap.idx (zs.take (j+1))).length ((bU s.snap.idx (zs.take (j+1))).flatMap bY):=by
     rw[aE];exact aD
    have tV:Below wx.heap.size wx wr.drew:=gQ.drew;have ah:(bU s.snap.idx (zs.take j)).length=(bU s.snap.idx (zs.take (j+1))).length:=by rw[aE]
    rw[ah];replace lr:=zH lr;replace tV:=zH tV;replace hc:=zH hc;replace hk:=zH hk;clear Ek hr gQ Fe hb aD hz h1 Ep xb hK aE ah;go_wp2_with fail;refine dV [b,(ad.add (j*6)).block] wr [] [0,1,2,3,4,5,6,7,8,9] ?_;refine aj ?_;simp only[af,Zx];repeat go_big_quiet_step(fail)
    apply wpQuiet_nil;go_wp2_with fail;exact⟨⟨j+1,A,cc,xp,by go_num,rfl,lr.out,tV.out⟩,by simp[intOf];exact aP.out⟩
  ·obtain rfl:j=m1:=by omega
   have cf:zs.take j=zs:=by rw[<-xb];exact List.take_length
   rw[cf]at aD hk ⊢;have Ow:=zH aD;have OO:=zH gQ;clear Ek hr gQ Fe hb aD h1;replace hk:=zH hk;go_wp2_with fail;exact hK _ _ _ _ ⟨rfl,rfl,rfl,rfl⟩ Ow.out OO.out
theorem W2(hb:ar wx b 29 (eT s Ad A1 md cd m1 c1))(J6:wx.cell? ⟨g,4,none⟩=some (.pointer (some ⟨gt,0,none⟩))){A2:Option Addr}{m2 c2:Nat}(ht:Calls prog 46 #[.pointer (some ⟨gt,0,none⟩),.int .i64 s.snap.idx,.int .i64 s.snap.term,.slice A2 m2 c2] wx.drew fun e w'=>e=.returned (.tuple #[.int .i64 li,.bool ok])/\J w')(hJ:∀w',J w'->w'.heap[g]?=wx.heap[g]?/\w'.heap[b]?=wx.heap[b]?)(hl:R9 l b g (.slice A2 m2 c2))(hK:∀l' w',O2 l' b g ok->J w'->K ⟨l'.toArray,[]⟩ w'):sP 8 f14 K H l wx:=by
 obtain⟨y2,y3,-⟩:=hb.cs [2,3];simp only[eT,Zx]at y2 y3;obtain⟨k2,k3,k4⟩:=sD [g,b] y2 y3 J6;clear hb;obtain⟨ah,cA,eR,sF⟩:=hl;obtain⟨fr,rfl,am⟩:=an ah;rw[ia,am _ _ cA,am _ _ eR,am _ _ sF];clear ah am cA eR sF;refine cI 8 f14 rfl ?_;go_wp2_with fail;refine dV [g,b] wx [([0,1,2,3,4,5,6,7,8,9,10],11)] [12,13,14,15,16] ?_;refine av fun K1 ct=>?_
 simp only[af,Zx];repeat go_big_quiet_step(fail)
 apply wpQuiet_nil;go_wp2_with fail;refine ht.mono ?_;rintro e w6 ⟨rfl,hj⟩;have KA:=hJ w6 hj;have On:=zH hj;clear ht hJ hj;go_wp2_with fail;refine⟨bO KA.1 KA.2,ct _ _ ?_⟩;refine aj ?_;simp only[af,Zx];repeat go_big_quiet_step(fail)
 apply wpQuiet_nil;go_wp2_with fail;exact hK _ _ ⟨rfl,rfl,rfl,rfl⟩ On.out
theorem Zi(J6:wx.cell? ⟨g,4,none⟩=some (.pointer (some ⟨gt,0,none⟩)))(he:Calls prog 47 #[.pointer (some ⟨gt,0,none⟩)] wx fun e w'=>e=.returned (.tuple #[.int .i64 li,.int .i64 lt])/\J w')(hl:O2 l b g ok)(hK:∀l' w',QN l' b g ok lt->J w'->K ⟨l'.toArray,[]⟩ w'):sQ 9 f14 K Q' l wx:=by
 obtain⟨ah,cA,eR,HH⟩:=hl;obtain⟨fr,rfl,am⟩:=an ah;rw[ia,am _ _ cA,am _ _ eR,am _ _ HH];clear ah am cA eR HH;refine cI 9 f14 rfl ?_;go_wp2_with fail;refine he.mono ?_;rintro e w6 ⟨rfl,hj⟩;replace hj:=zH hj;clear he;go_wp2_with fail;exact hK _ _ ⟨rfl,rfl,rfl,rfl,rfl⟩ hj.out
theorem T4(hb:ar wx b 29 (eT s Ad A1 md cd m1 c1))(hl:QN l b g ok lt)(hH:H (.returned (.tuple #[.pointer (some ⟨g,0,none⟩),.bool (ok&&decide (lt<=s.hard.term))])) wx.drew):tP 10 f14 H l wx:=by
 have y0:=hb.cell 0;simp only[eT,Zx]at y0;have k0:=CV [b] y0;have cu:(ok=false)\/(ok=true/\decide (lt<=s.hard.term)=true)\/(ok=true/\decide (lt<=s.hard.term)=false):=by
  cases ok <;> simp <;> omega
 obtain⟨D,hD⟩:=zN (decide (lt<=s.hard.term));have Mr:=hD;rw[hD]at hH;clear hb;obtain⟨ah,cA,eR,HH,Rc⟩:=hl;obtain⟨fr,rfl,am⟩:=an ah;rw[ia,am _ _ cA,am _ _ eR,am _ _ HH,am _ _ Rc];clear ah am cA eR HH Rc;refine F0 10 f14 rfl ?_;rcases cu with e1|⟨e1,e2⟩|⟨e1,e2⟩
 ·subst e1;replace hH:=zH hH;replace hD:=zH hD;clear Mr;go_wp2_with fail;refine dV [b] wx [] [0,1,2,3,4,5,6,7,8,9,10] ?_;refine aj ?_;simp only[af,Zx];repeat go_big_quiet_step(fail)
  apply wpQuiet_nil;go_wp2_with fail;exact hH.out
 ·subst e1;rw[e2]at Mr;rw[<-Mr]at hH;replace hH:=zH hH;replace hD:=zH hD;clear Mr;go_wp2_with fail;refine dV [b] wx [] [0,1,2,3,4,5,6,7,8,9,10] ?_;refine aj ?_;simp only[af,Zx];repeat go_big_quiet_step(fail)
  apply wpQuiet_nil;go_wp2_with fail;exact hH.out
 ·subst e1;rw[e2]at Mr;rw[<-Mr]at hH;replace hH:=zH hH;replace hD:=zH hD;clear Mr;go_wp2_with fail;refine dV [b] wx [] [0,1,2,3,4,5,6,7,8,9,10] ?_;refine aj ?_;simp only[af,Zx];repeat go_big_quiet_step(fail)
  apply wpQuiet_nil;go_wp2_with fail;exact hH.out
end
def oF(aa:Nat->Nat)(c q:Nat)(w:World)(o:Option Rf)(e:Ending)(w':World):Prop:=
 Below w.heap.size w w'/\((o=none/\∃p,e=.returned (.tuple #[.pointer p,.bool false]))\/∃(R:Rf) (g:Nat) (ak:Nat->Nat) (v':Aw),o=some R/\e=.returned (.tuple #[.pointer (some ⟨g,0,none⟩),.bool true])/\aJ ak c q w' g R v'/\(∀j,j<w.heap.size->ak j=aa j)/\w.heap.size<=g)
def Cu(aa:Nat->Nat)(B c q g gt:Nat)(j:Nat):Nat:=if j=g then c+1 else if j=gt then c+2 else if B<=j then q+c+10 else aa j
section
variable {aa:Nat->Nat}{c q b g gt m1 c1 md cd:Nat}{id n:Int}{A1 Ad:Option Addr}{w wx w':World}{s:qm}
theorem xY{B j:Nat}(h:j<B)(hg:B<=g)(ht:B<=gt):Cu aa B c q g gt j=aa j:=by
 unfold Cu;rw[if_neg (by omega),if_neg (by omega),if_neg (by omega)]
theorem G1{B j:Nat}(h:B<=j)(hg:j≠g)(ht:j≠gt):Cu aa B c q g gt j=q+c+10:=by
 unfold Cu;rw[if_neg hg,if_neg ht,if_pos h]
theorem aJ.new{I M:Nat}(bl:iR s.snap.idx s.snap.term=true)(hD:bM aa q w (.slice Ad md cd) s.snap.data)(hw:Below w.heap.size w w')(h1:w.heap.size<=gt)(h2:gt<g)(hk:ar w' gt 138 #[.int .i64 s.snap.idx,.int .i64 s.snap.term,.slice none 0 0])(hs:ar w' g 122 (bj (fL I M s ⟨s.snap.idx,s.snap.term,[]⟩) ⟨.pointer (some ⟨gt,0,none⟩),.slice Ad md cd,.slice none 0 0,.slice none 0 0,.slice none 0 0,.slice none 0 0,.slice none 0 0,.slice none 0 0,.slice none 0 0,.slice none 0 0,.slice none 0 0⟩)) :
  aJ (Cu aa w.heap.size c q g gt) c q w' g (fL I M s ⟨s.snap.idx,s.snap.term,[]⟩) ⟨.pointer (some ⟨gt,0,none⟩),.slice Ad md cd,.slice none 0 0,.slice none 0 0,.slice none 0 0,.slice none 0 0,.slice none 0 0,.slice none 0 0,.slice none 0 0,.slice none 0 0,.slice none 0 0⟩ where
 s:=hs
 sl:=if_pos rfl
 t:=by
  refine⟨gt,none,0,0,[],rfl,⟨hk,b9 _ _,fun z hz=>(by cases hz),rfl,yZ bl⟩,fun j hj=>?_⟩;rcases hj with rfl|⟨_,e,_⟩
  ·unfold Cu;rw[if_neg (by omega),if_pos rfl]
  ·cases e
 y:=bQ.nil _ _ _ _ _
 p:=bQ.nil _ _ _ _ _
 x:=bQ.nil _ _ _ _ _
 d:=(hD.keep fun j _ hl=>hw.block j hl).relabel_of hw.size (fun j hj=>xY hj (by omega) h1) hD
 gd:=bM.nil _ _ _
 e:=dU.nil _ _ _ _
 co:=dU.nil _ _ _ _
 sd:=bM.nil _ _ _
 r:=bQ.nil _ _ _ _ _
 m:=iE.nil _ _ _ _
theorem Ds(I M:Nat)(ha:aL c q)(hE:cN aa q w (.slice A1 m1 c1) s.entries)(hD:bM aa q w (.slice Ad md cd) s.snap.data)(qy:m1<=100000)(lD:s.snap.data.length=md)(gT:∀j,j<w.heap.size->¬aT aa c j) :
  Calls prog 14 #[.int .i64 I,.int .i64 M,.agg (eT s Ad A1 md cd m1 c1)] w fun e w'=>oF aa c q w (Rf.new I M s) e w':=by
 have aI:Below w.heap.size w (w.alloc (.cells (eT s Ad A1 md cd m1 c1) 29)):=zb.alloc zl _;have gN:=ar.new w 29 (eT s Ad A1 md cd m1 c1);obtain⟨w1,bV⟩:=zN (w.alloc (.cells (eT s Ad A1 md cd m1 c1) 29));rw[bV]at aI gN;refine cP (args:=[.int .i64 I,.int .i64 M,.agg (eT s Ad A1 md cd m1 c1)]) 191 func14 (by kernel_rfl) ntmps14 (by simp) fun la jO fD=>?_
 refine aK (by kernel_rfl) (VH ⟨jO,fD 0 _ rfl,fD 1 _ rfl,fD 2 _ rfl⟩ fun l0 jq=>?_);rw[bV];by_cases h0:((M:Int)<1\/7<(M:Int)\/(I:Int)<1\/(M:Int)<I\/s.hard.term<0\/1099511627776<s.hard.term\/s.hard.vote<0\/(M:Int)<s.hard.vote)
 ·refine aK (by kernel_rfl) (Dh gN h0 jq ?_);refine⟨aI,.inl ⟨tl fun hm=>?_,none,rfl⟩⟩;obtain⟨k1,k2,k3,k4,k5⟩:=hm;omega
 refine aK (by kernel_rfl) (NB gN h0 jq fun l1 cy=>?_);refine aK (by kernel_rfl) (Xx gN cy fun l2 dM=>?_);refine aK (by kernel_rfl) (ZS gN dM fun l3 kr=>?_);by_cases nr:fe s.snap=true
 rotate_left
 ·have e1:decide (s.snap.idx=0/\s.snap.term=0/\md=0)=false:=decide_eq_false fun hh=>nr (by
   unfold fe;rw[if_pos ⟨hh.1,hh.2.1⟩,lD];exact decide_eq_true hh.2.2)
  have e2:decide ((1<=s.snap.idx/\s.snap.idx<=1099511627776)/\(1<=s.snap.term/\s.snap.term<=1099511627776)/\1<=md/\md<=65536)=false:=decide_eq_false fun hh=>nr (by
   unfold fe i9;rw[if_neg (by omega),lD];exact decide_eq_true hh)
  rw[e1,e2]at kr;refine aK (by kernel_rfl) (JD kr ?_);exact⟨aI,.inl ⟨tl fun hm=>nr hm.2.2.2.2,none,rfl⟩⟩
 have mO:jT I M s:=⟨by omega,by omega,by omega,by omega,nr⟩;have Lk:decide (s.snap.idx=0/\s.snap.term=0/\md=0)=true\/decide ((1<=s.snap.idx/\s.snap.idx<=1099511627776)/\(1<=s.snap.term/\s.snap.term<=1099511627776)/\1<=md/\md<=65536)=true:=by
  have eb:=nr;unfold fe i9 at eb;rw[lD]at eb;split at eb
  ·rename_i hz;exact .inl (decide_eq_true ⟨hz.1,hz.2,of_decide_eq_true eb⟩)
  ·exact .inr eb
 refine aK (by kernel_rfl) (NG Lk kr fun l4 nG=>?_);obtain⟨bl,_,_⟩:=nt (i:=s.snap.idx) (t:=s.snap.term) (l:=s.snap.data) nr;refine aK (by kernel_rfl) (XY gN bl nG fun l5 w7 gt g oA io SB J8 hkt AK=>?_);have rl:=aI.size;have qI:Below w.heap.size w w7:=ab aI io zl;have Qi:w.heap.size<=gt:=by omega
 have Wg:=aJ.new (aa:=aa) (c:=c) (q:=q) (w:=w) (I:=I) (M:=M) bl hD qI Qi J8 hkt AK;obtain⟨ag,eV⟩:=zN (Cu aa w.heap.size c q g gt);rw[eV]at Wg;have qH:∀j,j<w.heap.size->ag j=aa j:=fun j hj=>by rw[<-eV];exact xY hj (by omega) Qi
 have rB:∀j,w.heap.size<=j->j≠g->j≠gt->ag j=q+c+10:=fun j hj a b=>by rw[<-eV];exact G1 hj a b
 obtain⟨Ae,ne,ce,zs,pY,EZ,IS,Df,AB,oX,bP⟩:=hE;injection pY with e1 e2 e3;subst e1;subst e2;subst e3;have Ui:fu w7 A1 m1 zs:=fu.below EZ qI;have OX:bq (aQ ag q) w7 zs:=(IS.mono fun j hj e=>(qH j hj).trans e).keep (bz.below qI);have OW:=gN.kept io;refine aK (by kernel_rfl) (Y0 oA fun l6 rf=>?_);refine aK (by kernel_rfl) (YY OW Ui OX.one qy rf fun l7 w8 A' c' xv aD ug=>?_);have Td:=Wg.below ug;have IX:=OW.kept ug;have TZ:bq (aQ ag q) w8 (bU s.snap.idx zs):=fun z hz=>(OX.keep (bz.below ug)) z (List.mem_filter.1 hz).1
 have fi:=bA aD;have ah:(bU s.snap.idx zs).length<=100000:=by
  have h2:=List.length_filter_le (fun z:Value×En=>decide (s.snap.idx<z.2.idx)) zs;have h3:=EZ.len;unfold bU;omega
 obtain⟨p,hp⟩:=zN (bB.takeF (bB.mk s.snap.idx s.snap.term []) s.snap.idx s.snap.term (s.entries.filter fun x=>decide (s.snap.idx<x.idx)));have gp:=wY mO hp;have O7:(bU s.snap.idx zs).map (·.2)=s.entries.filter fun x=>decide (s.snap.idx<x.idx):=by rw[rC,Df]
 have SZ:=Td.below (w':=w8.drew) (zb.drew);have cf:=uD s.snap.idx s.snap.term A' (bU s.snap.idx zs).length c' (bU s.snap.idx zs) ha SZ zz (cn.of_own aD) TZ ah fi.1 fi.2 (fun h0 j hj=>by
  have h9:=aB aD A' c' rfl j hj;rw[rB j (by have:=qI.size;omega) (by have:=AK.lt;omega) (by have:=hkt.lt;omega)];omega)
 have Wf:(fL I M s ⟨s.snap.idx,s.snap.term,[]⟩).track=bB.mk s.snap.idx s.snap.term []:=rfl;rw[O7,Wf,hp]at cf;have qQ:w8.heap[g]?=some (.cells (bj {(fL I M s ⟨s.snap.idx,s.snap.term,[]⟩)with track:=p.2} ⟨.pointer (some ⟨gt,0,none⟩),.slice Ad md cd,.slice none 0 0,.slice none 0 0,.slice none 0 0,.slice none 0 0,.slice none 0 0,.slice none 0 0,.slice none 0 0,.slice none 0 0,.slice none 0 0⟩) 122 (0,0)):=Td.s;have Qo:¬aT ag c w.heap.size:=fun hh=>by
  unfold aT at hh;rw[rB _ zl (by omega) (by have:=gN.lt;omega)]at hh;omega
 have J6:w8.cell? ⟨g,4,none⟩=some (.pointer (some ⟨gt,0,none⟩)):=Td.s.cell 4;refine aK (by kernel_rfl) (W2 (ok:=p.1.2) (li:=p.1.1) (J:=fun w'=>nI ag c q w8.drew g {(fL I M s ⟨s.snap.idx,s.snap.term,[]⟩)with track:=p.2} ⟨.pointer (some ⟨gt,0,none⟩),.slice Ad md cd,.slice none 0 0,.slice none 0 0,.slice none 0 0,.slice none 0 0,.slice none 0 0,.slice none 0 0,.slice none 0 0,.slice none 0 0,.slice none 0 0⟩ w') IX J6 cf (fun w' hJ=>?_) xv fun l8 w9 Md hJ9=>?_)
 ·obtain⟨cV,q1,q2,q3⟩:=hJ;exact⟨q1.s.trans qQ.symm,q3.block _ IX.lt Qo⟩
 obtain⟨cV,q1,q2,q3⟩:=hJ9;have Uc:ar w9 w.heap.size 29 (eT s Ad A1 md cd m1 c1):=(q3.block _ IX.lt Qo).trans IX;have UT:w9.cell? ⟨g,4,none⟩=some (.pointer (some ⟨gt,0,none⟩)):=q1.s.cell 4;have Nb:=eJ (bB.mk s.snap.idx s.snap.term []) s.snap.idx s.snap.term (s.entries.filter fun x=>decide (s.snap.idx<x.idx));rw[hp]at Nb;have mx:p.2.L.length<=1000000:=by
  have h1:p.2.L.length<=([]:List En).length+_:=Nb.2.1;have h2:(s.entries.filter fun x=>decide (s.snap.idx<x.idx)).length<=100000:=by rw[<-O7,List.length_map];exact ah
  simp only[List.length_nil]at h1;omega
 have bI:=jE q1.t mx;refine aK (by kernel_rfl) (Zi (J:=fun w'=>Below w9.heap.size w9 w') UT bI Md fun l9 w10 Nr xe=>?_);have QT:=Uc.kept xe;refine T4 QT Nr ?_;have IG:=ug.size;have ZV:=qI.size;have YB:=q3.size;have NI:Below w.heap.size w w10.drew:=by
  refine⟨?_,?_,?_,?_,fun k hk=>?_⟩
  ·exact(xe.os.trans (q3.os.trans ug.os)).trans qI.os
  ·exact(xe.tape.trans (q3.tape.trans ug.tape)).trans qI.tape
  ·exact(xe.output.trans (q3.output.trans ug.output)).trans qI.output
  ·have:=xe.size;show w.heap.size<=w10.heap.size;have:w8.drew.heap.size=w8.heap.size:=rfl;omega
  ·have nz:w10.heap[k]?=w9.heap[k]?:=xe.block k (by have:w8.drew.heap.size=w8.heap.size:=rfl;omega);have h9:w9.heap[k]?=w8.heap[k]?:=q3.block k (by show k<w8.heap.size;omega) fun hh=>gT k hk (by unfold aT at hh ⊢;rw[qH k hk]at hh;exact hh)
   exact nz.trans (h9.trans ((ug.block k (by omega)).trans (qI.block k hk)))
 refine⟨NI,?_⟩;rw[gp];by_cases hc:p.1.2=false\/s.hard.term<p.2.lastF.2
 ·rw[if_pos hc];refine .inl ⟨rfl,some ⟨g,0,none⟩,?_⟩;have e:(p.1.2&&decide (p.2.lastF.2<=s.hard.term))=false:=by
   rcases hc with h|h
   ·rw[h];rfl
   ·rw[decide_eq_false (by omega),Bool.and_false]
  show Ending.returned (.tuple #[.pointer (some ⟨g,0,none⟩),.bool (p.1.2&&decide (p.2.lastF.2<=s.hard.term))])=_;rw[e]
 ·rw[if_neg hc];have e:(p.1.2&&decide (p.2.lastF.2<=s.hard.term))=true:=by
   have h1:p.1.2=true:=by simpa using fun h=>hc (.inl h)
   rw[h1,decide_eq_true (by omega)];rfl
  refine .inr ⟨fL I M s p.2,g,cV,_,rfl,?_,(q1.below xe).below (zb.drew),fun j hj=>(q2 j (by show j<w8.heap.size;omega)).trans (qH j hj),by omega⟩;show Ending.returned (.tuple #[.pointer (some ⟨g,0,none⟩),.bool (p.1.2&&decide (p.2.lastF.2<=s.hard.term))])=_;rw[e]
theorem FW(id n:Int)(ha:aL c q)(hE:cN aa q w (.slice A1 m1 c1) s.entries)(hD:bM aa q w (.slice Ad md cd) s.snap.data)(qy:m1<=100000)(lD:s.snap.data.length=md)(gT:∀j,j<w.heap.size->¬aT aa c j) :
  Calls prog 14 #[.int .i64 id,.int .i64 n,.agg (eT s Ad A1 md cd m1 c1)] w fun e w'=>oF aa c q w (Rf.new id n s) e w':=by
 by_cases h:0<=id/\0<=n
 ·obtain⟨N,rfl⟩:∃N:Nat,n=N:=⟨n.toNat,by omega⟩;obtain⟨I,rfl⟩:∃I:Nat,id=I:=⟨id.toNat,by omega⟩;exact Ds I N ha hE hD qy lD gT
 ·have aI:Below w.heap.size w (w.alloc (.cells (eT s Ad A1 md cd m1 c1) 29)):=zb.alloc zl _;have gN:=ar.new w 29 (eT s Ad A1 md cd m1 c1);refine cP (args:=[.int .i64 id,.int .i64 n,.agg (eT s Ad A1 md cd m1 c1)]) 191 func14 (by kernel_rfl) ntmps14 (by simp) fun la jO fD=>?_
  refine aK (by kernel_rfl) (VH ⟨jO,fD 0 _ rfl,fD 1 _ rfl,fD 2 _ rfl⟩ fun l0 jq=>?_);refine aK (by kernel_rfl) (Dh gN (by omega) jq ?_);refine⟨aI,.inl ⟨tl fun hm=>?_,none,rfl⟩⟩;obtain⟨k1,k2,k3,k4,k5⟩:=hm;omega
end
def gP(n:Int)(m:Nat):Nat:=((if n<0 then -(n+1)else n)%(m:Int)).toNat
theorem GL(n:Int){m:Nat}(h:0<m):gP n m<m:=by
 unfold gP;have h1:=Int.emod_lt_of_pos (if n<0 then -(n+1)else n) (b:=(m:Int)) (by omega);have h2:=Int.emod_nonneg (if n<0 then -(n+1)else n) (b:=(m:Int)) (by omega);omega
theorem FL(n:Int){m:Nat}(h:0<m):(if n<0 then -(n+1)else n).tmod m=(gP n m:Nat):=by
 have h2:=Int.emod_nonneg (if n<0 then -(n+1)else n) (b:=(m:Int)) (by omega);unfold gP;rw[Int.toNat_of_nonneg h2];exact Int.tmod_eq_emod_of_nonneg (by split <;> omega)
theorem j6(n:Int)(m:Nat)(w:World)(h1:-9223372036854775808<=n)(h2:n<=9223372036854775807)(hm:0<m)(ui:m<=1000000000) :
  Calls prog 16 #[.int .i64 n,.int .i64 m] w fun e w'=>e=.returned (.int .i64 (gP n m:Nat))/\w=w':=by
 have He:=FL n hm;have h0:((m:Int)==0)=false:=beq_eq_false_iff_ne.2 (by omega);by_cases h:n<0
 ·have hd:decide (n<0)=true:=decide_eq_true h;rw[if_pos h,Int.neg_tmod]at He;have He:=zH He;go_enter func16,ntmps16;go_wp2_with fail;go_ret;refine⟨?_,rfl⟩;rw[<-He.out];rfl
 ·have hd:decide (n<0)=false:=decide_eq_false h;rw[if_neg h,Int.tmod_eq_emod_of_nonneg (by omega)]at He;have He:=zH He;go_enter func16,ntmps16;go_wp2_with fail;go_ret;refine⟨?_,rfl⟩;rw[<-He.out];rfl
theorem vB{A B:Option Addr}{n c d:Nat}{l:List UInt8}{w:World}(h1:Rd w A n l)(h2:Rd w B n l)(hn:n<=maxLen) :
  Calls prog 125 #[.slice A n c,.slice B n d] w fun e w'=>e=.returned (.bool true)/\∃q,w'=w.drewN q:=by
 unfold maxLen at hn;go_enter func125,ntmps125;go_wp2_with fail
 go_loopw [5] (fun i wr=>∃k q:Nat,k<=n/\i=.int .i64 k/\wr=w.drewN q) (fun i _=>n-(intOf i).toNat)
 case atStart=>exact⟨0,0,Nat.zero_le _,rfl,rfl⟩
 case round=>
  obtain⟨k,q,hk,rfl,rfl⟩:=hrel;by_cases aU:k<n
  ·obtain⟨ad,rfl,c1⟩:=h1.at_ aU;obtain⟨ad2,rfl,c2⟩:=h2.at_ aU;generalize l[k]?.getD 0=b at *;go_wp2_with fail
   go_quiet (fail)
   go_wp2_with fail;exact⟨⟨k+1,_,aU,by go_num,rfl⟩,by simp[intOf];omega⟩
  ·go_wp2_with fail;go_ret;exact⟨rfl,q,rfl⟩
theorem pZ(w:World)(q:Nat):Below w.heap.size w (w.drewN q):=aA zb q
theorem vQ(i t:Int){A B:Option Addr}{n c d:Nat}{l:List UInt8}{w:World}(h1:Rd w A n l)(h2:Rd w B n l)(hn:n<=maxLen) :
  Calls prog 71 #[.agg #[.int .i64 i,.int .i64 t,.slice A n c],.agg #[.int .i64 i,.int .i64 t,.slice B n d]] w fun e w'=>e=.returned (.bool true)/\Below w.heap.size w w':=by
 have bs:Below w.heap.size w (w.alloc (.cells #[.int .i64 i,.int .i64 t,.slice A n c] 26)):=zb.alloc zl _;have cl:=ar.new w 26 #[.int .i64 i,.int .i64 t,.slice A n c];obtain⟨w1,bV⟩:=zN (w.alloc (.cells #[.int .i64 i,.int .i64 t,.slice A n c] 26));rw[bV]at bs cl;have bJ:Below w1.heap.size w1 (w1.alloc (.cells #[.int .i64 i,.int .i64 t,.slice B n d] 26)):=zb.alloc zl _;have eb:=ar.new w1 26 #[.int .i64 i,.int .i64 t,.slice B n d];have BV:=cl.kept bJ;have gu:w1.heap.size=w.heap.size+1:=by rw[<-bV];simp
 rw[gu]at eb;have bR:=ab bs bJ zl;have N2:=vB (c:=c) (d:=d) (cn.below h1 bR) (cn.below h2 bR) hn;obtain⟨w2,cw⟩:=zN ((w.alloc (.cells #[.int .i64 i,.int .i64 t,.slice A n c] 26)).alloc (.cells #[.int .i64 i,.int .i64 t,.slice B n d] 26));rw[<-bV,cw]at BV eb bR N2;obtain⟨y0,y1,y2,-⟩:=BV.cs [0,1,2];simp only[Zx]at y0 y1 y2;obtain⟨z0,z1,z2,-⟩:=eb.cs [0,1,2];simp only[Zx]at z0 z1 z2;replace cw:=zH cw;clear bV bs bJ cl gu h1 h2;go_enter func71,ntmps71;go_wp2_with fail;rw[cw.out];try go_wp2_with fail
 refine N2.mono ?_;rintro e w3 ⟨rfl,q,hq⟩;have k0:=BV.drewN q;have k1:=eb.drewN q;have aF:=zH (ab bR (pZ w2 q) zl);rw[<-hq]at k0 k1 aF;obtain⟨u0,u1,u2,-⟩:=k0.cs [0,1,2];simp only[Zx]at u0 u1 u2;obtain⟨v0,v1,v2,-⟩:=k1.cs [0,1,2];simp only[Zx]at v0 v1 v2;clear N2 BV eb k0 k1 y0 y1 y2 z0 z1 z2 hq;go_wp2_with fail;go_ret;exact⟨by simp,aF.out⟩
theorem RdM.at_{w:World}{A:Option Addr}{n k:Nat}{zs:List ((Value×Value)×Mg)}(h:cn w 13 A n (zs.flatMap yL))(hk:k<n) :
  ∃ad ve vd x,A=some ad/\zs[k]?=some ((ve,vd),x)/\w.cell? (ad.add (k*13))=some (vi x.kind)/\w.cell? ⟨(ad.add (k*13)).block,(ad.add (k*13)).off+1,none⟩=some (vi x.frm)/\w.cell? ⟨(ad.add (k*13)).block,(ad.add (k*13)).off+2,none⟩=some (vi x.tgt)/\w.cell? ⟨(ad.add (k*13)).block,(ad.add (k*13)).off+3,none⟩=some (vi x.term)/\w.cell? ⟨(ad.add (k*13)).block,(ad.add (k*13)).off+4,none⟩=some (vi x.idx)/\w.cell? ⟨(ad.add (k*13)).block,(ad.add (k*13)).off+5,none⟩=some (vi x.logTerm)/\w.cell? ⟨(ad.add (k*13)).block,(ad.add (k*13)).off+6,none⟩=some (vi x.commit)/\w.cell? ⟨(ad.add (k*13)).block,(ad.add (k*13)).off+7,none⟩=some (vi x.round)/\w.cell? ⟨(ad.add (k*13)).block,(ad.add (k*13)).off+8,none⟩=some (.bool x.reject)/\w.cell? ⟨(ad.add (k*13)).block,(ad.add (k*13)).off+9,none⟩=some (vi x.offset)/\w.cell? ⟨(ad.add (k*13)).block,(ad.add (k*13)).off+10,none⟩=some (vi x.total)/\w.cell? ⟨(ad.add (k*13)).block,(ad.add (k*13)).off+11,none⟩=some (ve)/\w.cell? ⟨(ad.add (k*13)).block,(ad.add (k*13)).off+12,none⟩=some (vd):=by
 have hl:zs.length=n:=by
  have:=h.1;rw[fv CN]at this;omega
 obtain⟨ad,rfl,hc⟩:=h.2 (by omega);have hz:zs[k]?=some (zs[k]'(by omega)):=List.getElem?_eq_getElem (by omega);obtain⟨⟨⟨ve,vd⟩,x⟩,Qv⟩:∃z,z=zs[k]'(by omega):=⟨_,rfl⟩;rw[<-Qv]at hz;have key:∀j u,j<13->(yL ((ve,vd),x))[j]?=some u->w.cell? (ad.add (k*13+j))=some u:=fun j u hj hu=>hc _ _ ((eo CN hj hz).trans hu)
 have c0:=key 0 _ (by omega) rfl;have c1:=key 1 _ (by omega) rfl;have c2:=key 2 _ (by omega) rfl;have c3:=key 3 _ (by omega) rfl;have c4:=key 4 _ (by omega) rfl;have c5:=key 5 _ (by omega) rfl;have c6:=key 6 _ (by omega) rfl;have c7:=key 7 _ (by omega) rfl;have c8:=key 8 _ (by omega) rfl;have c9:=key 9 _ (by omega) rfl;have c10:=key 10 _ (by omega) rfl;have c11:=key 11 _ (by omega) rfl;have c12:=key 12 _ (by omega) rfl;rw[<-gY,ml _ _ (by omega)]at c1 c2 c3 c4 c5 c6 c7 c8 c9 c10 c11 c12;exact⟨ad,ve,vd,x,rfl,hz,c0,c1,c2,c3,c4,c5,c6,c7,c8,c9,c10,c11,c12⟩
theorem wh{aa ak:Nat->Nat}{i i':Nat}{A B:Option Addr}{n c d:Nat}{xs ys:List ((Value×Value)×Mg)}{w:World}(h1:cn w 13 A n (xs.flatMap yL))(h2:cn w 13 B n (ys.flatMap yL))(he:xs.map (·.2)=ys.map (·.2))(d1:∀z∈xs,kJ aa i w z)(d2:∀z∈ys,kJ ak i' w z)(hn:n<=maxLen) :
  Calls prog 72 #[.slice A n c,.slice B n d] w fun e w'=>e=.returned (.bool true)/\Below w.heap.size w w':=by
 unfold maxLen at hn;have he:=zH he;go_enter func72,ntmps72;go_wp2_with fail
 go_loopw [5] (fun i wr=>∃k:Nat,k<=n/\i=.int .i64 k/\Below w.heap.size w wr) (fun i _=>n-(intOf i).toNat)
 case atStart=>exact⟨0,Nat.zero_le _,rfl,Below.refl _ _⟩
 case round=>
  obtain⟨k,hk,rfl,gQ⟩:=hrel;by_cases aU:k<n
  ·obtain⟨ad,ve,vd,x,hA,hz,p0,p1,p2,p3,p4,p5,p6,p7,p8,p9,p10,p11,p12⟩:=RdM.at_ (cn.below h1 gQ) aU;obtain⟨ve2,vd2,x2,gL⟩:∃a b e,ys[k]?=some ((a,b),e):=by
    obtain⟨_,a,b,e,_,h,_⟩:=RdM.at_ (cn.below h2 gQ) aU;exact⟨a,b,e,h⟩
   have YC:x=x2:=by
    have e:=congrArg (fun l=>l[k]?) he.out;simp only[List.getElem?_map,hz,gL,Option.map_some,Option.some.injEq]at e;exact e
   subst YC;have qy:=d1 _ (List.mem_of_getElem? hz);have ui:=d2 _ (List.mem_of_getElem? gL);obtain⟨⟨Ae,ne,ce,zs,e1,re1,de1,me1,be1,be2,_⟩,Ab,cb,e2,rb1,bb1,bb2,_⟩:=qy;obtain⟨⟨Be,ne2,de,zs2,e3,re2,de2,me2,_,_,_⟩,Bb,db,e4,rb2,_,_,_⟩:=ui;simp only at e1 e2 e3 e4 me1 me2 rb1 rb2 bb1;have iI:ne=x.entries.length:=by rw[<-me1,List.length_map];exact re1.len.symm
   have lB:ne2=x.entries.length:=by rw[<-me2,List.length_map];exact re2.len.symm
   have fV:ne=ne2:=by omega
   rw[fV]at be1;subst fV;obtain⟨nb,lA⟩:=zN (x.data.length);rw[lA]at e2 e4 rb1 rb2 bb1;have Nx:ne<=maxLen:=by omega
   have Nz:nb<=maxLen:=by omega
   clear be1 be2 bb1 bb2;subst e1;subst e2;subst e3;subst e4;subst hA;simp only[vi]at p0 p1 p2 p3 p4 p5 p6 p7 p9 p10;have aI:Below wr.heap.size wr (wr.alloc (.cells #[.int .i64 x.kind,.int .i64 x.frm,.int .i64 x.tgt,.int .i64 x.term,.int .i64 x.idx,.int .i64 x.logTerm,.int .i64 x.commit,.int .i64 x.round,.bool x.reject,.int .i64 x.offset,.int .i64 x.total,.slice Ae ne ce,.slice Ab nb cb] 39)):=zb.alloc zl _;have Iq:=ar.new wr 39 #[.int .i64 x.kind,.int .i64 x.frm,.int .i64 x.tgt,.int .i64 x.term,.int .i64 x.idx,.int .i64 x.logTerm,.int .i64 x.commit,.int .i64 x.round,.bool x.reject,.int .i64 x.offset,.int .i64 x.total,.slice Ae ne ce,.slice Ab nb cb];obtain⟨wA,Bo⟩:=zN (wr.alloc (.cells #[.int .i64 x.kind,.int .i64 x.frm,.int .i64 x.tgt,.int .i64 x.term,.int .i64 x.idx,.int .i64 x.logTerm,.int .i64 x.commit,.int .i64 x.round,.bool x.reject,.int .i64 x.offset,.int .i64 x.total,.slice Ae ne ce,.slice Ab nb cb] 39));rw[Bo]at aI Iq;obtain⟨ad2,ve2,vd2,x3,hB,KK,q0,q1,q2,q3,q4,q5,q6,q7,q8,q9,q10,q11,q12⟩:=RdM.at_ (cn.below h2 (ab gQ aI zl)) aU;rw[gL]at KK;injection KK with KK;injection KK with KK J6;injection KK with hz5 hz6;subst hz5;subst hz6;subst J6;subst hB;simp only[vi]at q0 q1 q2 q3 q4 q5 q6 q7 q9 q10;rw[<-Bo]at q0 q1 q2 q3 q4 q5 q6 q7 q8 q9 q10 q11 q12;have dH:Below wA.heap.size wA (wA.alloc (.cells #[.int .i64 x.kind,.int .i64 x.frm,.int .i64 x.tgt,.int .i64 x.term,.int .i64 x.idx,.int .i64 x.logTerm,.int .i64 x.commit,.int .i64 x.round,.bool x.reject,.int .i64 x.offset,.int .i64 x.total,.slice Be ne de,.slice Bb nb db] 39)):=zb.alloc zl _;have rH:=ar.new wA 39 #[.int .i64 x.kind,.int .i64 x.frm,.int .i64 x.tgt,.int .i64 x.term,.int .i64 x.idx,.int .i64 x.logTerm,.int .i64 x.commit,.int .i64 x.round,.bool x.reject,.int .i64 x.offset,.int .i64 x.total,.slice Be ne de,.slice Bb nb db];have BL:=Iq.kept dH;have gu:wA.heap.size=wr.heap.size+1:=by rw[<-Bo];simp
   rw[gu]at rH;have LU:=ab aI dH zl;obtain⟨wB,Rx⟩:=zN ((wr.alloc (.cells #[.int .i64 x.kind,.int .i64 x.frm,.int .i64 x.tgt,.int .i64 x.term,.int .i64 x.idx,.int .i64 x.logTerm,.int .i64 x.commit,.int .i64 x.round,.bool x.reject,.int .i64 x.offset,.int .i64 x.total,.slice Ae ne ce,.slice Ab nb cb] 39)).alloc (.cells #[.int .i64 x.kind,.int .i64 x.frm,.int .i64 x.tgt,.int .i64 x.term,.int .i64 x.idx,.int .i64 x.logTerm,.int .i64 x.commit,.int .i64 x.round,.bool x.reject,.int .i64 x.offset,.int .i64 x.total,.slice Be ne de,.slice Bb nb db] 39));rw[<-Bo,Rx]at BL rH LU;have zF:=ab gQ LU zl;have WP:=nA (c:=ce) (d:=de) (fu.below re1 zF) (fu.below re2 zF) (me1.trans me2.symm) (de1.keep (bz.below zF)) (de2.keep (bz.below zF)) Nx;have Om:Rd wB Ab nb x.data:=cn.below rb1 zF;have QL:Rd wB Bb nb x.data:=cn.below rb2 zF;have y11:=BL.cell 11;simp only[Zx]at y11;have z11:=rH.cell 11;simp only[Zx]at z11;have aP:=zH (show n-(k+1)<n-k by omega);replace Rx:=zH Rx;replace iI:=zH iI;replace lB:=zH lB;replace lA:=zH lA;replace Nx:=zH Nx;replace Nz:=zH Nz;have Tr:=zH (And.intro BL rH);have OP:=zH zF;clear Bo aI dH Iq BL rH gu LU gQ zF re1 re2 de1 de2 me1 me2 rb1 rb2 hz gL d1 d2 h1 h2;go_wp2_with fail;rw[Rx.out];try go_wp2_with fail
   refine WP.mono ?_;rintro e wC ⟨rfl,Ii⟩;have Th:=vB (c:=cb) (d:=db) (cn.below Om Ii) (cn.below QL Ii) Nz.out;have Sj:=zH Ii;obtain⟨BL,rH⟩:=id Tr.out;have kA:=BL.kept Ii;have kB:=rH.kept Ii;have y12:=kA.cell 12;simp only[Zx]at y12;have z12:=kB.cell 12;simp only[Zx]at z12;clear WP Om QL Ii BL rH y11 z11;have kAB:=zH (And.intro kA kB);clear kA kB;go_wp2_with fail;refine Th.mono ?_;rintro e wD ⟨rfl,qn,Wp⟩;obtain⟨kA,kB⟩:=id kAB.out;have kA2:=kA.drewN qn;have kB2:=kB.drewN qn;have NI:=zH (ab (ab OP.out Sj.out zl) (pZ wC qn) zl);rw[<-Wp]at kA2 kB2 NI;clear Th kA kB y12 z12 Wp;obtain⟨y0,y1,y2,y3,y4,y5,y6,y7,y8,y9,y10,-⟩:=kA2.cs [0,1,2,3,4,5,6,7,8,9,10];simp only[Zx]at y0 y1 y2 y3 y4 y5 y6 y7 y8 y9 y10;obtain⟨z0,z1,z2,z3,z4,z5,z6,z7,z8,z9,z10,-⟩:=kB2.cs [0,1,2,3,4,5,6,7,8,9,10];simp only[Zx]at z0 z1 z2 z3 z4 z5 z6 z7 z8 z9 z10;obtain⟨rj,lh⟩:∃b,x.reject=b:=⟨_,rfl⟩;rw[lh]at y8 z8;replace lh:=zH lh;clear kA2 kB2;cases rj
   all_goals
    go_wp2_with fail;exact⟨⟨k+1,aU,by go_num,NI.out⟩,by simp[intOf];exact aP.out⟩
  ·have hQ:=zH gQ;clear gQ h1 h2 d1 d2;go_wp2_with fail;go_ret;exact⟨rfl,hQ.out⟩
structure Ax(aa:Nat->Nat)(i:Nat)(bu:Nat->Nat)(q:Nat)(O:Ot)(X:Ox)(Y:Oy)(p r:Nat)(w0 w:World):Prop where
 bel:Below w0.heap.size w0 w
 a:ar w p 49 (bg O X)
 b:ar w r 52 (aZ O Y)
 x:jw aa i w O X
 y:jP bu q w O Y
theorem jP.keep'{aa:Nat->Nat}{q:Nat}{w w':World}{O:Ot}{Y:Oy}(h:jP aa q w O Y)(hk:∀j,aa j=q->j<w.heap.size->w'.heap[j]?=w.heap[j]?):jP aa q w' O Y:=
 ⟨h.e.keep hk hk,h.c.keep hk hk,h.s.keep hk,h.r.keep hk,h.m.keep hk hk⟩
theorem Ax.below{aa bu:Nat->Nat}{i q p r:Nat}{O:Ot}{X:Ox}{Y:Oy}{w0 w w':World}(h:Ax aa i bu q O X Y p r w0 w)(hb:Below w.heap.size w w'):Ax aa i bu q O X Y p r w0 w':=
 ⟨ab h.bel hb zl,h.a.kept hb,h.b.kept hb,h.x.keep fun j _ hl=>hb.block j hl,h.y.keep' fun j _ hl=>hb.block j hl⟩
def LL(l:List Value)(p r:Nat):Prop:=l.length=115/\l[2]?=some (.pointer (some ⟨p,0,none⟩))/\l[3]?=some (.pointer (some ⟨r,0,none⟩))
def WQ(l:List Value)(p r:Nat):Prop:=l.length=115/\l[2]?=some (.pointer (some ⟨p,0,none⟩))/\l[3]?=some (.pointer (some ⟨r,0,none⟩))/\l[7]?=some (.bool true)
def VO(l:List Value)(p r:Nat):Prop:=l.length=115/\l[2]?=some (.pointer (some ⟨p,0,none⟩))/\l[3]?=some (.pointer (some ⟨r,0,none⟩))/\l[7]?=some (.bool true)/\l[8]?=some (.bool true)
def VC(l:List Value):Prop:=l.length=115/\l[7]?=some (.bool true)/\l[8]?=some (.bool true)/\l[9]?=some (.bool true)
theorem RdR.at_{w:World}{A:Option Addr}{n k:Nat}{zs:List (Int×Int)}(h:cn w 2 A n (zs.flatMap qW))(hk:k<n) :
  ∃ad x,A=some ad/\zs[k]?=some x/\w.cell? (ad.add (k*2))=some (.int .i64 x.1)/\w.cell? ⟨(ad.add (k*2)).block,(ad.add (k*2)).off+1,none⟩=some (.int .i64 x.2):=by
 have hl:zs.length=n:=by
  have:=h.1;rw[fv (k:=2) (fun _=>rfl)]at this;omega
 obtain⟨ad,rfl,hc⟩:=h.2 (by omega);have hz:zs[k]?=some (zs[k]'(by omega)):=List.getElem?_eq_getElem (by omega);obtain⟨x,Qv⟩:∃z,z=zs[k]'(by omega):=⟨_,rfl⟩;rw[<-Qv]at hz;have key:∀j u,j<2->(qW x)[j]?=some u->w.cell? (ad.add (k*2+j))=some u:=fun j u hj hu=>hc _ _ ((eo (k:=2) (fun _=>rfl) hj hz).trans hu)
 have c0:=key 0 _ (by omega) rfl;have c1:=key 1 _ (by omega) rfl;rw[<-gY,ml _ _ (by omega)]at c1;exact⟨ad,x,rfl,hz,c0,c1⟩
section
variable {aa bu:Nat->Nat}{i q p r:Nat}{O:Ot}{X:Ox}{Y:Oy}{w0 wx:World}{K:Act->World->Prop}{Q':Exit->Act->World->Prop}{l:List Value}
theorem YN(hl:l.length=115/\l[0]?=some (.agg (bg O X))/\l[1]?=some (.agg (aZ O Y)))(hK:∀l',LL l' wx.heap.size (wx.heap.size+1)->K ⟨l'.toArray,[]⟩ ((wx.alloc (.cells (bg O X) 49)).alloc (.cells (aZ O Y) 52))):sQ 0 f23 K Q' l wx:=by
 unfold bg aZ at *;obtain⟨ah,aS,bH⟩:=hl;obtain⟨fr,rfl,am⟩:=an ah;rw[kZ,am _ _ aS,am _ _ bH];clear ah am aS bH;refine cI 0 f23 rfl ?_;go_wp2_with fail;exact⟨rfl,rfl,rfl⟩
theorem W6(aE:Ax aa i bu q O X Y p r w0 wx)(hl:LL l p r)(hK:∀l',LL l' p r->K ⟨l'.toArray,[]⟩ wx):sQ 1 f23 K Q' l wx:=by
 obtain⟨y0,y1,y2,y3,y6,y7,-⟩:=aE.a.cs [0,1,2,3,6,7];simp only[bg,Zx]at y0 y1 y2 y3 y6 y7;obtain⟨z0,z1,z2,z3,z6,z10,-⟩:=aE.b.cs [0,1,2,3,6,10];simp only[aZ,Zx]at z0 z1 z2 z3 z6 z10;rcases(show(O.snap=none/\X.sp=none)\/(∃s g,O.snap=some s/\X.sp=some ⟨g,0,none⟩) by
  have hs:=aE.x.s;cases hx:O.snap with
  | none=>rw[hx]at hs;exact .inl ⟨rfl,by injection hs⟩
  | some s=>rw[hx]at hs;obtain⟨g,vd,e,_⟩:=hs;exact .inr ⟨s,g,rfl,by injection e⟩)with⟨iI,lB⟩|⟨s,g,iI,lB⟩
 all_goals
  rw[lB]at y6;rw[iI]at z6;replace aE:=zH aE;clear iI lB;obtain⟨N,hN⟩:=zN (O.reads.length);rw[hN]at y7 z10;clear hN;generalize O.save=sv at *;generalize O.reset=rs at *;obtain⟨ah,fY,be⟩:=hl;obtain⟨fr,rfl,am⟩:=an ah;rw[kZ,am _ _ fY,am _ _ be];clear ah am fY be;refine cI 1 f23 rfl ?_;simp only[Option.isSome]at z6;cases sv <;> cases rs
  all_goals
   go_wp2_with fail;exact⟨rfl,rfl,rfl⟩
theorem YQ(aE:Ax aa i bu q O X Y p r w0 wx)(hl:LL l p r)(hK:∀l' w',LL l' p r->Ax aa i bu q O X Y p r w0 w'->K ⟨l'.toArray,[]⟩ w'):(CH 2 (fl f23)).wp prog (Exit.then K (bodyPost prog f23 fun e w''=>e=.returned (.bool true)/\Below w0.heap.size w0 w'')) ⟨l.toArray,[]⟩ wx:=by
 have y6:=aE.a.cell 6;simp only[bg,Zx]at y6;obtain⟨z7,z8,z9,-⟩:=aE.b.cs [7,8,9];simp only[aZ,Zx]at z7 z8 z9;cases hx:O.snap with
 | none=>
  have lB:X.sp=none:=by
   have hs:=aE.x.s;rw[hx]at hs;injection hs
  rw[lB]at y6;replace aE:=zH aE;obtain⟨ah,fY,be⟩:=hl;obtain⟨fr,rfl,am⟩:=an ah;rw[kZ,am _ _ fY,am _ _ be];clear ah am fY be;refine cI 2 f23 rfl ?_;go_wp2_with fail;exact hK _ _ ⟨rfl,rfl,rfl⟩ aE.out
 | some s=>
  have hs:=aE.x.s;rw[hx]at hs;obtain⟨g,vd,e,JA,Fg,tH⟩:=hs;injection e with e;rw[e]at y6;obtain⟨Ab,cb,e2,rb1,bb1,bb2,_⟩:=tH;have hy:=aE.y.s;rw[hx]at z7 z8 z9 hy;obtain⟨Bb,db,e4,rb2,_,_,_⟩:=hy;simp only[ju,jt,ns]at z7 z8 z9 e4 rb2;injection e4 with e5 _ e6;subst e5;subst e6;subst e2;obtain⟨s0,s1,s2,-⟩:=Fg.cs [0,1,2];simp only[Zx]at s0 s1 s2;simp only[vi]at s0 s1;have eB:=vQ (c:=cb) (d:=Y.sc) s.idx s.term (w:=wx.drew) rb1 rb2 (by omega);have cQ:=Fg.lt;have aF:=zH (fun w' (hb:Below wx.heap.size wx.drew w')=>aE.below (w':=w') (ab ((Below.refl wx.heap.size wx).drew) hb zl));obtain⟨k6,k7,k8,k9,q0,q1,q2⟩:=KW [p,r,g] y6 z7 z8 z9 s0 s1 s2;have cT:∀x∈[p,r,g],x<wx.heap.size:=by simp;exact⟨aE.a.lt,aE.b.lt,cQ⟩
  obtain⟨nb,lA⟩:∃n,s.data.length=n:=⟨_,rfl⟩;rw[lA]at s2 z9 q2 k9 eB;replace aE:=zH aE;clear rb1 rb2 Fg hx lA bb1 bb2 e;obtain⟨ah,fY,be⟩:=hl;obtain⟨fr,rfl,am⟩:=an ah;rw[kZ,am _ _ fY,am _ _ be];clear ah am fY be;refine cI 2 f23 rfl ?_;go_wp2_with fail;refine dV [p,r,g] wx [([0,1,2,3,4,5],6)] [7] ?_;refine av fun K1 ct=>?_
  simp only[af,Zx];repeat go_big_quiet_step(fail)
  apply wpQuiet_nil;go_wp2_with fail;refine eB.mono ?_;rintro e w5 ⟨rfl,cD⟩;have hS:=zH (aF.out w5 cD);have M6:Below wx.heap.size wx w5:=ab ((Below.refl wx.heap.size wx).drew) cD zl;clear eB cD;go_wp2_with fail;refine⟨aq cT M6,ct _ _ ?_⟩;refine aj ?_;simp only[af,Zx];repeat go_big_quiet_step(fail)
  apply wpQuiet_nil;go_wp2_with fail;exact hK _ _ ⟨rfl,rfl,rfl⟩ hS.out
theorem ZY(aE:Ax aa i bu q O X Y p r w0 wx)(hl:LL l p r)(hK:∀l' w',LL l' p r->Ax aa i bu q O X Y p r w0 w'->K ⟨l'.toArray,[]⟩ w'):(CH 3 (fl f23)).wp prog (Exit.then K (bodyPost prog f23 fun e w''=>e=.returned (.bool true)/\Below w0.heap.size w0 w'')) ⟨l.toArray,[]⟩ wx:=by
 have kl:=aE;replace aE:=zH aE;obtain⟨n,hn⟩:=zN (O.reads.length);have tL:n<=maxLen:=by
  obtain⟨A,c,_,ho,_⟩:=id kl.x.r;have:=bA ho;omega
 unfold maxLen at tL;replace kl:=zH kl;replace hn:=zH hn;obtain⟨ah,fY,be⟩:=hl;obtain⟨fr,rfl,am⟩:=an ah;rw[kZ,am _ _ fY,am _ _ be];clear ah am fY be;refine cI 3 f23 rfl ?_;go_wp2_with fail
 go_loopw [6] (fun i6 wr=>∃k:Nat,k<=n/\i6=.int .i64 k/\Ax aa i bu q O X Y p r w0 wr) (fun i6 _=>n-(intOf i6).toNat)
 case atStart=>exact⟨0,Nat.zero_le _,rfl,aE.out⟩
 case round=>
  obtain⟨k,hk,rfl,hs⟩:=hrel;obtain⟨A,ca,e1,nS,_⟩:=id hs.x.r;obtain⟨B',cb,e2,iC,_⟩:=id hs.y.r;injection e1 with e1 _ e3;injection e2 with e2 _ e4;subst e1;subst e2;subst e3;subst e4;rw[hn.out]at nS iC;have y7:=hs.a.cell 7;simp only[bg,vi,Zx]at y7;have z10:=hs.b.cell 10;simp only[aZ,vi,Zx]at z10;rw[hn.out]at y7 z10;by_cases aU:k<n
  ·obtain⟨ad,x,hA,hz,c0,c1⟩:=RdR.at_ (cn.of_own nS) aU;obtain⟨ad2,x2,hB,gL,d0,d1⟩:=RdR.at_ (cn.of_own iC) aU;rw[hz]at gL;injection gL with gL;subst gL;have aP:=zH (show n-(k+1)<n-k by omega);have hQ:=zH (hs.below ((Below.refl wr.heap.size wr).drew));rw[hA]at y7;rw[hB]at z10;obtain⟨k7,k10,q0,q1,q2,q3⟩:=NO [p,r,(ad.add (k*2)).block,(ad2.add (k*2)).block] y7 z10 c0 c1 d0 d1;clear hs nS iC hA hB hz;go_wp2_with fail;refine dV [p,r,(ad.add (k*2)).block,(ad2.add (k*2)).block] wr [] [0,1,2,3,4,5,6,7,8,9,10,11,12,13,14,15,16,17,18,19,20,21,22,23,24,25,26,27] ?_;refine aj ?_;simp only[af,Zx];repeat go_big_quiet_step(fail)
   apply wpQuiet_nil;go_wp2_with fail;exact⟨⟨k+1,aU,by go_num,hQ.out⟩,by simp[intOf];exact aP.out⟩
  ·have hQ:=zH hs;obtain rfl:k=n:=by omega
   clear hs nS iC;go_wp2_with fail;exact hK _ _ ⟨rfl,rfl,rfl⟩ hQ.out
theorem W4(aE:Ax aa i bu q O X Y p r w0 wx)(hl:LL l p r)(hK:∀l' w',WQ l' p r->Ax aa i bu q O X Y p r w0 w'->K ⟨l'.toArray,[]⟩ w'):sQ 4 f23 K Q' l wx:=by
 have y4:=aE.a.cell 4;simp only[bg,Zx]at y4;have z4:=aE.b.cell 4;simp only[aZ,Zx]at z4;obtain⟨zs,⟨A,c,e1,nS,_⟩,d1,m1⟩:=id aE.x.e;obtain⟨zs2,⟨A2,c2,e2,iC,_⟩,d2,m2⟩:=id aE.y.e;injection e1 with e1 _ e3;injection e2 with e2 _ e4;subst e1;subst e2;subst e3;subst e4;have fi:=bA nS;have eB:=nA (c:=X.ec) (d:=Y.ec) (cn.of_own nS) (cn.of_own iC) (m1.trans m2.symm) d1 d2 (by omega);obtain⟨n,hn⟩:=zN (O.entries.length);rw[hn]at y4 z4 eB;have aF:=zH (fun w' hb=>aE.below (w':=w') hb);clear nS iC d1 d2 m1 m2 hn fi;replace aE:=zH aE;obtain⟨ah,fY,be⟩:=hl;obtain⟨fr,rfl,am⟩:=an ah;rw[kZ,am _ _ fY,am _ _ be];clear ah am fY be;refine cI 4 f23 rfl ?_;go_wp2_with fail;refine eB.mono ?_;rintro e w5 ⟨rfl,cD⟩;have hS:=zH (aF.out w5 cD);clear eB cD;go_wp2_with fail;exact hK _ _ ⟨rfl,rfl,rfl,rfl⟩ hS.out
theorem WZ(aE:Ax aa i bu q O X Y p r w0 wx)(hl:WQ l p r)(hK:∀l' w',VO l' p r->Ax aa i bu q O X Y p r w0 w'->K ⟨l'.toArray,[]⟩ w'):sQ 5 f23 K Q' l wx:=by
 have y5:=aE.a.cell 5;simp only[bg,Zx]at y5;have z5:=aE.b.cell 5;simp only[aZ,Zx]at z5;obtain⟨zs,⟨A,c,e1,nS,_⟩,d1,m1⟩:=id aE.x.c;obtain⟨zs2,⟨A2,c2,e2,iC,_⟩,d2,m2⟩:=id aE.y.c;injection e1 with e1 _ e3;injection e2 with e2 _ e4;subst e1;subst e2;subst e3;subst e4;have fi:=bA nS;have eB:=nA (c:=X.cc) (d:=Y.cc) (cn.of_own nS) (cn.of_own iC) (m1.trans m2.symm) d1 d2 (by omega);obtain⟨n,hn⟩:=zN (O.commits.length);rw[hn]at y5 z5 eB;have aF:=zH (fun w' hb=>aE.below (w':=w') hb);clear nS iC d1 d2 m1 m2 hn fi;replace aE:=zH aE;obtain⟨ah,fY,be,fU⟩:=hl;obtain⟨fr,rfl,am⟩:=an ah;rw[kZ,am _ _ fY,am _ _ be,am _ _ fU];clear ah am fY be fU;refine cI 5 f23 rfl ?_;go_wp2_with fail;refine eB.mono ?_;rintro e w5 ⟨rfl,cD⟩;have hS:=zH (aF.out w5 cD);clear eB cD;go_wp2_with fail;exact hK _ _ ⟨rfl,rfl,rfl,rfl,rfl⟩ hS.out
theorem W7(aE:Ax aa i bu q O X Y p r w0 wx)(hl:VO l p r)(hK:∀l' w',VC l'->Ax aa i bu q O X Y p r w0 w'->K ⟨l'.toArray,[]⟩ w'):sQ 6 f23 K Q' l wx:=by
 have y8:=aE.a.cell 8;simp only[bg,Zx]at y8;have z11:=aE.b.cell 11;simp only[aZ,Zx]at z11;obtain⟨zs,⟨A,c,e1,nS,_⟩,d1,m1⟩:=id aE.x.m;obtain⟨zs2,⟨A2,c2,e2,iC,_⟩,d2,m2⟩:=id aE.y.m;injection e1 with e1 _ e3;injection e2 with e2 _ e4;subst e1;subst e2;subst e3;subst e4;have fi:=bA nS;have eB:=wh (c:=X.mc) (d:=Y.mc) (cn.of_own nS) (cn.of_own iC) (m1.trans m2.symm) d1 d2 (by omega);obtain⟨n,hn⟩:=zN (O.msgs.length);rw[hn]at y8 z11 eB;have aF:=zH (fun w' hb=>aE.below (w':=w') hb);clear nS iC d1 d2 m1 m2 hn fi;replace aE:=zH aE;obtain⟨ah,fY,be,fU,xy⟩:=hl;obtain⟨fr,rfl,am⟩:=an ah;rw[kZ,am _ _ fY,am _ _ be,am _ _ fU,am _ _ xy];clear ah am fY be fU xy;refine cI 6 f23 rfl ?_;go_wp2_with fail;refine eB.mono ?_;rintro e w5 ⟨rfl,cD⟩;have hS:=zH (aF.out w5 cD);clear eB cD;go_wp2_with fail;exact hK _ _ ⟨rfl,rfl,rfl,rfl⟩ hS.out
theorem Zw(hb:Below w0.heap.size w0 wx)(hl:VC l):(HI 7 (fl f23)).wp prog (bodyPost prog f23 fun e w''=>e=.returned (.bool true)/\Below w0.heap.size w0 w'') ⟨l.toArray,[]⟩ wx:=by
 replace hb:=zH hb;obtain⟨ah,fU,xy,gl⟩:=hl;obtain⟨fr,rfl,am⟩:=an ah;rw[kZ,am _ _ fU,am _ _ xy,am _ _ gl];clear ah am fU xy gl;refine F0 7 f23 rfl ?_;go_wp2_with fail;go_ret;exact⟨rfl,hb.out⟩
theorem nX(hx:jw aa i wx O X)(hy:jP bu q wx O Y) :
  Calls prog 23 #[.agg (bg O X),.agg (aZ O Y)] wx fun e w''=>e=.returned (.bool true)/\Below wx.heap.size wx w'':=by
 have bs:Below wx.heap.size wx (wx.alloc (.cells (bg O X) 49)):=zb.alloc zl _;have cl:=ar.new wx 49 (bg O X);have bJ:Below (wx.alloc (.cells (bg O X) 49)).heap.size (wx.alloc (.cells (bg O X) 49)) ((wx.alloc (.cells (bg O X) 49)).alloc (.cells (aZ O Y) 52)):=zb.alloc zl _;have eb:=ar.new (wx.alloc (.cells (bg O X) 49)) 52 (aZ O Y);have gu:(wx.alloc (.cells (bg O X) 49)).heap.size=wx.heap.size+1:=by simp
 rw[gu]at eb;have hb:=ab bs bJ zl;have aE:Ax aa i bu q O X Y wx.heap.size (wx.heap.size+1) wx ((wx.alloc (.cells (bg O X) 49)).alloc (.cells (aZ O Y) 52)):=
  ⟨hb,cl.kept bJ,eb,hx.keep fun j _ hl=>hb.block j hl,hy.keep' fun j _ hl=>hb.block j hl⟩
 refine cP (args:=[.agg (bg O X),.agg (aZ O Y)]) 115 func23 (by kernel_rfl) ntmps23 (by simp) fun la jO fD=>?_
 refine aK (by kernel_rfl) (YN ⟨jO,fD 0 _ rfl,fD 1 _ rfl⟩ fun l0 jq=>?_);refine aK (by kernel_rfl) (W6 aE jq fun l1 cy=>?_);refine aK (by kernel_rfl) (YQ aE cy fun l2 w2 dM Ev=>?_);refine aK (by kernel_rfl) (ZY Ev dM fun l3 w3 kr mJ=>?_);refine aK (by kernel_rfl) (W4 mJ kr fun l4 w4 nG Og=>?_);refine aK (by kernel_rfl) (WZ Og nG fun l5 w5 oA MA=>?_);refine aK (by kernel_rfl) (W7 MA oA fun l6 w6 rf mX=>?_);exact Zw mX.bel rf
end
section
open Go.MapKept
def xZ:Array Value:=#[.int .i64 0,.int .i64 0,.int .i64 0,.int .i64 0,.int .i64 0,.int .i64 0,.int .i64 0]
def uF(R:Rf):Array Value:=#[.int .i64 R.role,.int .i64 R.leader,.int .i64 R.hard.term,.int .i64 R.hard.vote,.int .i64 R.commit,.int .i64 R.track.index,.int .i64 R.track.lastF.1]
section
variable {aa:Nat->Nat}{b g:Nat}{w:World}{R:Rf}{v:Rw}
theorem sk(h:ax aa b w g R v)(hN:R.track.L.length<=1000000) :
  Calls prog 31 #[.pointer (some ⟨g,0,none⟩)] w fun e w'=>e=.returned (.agg (uF R))/\Below w.heap.size w w':=by
 have cQ:=h.s.lt;have aI:Below w.heap.size w (w.alloc (.cells xZ 84)):=zb.alloc zl _;have bN:=ar.new w 84 xZ;obtain⟨w1,bV⟩:=zN (w.alloc (.cells #[.int .i64 0,.int .i64 0,.int .i64 0,.int .i64 0,.int .i64 0,.int .i64 0,.int .i64 0] 84));rw[show w.alloc (.cells xZ 84)=w1 from bV]at aI bN;have h1:=h.below aI;have a8:=h.s.cell 8;simp only[bE,vi,Zx]at a8;have c8:=h1.s.cell 8;simp only[bE,vi,Zx]at c8;have bl:=oy h1.t;obtain⟨l1,cy⟩:∃l,R.track.lastF.1=l:=⟨_,rfl⟩;obtain⟨i1,rP⟩:∃i,R.track.index=i:=⟨_,rfl⟩;rw[rP]at bl;have aE:uF R=#[.int .i64 R.role,.int .i64 R.leader,.int .i64 R.hard.term,.int .i64 R.hard.vote,.int .i64 R.commit,.int .i64 i1,.int .i64 l1]:=by unfold uF;rw[cy,rP]
 replace bV:=zH bV;replace aE:=zH aE;replace cy:=zH cy;replace rP:=zH rP;have hH:=zH h1;clear h h1;go_enter func31,ntmps31;go_wp2_with fail;rw[bV.out];try go_wp2_with fail
 refine bl.mono ?_;rintro e w2 ⟨rfl,bJ⟩;have h2:=hH.out.below bJ;have d8:=h2.s.cell 8;simp only[bE,vi,Zx]at d8;have bI:=iW h2.t hN;rw[cy.out]at bI;clear bl h2;go_wp2_with fail;refine bI.mono ?_;rintro e w3 ⟨rfl,bS⟩;have gr:=ab bJ bS zl;have h3:=hH.out.below gr;have ja:=bN.kept gr;obtain⟨e6,e7,e12,e13,e14,-⟩:=h3.s.cs [6,7,12,13,14];simp only[bE,vi,Zx]at e6 e7 e12 e13 e14;obtain⟨k6,k7,k12,k13,k14⟩:=MZ [g] e6 e7 e12 e13 e14;obtain⟨z0,z1,z2,z3,z4,z5,z6,-⟩:=ja.cs [0,1,2,3,4,5,6];simp only[xZ,vi,Zx]at z0 z1 z2 z3 z4 z5 z6;obtain⟨u0,u1,u2,u3,u4,u5,u6,-⟩:=ja.fs [0,1,2,3,4,5,6];have gK:g<w3.heap.size:=h3.s.lt;have eE:=ab aI gr zl;obtain⟨w4,eL⟩:=zN ((((((((w3.setCell ⟨w.heap.size,0,none⟩ (.int .i64 R.role)).setCell ⟨w.heap.size,1,none⟩ (.int .i64 R.leader)).setCell ⟨w.heap.size,2,none⟩ (.int .i64 R.hard.term)).setCell ⟨w.heap.size,3,none⟩ (.int .i64 R.hard.vote)).setCell ⟨w.heap.size,4,none⟩ (.int .i64 R.commit)).setCell ⟨w.heap.size,5,none⟩ (.int .i64 i1)).setCell ⟨w.heap.size,6,none⟩ (.int .i64 l1)).drew);have C6:ar w4 w.heap.size 84 #[.int .i64 R.role,.int .i64 R.leader,.int .i64 R.hard.term,.int .i64 R.hard.vote,.int .i64 R.commit,.int .i64 i1,.int .i64 l1]:=by
  have s:=((((((ja.set_ 0 (.int .i64 R.role)).set_ 1 (.int .i64 R.leader)).set_ 2 (.int .i64 R.hard.term)).set_ 3 (.int .i64 R.hard.vote)).set_ 4 (.int .i64 R.commit)).set_ 5 (.int .i64 i1)).set_ 6 (.int .i64 l1);simp only[xZ,Zy]at s;have s2:=s.kept (zb.drew);rw[eL]at s2;exact s2
 have cz:Below w.heap.size w w4:=by
  rw[<-eL];exact(((((((eE.setCell zl _).setCell zl _).setCell zl _).setCell zl _).setCell zl _).setCell zl _).setCell zl _).drew
 replace eL:=zH eL;clear bI h3 ja;go_wp2_with fail;refine mI [g] w3 [] ([0,1,2,3,4,5,6,7,8,9,10,11,12,13,14,15,16,17,18],19) ?_;refine aC ?_;simp only[af,Zx];repeat go_big_quiet_step(fail)
 apply wpQuiet_nil;go_wp2_with fail;rw[eL.out];obtain⟨r0,r1,r2,r3,r4,r5,r6,-⟩:=C6.cs [0,1,2,3,4,5,6];simp only[Zx]at r0 r1 r2 r3 r4 r5 r6;exact bodyPost_ret (v:=.agg #[.int .i64 R.role,.int .i64 R.leader,.int .i64 R.hard.term,.int .i64 R.hard.vote,.int .i64 R.commit,.int .i64 i1,.int .i64 l1]) (by simp[results,results31,go_sem,r0,r1,r2,r3,r4,r5,r6]) rfl ⟨by rw[aE.out],cz⟩
end
end
section
variable {aa bu:Nat->Nat}{b c q ga gb:Nat}{w:World}{R:Rf}{v:Rw}{va:Aw}
theorem oR(h:ax aa b w ga R v)(h2:aJ bu c q w gb R va)(hN:R.track.L.length<=1000000) :
  Calls prog 25 #[.pointer (some ⟨ga,0,none⟩),.pointer (some ⟨gb,0,none⟩)] w fun e w'=>e=.returned (.bool true)/\Below w.heap.size w w':=by
 have hs:=sk h hN;obtain⟨L,hL⟩:=zN (R.track.lastF.1);obtain⟨LT,YD⟩:∃L,R.track.lastF.2=L:=⟨_,rfl⟩;have aE:uF R=#[.int .i64 R.role,.int .i64 R.leader,.int .i64 R.hard.term,.int .i64 R.hard.vote,.int .i64 R.commit,.int .i64 R.track.index,.int .i64 L]:=by unfold uF;rw[hL]
 rw[aE]at hs;replace h:=zH h;replace aE:=zH aE;go_enter func25,ntmps25;go_wp2_with fail;refine hs.mono ?_;rintro e w1 ⟨rfl,bs⟩;have CJ:=h2.below bs;have bJ:Below w1.heap.size w1 (w1.alloc (.cells #[.int .i64 R.role,.int .i64 R.leader,.int .i64 R.hard.term,.int .i64 R.hard.vote,.int .i64 R.commit,.int .i64 R.track.index,.int .i64 L] 84)):=zb.alloc zl _;have eb:=ar.new w1 84 #[.int .i64 R.role,.int .i64 R.leader,.int .i64 R.hard.term,.int .i64 R.hard.vote,.int .i64 R.commit,.int .i64 R.track.index,.int .i64 L];obtain⟨w2,cw⟩:=zN (w1.alloc (.cells #[.int .i64 R.role,.int .i64 R.leader,.int .i64 R.hard.term,.int .i64 R.hard.vote,.int .i64 R.commit,.int .i64 R.track.index,.int .i64 L] 84));rw[cw]at bJ eb;have pW:=CJ.below bJ;have bI:=jE pW.t hN;rw[hL,YD]at bI;have y4:=pW.s.cell 4;simp only[bj,vi,Zx]at y4;obtain⟨gt,gM,_,_,_⟩:=pW.trk_at;rw[gM]at y4 bI;rw[<-cw]at y4;have bR:=ab bs bJ zl;have Tl:=bR;replace cw:=zH cw;replace gM:=zH gM;clear hs bs bJ CJ;go_wp2_with fail;rw[cw.out];refine bI.mono ?_;rintro e w3 ⟨rfl,bS⟩;have IQ:=pW.below bS;have ja:=eb.kept bS;obtain⟨gt',xH,_,ye,ua⟩:=IQ.trk_at;rw[gM.out]at xH;injection xH with xH;injection xH with xH;injection xH with xH;subst xH;obtain⟨z2,z3,z4,z5,z8,z9,z10,-⟩:=IQ.s.cs [2,3,4,5,8,9,10];simp only[bj,vi,vi,Zx]at z2 z3 z4 z5 z8 z9 z10;obtain⟨s0,s1,s2,s3,s4,s5,s6,-⟩:=ja.cs [0,1,2,3,4,5,6];simp only[Zx]at s0 s1 s2 s3 s4 s5 s6;rw[gM.out]at z4;have aF:=zH ((ab bR bS zl).drew);obtain⟨sb,RT⟩:=zN (w1.heap.size);rw[RT]at s0 s1 s2 s3 s4 s5 s6 ⊢;obtain⟨e2,e3,e4,e5,e9,e10,et,f0,f1,f2,f3,f4,f5⟩:=vV [gb,gt,sb] z2 z3 z4 z8 z9 z10 ua s0 s1 s2 s3 s4 s5;have f6:=CV [gb,gt,sb] s6;clear bI pW eb IQ ja bS h2 bR Tl y4 RT;go_wp2_with fail;refine dV [gb,gt,sb] w3 [] [0,1,2,3,4,5,6,7,8,9,10,11,12,13,14,15,16,17,18,19,20,21,22,23,24,25,26,27,28,29,30,31,32,33,34,35,36,37,38,39,40,41,42,43,44,45,46,47,48,49,50,51,52] ?_;refine aj ?_;simp only[af,Zx];repeat go_big_quiet_step(fail)
 apply wpQuiet_nil;go_wp2_with fail;go_ret;exact⟨by simp,aF.out⟩
end
structure aM(X:Nat->Prop)(aa ak:Nat->Nat)(w w':World):Prop where
 size:w.heap.size<=w'.heap.size
 stay:∀j,j<w.heap.size->¬X j->ak j=aa j/\w'.heap[j]?=w.heap[j]?
 wld:w'.os=w.os/\w'.tape=w.tape/\w'.output=w.output
def cK(i:Nat)(aa ak:Nat->Nat)(w w':World):Prop:=aM (fun j=>aa j≠i) aa ak w w'
section
variable {X Y:Nat->Prop}{aa ak ag bu:Nat->Nat}{w w' w1 w2:World}{b c q i ga gb:Nat}{R R':Rf}{v:Rw}{va:Aw}
theorem aM.refl(X:Nat->Prop)(aa:Nat->Nat)(w:World):aM X aa aa w w:=⟨Nat.le_refl _,fun _ _ _=>⟨rfl,rfl⟩,rfl,rfl,rfl⟩
theorem aM.mono(h:aM X aa ak w w')(hX:∀j,j<w.heap.size->X j->Y j):aM Y aa ak w w':=⟨h.size,fun j hj hn=>h.stay j hj fun hx=>hn (hX j hj hx),h.wld⟩
theorem aM.trans(h:aM X aa ag w w1)(h':aM Y ag bu w1 w2)(hY:∀j,j<w.heap.size->¬X j->ag j=aa j->¬Y j):aM X aa bu w w2:=
 ⟨Nat.le_trans h.size h'.size,fun j hj hn=>by
  obtain⟨h1,h2⟩:=h.stay j hj hn;obtain⟨h3,h4⟩:=h'.stay j (Nat.lt_of_lt_of_le hj h.size) (hY j hj hn h1);exact⟨h3.trans h1,h4.trans h2⟩,h'.wld.1.trans h.wld.1,h'.wld.2.1.trans h.wld.2.1,h'.wld.2.2.trans h.wld.2.2⟩
theorem aM.of_fr(hF:Fr Y w w')(h:∀j,j<w.heap.size->¬X j->ak j=aa j/\¬Y j):aM X aa ak w w':=⟨hF.size,fun j hj hn=>⟨(h j hj hn).1,hF.block j hj (h j hj hn).2⟩,hF.os,hF.tape,hF.output⟩
theorem cK.below(h:aM (fun j=>aa j≠i) aa ak w w')(hl:∀j,j<w.heap.size->aa j=i):Below w.heap.size w w':=⟨h.wld.1,h.wld.2.1,h.wld.2.2,h.size,fun j hj=>(h.stay j hj fun hn=>hn (hl j hj)).2⟩
theorem cK.refl(i:Nat)(aa:Nat->Nat)(w:World):cK i aa aa w w:=aM.refl _ _ _
theorem cK.trans(h:cK i aa ag w w1)(h':cK i ag bu w1 w2):cK i aa bu w w2:=aM.trans h h' fun j _ hn e hx=>hx (e.trans (Classical.not_not.1 hn))
theorem aM.keeps(h:aM X aa ak w w')(i:Nat)(hi:∀j,j<w.heap.size->aa j=i->¬X j):cK i aa ak w w':=h.mono fun j hj hx e=>hi j hj e hx
theorem aM.new(i:Nat)(aa:Nat->Nat)(hb:Below w.heap.size w w'):aM (fun _=>False) aa (ai aa w.heap.size i) w w':=⟨hb.size,fun j hj _=>⟨ac hj,hb.block j hj⟩,hb.os,hb.tape,hb.output⟩
theorem aM.same(aa:Nat->Nat)(hb:Below w.heap.size w w'):aM (fun _=>False) aa aa w w':=⟨hb.size,fun j hj _=>⟨rfl,hb.block j hj⟩,hb.os,hb.tape,hb.output⟩
theorem aM.hold{P:(Nat->Nat)->World->Prop}(good:Nat->Prop)(z:Nat)(hz:¬good z)(qz:∀aa ak w,P aa w->(∀j,j<w.heap.size->good (aa j)->ak j=aa j)->P ak w)
  (C3:∀aa w w',P aa w->(∀j,good (aa j)->j<w.heap.size->w'.heap[j]?=w.heap[j]?)->P aa w') (h:aM X aa ak w w') (hX:∀j,j<w.heap.size->good (aa j)->¬X j) (hp:P aa w):P ak w':=by
 have m1:∀j,j<w.heap.size->ai aa w.heap.size z j=aa j:=fun j hj=>ac hj
 have h1:=qz aa (ai aa w.heap.size z) w hp fun j hj _=>m1 j hj
 have h2:=C3 _ w w' h1 fun j hg hj=>by
  rw[m1 j hj]at hg;exact(h.stay j hj (hX j hj hg)).2
 refine qz _ ak w' h2 fun j hj hg=>?_
 rcases Nat.lt_or_ge j w.heap.size with hl|hl
 ·rw[m1 j hl]at hg ⊢;exact(h.stay j hl (hX j hl hg)).1
 ·rw[ay hl]at hg;exact absurd hg hz
theorem aM.raft(h:aM X aa ak w w')(hX:∀j,j<w.heap.size->bv aa b j->¬X j)(hr:ax aa b w ga R v):ax ak b w' ga R v:=
 h.hold (P:=fun aa w=>ax aa b w ga R v) (fun k=>b<k/\k<=b+13) b (by omega) (fun _ _ _ h1 h2=>h1.relabel h2) (fun _ _ _ h1 h2=>h1.keep h2) hX hr
theorem aM.ans(hc:c≠q)(h:aM X aa ak w w')(hX:∀j,j<w.heap.size->dC aa c q j->¬X j)(hr:aJ aa c q w gb R va):aJ ak c q w' gb R va:=
 h.hold (P:=fun aa w=>aJ aa c q w gb R va) (fun k=>(c<k/\k<=c+9)\/k=q) c (by omega) (fun _ _ _ h1 h2=>h1.relabel h2) (fun _ _ _ h1 h2=>h1.keep h2) hX hr
theorem cK.hold{P:(Nat->Nat)->World->Prop}(qz:∀aa ak w,P aa w->(∀j,j<w.heap.size->aa j=i->ak j=i)->P ak w)
  (C3:∀aa w w',P aa w->(∀j,aa j=i->j<w.heap.size->w'.heap[j]?=w.heap[j]?)->P aa w') (h:cK i aa ak w w') (hp:P aa w):P ak w':=
 aM.hold (fun k=>k=i) (i+1) (by omega) (fun _ _ _ h1 h2=>qz _ _ _ h1 fun j hj e=>(h2 j hj e).trans e) C3 h (fun j _ e hx=>hx e) hp
theorem cK.ens{u:Value}{L:List En}(h:cK i aa ak w w')(he:cN aa i w u L):cN ak i w' u L:=
 h.hold (P:=fun aa w=>cN aa i w u L) (fun _ _ _ h1 h2=>h1.relabel h2) (fun _ _ _ h1 h2=>h1.keep h2) he
theorem cK.byt{u:Value}{L:List UInt8}(h:cK i aa ak w w')(he:bM aa i w u L):bM ak i w' u L:=
 h.hold (P:=fun aa w=>bM aa i w u L) (fun _ _ _ h1 h2=>h1.relabel h2) (fun _ _ _ h1 h2=>h1.keep h2) he
theorem cK.facts{u:Value}{L:List Fa}(h:cK i aa ak w w')(he:aG (aQ aa i) w u L):aG (aQ ak i) w' u L:=
 h.hold (P:=fun aa w=>aG (aQ aa i) w u L) (fun _ _ _ h1 h2=>h1.mono h2) (fun _ _ _ h1 h2=>h1.keep h2) he
theorem jw.relabel{O:Ot}{x:Ox}(h:jw aa i w O x)(hl:∀j,j<w.heap.size->aa j=i->ak j=i):jw ak i w O x:=
 ⟨h.e.relabel hl hl,h.c.relabel hl hl,h.s.relabel hl,h.r.relabel hl,h.m.relabel hl hl⟩
theorem cK.outX{O:Ot}{x:Ox}(h:cK i aa ak w w')(he:jw aa i w O x):jw ak i w' O x:=
 h.hold (P:=fun aa w=>jw aa i w O x) (fun _ _ _ h1 h2=>h1.relabel h2) (fun _ _ _ h1 h2=>h1.keep h2) he
def qO(b c q:Nat):Prop:=b+13<=c/\c+10<q
def ii(aa:Nat->Nat)(b c q:Nat)(w:World)(ga gb:Nat)(R:Rf):Prop:=(∃v,ax aa b w ga R v)/\∃va,aJ aa c q w gb R va
theorem qO.apart(h:qO b c q):aL c q:=.inr (by have:=h.2;omega)
theorem ii.hold(hs:qO b c q)(h:ii aa b c q w ga gb R)(hl:aM X aa ak w w')(hX:∀j,j<w.heap.size->bv aa b j\/dC aa c q j->¬X j):ii ak b c q w' ga gb R:=by
 obtain⟨⟨v,h1⟩,va,h2⟩:=h;have:=hs.2;exact⟨⟨v,hl.raft (fun j hj hm=>hX j hj (.inl hm)) h1⟩,va,hl.ans (by omega) (fun j hj hm=>hX j hj (.inr hm)) h2⟩
theorem ii.new(hs:qO b c q)(i:Nat)(h:ii aa b c q w ga gb R)(hb:Below w.heap.size w w'):ii (ai aa w.heap.size i) b c q w' ga gb R:=h.hold hs (aM.new i aa hb) fun _ _ _ hf=>hf
theorem ii.below(hs:qO b c q)(h:ii aa b c q w ga gb R)(hb:Below w.heap.size w w'):ii aa b c q w' ga gb R:=h.hold hs (aM.same aa hb) fun _ _ _ hf=>hf
theorem eA.leaves{O:Ot}{x:Ox}(hs:qO b c q)(h:eA aa b i w ga O R' x w')(h2:aJ aa c q w gb R va) :
  ∃ak,(∃v',ax ak b w' ga R' v')/\jw ak i w' O x/\aJ ak c q w' gb R va/\aM (bv aa b) aa ak w w':=by
 obtain⟨ak,v',q1,q2,q3,q4,q5⟩:=h;have hl:aM (bv aa b) aa ak w w':=aM.of_fr q5 fun j hj hn=>⟨q3 j hj hn,fun hm=>hn ⟨hm.1,by have:=hm.2;omega⟩⟩
 have h3:=hs.1;have h4:=hs.2;refine⟨ak,⟨v',q1⟩,q2,hl.ans (by omega) (fun j hj hm ht=>?_) h2,hl⟩;unfold dC at hm;unfold bv at ht;omega
theorem tb.leaves{O:Ot}{x:Ox}{u:Value}{fs:List Fa}(hs:qO b c q)(h:tb aa b q w ga O R' x u fs w')(h2:aJ aa c q w gb R va) :
  ∃ak,(∃v',ax ak b w' ga R' v')/\jw ak q w' O x/\aG (aQ ak q) w' u fs/\aJ ak c q w' gb R va/\aM (bv aa b) aa ak w w':=by
 obtain⟨ak,v',q1,q2,q6,q3,q4,q5⟩:=h;have hl:aM (bv aa b) aa ak w w':=aM.of_fr q5 fun j hj hn=>⟨q3 j hj hn,fun hm=>hn ⟨hm.1,by have:=hm.2;omega⟩⟩
 have h3:=hs.1;have h4:=hs.2;refine⟨ak,⟨v',q1⟩,q2,q6,hl.ans (by omega) (fun j hj hm ht=>?_) h2,hl⟩;unfold dC at hm;unfold bv at ht;omega
theorem ao.leaves(hs:qO b c q)(h:ao aa b w ga R' w')(h2:aJ aa c q w gb R va) :
  ∃ak,(∃v',ax ak b w' ga R' v')/\aJ ak c q w' gb R va/\aM (aN aa b) aa ak w w':=by
 obtain⟨ak,v',q1,q3,q4,q5⟩:=h;have hl:aM (aN aa b) aa ak w w':=aM.of_fr q5 fun j hj hn=>⟨q3 j hj hn,hn⟩
 have h3:=hs.1;have h4:=hs.2;refine⟨ak,⟨v',q1⟩,hl.ans (by omega) (fun j hj hm ht=>?_) h2,hl⟩;unfold dC at hm;unfold aN at ht;omega
theorem cU.leaves{O:Ot}{y:Oy}(hs:qO b c q)(h:cU aa c q w gb O R' y w')(h2:ax aa b w ga R v) :
  ∃ak,(∃v',aJ ak c q w' gb R' v')/\jP ak q w' O y/\ax ak b w' ga R v/\aM (aT aa c) aa ak w w':=by
 obtain⟨ak,v',q1,q2,q3,q4,q5⟩:=h;have hl:aM (aT aa c) aa ak w w':=aM.of_fr q5 fun j hj hn=>⟨q3 j hj hn,hn⟩
 have h3:=hs.1;refine⟨ak,⟨v',q1⟩,q2,hl.raft (fun j hj hm ht=>?_) h2,hl⟩;unfold bv at hm;unfold aT at ht;omega
theorem jk.leaves{O:Ot}{y:Oy}{u:Value}{fs:List Fa}(hs:qO b c q)(h:jk aa c q w gb O R' y u fs w')(h2:ax aa b w ga R v) :
  ∃ak,(∃v',aJ ak c q w' gb R' v')/\jP ak q w' O y/\aG (aQ ak q) w' u fs/\ax ak b w' ga R v/\aM (aT aa c) aa ak w w':=by
 obtain⟨ak,v',q1,q2,q6,q3,q4,q5⟩:=h;have hl:aM (aT aa c) aa ak w w':=aM.of_fr q5 fun j hj hn=>⟨q3 j hj hn,hn⟩
 have h3:=hs.1;refine⟨ak,⟨v',q1⟩,q2,q6,hl.raft (fun j hj hm ht=>?_) h2,hl⟩;unfold bv at hm;unfold aT at ht;omega
theorem au.leaves(hs:qO b c q)(h:au aa c q w gb R' w')(h2:ax aa b w ga R v) :
  ∃ak,(∃v',aJ ak c q w' gb R' v')/\ax ak b w' ga R v/\aM (aT aa c) aa ak w w':=by
 obtain⟨ak,v',q1,q3,q5⟩:=h;have hl:aM (aT aa c) aa ak w w':=aM.of_fr q5 fun j hj hn=>⟨q3 j hj,hn⟩
 have h3:=hs.1;refine⟨ak,⟨v',q1⟩,hl.raft (fun j hj hm ht=>?_) h2,hl⟩;unfold bv at hm;unfold aT at ht;omega
theorem gn(hl:aM (bv aa b) aa ak w w')(hi:i<=b\/b+13<i):cK i aa ak w w':=hl.keeps i fun j _ e hm=>by unfold bv at hm;omega
theorem sg(hl:aM (aN aa b) aa ak w w')(hi:i<=b\/b+12<i):cK i aa ak w w':=hl.keeps i fun j _ e hm=>by unfold aN at hm;omega
theorem dO(hl:aM (aT aa c) aa ak w w')(hi:i<=c\/c+9<i):cK i aa ak w w':=hl.keeps i fun j _ e hm=>by unfold aT at hm;omega
theorem cK.blk{g:Nat}{T:TypeId}{cs:Array Value}(h:cK i aa ak w w')(hb:ar w g T cs)(hg:aa g=i):ar w' g T cs/\ak g=i:=by
 obtain⟨h1,h2⟩:=h.stay g hb.lt fun hn=>hn hg
 exact⟨h2.trans hb,h1.trans hg⟩
end
structure Ac where
 kind:Int
 n:Int
 msg:Mg
 cmd:En
 data:List UInt8
structure As where
 ea:Option Addr
 en:Nat
 ec:Nat
 da:Option Addr
 dn:Nat
 dc:Nat
 fa:Option Addr
 fn:Nat
 fc:Nat
 ba:Option Addr
 bn:Nat
 bc:Nat
def km(x:Ac)(s:As):Array Value:=
 #[.int .i64 x.kind,.int .i64 x.n,.int .i64 x.msg.kind,.int .i64 x.msg.frm,.int .i64 x.msg.tgt,.int .i64 x.msg.term,.int .i64 x.msg.idx,.int .i64 x.msg.logTerm,.int .i64 x.msg.commit,.int .i64 x.msg.round,.bool x.msg.reject,.int .i64 x.msg.offset,.int .i64 x.msg.total,
  .slice s.ea s.en s.ec,.slice s.da s.dn s.dc,.int .i64 x.cmd.op,.int .i64 x.cmd.sess,.int .i64 x.cmd.seq,.slice s.fa s.fn s.fc,.slice s.ba s.bn s.bc]
structure o8(aa:Nat->Nat)(q:Nat)(w:World)(x:Ac)(s:As):Prop where
 e:cN aa q w (.slice s.ea s.en s.ec) x.msg.entries
 d:bM aa q w (.slice s.da s.dn s.dc) x.msg.data
 f:aG (aQ aa q) w (.slice s.fa s.fn s.fc) x.cmd.facts
 fm:s.fn<=maxLen
 b:bM aa q w (.slice s.ba s.bn s.bc) x.data
 nb:-9223372036854775808<=x.n/\x.n<=9223372036854775807
 kb:-9223372036854775808<=x.kind/\x.kind<=9223372036854775807
def Ac.cutE(x:Ac):Ac:={x with msg:={x.msg with entries:=x.msg.entries.take 10}}
def Ac.cutD(x:Ac):Ac:={x with msg:={x.msg with data:=x.msg.data.take 300}}
def Ac.cutB(x:Ac):Ac:={x with data:=x.data.take 1000}
def Ac.cut(x:Ac):Ac:=x.cutE.cutD.cutB
def As.cutE(s:As):As:={s with en:=min s.en 10}
def As.cutD(s:As):As:={s with dn:=min s.dn 300}
def As.cutB(s:As):As:={s with bn:=min s.bn 1000}
section
variable {aa ak:Nat->Nat}{q i n c k:Nat}{w w':World}{x:Ac}{s:As}{A:Option Addr}{L:List En}{l:List UInt8}
theorem cN.len(h:cN aa i w (.slice A n c) L):L.length=n/\n<=c/\c<=maxLen:=by
 obtain⟨A0,n0,c0,zs,e,h2,_,h4,h5,h6,_⟩:=h;injection e with e1 e2 e3;subst e1 e2 e3;exact⟨by rw[<-h4,List.length_map];exact h2.len,h5,h6⟩
theorem bM.len(h:bM aa i w (.slice A n c) l):l.length=n/\n<=c/\c<=maxLen:=by
 obtain⟨A0,c0,e,h1,h2,h3,_⟩:=h;injection e with e1 e2 e3;subst e1 e3;exact⟨e2.symm,by omega,h3⟩
theorem cN.take(k:Nat)(h:cN aa i w (.slice A n c) L):cN aa i w (.slice A (min n k) c) (L.take k):=by
 obtain⟨A0,n0,c0,zs,e,h2,h3,h4,h5,h6,h7⟩:=h;injection e with e1 e2 e3;subst e1 e2 e3;have h1:=cn.take (size:=6) h2 (k:=min n k) (Nat.min_le_left _ _);rw[<-ph fj]at h1;have hl:=h2.len;have e:zs.take (min n k)=zs.take k:=by
  rcases Nat.le_total n k with h0|h0
  ·rw[Nat.min_eq_left h0,List.take_of_length_le (by omega),List.take_of_length_le (by omega)]
  ·rw[Nat.min_eq_right h0]
 rw[e]at h1;exact⟨A,min n k,c,zs.take k,rfl,h1,h3.sub fun y hy=>List.mem_of_mem_take hy,by rw[List.map_take,h4],Nat.le_trans (Nat.min_le_left _ _) h5,h6,fun h0=>h7 (by omega)⟩
theorem bM.take(k:Nat)(h:bM aa i w (.slice A n c) l):bM aa i w (.slice A (min n k) c) (l.take k):=by
 obtain⟨hl,_,_⟩:=h.len;obtain⟨A0,c0,e,h1,h2,h3,h4⟩:=h;injection e with e1 e2 e3;subst e1 e3;have h5:=cn.take (size:=1) h1 (k:=min n k) (by omega);rw[Nat.mul_one,<-List.map_take]at h5;have e:l.take (min n k)=l.take k:=by
  rcases Nat.le_total n k with h0|h0
  ·rw[Nat.min_eq_left h0,List.take_of_length_le (by omega),List.take_of_length_le (by omega)]
  ·rw[Nat.min_eq_right h0]
 rw[e]at h5;have e2:(l.take k).length=min n k:=by rw[List.length_take,hl,Nat.min_comm]
 exact⟨A,c,by rw[e2],by rw[e2];exact h5,by rw[e2];omega,h3,fun h0=>h4 (by rw[e2]at h0;omega)⟩
theorem o8.cutE(h:o8 aa q w x s):o8 aa q w x.cutE s.cutE:={h with e:=h.e.take 10}
theorem o8.cutD(h:o8 aa q w x s):o8 aa q w x.cutD s.cutD:={h with d:=h.d.take 300}
theorem o8.cutB(h:o8 aa q w x s):o8 aa q w x.cutB s.cutB:={h with b:=h.b.take 1000}
theorem cK.act(hk:cK q aa ak w w')(h:o8 aa q w x s):o8 ak q w' x s:={h with e:=hk.ens h.e,d:=hk.byt h.d,f:=hk.facts h.f,b:=hk.byt h.b}
end
def Ac.play(x:Ac)(R:Rf):Rf:=
 if gP x.kind 5=0 then(R.tick x.n).2
 else if gP x.kind 5=1 then(R.step x.msg).2
 else if gP x.kind 5=2 then(R.propose x.cmd).2
 else if gP x.kind 5=3 then(R.read x.n).2
 else(R.compact x.n x.data).2
structure fN(K:Nat)(R:Rf):Prop where
 ok:Ok K 0 R
 low:cW R
 fit:cX R
section
variable {K:Nat}{R:Rf}
theorem fN.mono{K':Nat}(h:fN K R)(hK:K<=K'):fN K' R:=⟨h.ok.mono hK (Nat.le_refl 0),h.low,h.fit⟩
theorem fN.tick(h:fN K R)(d:Int):fN (K+11) (R.tick d).2:=⟨h.ok.ticked d,h.low.tick d,h.fit.tick d⟩
theorem fN.step(h:fN K R)(hK:1<=K)(m:Mg):fN (K+11) (R.step m).2:=⟨h.ok.stepped hK m,h.low.step m,h.fit.step m⟩
theorem fN.propose(h:fN K R)(x:En):fN (K+11) (R.propose x).2:=⟨h.ok.proposed x,h.low.propose x,h.fit.propose x⟩
theorem fN.read(h:fN K R)(x:Int):fN (K+11) (R.read x).2:=⟨h.ok.readed x,h.low.read x,h.fit.read x⟩
theorem fN.compact(h:fN K R)(i:Int)(l:List UInt8):fN (K+11) (R.compact i l).2:=⟨h.ok.compacted i l,h.low.compact i l,h.fit.compact i l⟩
theorem fN.play(h:fN K R)(hK:1<=K)(x:Ac):fN (K+11) (x.play R):=by
 unfold Ac.play;split
 ·exact h.tick _
 ·split
  ·exact h.step hK _
  ·split
   ·exact h.propose _
   ·split
    ·exact h.read _
    ·exact h.compact _ _
end
def La(l:List Value)(ga gb bx:Nat):Prop:=l.length=157/\l[0]?=some (.pointer (some ⟨ga,0,none⟩))/\l[1]?=some (.pointer (some ⟨gb,0,none⟩))/\l[5]?=some (.pointer (some ⟨bx,0,none⟩))
def ol(l:List Value)(ga gb bx:Nat)(u:Value):Prop:=l.length=157/\l[0]?=some (.pointer (some ⟨ga,0,none⟩))/\l[1]?=some (.pointer (some ⟨gb,0,none⟩))/\l[5]?=some (.pointer (some ⟨bx,0,none⟩))/\l[7]?=some u
section
variable {ga gb bx:Nat}{wx w':World}{K:Act->World->Prop}{Q':Exit->Act->World->Prop}{l:List Value}{x:Ac}{s:As}{H:Ending->World->Prop}
theorem XX(hl:l.length=157/\l[0]?=some (.pointer (some ⟨ga,0,none⟩))/\l[1]?=some (.pointer (some ⟨gb,0,none⟩))/\l[2]?=some (.agg (km x s)))(hK:∀l':List Value,La l' ga gb wx.heap.size->K ⟨l'.toArray,[]⟩ (wx.alloc (.cells (km x s) 44))):sQ 0 f27 K Q' l wx:=by
 unfold km at *;obtain⟨ah,aS,bH,fY⟩:=hl;obtain⟨fr,rfl,am⟩:=an ah;rw[gc,am _ _ aS,am _ _ bH,am _ _ fY];clear ah am aS bH fY;refine cI 0 f27 rfl ?_;go_wp2_with fail;exact⟨rfl,rfl,rfl,rfl⟩
theorem Zs(hb:ar wx bx 44 (km x s))(hc:s.en<=s.ec)(hl:La l ga gb bx)(hK:∀(l':List Value) (w':World),La l' ga gb bx/\ar w' bx 44 (km x.cutE s.cutE)/\Fr (fun j=>j=bx) wx w'->K ⟨l'.toArray,[]⟩ w'):sQ 1 f27 K Q' l wx:=by
 have y:=hb.cell 13;have f:=hb.free 13;simp only[km,Zx]at y;have jZ:=hb.lt;rcases Nat.lt_or_ge 10 s.en with h0|h0
 ·have e:s.cutE={s with en:=10}:=by unfold As.cutE;rw[Nat.min_eq_right (by omega)]
  have hs:=hb.set_ 13 (.slice s.ea 10 s.ec);have hF:=Fr.set (w:=wx) bx 13 (.slice s.ea 10 s.ec);have e1:ar (wx.setCell ⟨bx,13,none⟩ (.slice s.ea 10 s.ec)) bx 44 (km x.cutE s.cutE):=by rw[e];exact hs
  replace e:=zH e;replace e1:=zH e1;replace hF:=zH hF;clear hb hs;have gC:10<=s.ec:=by omega
  obtain⟨ah,aS,bH,cA⟩:=hl;obtain⟨fr,rfl,am⟩:=an ah;rw[gc,am _ _ aS,am _ _ bH,am _ _ cA];clear ah am aS bH cA;refine cI 1 f27 rfl ?_;go_wp2_with fail;exact⟨⟨rfl,rfl,rfl,rfl⟩,e1.out,hF.out⟩
 ·have e:s.cutE=s:=by unfold As.cutE;rw[Nat.min_eq_left (by omega)]
  have e1:ar wx bx 44 (km x.cutE s.cutE):=by rw[e];exact hb
  have hF:=Fr.refl (fun j=>j=bx) wx;replace e:=zH e;replace e1:=zH e1;replace hF:=zH hF;clear hb;obtain⟨ah,aS,bH,cA⟩:=hl;obtain⟨fr,rfl,am⟩:=an ah;rw[gc,am _ _ aS,am _ _ bH,am _ _ cA];clear ah am aS bH cA;refine cI 1 f27 rfl ?_;go_wp2_with fail;exact⟨⟨rfl,rfl,rfl,rfl⟩,e1.out,hF.out⟩
theorem Yn(hb:ar wx bx 44 (km x s))(hc:s.dn<=s.dc)(hl:La l ga gb bx)(hK:∀(l':List Value) (w':World),La l' ga gb bx/\ar w' bx 44 (km x.cutD s.cutD)/\Fr (fun j=>j=bx) wx w'->K ⟨l'.toArray,[]⟩ w'):sQ 2 f27 K Q' l wx:=by
 have y:=hb.cell 14;have f:=hb.free 14;simp only[km,Zx]at y;have jZ:=hb.lt;rcases Nat.lt_or_ge 300 s.dn with h0|h0
 ·have e:s.cutD={s with dn:=300}:=by unfold As.cutD;rw[Nat.min_eq_right (by omega)]
  have hs:=hb.set_ 14 (.slice s.da 300 s.dc);have hF:=Fr.set (w:=wx) bx 14 (.slice s.da 300 s.dc);have e1:ar (wx.setCell ⟨bx,14,none⟩ (.slice s.da 300 s.dc)) bx 44 (km x.cutD s.cutD):=by rw[e];exact hs
  replace e:=zH e;replace e1:=zH e1;replace hF:=zH hF;clear hb hs;have gC:300<=s.dc:=by omega
  obtain⟨ah,aS,bH,cA⟩:=hl;obtain⟨fr,rfl,am⟩:=an ah;rw[gc,am _ _ aS,am _ _ bH,am _ _ cA];clear ah am aS bH cA;refine cI 2 f27 rfl ?_;go_wp2_with fail;exact⟨⟨rfl,rfl,rfl,rfl⟩,e1.out,hF.out⟩
 ·have e:s.cutD=s:=by unfold As.cutD;rw[Nat.min_eq_left (by omega)]
  have e1:ar wx bx 44 (km x.cutD s.cutD):=by rw[e];exact hb
  have hF:=Fr.refl (fun j=>j=bx) wx;replace e:=zH e;replace e1:=zH e1;replace hF:=zH hF;clear hb;obtain⟨ah,aS,bH,cA⟩:=hl;obtain⟨fr,rfl,am⟩:=an ah;rw[gc,am _ _ aS,am _ _ bH,am _ _ cA];clear ah am aS bH cA;refine cI 2 f27 rfl ?_;go_wp2_with fail;exact⟨⟨rfl,rfl,rfl,rfl⟩,e1.out,hF.out⟩
theorem XB(hb:ar wx bx 44 (km x s))(hc:s.bn<=s.bc)(hl:La l ga gb bx)(hK:∀(l':List Value) (w':World),La l' ga gb bx/\ar w' bx 44 (km x.cutB s.cutB)/\Fr (fun j=>j=bx) wx w'->K ⟨l'.toArray,[]⟩ w'):sQ 3 f27 K Q' l wx:=by
 have y:=hb.cell 19;have f:=hb.free 19;simp only[km,Zx]at y;have jZ:=hb.lt;rcases Nat.lt_or_ge 1000 s.bn with h0|h0
 ·have e:s.cutB={s with bn:=1000}:=by unfold As.cutB;rw[Nat.min_eq_right (by omega)]
  have hs:=hb.set_ 19 (.slice s.ba 1000 s.bc);have hF:=Fr.set (w:=wx) bx 19 (.slice s.ba 1000 s.bc);have e1:ar (wx.setCell ⟨bx,19,none⟩ (.slice s.ba 1000 s.bc)) bx 44 (km x.cutB s.cutB):=by rw[e];exact hs
  replace e:=zH e;replace e1:=zH e1;replace hF:=zH hF;clear hb hs;have gC:1000<=s.bc:=by omega
  obtain⟨ah,aS,bH,cA⟩:=hl;obtain⟨fr,rfl,am⟩:=an ah;rw[gc,am _ _ aS,am _ _ bH,am _ _ cA];clear ah am aS bH cA;refine cI 3 f27 rfl ?_;go_wp2_with fail;exact⟨⟨rfl,rfl,rfl,rfl⟩,e1.out,hF.out⟩
 ·have e:s.cutB=s:=by unfold As.cutB;rw[Nat.min_eq_left (by omega)]
  have e1:ar wx bx 44 (km x.cutB s.cutB):=by rw[e];exact hb
  have hF:=Fr.refl (fun j=>j=bx) wx;replace e:=zH e;replace e1:=zH e1;replace hF:=zH hF;clear hb;obtain⟨ah,aS,bH,cA⟩:=hl;obtain⟨fr,rfl,am⟩:=an ah;rw[gc,am _ _ aS,am _ _ bH,am _ _ cA];clear ah am aS bH cA;refine cI 3 f27 rfl ?_;go_wp2_with fail;exact⟨⟨rfl,rfl,rfl,rfl⟩,e1.out,hF.out⟩
theorem ZH(hl:La l ga gb bx)(hK:∀l':List Value,ol l' ga gb bx (.bool true)->K ⟨l'.toArray,[]⟩ wx):sQ 4 f27 K Q' l wx:=by
 obtain⟨ah,aS,bH,cA⟩:=hl;obtain⟨fr,rfl,am⟩:=an ah;rw[gc,am _ _ aS,am _ _ bH,am _ _ cA];clear ah am aS bH cA;refine cI 4 f27 rfl ?_;go_wp2_with fail;exact⟨rfl,rfl,rfl,rfl,rfl⟩
end
def zt(aa:Nat->Nat)(b c q:Nat)(w:World)(ga gb:Nat)(R':Rf)(w':World):Prop:=∃ak,ii ak b c q w' ga gb R'/\cK q aa ak w w'
section
variable {ga gb bx b c q K0:Nat}{aa:Nat->Nat}{R:Rf}{wx w':World}{K:Act->World->Prop}{H:Ending->World->Prop}{l:List Value}{x:Ac}{s:As}
theorem dQ(w:World):Below w.heap.size w w.drew:=zb.drew
theorem GK(hs:qO b c q)(hf:fN K0 R)(ct:1<=K0)(zA:K0<=8000)(h:ii aa b c q wx ga gb R)(hx:o8 aa q wx x s)(hb:ar wx bx 44 (km x s))(iw:aa bx=c+10)(hk:gP x.kind 5=0)
  (hl:ol l ga gb bx (.bool true)) (hK:∀(l':List Value) (w':World),ol l' ga gb bx (.bool true)/\zt aa b c q wx ga gb (R.tick x.n).2 w'->K ⟨l'.toArray,[]⟩ w') :
  sP 5 f27 K H l wx:=by
 obtain⟨⟨v,hr⟩,va,ha⟩:=h;have rl:=hs.1;have Ev:=hs.2;have jz:=j6 x.kind 5 wx hx.kb.1 hx.kb.2 (by omega) (by omega);rw[hk]at jz;have ht:=yi q x.n (hr.below (dQ wx)) hf.ok (by omega) (by omega) (by omega) hx.nb.1 hx.nb.2;obtain⟨O,hO⟩:=zN (R.tick x.n);rw[hO]at ht hK;have rO:=hf.fit;have oE:=hf.low;have cB:=hf.ok;have Fx:=ha.below (dQ wx);have ul:∀(ag:Nat->Nat) (va1:Aw) (w1:World),aJ ag c q w1 gb R va1->Calls prog 18 #[.pointer (some ⟨gb,0,none⟩),.int .i64 x.n] w1 fun e w'=>∃Y,e=.returned (.agg (aZ O.1 Y))/\cU ag c q w1 gb O.1 O.2 Y w':=by
  intro ag va1 w1 h1;rw[<-hO];exact EJ x.n hs.apart h1 cB ct (by omega) (by omega) oE hx.nb.1 hx.nb.2 rO.1.1 rO.1.2
 obtain⟨y0,y1,-⟩:=hb.cs [0,1];simp only[km,Zx]at y0 y1;have k1:=CV [bx] y1;have jZ:=hb.lt;replace ul:=zH ul;replace hO:=zH hO;replace hb:=zH hb;replace hx:=zH hx;replace hf:=zH hf;replace cB:=zH cB;replace rO:=zH rO;replace oE:=zH oE;replace Fx:=zH Fx;replace iw:=zH iw;clear ha hr hk;obtain⟨ah,aS,bH,cA,fU⟩:=hl;obtain⟨fr,rfl,am⟩:=an ah;rw[gc,am _ _ aS,am _ _ bH,am _ _ cA,am _ _ fU];clear ah am aS bH cA fU;refine cI 5 f27 rfl ?_;go_wp2_with fail;refine jz.mono ?_;rintro e w0 ⟨rfl,rfl⟩;go_wp2_with fail;refine dV [bx] wx [([0,1,2,4,5,6],3),([],7),([],8)] [9] ?_;refine av fun K1 ct=>?_
 simp only[af,Zx];repeat go_big_quiet_step(fail)
 apply wpQuiet_nil;go_wp2_with fail;refine ht.mono ?_;rintro e w1 ⟨X,rfl,hT⟩;obtain⟨ag,⟨v1,jX⟩,DC,CJ,gw⟩:=hT.leaves hs Fx.out;have qJ:=(gw.stay bx (by show bx<wx.drew.heap.size;exact jZ) (by unfold bv;rw[iw.out];omega)).2;have Ed:=ul.out ag va w1 CJ;go_wp2_with fail;refine⟨br qJ,ct _ _ ?_⟩;refine av fun K2 ge=>?_
 simp only[af,Zx];apply wpQuiet_nil;go_wp2_with fail;refine Ed.mono ?_;rintro e w2 ⟨Y,rfl,KY⟩;obtain⟨bu,⟨va2,pW⟩,Tn,CX,qr⟩:=KY.leaves hs jX;have nD:=(qr.stay bx (Nat.lt_of_lt_of_le jZ gw.size) (by unfold aT;rw[(gw.stay bx jZ (by unfold bv;rw[iw.out];omega)).1,iw.out];omega)).2.trans qJ;have o6:=(dO qr (i:=q) (by omega)).outX DC;have ik:=nX o6 Tn;have nr:=zH (((aM.same aa (dQ wx)).keeps q fun _ _ _ hf=>hf).trans ((gn gw (i:=q) (by omega)).trans (dO qr (i:=q) (by omega))));go_wp2_with fail;refine⟨br nD,ge _ _ ?_⟩;refine av fun K6 rS=>?_
 simp only[af,Zx];apply wpQuiet_nil;go_wp2_with fail;refine ik.mono ?_;rintro e w3 ⟨rfl,BP⟩;have jr:=(BP.block bx (Nat.lt_of_lt_of_le jZ (Nat.le_trans gw.size qr.size))).trans nD;have hB:=zH (ii.below (R:=O.2) hs ⟨⟨v1,CX⟩,va2,pW⟩ BP);have T0:=zH (nr.out.trans ((aM.same bu BP).keeps q fun _ _ _ hf=>hf));go_wp2_with fail;refine⟨br jr,rS _ _ ?_⟩;refine aj ?_;simp only[af,Zx];repeat go_big_quiet_step(fail)
 apply wpQuiet_nil;go_wp2_with fail;exact⟨⟨rfl,rfl,rfl,rfl,rfl⟩,bu,hB.out,T0.out⟩
end
section
variable {ga gb bx b c q K0:Nat}{aa:Nat->Nat}{R:Rf}{wx w':World}{K:Act->World->Prop}{H:Ending->World->Prop}{l:List Value}{x:Ac}{s:As}
theorem F1(hs:qO b c q)(hf:fN K0 R)(ct:1<=K0)(zA:K0<=8000)(h:ii aa b c q wx ga gb R)(hx:o8 aa q wx x s)(hb:ar wx bx 44 (km x s))(iw:aa bx=c+10)(hk:gP x.kind 5=1)
  (hl:ol l ga gb bx (.bool true)) (hK:∀(l':List Value) (w':World),ol l' ga gb bx (.bool true)/\zt aa b c q wx ga gb (R.step x.msg).2 w'->K ⟨l'.toArray,[]⟩ w') :
  sP 5 f27 K H l wx:=by
 obtain⟨⟨v,hr⟩,va,ha⟩:=h;have rl:=hs.1;have Ev:=hs.2;have jz:=j6 x.kind 5 wx hx.kb.1 hx.kb.2 (by omega) (by omega);rw[hk]at jz;have Oa:=hx.e.len;have RZ:=hx.d.len;have AH:o8 aa q wx.drew x s:=cK.act ((aM.same aa (dQ wx)).keeps q fun _ _ _ hf=>hf) hx;have ht:=oB q x.msg s.ea s.da s.en s.ec s.dn s.dc q (hr.below (dQ wx)) hf.ok ct zA (by omega) (by omega) (by omega) AH.e AH.d Oa.1.symm RZ.1.symm;unfold eH vi at ht;obtain⟨O,hO⟩:=zN (R.step x.msg);rw[hO]at ht hK;have rO:=hf.fit;have oE:=hf.low;have cB:=hf.ok;have Fx:=ha.below (dQ wx);have ul:∀(ag:Nat->Nat) (va1:Aw) (w1:World),o8 ag q w1 x s->aJ ag c q w1 gb R va1->Calls prog 20 #[.pointer (some ⟨gb,0,none⟩),eH x.msg (.slice s.ea s.en s.ec) (.slice s.da s.dn s.dc)] w1 fun e w'=>∃Y,e=.returned (.agg (aZ O.1 Y))/\cU ag c q w1 gb O.1 O.2 Y w':=by
  intro ag va1 w1 om h1;rw[<-hO];exact DR x.msg s.ea s.da s.en s.ec s.dn s.dc hs.apart h1 cB ct zA (by omega) oE om.e om.d Oa.1.symm RZ.1.symm
 obtain⟨y0,y2,y3,y4,y5,y6,y7,y8,y9,y10,y11,y12,y13,y14,-⟩:=hb.cs [0,2,3,4,5,6,7,8,9,10,11,12,13,14];simp only[km,vi,Zx]at y0 y2 y3 y4 y5 y6 y7 y8 y9 y10 y11 y12 y13 y14;obtain⟨k2,k3,k4,k5,k6,k7,k8,k9,k10,k11,k12,k13,k14⟩:=vV [bx] y2 y3 y4 y5 y6 y7 y8 y9 y10 y11 y12 y13 y14;have jZ:=hb.lt;replace ul:=zH ul;replace hO:=zH hO;replace hb:=zH hb;replace hx:=zH hx;replace AH:=zH AH;replace Oa:=zH Oa;replace RZ:=zH RZ;replace hf:=zH hf;replace cB:=zH cB;replace rO:=zH rO;replace oE:=zH oE;replace Fx:=zH Fx;replace iw:=zH iw;clear ha hr hk;obtain⟨ah,aS,bH,cA,fU⟩:=hl;obtain⟨fr,rfl,am⟩:=an ah;rw[gc,am _ _ aS,am _ _ bH,am _ _ cA,am _ _ fU];clear ah am aS bH cA fU;refine cI 5 f27 rfl ?_;go_wp2_with fail;refine jz.mono ?_;rintro e w0 ⟨rfl,rfl⟩;go_wp2_with fail;refine dV [bx] wx [([0,1,2,4,5,6],3),([],7),([],8)] [9] ?_;refine av fun K1 ct=>?_
 simp only[af,Zx];repeat go_big_quiet_step(fail)
 apply wpQuiet_nil;go_wp2_with fail;refine ht.mono ?_;rintro e w1 ⟨X,rfl,hT⟩;obtain⟨ag,⟨v1,jX⟩,DC,CJ,gw⟩:=hT.leaves hs Fx.out;have qJ:=(gw.stay bx (by show bx<wx.drew.heap.size;exact jZ) (by unfold bv;rw[iw.out];omega)).2;have Ed:=ul.out ag va w1 ((gn gw (i:=q) (by omega)).act AH.out) CJ;unfold eH vi at Ed;go_wp2_with fail;refine⟨br qJ,ct _ _ ?_⟩;refine av fun K2 ge=>?_
 simp only[af,Zx];apply wpQuiet_nil;go_wp2_with fail;refine Ed.mono ?_;rintro e w2 ⟨Y,rfl,KY⟩;obtain⟨bu,⟨va2,pW⟩,Tn,CX,qr⟩:=KY.leaves hs jX;have nD:=(qr.stay bx (Nat.lt_of_lt_of_le jZ gw.size) (by unfold aT;rw[(gw.stay bx jZ (by unfold bv;rw[iw.out];omega)).1,iw.out];omega)).2.trans qJ;have o6:=(dO qr (i:=q) (by omega)).outX DC;have ik:=nX o6 Tn;have nr:=zH (((aM.same aa (dQ wx)).keeps q fun _ _ _ hf=>hf).trans ((gn gw (i:=q) (by omega)).trans (dO qr (i:=q) (by omega))));go_wp2_with fail;refine⟨br nD,ge _ _ ?_⟩;refine av fun K6 rS=>?_
 simp only[af,Zx];apply wpQuiet_nil;go_wp2_with fail;refine ik.mono ?_;rintro e w3 ⟨rfl,BP⟩;have jr:=(BP.block bx (Nat.lt_of_lt_of_le jZ (Nat.le_trans gw.size qr.size))).trans nD;have hB:=zH (ii.below (R:=O.2) hs ⟨⟨v1,CX⟩,va2,pW⟩ BP);have T0:=zH (nr.out.trans ((aM.same bu BP).keeps q fun _ _ _ hf=>hf));go_wp2_with fail;refine⟨br jr,rS _ _ ?_⟩;refine aj ?_;simp only[af,Zx];repeat go_big_quiet_step(fail)
 apply wpQuiet_nil;go_wp2_with fail;exact⟨⟨rfl,rfl,rfl,rfl,rfl⟩,bu,hB.out,T0.out⟩
end
section
open Go.MapKept
def dT(l:List Pr)(k:Nat):List Pr:=(l.take k).map (fun p=>{p with offset:=0})++l.drop k
theorem tw(l:List Pr):dT l 0=l:=rfl
theorem pF(l:List Pr)(k:Nat):(dT l k).length=l.length:=by
 unfold dT;rw[List.length_append,List.length_map,List.length_take,List.length_drop];omega
theorem vl(l:List Pr){k:Nat}(h:l.length<=k):dT l k=l.map fun p=>{p with offset:=0}:=by
 unfold dT;rw[List.take_of_length_le h,List.drop_eq_nil_of_le h,List.append_nil]
theorem zM(l:List Pr){k:Nat}(h:k<l.length):(dT l k)[k]?=l[k]?:=by
 unfold dT;rw[List.getElem?_append_right (by rw[List.length_map,List.length_take];omega),List.length_map,List.length_take,List.getElem?_drop];congr 1;omega
theorem ss(l:List Pr){k:Nat}{p:Pr}(h:l[k]?=some p):(dT l k).set k {p with offset:=0}=dT l (k+1):=by
 have hk:=(List.getElem?_eq_some_iff.1 h).1;have e1:l.drop k=p::l.drop (k+1):=gF h;have hl:((l.take k).map fun p=>({p with offset:=0}:Pr)).length=k:=by rw[List.length_map,List.length_take];omega
 unfold dT;rw[e1,List.set_append_right _ _ (by omega),hl,Nat.sub_self,List.set_cons_zero,List.take_add_one,h,List.map_append,List.append_assoc];rfl
section
variable {aa:Nat->Nat}{b g n c:Nat}{w:World}{R:Rf}{v:Rw}{A:Option Addr}
theorem yo{K M:Nat}(index:Int)(l:List UInt8)(h:ax aa b w g R v)(hk:Ok K M R)(hK:K<=10000)(hr:Rd w A n l)(PY:n<=1000000000) :
  Calls prog 76 #[.pointer (some ⟨g,0,none⟩),.int .i64 index,.slice A n c] w fun e w'=>e=.returned (.int .i64 (R.compact index l).1)/\ao aa b w g (R.compact index l).2 w':=by
 have cQ:=h.s.lt;have rB:=hr.len;have hN:R.track.L.length<=1000000:=by have:=hk.trk;omega
 have bl:=oy h.t;have oX:=hk.cm;have c8:=h.s.cell 8;simp only[bE,vi,Zx]at c8;have mx:∃m,R.peers.length=m:=⟨_,rfl⟩;have cj:R.compact index l=if ¬(1<=l.length/\l.length<=65536)then(1,R)else if R.commit<index then(33,R)else if index<=R.track.index then(0,R)else(0,{R with snap:=⟨index,(R.track.termF index).1,l⟩,track:=(R.track.dropF index).2,peers:=R.peers.map fun p=>{p with offset:=0}}):=rfl
 have hH:=zH h;replace hk:=zH hk;by_cases h1:1<=l.length/\l.length<=65536
 ·rw[if_neg (by simpa using h1)]at cj;have e1:decide (1<=(n:Int)/\(n:Int)<=65536)=true:=decide_eq_true (by omega);have Kj:n<=65536:=by omega
  have rD:0<n:=by omega
  by_cases h2:R.commit<index
  ·rw[if_pos h2]at cj;replace cj:=zH cj;clear h;go_enter func76,ntmps76;go_wp2_with fail;refine bl.mono ?_;rintro e w1 ⟨rfl,bs⟩;have py:=hH.out.below bs;have d12:=py.s.cell 12;simp only[bE,vi,Zx]at d12;have lC:=mP e1 w1;have hQ:=zH (show ao aa b w g R w1 from⟨aa,v,py,fun _ _ _=>rfl,fun _ _ h=>h,Fr.of_below bs⟩);clear py bl;go_wp2_with fail;refine lC.mono ?_;rintro e w9 ⟨rfl,rfl⟩;go_wp2_with fail;go_ret;exact⟨by rw[cj.out];rfl,by rw[cj.out];exact hQ.out⟩
  ·rw[if_neg h2]at cj;replace h2:=Int.not_lt.1 h2;by_cases h3:index<=R.track.index
   ·rw[if_pos h3]at cj;replace cj:=zH cj;clear h;go_enter func76,ntmps76;go_wp2_with fail;refine bl.mono ?_;rintro e w1 ⟨rfl,bs⟩;have py:=hH.out.below bs;have d12:=py.s.cell 12;simp only[bE,vi,Zx]at d12;have lC:=mP e1 w1;have hQ:=zH (show ao aa b w g R w1 from⟨aa,v,py,fun _ _ _=>rfl,fun _ _ h=>h,Fr.of_below bs⟩);clear py bl;go_wp2_with fail;refine lC.mono ?_;rintro e w9 ⟨rfl,rfl⟩;go_wp2_with fail;go_ret;exact⟨by rw[cj.out];rfl,by rw[cj.out];exact hQ.out⟩
   ·rw[if_neg h3]at cj;replace h3:=Int.not_le.1 h3;replace cj:=zH cj;clear h;go_enter func76,ntmps76;go_wp2_with fail;refine bl.mono ?_;rintro e w1 ⟨rfl,bs⟩;have py:=hH.out.below bs;obtain⟨d8,d12,-⟩:=py.s.cs [8,12];simp only[bE,vi,Zx]at d8 d12;have lC:=mP e1 w1;have bh:=lT index py.t hN;clear bl;go_wp2_with fail;refine lC.mono ?_;rintro e w9 ⟨rfl,rfl⟩;go_wp2_with fail;refine bh.mono ?_;rintro e w2 ⟨rfl,bJ⟩;clear bh lC;have du:=ab bs bJ zl;have eB:=pt A n c l w2 (hr.below du) PY;go_wp2_with fail;refine eB.mono ?_;rintro e w3 ⟨A3,c3,rfl,bF,bS⟩;clear eB d8 d12 py;have eE:=ab du bS zl;have CM:=hH.out.fresh' (b+6) eE;obtain⟨tt,i7⟩:=zN ((R.track.termF index).1);have zd:=bA bF;obtain⟨w4,eL⟩:=zN (((w3.setCell ⟨g,9,none⟩ (.int .i64 index)).setCell ⟨g,10,none⟩ (.int .i64 tt)).setCell ⟨g,11,none⟩ (.slice A3 n c3));have iK:Fr (fun j=>j=g) w3 w4:=by rw[<-eL];exact((Fr.set g 9 _).trans (Fr.set g 10 _) fun _ h=>.inl h).trans (Fr.set g 11 _) fun _ h=>.inl h
    have AI:ar w4 g 107 (bE {R with snap:=⟨index,tt,l⟩} {v with dat:=.slice A3 n c3}):=by
     rw[<-eL];have s:=((CM.s.set_ 9 (.int .i64 index)).set_ 10 (.int .i64 tt)).set_ 11 (.slice A3 n c3);simp only[bE,Zy]at s;exact s
    have gK:g<w3.heap.size:=CM.s.lt;have h4:ax (ai aa w.heap.size (b+6)) b w4 g {R with snap:=⟨index,tt,l⟩} {v with dat:=.slice A3 n c3}:=by
     refine CM.turn [6] AI (fun _ _ _ _ _ _ e=>e) (by simp) (iK.mono fun j e=>.inl e) tI tI tI tI (.inl ?_) tI tI tI tI tI tI;have fR:=cH bF fun j hj hl=>iK.block j hl fun e=>by
      have:=(aB bF A3 c3 rfl j hj).2.1;have:=du.size;omega
     refine⟨A3,c3,(show Value.slice A3 n c3=.slice A3 l.length c3 by rw[rB]),?_,by show l.length<=c3;rw[rB];exact zd.1,zd.2,fun _ ad e=>ay ?_⟩
     ·show cn w4 1 A3 l.length (l.map vb);rw[rB];exact cn.of_own fR
     ·have:=(aB bF A3 c3 rfl _ ⟨ad,e,rfl⟩).2.1;have:=du.size;omega
    obtain⟨d8,d9,d10,d11,-⟩:=CM.s.cs [8,9,10,11];simp only[bE,vi,Zx]at d8 d9 d10 d11;obtain⟨f9,f10,f11,-⟩:=CM.s.fs [9,10,11];have Kl:w4.cell? ⟨g,8,none⟩=some v.trk:=by
     have:=h4.s.cell 8;simp only[bE,Zx]at this;exact this
    have vh:=AT index h4 hN;have Ie:Fr (aN aa b) w w4:=(Fr.of_below (X:=aN aa b) eE).trans (iK.mono (X':=aN aa b) fun j e=>by rw[e];have:=hH.out.sl;exact⟨by omega,by omega⟩) fun j hj=>.inl hj
    clear CM h4 AI bF iK;go_wp2_with fail;refine vh.mono ?_;rintro e w5 ⟨rfl,cV,v5,h5,q1,q2,q3⟩;clear vh d8 d9 d10 d11 f9 f10 f11 Kl;obtain⟨R5,oZ⟩:=zN (({R with snap:=⟨index,tt,l⟩,track:=(R.track.dropF index).2}:Rf));have Rz:ax cV b w5 g R5 v5:=by rw[<-oZ];exact h5
    have tF:(R.compact index l)=(0,{R5 with peers:=R5.peers.map fun p=>{p with offset:=0}}):=by rw[cj.out,<-oZ,i7]
    obtain⟨P,hP⟩:=zN (R5.peers);obtain⟨m,hm⟩:=zN (P.length);obtain⟨Ap,cp,eX,Ka,_⟩:=id Rz.p;have pu:=bA Ka;unfold maxLen at pu;rw[hP,hm]at pu;clear Ka;have d0:w5.cell? ⟨g,0,none⟩=some (.slice Ap m cp):=by
     have:=Rz.s.cell 0;simp only[bE,Zx]at this;rw[this,eX,hP,hm]
    have Wk:ax cV b w5 g {R5 with peers:=dT P 0} v5:=by rw[tw,<-hP];exact Rz
    replace tF:=zH tF;replace hm:=zH hm;clear oZ h5 i7 eL Rz;go_wp2_with fail
    go_loopw [65] (fun i wr=>∃k:Nat,k<=m/\i=.int .i64 k/\ax cV b wr g {R5 with peers:=dT P k} v5/\Fr (aN cV b) w5 wr) (fun i _=>m-(intOf i).toNat)
    case atStart=>exact⟨0,Nat.zero_le _,rfl,Wk,Fr.refl _ _⟩
    case round=>
     clear Wk;obtain⟨k,Ro,rfl,Lj,G4⟩:=hrel;by_cases aU:k<m
     ·have ik:k<({R5 with peers:=dT P k}:Rf).peers.length:=by show k<(dT P k).length;rw[pF,hm.out];exact aU
      obtain⟨q,cq,xz,nC,pl,p0,p1,p2,p3,pf⟩:=Lj.peer_at ik;have Vk:P[k]?=some (P[k]'(by rw[hm.out];exact aU)):=List.getElem?_eq_getElem _;have jz:({R5 with peers:=dT P k}:Rf).peer k=P[k]'(by rw[hm.out];exact aU):=by
       unfold Rf.peer;show((dT P k)[k]?).getD Is=_;rw[zM P (by rw[hm.out];exact aU),Vk];rfl
      have ez:Value.slice Ap m cp=.slice (some ⟨q,0,none⟩) m cq:=by
       rw[eX]at xz;have e1:({R5 with peers:=dT P k}:Rf).peers.length=m:=by show(dT P k).length=m;rw[pF,hm.out]
       have e2:R5.peers.length=m:=by rw[hP,hm.out]
       rw[e1,e2]at xz;exact xz
      obtain⟨SO,OB,_⟩:=Lj.setPeer (s:=k) (j:=2) (u:=.int .i64 0) (p':={P[k]'(by rw[hm.out];exact aU)with offset:=0}) ik xz (by omega) (by rw[jz];rfl);have Uy:ax cV b (wr.setCell ⟨q,k*4+2,none⟩ (.int .i64 0)) g {R5 with peers:=dT P (k+1)} v5:=by
       have e:({R5 with peers:=dT P k}:Rf).setPeer k {P[k]'(by rw[hm.out];exact aU)with offset:=0}={R5 with peers:=dT P (k+1)}:=by
        unfold Rf.setPeer;show({R5 with peers:=(dT P k).set k _}:Rf)=_;rw[ss P Vk]
       rw[e]at SO;exact SO
      have UO:Fr (aN cV b) w5 (wr.setCell ⟨q,k*4+2,none⟩ (.int .i64 0)):=G4.trans (OB.mono (X':=aN cV b) fun j e=>by rw[e];exact⟨by omega,by omega⟩) fun j hj=>.inl hj
      have d0':wr.cell? ⟨g,0,none⟩=some (.slice (some ⟨q,0,none⟩) m cq):=by
       have:=Lj.s.cell 0;simp only[bE,Zx]at this;rw[this,eX,hP,hm.out,ez]
      have pf2:=pf (k*4+2);have aP:=zH (show m-(k+1)<m-k by omega);clear SO Lj ez jz Vk xz p0 p1 p3 ik;go_wp2_with fail;exact⟨⟨k+1,aU,by go_num,Uy,UO⟩,by simp[intOf];exact aP.out⟩
     ·obtain rfl:m=k:=by omega
      have Y5:=Ie.size;have hQ:=zH (show ao aa b w g (R.compact index l).2 wr by
       rw[tF.out];rw[vl P (by rw[hm.out];exact Nat.le_refl _)]at Lj;rw[hP];refine ao.next (ag:=cV) (w':=w5) ⟨cV,v5,Lj,fun _ _ _=>rfl,fun _ _ h=>h,G4⟩ (fun j hj hx=>?_) (fun j hj hx=>?_) (Ie.trans q3 fun j hj=>?_)
       ·rw[q1 j (by omega) fun hh=>hx (by unfold aN at hh ⊢;rw[ac hj]at hh;exact hh)];exact ac hj
       ·exact q2 j (by omega) (by unfold aN at hx ⊢;rw[ac hj];exact hx)
       ·rcases Nat.lt_or_ge j w.heap.size with hl|hl
        ·unfold aN at hj;rw[ac hl]at hj;exact .inl hj
        ·exact .inr hl)
      clear Lj;go_wp2_with fail;go_ret;exact⟨by rw[tF.out];rfl,hQ.out⟩
 ·rw[if_pos (by simpa using h1)]at cj;replace cj:=zH cj;have e1:decide (1<=(n:Int)/\(n:Int)<=65536)=false:=decide_eq_false (by omega);clear h;go_enter func76,ntmps76;go_wp2_with fail;refine bl.mono ?_;rintro e w1 ⟨rfl,bs⟩;have py:=hH.out.below bs;have lC:=mP e1 w1;have hQ:=zH (show ao aa b w g R w1 from⟨aa,v,py,fun _ _ _=>rfl,fun _ _ h=>h,Fr.of_below bs⟩);clear py bl;go_wp2_with fail;refine lC.mono ?_;rintro e w9 ⟨rfl,rfl⟩;go_wp2_with fail;go_ret;exact⟨by rw[cj.out];rfl,by rw[cj.out];exact hQ.out⟩
end
end
section
variable {aa:Nat->Nat}{c q g n d:Nat}{w:World}{R:Rf}{v:Aw}{A:Option Addr}
theorem xg{K M:Nat}(index:Int)(l:List UInt8)(ha:aL c q)(h:aJ aa c q w g R v)(hk:Ok K M R)(hK:K<=50000)(mx:R.peers.length<=8)(hD:bM aa q w (.slice A n d) l) :
  Calls prog 77 #[.pointer (some ⟨g,0,none⟩),.int .i64 index,.slice A n d] w fun e w'=>e=.returned (.int .i64 (R.compact index l).1)/\au aa c q w g (R.compact index l).2 w':=by
 have cQ:=h.s.lt;have hN:R.track.L.length<=1000000:=by have:=hk.trk;omega
 have cj:R.compact index l=if ¬(1<=l.length/\l.length<=65536)then(1,R)else if R.commit<index then(33,R)else if index<=R.track.index then(0,R)else(0,{R with snap:=⟨index,(R.track.termF index).1,l⟩,track:=(R.track.dropF index).2,peers:=R.peers.map fun p=>{p with offset:=0}}):=rfl
 have rB:l.length=n:=by
  obtain⟨A0,c0,e,_⟩:=id hD;injection e with _ e _;exact e.symm
 obtain⟨gt,gM,ye,pI,ua⟩:=h.trk_at;obtain⟨c4,c5,c6,c8,-⟩:=h.s.cs [4,5,6,8];simp only[bj,vi,Zx]at c4 c5 c6 c8;rw[gM]at c4;have ez:=zH (au.refl h);have hH:=zH h;replace hk:=zH hk;by_cases h1:1<=l.length/\l.length<=65536
 ·rw[if_neg (by simpa using h1)]at cj;have e1:¬((n:Int)<1):=by omega
  have e2:¬(65536<(n:Int)):=by omega
  replace rB:=zH rB;by_cases h2:R.commit<index
  ·rw[if_pos h2]at cj;replace cj:=zH cj;clear h;go_enter func77,ntmps77;go_wp2_with fail;go_ret;exact⟨by rw[cj.out];rfl,by rw[cj.out];exact ez.out⟩
  ·rw[if_neg h2]at cj;replace h2:=Int.not_lt.1 h2;by_cases h3:index<=R.track.index
   ·rw[if_pos h3]at cj;replace cj:=zH cj;clear h;go_enter func77,ntmps77;go_wp2_with fail;go_ret;exact⟨by rw[cj.out];rfl,by rw[cj.out];exact ez.out⟩
   ·rw[if_neg h3]at cj;replace h3:=Int.not_le.1 h3;have bh:=mb index h.t hN;obtain⟨tt,i7⟩:∃x,R.track.termF index=x:=⟨_,rfl⟩;rw[i7,gM]at bh;rw[i7]at cj;obtain⟨Ad,dd,rv,_⟩:=id h.d;have c7:w.cell? ⟨g,7,none⟩=some (.slice Ad R.snap.data.length dd):=by
     have:=h.s.cell 7;simp only[bj,Zx]at this;rw[this,rv]
    obtain⟨f5,f6,f7,-⟩:=h.s.fs [5,6,7];have s2:=((h.s.set_ 5 (.int .i64 index)).set_ 6 (.int .i64 tt.1)).set_ 7 (.slice A n d);simp only[bj,Zy]at s2;obtain⟨w2,cw⟩:=zN (((w.setCell ⟨g,5,none⟩ (.int .i64 index)).setCell ⟨g,6,none⟩ (.int .i64 tt.1)).setCell ⟨g,7,none⟩ (.slice A n d));have di:Fr (fun j=>j=g) w w2:=by rw[<-cw];exact((Fr.set g 5 _).trans (Fr.set g 6 _) fun _ h=>.inl h).trans (Fr.set g 7 _) fun _ h=>.inl h
    rw[cw]at s2;have qw:Fr (fun j=>j=g\/∃i,i∈([]:List Nat)/\aa j=c+i) w w2:=di.mono fun j e=>.inl e
    have Bi:∀j,aa j=q->j≠g:=fun j hj e=>by have:=h.sl;rw[e]at hj;unfold aL at ha;omega
    have Gk:bM aa q w2 (.slice A n d) l:=hD.keep fun j hj hl=>di.block j hl (Bi j hj)
    have h4:aJ aa c q w2 g {R with snap:=⟨index,tt.1,l⟩} {v with dat:=.slice A n d}:=h.turn [] ha s2 (fun j hj=>rfl) (by simp) qw tI tI tI tI (.inl Gk) (.inr ⟨rfl,rfl⟩) tI tI (.inr ⟨rfl,rfl⟩) tI tI;have yE:au aa c q w g {R with snap:=⟨index,tt.1,l⟩} w2:=h.nums_post ha h4 di;have qd:=vx index ha h4 hN;rw[show({v with dat:=.slice A n d}:Aw).trk=.pointer (some ⟨gt,0,none⟩)from gM]at qd;have d4:w2.cell? ⟨g,4,none⟩=some (.pointer (some ⟨gt,0,none⟩)):=by
     have:=h4.s.cell 4;simp only[bj,Zx]at this;rw[this];exact congrArg some gM
    obtain⟨td,Ks⟩:∃x,R.track.dropF index=x:=⟨_,rfl⟩;rw[show({R with snap:=⟨index,tt.1,l⟩}:Rf).track=R.track from rfl,Ks]at qd;rw[Ks]at cj;replace cj:=zH cj;replace i7:=zH i7;replace Ks:=zH Ks;replace cw:=zH cw;clear h h4 s2 hD Gk;go_enter func77,ntmps77;go_wp2_with fail;refine bh.mono ?_;rintro e wA ⟨rfl,rfl⟩;clear bh;go_wp2_with fail;rw[cw.out];try go_wp2_with fail
    refine qd.mono ?_;rintro e w3 ⟨rfl,hV⟩;have Wi:au aa c q w g {R with snap:=⟨index,tt.1,l⟩,track:=td.2} w3:=by
     obtain⟨cM,r1,r2,r3⟩:=hV;refine au.next (ag:=aa) (w1:=w2) ⟨cM,_,r1,r2,r3⟩ (fun _ _=>rfl) ?_;exact di.mono fun j e=>by rw[e];have:=hH.out.sl;exact⟨by omega,by omega⟩
    have Wz:au aa c q w g {R with snap:=⟨index,tt.1,l⟩,track:=td.2,peers:=dT R.peers 0} w3:=by rw[tw];exact Wi
    clear qd hV Wi yE c4 c5 c6 c7 c8 f5 f6 f7 d4;go_wp2_with fail
    go_loopw [9] (fun i wr=>∃k:Nat,k<=R.peers.length/\i=.int .i64 k/\au aa c q w g {R with snap:=⟨index,tt.1,l⟩,track:=td.2,peers:=dT R.peers k} wr) (fun i _=>R.peers.length-(intOf i).toNat)
    case atStart=>exact⟨0,Nat.zero_le _,rfl,Wz⟩
    case round=>
     clear Wz;obtain⟨k,eb,rfl,ag,v1,py,cy,gR⟩:=hrel;obtain⟨L,hL⟩:=zN (R.peers.length);rw[hL]at eb mx;have xb:({R with snap:=⟨index,tt.1,l⟩,track:=td.2,peers:=dT R.peers k}:Rf).peers.length=L:=by show(dT R.peers k).length=L;rw[pF,hL]
     obtain⟨Ap,dp,eX,_⟩:=id py.p;rw[xb]at eX;have c14:wr.cell? ⟨g,14,none⟩=some (.slice Ap L dp):=by
      have:=py.s.cell 14;simp only[bj,Zx]at this;rw[this,eX]
     by_cases aU:k<L
     ·obtain⟨p,hp⟩:∃p,R.peers[k]?=some p:=⟨_,List.getElem?_eq_getElem (by omega)⟩;obtain⟨pr,dq,xz,nC,pl,p0,p1,p2,p3,qj⟩:=py.peer_at (s:=k) (by rw[xb];exact aU);have MB:=qj (k*4+2);clear qj;have Va:=xz;rw[eX,xb]at xz;injection xz with e1 _ e3;subst e1;subst e3;have jz:({R with snap:=⟨index,tt.1,l⟩,track:=td.2,peers:=dT R.peers k}:Rf).peer k=p:=by
       show((dT R.peers k)[k]?).getD Is=p;rw[zM R.peers (by omega),hp];rfl
      have aE:=py.setPeer (s:=k) (j:=2) (u:=.int .i64 0) (P':={p with offset:=0}) ha (by rw[xb];exact aU) Va (by omega) (by rw[jz];rfl);have ci:(({R with snap:=⟨index,tt.1,l⟩,track:=td.2,peers:=dT R.peers k}:Rf).setPeer k {p with offset:=0})={R with snap:=⟨index,tt.1,l⟩,track:=td.2,peers:=dT R.peers (k+1)}:=by
       unfold Rf.setPeer;rw[<-ss R.peers hp]
      rw[ci]at aE;have aF:au aa c q w g {R with snap:=⟨index,tt.1,l⟩,track:=td.2,peers:=dT R.peers (k+1)} (wr.setCell ⟨pr,k*4+2,none⟩ (.int .i64 0)):=
       au.next ⟨ag,v1,aE.1,fun _ _=>rfl,aE.2.1.mono fun j e=>by rw[e];exact⟨by omega,by omega⟩⟩ cy gR
      have aP:=zH (show L-(k+1)<L-k by omega);have XW:=zH hL;replace aF:=zH aF;clear py aE ci jz xb p0 p1 p3 hp;go_wp2_with fail;exact⟨⟨k+1,by rw[hL];exact aU,by go_num,aF.out⟩,by rw[hL];simp[intOf];exact aP.out⟩
     ·obtain rfl:k=L:=by omega
      have aF:=zH (show au aa c q w g (R.compact index l).2 wr by rw[cj.out,<-vl R.peers (k:=k) (by omega)];exact⟨ag,v1,py,cy,gR⟩);clear py xb;go_wp2_with fail;go_ret;exact⟨by rw[cj.out];rfl,aF.out⟩
 ·rw[if_pos (by simpa using h1)]at cj;have cu:((n:Int)<1)\/(¬((n:Int)<1)/\65536<(n:Int)):=by omega
  replace cj:=zH cj;replace rB:=zH rB;clear h h1;rcases cu with a|⟨a,b⟩
  all_goals
   go_enter func77,ntmps77;go_wp2_with fail;go_ret;exact⟨by rw[cj.out];rfl,by rw[cj.out];exact ez.out⟩
end
section
variable {ga gb bx b c q K0:Nat}{aa:Nat->Nat}{R:Rf}{wx w':World}{K:Act->World->Prop}{H:Ending->World->Prop}{l:List Value}{x:Ac}{s:As}
theorem QG{i n c:Nat}{aa:Nat->Nat}{w:World}{A:Option Addr}{l:List UInt8}(h:bM aa i w (.slice A n c) l):Rd w A n l:=by
 obtain⟨A0,c0,e,h1,_⟩:=h;injection e with e1 e2 e3;subst e1 e2;exact h1
theorem xD(hs:qO b c q)(hf:fN K0 R)(fi:s.bn<=1000)(ct:1<=K0)(zA:K0<=8000)(h:ii aa b c q wx ga gb R)(hx:o8 aa q wx x s)(hb:ar wx bx 44 (km x s))(iw:aa bx=c+10)(hk:gP x.kind 5=4)
  (hl:ol l ga gb bx (.bool true)) (hK:∀(l':List Value) (w':World),ol l' ga gb bx (.bool true)/\zt aa b c q wx ga gb (R.compact x.n x.data).2 w'->K ⟨l'.toArray,[]⟩ w') :
  sP 5 f27 K H l wx:=by
 obtain⟨⟨v,hr⟩,va,ha⟩:=h;have rl:=hs.1;have Ev:=hs.2;have jz:=j6 x.kind 5 wx hx.kb.1 hx.kb.2 (by omega) (by omega);rw[hk]at jz;have AH:o8 aa q wx.drew x s:=cK.act ((aM.same aa (dQ wx)).keeps q fun _ _ _ hf=>hf) hx;have dx:=QG AH.b;have ht:=yo (c:=s.bc) x.n x.data (hr.below (dQ wx)) hf.ok (by omega) dx (by omega);obtain⟨O,hO⟩:=zN (R.compact x.n x.data);rw[hO]at ht hK;have rO:=hf.fit;have oE:=hf.low;have cB:=hf.ok;have Fx:=ha.below (dQ wx);have ul:∀(ag:Nat->Nat) (va1:Aw) (w1:World),o8 ag q w1 x s->aJ ag c q w1 gb R va1->Calls prog 77 #[.pointer (some ⟨gb,0,none⟩),.int .i64 x.n,.slice s.ba s.bn s.bc] w1 fun e w'=>e=.returned (.int .i64 O.1)/\au ag c q w1 gb O.2 w':=by
  intro ag va1 w1 om h1;rw[<-hO];exact xg x.n x.data hs.apart h1 cB (by omega) rO.2.1 om.b
 obtain⟨y0,y1,y19,-⟩:=hb.cs [0,1,19];simp only[km,vi,Zx]at y0 y1 y19;obtain⟨k1,k19⟩:=nY [bx] y1 y19;have jZ:=hb.lt;replace ul:=zH ul;replace hO:=zH hO;replace hb:=zH hb;replace hx:=zH hx;replace AH:=zH AH;clear dx;replace hf:=zH hf;replace cB:=zH cB;replace rO:=zH rO;replace oE:=zH oE;replace Fx:=zH Fx;replace iw:=zH iw;clear ha hr hk;obtain⟨ah,aS,bH,cA,fU⟩:=hl;obtain⟨fr,rfl,am⟩:=an ah;rw[gc,am _ _ aS,am _ _ bH,am _ _ cA,am _ _ fU];clear ah am aS bH cA fU;refine cI 5 f27 rfl ?_;go_wp2_with fail;refine jz.mono ?_;rintro e w0 ⟨rfl,rfl⟩;go_wp2_with fail;refine dV [bx] wx [([0,1,2,3,4,6,7,8,9,10],5),([],11)] [12,13] ?_;refine av fun K1 ct=>?_
 simp only[af,Zx];repeat go_big_quiet_step(fail)
 apply wpQuiet_nil;go_wp2_with fail;refine ht.mono ?_;rintro e w1 ⟨rfl,hT⟩;obtain⟨ag,⟨v1,jX⟩,CJ,gw⟩:=hT.leaves hs Fx.out;have qJ:=(gw.stay bx (by show bx<wx.drew.heap.size;exact jZ) (by unfold aN;rw[iw.out];omega)).2;have Ed:=ul.out ag va w1 ((sg gw (i:=q) (by omega)).act AH.out) CJ;go_wp2_with fail;refine⟨br qJ,ct _ _ ?_⟩;refine av fun K2 ge=>?_
 simp only[af,Zx];apply wpQuiet_nil;go_wp2_with fail;refine Ed.mono ?_;rintro e w2 ⟨rfl,KY⟩;obtain⟨bu,⟨va2,pW⟩,CX,qr⟩:=KY.leaves hs jX;have nD:=(qr.stay bx (Nat.lt_of_lt_of_le jZ gw.size) (by unfold aT;rw[(gw.stay bx jZ (by unfold aN;rw[iw.out];omega)).1,iw.out];omega)).2.trans qJ;have nr:=zH (((aM.same aa (dQ wx)).keeps q fun _ _ _ hf=>hf).trans ((sg gw (i:=q) (by omega)).trans (dO qr (i:=q) (by omega))));go_wp2_with fail;refine⟨br nD,ge _ _ ?_⟩;refine aj ?_;simp only[af,Zx];repeat go_big_quiet_step(fail)
 apply wpQuiet_nil;go_wp2_with fail;exact⟨⟨rfl,rfl,rfl,rfl,rfl⟩,bu,⟨⟨v1,CX⟩,va2,pW⟩,nr.out⟩
end
section
open Go.MapKept
section
variable {aa:Nat->Nat}{b g:Nat}{w:World}{R:Rf}{v:Rw}
theorem FZ{K M:Nat}(i:Nat)(ctx:Int)(h:ax aa b w g R v)(hk:Ok K M R)(hK:K<=8000)(hM:M<=10000)(kp:i≠b) :
  Calls prog 74 #[.pointer (some ⟨g,0,none⟩),.int .i64 ctx] w fun e w'=>∃X,e=.returned (.tuple #[.int .i64 (R.read ctx).1.1,.agg (bg (R.read ctx).1.2 X)])/\eA aa b i w g (R.read ctx).1.2 (R.read ctx).2 X w':=by
 have cQ:=h.s.lt;have aI:Below w.heap.size w (w.alloc (.cells bZ 49)):=zb.alloc zl _;have fA:=ar.new w 49 bZ;obtain⟨w1,bV⟩:=zN (w.alloc (.cells #[.bool false,.bool false,.int .i64 0,.int .i64 0,.slice none 0 0,.slice none 0 0,.pointer none,.slice none 0 0,.slice none 0 0] 49));rw[show w.alloc (.cells bZ 49)=w1 from bV]at aI fA;have hX:=cJ.start (N:=1) h aI (by have:=fA.lt;omega);obtain⟨ag,v1,h1,iI⟩:=hX.raft;have hN:R.track.L.length<=1000000:=by have:=hk.trk;omega
 obtain⟨c8,c12,-⟩:=h1.s.cs [8,12];simp only[bE,vi,Zx]at c8 c12;have iQ:g<w1.heap.size:=h1.s.lt;obtain⟨k8,k12⟩:=nY [g] c8 c12;have cT:∀q∈[g],q<w1.heap.size:=by simp;exact iQ
 have bh:=lT R.commit (h1.below (w':=w1.drew) (zb.drew)).t hN;obtain⟨tt,i7⟩:=zN (R.track.termF R.commit);rw[i7]at bh;have dx:R.read ctx=if R.role≠3\/tt.1≠R.hard.term then((40,dZ),R)else if Rf.numOk ctx=false then((1,dZ),R)else if 16<=R.waits.length then((41,dZ),R)else
   ((0,(({R with round:=R.round+1,waits:=R.waits++[Wt.mk ctx R.commit (R.round+1)]:Rf}.all.reads).tell).1),(({R with round:=R.round+1,waits:=R.waits++[Wt.mk ctx R.commit (R.round+1)]:Rf}.all.reads).tell).2):=by
  rw[<-i7];rfl
 have hH:=zH (⟨hX,iI⟩:cJ aa b w g R 1 w1/\∀w' R2,ao ag b w1 g R2 w'->cJ aa b w g R2 1 w'/\boxes w.heap.size 1 w1 w');have gZ:=zH h1;replace bV:=zH bV;replace hk:=zH hk;clear h i7 hX iI h1;have lC:∀W,Calls prog 36 #[.int .i64 ctx,.int .i64 0,.int .i64 1099511627776] W fun e w'=>e=.returned (.bool (Rf.numOk ctx))/\w'=W:=fun W=>mP (nZ ctx) W
 by_cases gC:R.role≠3\/tt.1≠R.hard.term
 ·rw[if_pos gC]at dx;replace dx:=zH dx;have cu:(R.role !=3)=true\/((R.role !=3)=false/\(tt.1 !=R.hard.term)=true):=by
   by_cases a:R.role=3
   ·exact .inr ⟨by simp[a],by rcases gC with h|h;exact absurd a h;simp[h]⟩
   ·exact .inl (by simp[a])
  replace gC:=zH gC;rcases cu with e1|⟨e1,e2⟩
  all_goals
   go_enter func74,ntmps74;go_wp2_with fail;rw[bV.out];refine dV [g] w1 [([0,1,2,3,4,5,6,7],8)] [9,10,11,12,13] ?_;refine av fun K1 ct=>?_
   simp only[af,Zx];repeat go_big_quiet_step(fail)
   apply wpQuiet_nil;go_wp2_with fail;refine bh.mono ?_;rintro e w2 ⟨rfl,bJ⟩;go_wp2_with fail;have bR:Below w1.heap.size w1 w2:=(zb.drew).trans bJ;refine⟨aq cT bR,ct _ _ ?_⟩;refine aj ?_;simp only[af,Zx];repeat go_big_quiet_step(fail)
   apply wpQuiet_nil;have h2:=gZ.out.below bR;obtain⟨d13,d6,-⟩:=h2.s.cs [13,6];simp only[bE,vi,Zx]at d13 d6;obtain⟨o6,nD⟩:=hH.out.1.below bR;have iC:=fA.kept bR;obtain⟨jY,eI⟩:=o6.zero (i:=i) (j:=w.heap.size) zl (by omega) iC kp;obtain⟨z0,z1,z2,z3,z4,z5,z6,z7,z8,-⟩:=iC.cs [0,1,2,3,4,5,6,7,8];simp only[bZ,vi,Zx]at z0 z1 z2 z3 z4 z5 z6 z7 z8;obtain⟨u0,u1,u2,u3,u4,u5,u6,u7,u8,-⟩:=iC.fs [0,1,2,3,4,5,6,7,8];have vF:=iC.lt;replace eI:=zH eI;clear h2 o6 iC bh;go_wp2_with fail;show bodyPost _ _ _ _ _ (dA w2 w.heap.size dZ lw);generalize dA w2 w.heap.size dZ lw=w9 at *;obtain⟨r0,r1,r2,r3,r4,r5,r6,r7,r8,-⟩:=jY.cs [0,1,2,3,4,5,6,7,8];simp only[bg,vi,Zx]at r0 r1 r2 r3 r4 r5 r6 r7 r8;exact bodyPost_ret (v:=.tuple #[.int .i64 40,.agg (bg dZ lw)]) (by simp[results,results74,go_sem,bg,r0,r1,r2,r3,r4,r5,r6,r7,r8]) rfl ⟨lw,by rw[dx.out],by rw[dx.out];exact eI.out⟩
 ·rw[if_neg gC]at dx;have hr:R.role=3:=by
   by_cases a:R.role=3
   ·exact a
   ·exact absurd (.inl a) gC
  have e1:(R.role !=3)=false:=by simp[hr]
  have e2:(tt.1 !=R.hard.term)=false:=by
   by_cases a:tt.1=R.hard.term
   ·simp[a]
   ·exact absurd (.inr a) gC
  replace gC:=zH gC;replace hr:=zH hr;cases dt:Rf.numOk ctx
  ·rw[if_pos dt]at dx;rw[dt]at lC;replace dx:=zH dx;go_enter func74,ntmps74;go_wp2_with fail;rw[bV.out];refine dV [g] w1 [([0,1,2,3,4,5,6,7],8)] [9,10,11,12,13] ?_;refine av fun K1 ct=>?_
   simp only[af,Zx];repeat go_big_quiet_step(fail)
   apply wpQuiet_nil;go_wp2_with fail;refine bh.mono ?_;rintro e w2 ⟨rfl,bJ⟩;go_wp2_with fail;have bR:Below w1.heap.size w1 w2:=(zb.drew).trans bJ;refine⟨aq cT bR,ct _ _ ?_⟩;refine aj ?_;simp only[af,Zx];repeat go_big_quiet_step(fail)
   apply wpQuiet_nil;have h2:=gZ.out.below bR;obtain⟨d13,d6,-⟩:=h2.s.cs [13,6];simp only[bE,vi,Zx]at d13 d6;obtain⟨o6,nD⟩:=hH.out.1.below bR;have iC:=fA.kept bR;have Gg:=lC w2;obtain⟨jY,eI⟩:=o6.zero (i:=i) (j:=w.heap.size) zl (by omega) iC kp;obtain⟨z0,z1,z2,z3,z4,z5,z6,z7,z8,-⟩:=iC.cs [0,1,2,3,4,5,6,7,8];simp only[bZ,vi,Zx]at z0 z1 z2 z3 z4 z5 z6 z7 z8;obtain⟨u0,u1,u2,u3,u4,u5,u6,u7,u8,-⟩:=iC.fs [0,1,2,3,4,5,6,7,8];have vF:=iC.lt;replace eI:=zH eI;clear h2 o6 iC bh;go_wp2_with fail;refine Gg.mono ?_;rintro e w9 ⟨rfl,rfl⟩;go_wp2_with fail;show bodyPost _ _ _ _ _ (dA w9 w.heap.size dZ lw);generalize dA w9 w.heap.size dZ lw=wE at *;obtain⟨r0,r1,r2,r3,r4,r5,r6,r7,r8,-⟩:=jY.cs [0,1,2,3,4,5,6,7,8];simp only[bg,vi,Zx]at r0 r1 r2 r3 r4 r5 r6 r7 r8;exact bodyPost_ret (v:=.tuple #[.int .i64 1,.agg (bg dZ lw)]) (by simp[results,results74,go_sem,bg,r0,r1,r2,r3,r4,r5,r6,r7,r8]) rfl ⟨lw,by rw[dx.out],by rw[dx.out];exact eI.out⟩
  ·rw[if_neg (by rw[dt];simp)]at dx;rw[dt]at lC;by_cases Di:16<=R.waits.length
   ·rw[if_pos Di]at dx;replace dx:=zH dx;go_enter func74,ntmps74;go_wp2_with fail;rw[bV.out];refine dV [g] w1 [([0,1,2,3,4,5,6,7],8)] [9,10,11,12,13] ?_;refine av fun K1 ct=>?_
    simp only[af,Zx];repeat go_big_quiet_step(fail)
    apply wpQuiet_nil;go_wp2_with fail;refine bh.mono ?_;rintro e w2 ⟨rfl,bJ⟩;go_wp2_with fail;have bR:Below w1.heap.size w1 w2:=(zb.drew).trans bJ;refine⟨aq cT bR,ct _ _ ?_⟩;refine aj ?_;simp only[af,Zx];repeat go_big_quiet_step(fail)
    apply wpQuiet_nil;have h2:=gZ.out.below bR;obtain⟨d13,d6,-⟩:=h2.s.cs [13,6];simp only[bE,vi,Zx]at d13 d6;obtain⟨o6,nD⟩:=hH.out.1.below bR;have iC:=fA.kept bR;have Gg:=lC w2;obtain⟨A,c,qG,_⟩:=id h2.q;obtain⟨n,hn⟩:=zN (R.waits.length);rw[hn]at qG Di;have e16:(16:Int)<=(n:Int):=by omega
    clear Di;have d2:w2.cell? ⟨g,2,none⟩=some (.slice A n c):=by
     have:=h2.s.cell 2;simp only[bE,Zx]at this;rw[this,qG]
    clear hn;obtain⟨jY,eI⟩:=o6.zero (i:=i) (j:=w.heap.size) zl (by omega) iC kp;obtain⟨z0,z1,z2,z3,z4,z5,z6,z7,z8,-⟩:=iC.cs [0,1,2,3,4,5,6,7,8];simp only[bZ,vi,Zx]at z0 z1 z2 z3 z4 z5 z6 z7 z8;obtain⟨u0,u1,u2,u3,u4,u5,u6,u7,u8,-⟩:=iC.fs [0,1,2,3,4,5,6,7,8];have vF:=iC.lt;replace eI:=zH eI;clear h2 o6 iC bh;go_wp2_with fail;refine Gg.mono ?_;rintro e w9 ⟨rfl,rfl⟩;go_wp2_with fail;show bodyPost _ _ _ _ _ (dA w9 w.heap.size dZ lw);generalize dA w9 w.heap.size dZ lw=wE at *;obtain⟨r0,r1,r2,r3,r4,r5,r6,r7,r8,-⟩:=jY.cs [0,1,2,3,4,5,6,7,8];simp only[bg,vi,Zx]at r0 r1 r2 r3 r4 r5 r6 r7 r8;exact bodyPost_ret (v:=.tuple #[.int .i64 41,.agg (bg dZ lw)]) (by simp[results,results74,go_sem,bg,r0,r1,r2,r3,r4,r5,r6,r7,r8]) rfl ⟨lw,by rw[dx.out],by rw[dx.out];exact eI.out⟩
   ·rw[if_neg Di]at dx;have re:=hk.out.ck;obtain⟨L9,ND⟩:=re.2.2;obtain⟨n,hn⟩:=zN (R.waits.length);rw[hn]at Di;have e16:(n:Int)<16:=by omega
    have DY:n+1<=16:=by omega
    clear Di;replace dx:=zH dx;replace hn:=zH hn;go_enter func74,ntmps74;go_wp2_with fail;rw[bV.out];refine dV [g] w1 [([0,1,2,3,4,5,6,7],8)] [9,10,11,12,13] ?_;refine av fun K1 ct=>?_
    simp only[af,Zx];repeat go_big_quiet_step(fail)
    apply wpQuiet_nil;go_wp2_with fail;refine bh.mono ?_;rintro e w2 ⟨rfl,bJ⟩;go_wp2_with fail;have bR:Below w1.heap.size w1 w2:=(zb.drew).trans bJ;refine⟨aq cT bR,ct _ _ ?_⟩;refine aj ?_;simp only[af,Zx];repeat go_big_quiet_step(fail)
    apply wpQuiet_nil;have h2:=gZ.out.below bR;obtain⟨d13,d6,d1,-⟩:=h2.s.cs [13,6,1];simp only[bE,vi,Zx]at d13 d6 d1;obtain⟨o6,nD⟩:=hH.out.1.below bR;have Gg:=lC w2;obtain⟨A,c,qG,_⟩:=id h2.q;rw[hn.out]at qG;have d2:w2.cell? ⟨g,2,none⟩=some (.slice A n c):=by
     have:=h2.s.cell 2;simp only[bE,Zx]at this;rw[this,qG]
    have f1:=h2.s.free 1;have s3:=h2.s.set_ 1 (.int .i64 (R.round+1));simp only[bE,Zy]at s3;obtain⟨w3,iU⟩:=zN (w2.setCell ⟨g,1,none⟩ (.int .i64 (R.round+1)));have lu:Fr (fun j=>j=g) w2 w3:=by rw[<-iU];exact Fr.set g 1 _
    rw[iU]at s3;have h3:=h2.nums (R':={R with round:=R.round+1}) s3 lu rfl rfl rfl rfl rfl rfl rfl rfl rfl rfl rfl;obtain⟨a1,a12,-⟩:=h3.s.cs [1,12];simp only[bE,vi,Zx]at a1 a12;have a2:w3.cell? ⟨g,2,none⟩=some (.slice A n c):=by
     have:=h3.s.cell 2;simp only[bE,Zx]at this;rw[this,qG]
    have gK:g<w3.heap.size:=h3.s.lt;obtain⟨q1,q2,q12⟩:=sD [g] a1 a2 a12;have ze:∀q∈[g],q<w3.heap.size:=by simp;exact gK
    replace iU:=zH iU;have dH:Below w3.heap.size w3 ((w3.alloc (.cells #[.int .i64 ctx,.int .i64 R.commit,.int .i64 (R.round+1)] 167)).drew):=((Below.refl w3.heap.size w3).alloc zl _).drew;have rH:ar ((w3.alloc (.cells #[.int .i64 ctx,.int .i64 R.commit,.int .i64 (R.round+1)] 167)).drew) w3.heap.size 167 #[.int .i64 ctx,.int .i64 R.commit,.int .i64 (R.round+1)]:=ar.new w3 _ _;have BG:=RdW.one (x:=⟨ctx,R.commit,R.round+1⟩) rH;have Wh:=h3.below dH;obtain⟨A0,c0,e0,bF,kr⟩:=id Wh.q;rw[qG]at e0;injection e0 with g1 g2 g3;subst g1;subst g3;have Ly:((w3.alloc (.cells #[.int .i64 ctx,.int .i64 R.commit,.int .i64 (R.round+1)] 167)).drew).ownsRow 0 167 3 (.slice A n c) n (R.waits.flatMap mT):=by rw[g2];exact bF
    clear g2 bF;have fi:n+1<=1000000000:=by omega
    have aF:∀(A6:Option Addr) (c6:Nat) (w6:World),w6.ownsRow 0 167 3 (.slice A6 (n+1) c6) (n+1) ((R.waits++[Wt.mk ctx R.commit (R.round+1)]).flatMap mT)->Fr (az A) ((w3.alloc (.cells #[.int .i64 ctx,.int .i64 R.commit,.int .i64 (R.round+1)] 167)).drew) w6->(∀j,az A6 j->az A j\/((w3.alloc (.cells #[.int .i64 ctx,.int .i64 R.commit,.int .i64 (R.round+1)] 167)).drew).heap.size<=j)->
      w6.heap[g]?=w3.heap[g]?/\ar w6 g 107 (bE {R with round:=R.round+1} v1)/\cJ aa b w g {R with round:=R.round+1,waits:=R.waits++[Wt.mk ctx R.commit (R.round+1)]} 1 (w6.setCell ⟨g,2,none⟩ (.slice A6 (n+1) c6))/\boxes w.heap.size 1 w1 (w6.setCell ⟨g,2,none⟩ (.slice A6 (n+1) c6)):=fun A6 c6 w6 oP jb nT=>by
     obtain⟨qp,iS,_⟩:=EC (Wt.mk ctx R.commit (R.round+1)) Wh qG oP jb nT;have Bj:Fr (aN ag b) w2 w3:=lu.mono fun j e=>by rw[e];have:=h3.sl;exact⟨by omega,by omega⟩
     obtain⟨tY,gz⟩:=hH.out.2 _ _ ((((qp.behind dH).next (fun _ _ _=>rfl) (fun _ _ h=>h) Bj).behind (w:=w1) bR));exact⟨iS.trans h3.s.symm,iS,tY,gz⟩
    clear bh;go_wp2_with fail;refine Gg.mono ?_;rintro e w9 ⟨rfl,rfl⟩;go_wp2_with fail;rw[iU.out];refine mI [g] w3 [([0,1,2,3,4,5,6,7,8,9,10,11,12,13,14,15,16,17],18),([],19)] ([20,21,22],23) ?_;refine ap fun K2 ge=>?_
    simp only[af,Zx];repeat go_big_quiet_step(fail)
    apply wpQuiet_nil;go_wp2_with fail;refine⟨aq ze dH,ge _ _ ?_⟩;refine ap fun K3 jx=>?_
    simp only[af,Zx];apply wpQuiet_nil;go_wp2_with (at_builtin;refine pR rfl (.tmp 64) (.tmp 77) rfl 0 rfl Ly rfl BG fi zz ?_;intro A6 c6 w6 oP jb nT;obtain⟨Fg,iS,tY,gz⟩:=aF A6 c6 w6 oP jb nT;replace tY:=zH tY;clear aF oP jb nT);have e2:=iS.cell 2;have f2:=iS.free 2;simp only[bE,Zx]at e2;have kS:=iS.lt;refine⟨br Fg,jx _ _ ?_⟩;refine aC ?_;simp only[af,Zx];repeat go_big_quiet_step(fail)
    apply wpQuiet_nil;go_wp2_with fail;have iY:Ok (K+1) M ({R with round:=R.round+1,waits:=R.waits++[Wt.mk ctx R.commit (R.round+1)]}:Rf):={hk.out.mono (Nat.le_succ K) (Nat.le_refl M)with
     ws:=by show(R.waits++[_]).length<=16;rw[List.length_append,hn.out];exact DY
     ck:=⟨re.1,by have:=re.2.1;show R.clock<=_;omega,by show 0<=R.round+1;omega,by show R.round+1<=_;omega⟩}
    have tD:({R with round:=R.round+1,waits:=R.waits++[Wt.mk ctx R.commit (R.round+1)]}:Rf).role=3:=hr.out;obtain⟨R5,oZ⟩:=zN (({R with round:=R.round+1,waits:=R.waits++[Wt.mk ctx R.commit (R.round+1)]}:Rf));have BT:=tY.out;have sx:=dx.out;rw[oZ]at iY tD BT sx;have eq:=BT.act (fun ag v1 h=>kI h (iY.peers tD (by omega)) (by have:=iY.ms;omega));have jS:=iY.all;have nT:R5.all.role=3:=by
     obtain⟨ms,e,_⟩:=ev R5.others R5;have e':R5.all=_:=e;rw[e'];exact tD
    replace iY:=zH iY;replace tD:=zH tD;replace nT:=zH nT;replace sx:=zH sx;replace jS:=zH jS;clear oZ BT tY;refine eq.mono ?_;rintro e w7 ⟨rfl,C5,io⟩;have JH:=C5.act (fun ag v1 h=>un h jS.out nT.out (by omega));clear eq C5;go_wp2_with fail;refine JH.mono ?_;rintro e w8 ⟨rfl,QJ,ug⟩;clear JH;have Vw:ar w8 w.heap.size 49 bZ:=((gz.trans io).trans ug).blk zl (by omega) fA;have cf:=QJ.take (j:=w.heap.size) i zl (by omega) Vw kp;obtain⟨OR,wZ⟩:=zN (Rf.tell R5.all.reads);rw[wZ]at cf;have nQ:=zH (show R.read ctx=((0,OR.1),OR.2) by rw[sx.out,wZ]);clear wZ QJ Vw;unfold bg at cf;go_wp2_with fail;refine cf.mono ?_;rintro e wT ⟨X,rfl,eK,jY,eI⟩;have Jv:=eK.lt;obtain⟨z0,z1,z2,z3,z4,z5,z6,z7,z8,-⟩:=eK.cs [0,1,2,3,4,5,6,7,8];simp only[bZ,vi,Zx]at z0 z1 z2 z3 z4 z5 z6 z7 z8;obtain⟨u0,u1,u2,u3,u4,u5,u6,u7,u8,-⟩:=eK.fs [0,1,2,3,4,5,6,7,8];replace eI:=zH eI;clear cf eK;go_wp2_with fail;show bodyPost _ _ _ _ _ (dA wT w.heap.size OR.1 X);generalize dA wT w.heap.size OR.1 X=wE at *;obtain⟨r0,r1,r2,r3,r4,r5,r6,r7,r8,-⟩:=jY.cs [0,1,2,3,4,5,6,7,8];simp only[bg,vi,Zx]at r0 r1 r2 r3 r4 r5 r6 r7 r8;exact bodyPost_ret (v:=.tuple #[.int .i64 0,.agg (bg OR.1 X)]) (by simp[results,results74,go_sem,bg,r0,r1,r2,r3,r4,r5,r6,r7,r8]) rfl ⟨X,by rw[nQ.out],by rw[nQ.out];exact eI.out⟩
end
end
section
variable {ga gb bx b c q K0:Nat}{aa:Nat->Nat}{R:Rf}{wx w':World}{K:Act->World->Prop}{H:Ending->World->Prop}{l:List Value}{x:Ac}{s:As}
theorem FK(hs:qO b c q)(hf:fN K0 R)(ct:1<=K0)(zA:K0<=8000)(h:ii aa b c q wx ga gb R)(hx:o8 aa q wx x s)(hb:ar wx bx 44 (km x s))(iw:aa bx=c+10)(hk:gP x.kind 5=3)
  (hl:ol l ga gb bx (.bool true)) (hK:∀(l':List Value) (w':World),ol l' ga gb bx (.bool true)/\zt aa b c q wx ga gb (R.read x.n).2 w'->K ⟨l'.toArray,[]⟩ w') :
  sP 5 f27 K H l wx:=by
 obtain⟨⟨v,hr⟩,va,ha⟩:=h;have rl:=hs.1;have Ev:=hs.2;have jz:=j6 x.kind 5 wx hx.kb.1 hx.kb.2 (by omega) (by omega);rw[hk]at jz;have ht:=FZ q x.n hr hf.ok (by omega) (by omega) (by omega);obtain⟨O,hO⟩:=zN (R.read x.n);rw[hO]at ht hK;have cB:=hf.ok;have ul:∀(ag:Nat->Nat) (va1:Aw) (w1:World),aJ ag c q w1 gb R va1->Calls prog 75 #[.pointer (some ⟨gb,0,none⟩),.int .i64 x.n] w1 fun e w'=>∃Y,e=.returned (.tuple #[.int .i64 O.1.1,.agg (aZ O.1.2 Y)])/\cU ag c q w1 gb O.1.2 O.2 Y w':=by
  intro ag va1 w1 h1;rw[<-hO];exact DP x.n hs.apart h1 cB (by omega) (by omega)
 unfold bg at ht;unfold aZ at ul;obtain⟨y0,y1,-⟩:=hb.cs [0,1];simp only[km,Zx]at y0 y1;have jZ:=hb.lt;replace ul:=zH ul;replace hO:=zH hO;replace hx:=zH hx;replace hf:=zH hf;replace cB:=zH cB;replace iw:=zH iw;replace hb:=zH hb;replace ha:=zH ha;clear hr hk;obtain⟨ah,aS,bH,cA,fU⟩:=hl;obtain⟨fr,rfl,am⟩:=an ah;rw[gc,am _ _ aS,am _ _ bH,am _ _ cA,am _ _ fU];clear ah am aS bH cA fU;refine cI 5 f27 rfl ?_;go_wp2_with fail;refine jz.mono ?_;rintro e w0 ⟨rfl,rfl⟩;go_wp2_with fail;refine ht.mono ?_;rintro e w1 ⟨X,rfl,hT⟩;obtain⟨ag,⟨v1,jX⟩,DC,CJ,gw⟩:=hT.leaves hs ha.out;have qJ:=(gw.stay bx jZ (by unfold bv;rw[iw.out];omega));have nR:=hb.out;have nR:ar w1 bx 44 (km x s):=qJ.2.trans nR;have z1:=nR.cell 1;simp only[km,Zx]at z1;have TO:=nR.lt;have bJ:Below w1.heap.size w1 (w1.alloc (.cells (bg O.1.2 X) 49)):=zb.alloc zl _;have eb:=ar.new w1 49 (bg O.1.2 X);obtain⟨w2,cw⟩:=zN (w1.alloc (.cells (bg O.1.2 X) 49));rw[cw]at bJ eb;unfold bg at cw;have CX:=jX.fresh' (c+10) bJ;have pW:=CJ.fresh (c+10) bJ;have qr:=aM.new (aa:=ag) (c+10) bJ;have o6:=(qr.keeps q fun _ _ _ hf=>hf).outX DC;have Ed:=ul.out _ va w2 pW;obtain⟨p,hp⟩:=zN (w1.heap.size);have qo:ai ag w1.heap.size (c+10) p=c+10:=ay (by omega);rw[hp]at eb;have mx:=eb.lt;have u1:=(nR.kept bJ).cell 1;simp only[km,Zx]at u1;replace cw:=zH cw;replace hp:=zH hp;replace qo:=zH qo;replace nR:=zH nR;replace eb:=zH eb;replace DC:=zH DC;replace o6:=zH o6;replace gw:=zH gw;replace qr:=zH qr;clear hT;go_wp2_with fail;rw[cw.out,hp.out];refine Ed.mono ?_;rintro e w3 ⟨Y,rfl,Pw⟩;obtain⟨cM,⟨va3,IQ⟩,OF,EX,FE⟩:=Pw.leaves hs CX;have pS:=(dO FE (i:=q) (by omega)).outX o6.out;have ja:=((dO FE (i:=c+10) (by omega)).blk eb.out qo.out).1;have nr:=zH ((gn gw.out (i:=q) (by omega)).trans ((qr.out.keeps q fun _ _ _ hf=>hf).trans (dO FE (i:=q) (by omega))));have cz:Below w3.heap.size w3 (w3.alloc (.cells (aZ O.1.2 Y) 52)):=zb.alloc zl _;obtain⟨w4,eL⟩:=zN (w3.alloc (.cells (aZ O.1.2 Y) 52));rw[eL]at cz;unfold aZ at eL;have ik:=nX (pS.keep fun j _ hj=>cz.block j hj) (OF.keep fun j _ hj=>cz.block j hj);unfold bg aZ at ik;obtain⟨r0,r1,r2,r3,r4,r5,r6,r7,r8,-⟩:=ja.cs [0,1,2,3,4,5,6,7,8];simp only[bg,vi,Zx]at r0 r1 r2 r3 r4 r5 r6 r7 r8;have J4:=ja.lt;have C6:=zH (ii.below (R:=O.2) hs ⟨⟨v1,EX⟩,va3,IQ⟩ cz);have ED:=zH (nr.out.trans ((aM.same cM cz).keeps q fun _ _ _ hf=>hf));replace eL:=zH eL;clear Pw pS ja OF EX IQ FE cz CX pW Ed jX CJ;go_wp2_with fail;rw[eL.out];refine ik.mono ?_;rintro e w5 ⟨rfl,cD⟩;have Mn:=zH (ii.below hs C6.out cD);have yV:=zH (ED.out.trans ((aM.same cM cD).keeps q fun _ _ _ hf=>hf));clear ik cD;go_wp2_with fail;exact⟨⟨rfl,rfl,rfl,rfl,rfl⟩,cM,Mn.out,yV.out⟩
end
end Go.Proofs.YtjcninheccmpoaaGreat
