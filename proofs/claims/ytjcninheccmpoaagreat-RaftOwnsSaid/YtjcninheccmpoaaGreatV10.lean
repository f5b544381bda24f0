import Derived.Test.YtjcninheccmpoaaGreatV9
set_option maxRecDepth 100000
set_option maxHeartbeats 8000000
set_option linter.all false
namespace Go.Proofs.YtjcninheccmpoaaGreat
open Go.RowKit Go.Proofs.Tryz
def LC(l:List Value)(g b s:Nat)(last:Int):Prop:=l.length=263/\l[0]?=some (.pointer (some ⟨g,0,none⟩))/\l[3]?=some (.pointer (some ⟨b,0,none⟩))/\l[4]?=some (.int .i64 s)/\l[7]?=some (.int .i64 last)
def LB(l:List Value)(g s:Nat)(last has:Int):Prop:=l.length=263/\l[0]?=some (.pointer (some ⟨g,0,none⟩))/\l[4]?=some (.int .i64 s)/\l[7]?=some (.int .i64 last)/\l[9]?=some (.int .i64 has)
section
variable {ag:Nat->Nat}{c q g s b pr d n1 c1 n2 c2:Nat}{A1 A2:Option Addr}{w1 wx:World}{R:Rf}{v:Aw}{P:Pr}{K:Act->World->Prop}{Q':Exit->Act->World->Prop}{l:List Value}{m:Mg}{rd last has:Int}{G:World->Prop}
theorem Tw(hN:R.track.L.length<=1000000)(hl:LA l g b s rd)(aD:mL ag c q w1 g R s v b (jU m s A1 A2 n1 c1 n2 c2) P wx)(hK:∀l' w',LC l' g b s R.track.lastF.1->mL ag c q w1 g R s v b (jU m s A1 A2 n1 c1 n2 c2) P w'->K ⟨l'.toArray,[]⟩ w'):sQ 7 f119 K Q' l wx:=by
 obtain⟨hA,_,jR⟩:=id aD;have c4:=hA.s.cell 4;simp only[bu,vi,Zx]at c4;have bH:=jF hA.t hN;have e:(R.setPeer s P).track=R.track:=rfl;rw[e]at bH;have Ll:∀w',Below wx.heap.size wx w'->mL ag c q w1 g R s v b (jU m s A1 A2 n1 c1 n2 c2) P w':=fun w' hb=>aD.below hb
 replace aD:=zH aD;clear hA jR e;obtain⟨af,aY,aL,bW,dK⟩:=hl;obtain⟨fr,rfl,ai⟩:=an af;rw[ed,ai _ _ aY,ai _ _ aL,ai _ _ bW,ai _ _ dK];clear af ai aY aL bW dK;refine df 7 f119 rfl ?_;go_wp2_with fail;refine bH.mono ?_;rintro e w2 ⟨rfl,hb⟩;have h2:=zH (Ll w2 hb);clear hb Ll bH;go_wp2_with fail;exact hK _ _ ⟨rfl,rfl,rfl,rfl,rfl⟩ h2.out
theorem Tx(hl:LC l g b s last)(aD:mL ag c q w1 g R s v b (jU m s A1 A2 n1 c1 n2 c2) P wx)(hK:∀l',LB l' g s last m.idx->K ⟨l'.toArray,[]⟩ wx):sQ 8 f119 K Q' l wx:=by
 obtain⟨hA,_,jR⟩:=id aD;have y4:=jR.cell 4;simp only[jU,Zx]at y4;replace aD:=zH aD;clear hA jR;obtain⟨af,aY,aL,bW,jA⟩:=hl;obtain⟨fr,rfl,ai⟩:=an af;rw[ed,ai _ _ aY,ai _ _ aL,ai _ _ bW,ai _ _ jA];clear af ai aY aL bW jA;refine df 8 f119 rfl ?_;go_wp2_with fail;exact⟨rfl,rfl,rfl,rfl,rfl⟩
theorem Ty(hl:LB l g s last has)(hK:∀l',LB l' g s last (min has last)->K ⟨l'.toArray,[]⟩ wx):sQ 9 f119 K Q' l wx:=by
 obtain⟨af,aY,bW,jA,cj⟩:=hl;obtain⟨fr,rfl,ai⟩:=an af;rw[ed,ai _ _ aY,ai _ _ bW,ai _ _ jA,ai _ _ cj];clear af ai aY bW jA cj;refine df 9 f119 rfl ?_;rcases(show(last<has/\min has last=last)\/(has<=last/\min has last=has) by omega)with⟨a1,a2⟩|⟨a1,a2⟩
 ·rw[a2]at hK;clear a2;go_wp2_with fail;exact⟨rfl,rfl,rfl,rfl,rfl⟩
 ·rw[a2]at hK;clear a2;go_wp2_with fail;exact⟨rfl,rfl,rfl,rfl,rfl⟩
theorem Pg(ha:aN c q)(dP:s<R.peers.length)(fG:v.peers=.slice (some ⟨pr,0,none⟩) R.peers.length d)(cO:ag b≠c+4)(hl:LB l g s last has)(aD:mL ag c q w1 g R s v b (jU m s A1 A2 n1 c1 n2 c2) P wx)(hK:∀l' w',LB l' g s last has->mL ag c q w1 g R s v b (jU m s A1 A2 n1 c1 n2 c2) {P with mat:=max P.mat has} w'->K ⟨l'.toArray,[]⟩ w'):sQ 10 f119 K Q' l wx:=by
 obtain⟨hA,vD,jR⟩:=id aD;obtain⟨⟨p0,p1,p2,p3⟩,⟨e0,e1,e2,e3⟩,wb⟩:=hA.peer_cells (s:=s) (by rw[bj];exact dP) fG (bK R s _ dP);have c14:_:=hA.s.cell 14;simp only[bu,Zx]at c14;rw[fG]at c14;have xn:=hA.s.lt;have ym:=jR.lt;have tj:s<R.peers.length:=dP;obtain⟨n,fi⟩:=zN (R.peers.length);by_cases a1:P.mat<has
 ·have j6:=zH (aD.set 1 (.int .i64 has) {P with mat:=max P.mat has} ha dP fG cO (by omega) (by show[_,_,_,_]=[_,_,_,_];rw[show max P.mat has=has by omega];rfl));replace aD:=zH aD;replace fG:=zH fG;rw[fi]at tj c14;clear fi hA vD jR;obtain⟨af,aY,bW,jA,cj⟩:=hl;obtain⟨fr,rfl,ai⟩:=an af;rw[ed,ai _ _ aY,ai _ _ bW,ai _ _ jA,ai _ _ cj];clear af ai aY bW jA cj;refine df 10 f119 rfl ?_;go_wp2_with fail;exact hK _ _ ⟨rfl,rfl,rfl,rfl,rfl⟩ j6.out
 ·have e:({P with mat:=max P.mat has}:Pr)=P:=by rw[show max P.mat has=P.mat by omega]
  rw[e]at hK;have j6:=zH aD;replace aD:=zH aD;replace fG:=zH fG;rw[fi]at tj c14;clear fi e hA vD jR;replace a1:=Int.not_lt.1 a1;obtain⟨af,aY,bW,jA,cj⟩:=hl;obtain⟨fr,rfl,ai⟩:=an af;rw[ed,ai _ _ aY,ai _ _ bW,ai _ _ jA,ai _ _ cj];clear af ai aY bW jA cj;refine df 10 f119 rfl ?_;go_wp2_with fail;exact hK _ _ ⟨rfl,rfl,rfl,rfl,rfl⟩ j6.out
theorem Ph(ha:aN c q)(dP:s<R.peers.length)(fG:v.peers=.slice (some ⟨pr,0,none⟩) R.peers.length d)(cO:ag b≠c+4)(CL:0<=P.mat/\P.mat<=1099511627776)(hl:LB l g s last has)(aD:mL ag c q w1 g R s v b (jU m s A1 A2 n1 c1 n2 c2) P wx)(hK:∀l' w',LB l' g s last has->mL ag c q w1 g R s v b (jU m s A1 A2 n1 c1 n2 c2) {P with next:=max P.next (P.mat+1)} w'->K ⟨l'.toArray,[]⟩ w'):sP 11 f119 K (rT G) l wx:=by
 obtain⟨hA,vD,jR⟩:=id aD;obtain⟨⟨p0,p1,p2,p3⟩,⟨e0,e1,e2,e3⟩,wb⟩:=hA.peer_cells (s:=s) (by rw[bj];exact dP) fG (bK R s _ dP);have c14:_:=hA.s.cell 14;simp only[bu,Zx]at c14;rw[fG]at c14;have xn:=hA.s.lt;have ym:=jR.lt;have tj:s<R.peers.length:=dP;obtain⟨n,fi⟩:=zN (R.peers.length);obtain⟨k14,kp0,kp1⟩:=tT [g,b,pr] c14 p0 p1;have x14:=ae (w:=wx.drew) (gs:=[g,b,pr]) c14 (by simp);have xp1:=ae (w:=wx.drew) (gs:=[g,b,pr]) p1 (by simp);rw[fi]at tj c14 k14 x14;by_cases a1:P.next<P.mat+1
 ·obtain⟨W,hW⟩:=zN ((wx.setCell ⟨pr,s*4,none⟩ (.int .i64 (P.mat+1))).drew.drew);have j6:mL ag c q w1 g R s v b (jU m s A1 A2 n1 c1 n2 c2) {P with next:=max P.next (P.mat+1)} W:=by
   rw[<-hW];exact(aD.set 0 (.int .i64 (P.mat+1)) {P with next:=max P.next (P.mat+1)} ha dP fG cO (by omega) (by show[_,_,_,_]=[_,_,_,_];rw[show max P.next (P.mat+1)=P.mat+1 by omega];rfl)).below (ay zb 2)
  replace j6:=zH j6;replace hW:=zH hW;replace aD:=zH aD;replace fG:=zH fG;clear fi hA vD jR;obtain⟨af,aY,bW,jA,cj⟩:=hl;obtain⟨fr,rfl,ai⟩:=an af;rw[ed,ai _ _ aY,ai _ _ bW,ai _ _ jA,ai _ _ cj];clear af ai aY bW jA cj;refine df 11 f119 rfl ?_;go_wp2_with fail;refine eE [g,b,pr] wx [] [0,1,2,3,4,5,6,7,8,9,10,11,12,13,14,15,16,17] ?_;refine al ?_;simp only[ah,Zx];repeat go_big_quiet_step(fail)
  apply wpQuiet_nil;go_wp2_with fail;refine bU (C:=dS [g,b,pr] wx.drew) [] ([0,1,2,3,4,5,6,7,8,9,10,11,12,13,14,15],16) (by kernel_rfl) (by kernel_rfl) (fun _ _ _ _ e h=>⟨e.symm.trans h.1,h.2⟩) aQ ?_;refine aC ?_;simp only[ah,Zx];repeat go_big_quiet_step(fail)
  apply wpQuiet_nil;go_wp2_with fail;rw[hW.out];exact hK _ _ ⟨rfl,rfl,rfl,rfl,rfl⟩ j6.out
 ·have e:({P with next:=max P.next (P.mat+1)}:Pr)=P:=by rw[show max P.next (P.mat+1)=P.next by omega]
  rw[e]at hK;have j6:=zH (aD.below (w:=wx.drew) (zb.drew));replace aD:=zH aD;replace fG:=zH fG;clear fi e hA vD jR;replace a1:=Int.not_lt.1 a1;obtain⟨af,aY,bW,jA,cj⟩:=hl;obtain⟨fr,rfl,ai⟩:=an af;rw[ed,ai _ _ aY,ai _ _ bW,ai _ _ jA,ai _ _ cj];clear af ai aY bW jA cj;refine df 11 f119 rfl ?_;go_wp2_with fail;refine eE [g,b,pr] wx [] [0,1,2,3,4,5,6,7,8,9,10,11,12,13,14,15,16,17] ?_;refine al ?_;simp only[ah,Zx];repeat go_big_quiet_step(fail)
  apply wpQuiet_nil;go_wp2_with fail;exact hK _ _ ⟨rfl,rfl,rfl,rfl,rfl⟩ j6.out
theorem Pi(ha:aN c q)(dP:s<R.peers.length)(fG:v.peers=.slice (some ⟨pr,0,none⟩) R.peers.length d)(cO:ag b≠c+4)(hl:LB l g s last has)(aD:mL ag c q w1 g R s v b (jU m s A1 A2 n1 c1 n2 c2) P wx)(hK:∀l' w',LB l' g s last has->mL ag c q w1 g R s v b (jU m s A1 A2 n1 c1 n2 c2) {P with offset:=if R.track.index<=P.mat then 0 else P.offset} w'->K ⟨l'.toArray,[]⟩ w'):sP 12 f119 K (rT G) l wx:=by
 obtain⟨hA,vD,jR⟩:=id aD;obtain⟨⟨p0,p1,p2,p3⟩,⟨e0,e1,e2,e3⟩,wb⟩:=hA.peer_cells (s:=s) (by rw[bj];exact dP) fG (bK R s _ dP);have c14:_:=hA.s.cell 14;simp only[bu,Zx]at c14;rw[fG]at c14;have xn:=hA.s.lt;have ym:=jR.lt;have tj:s<R.peers.length:=dP;obtain⟨n,fi⟩:=zN (R.peers.length);obtain⟨gt,iV,AK,qq,rI⟩:=hA.trk_at;have c4:=hA.s.cell 4;simp only[bu,Zx]at c4;rw[iV]at c4;replace rI:wx.cell? ⟨gt,0,none⟩=some (.int .i64 R.track.index):=rI;obtain⟨k14,k4,kp1,kt0⟩:=IA [g,gt,pr] c14 c4 p1 rI;rw[fi]at tj c14 k14;by_cases a1:R.track.index<=P.mat
 ·rw[if_pos a1]at hK;have j6:=zH ((aD.set 2 (.int .i64 0) {P with offset:=0} ha dP fG cO (by omega) rfl).below (w:=(wx.setCell ⟨pr,s*4+2,none⟩ (.int .i64 0)).drew) (zb.drew));replace aD:=zH aD;replace fG:=zH fG;clear fi hA vD jR;obtain⟨af,aY,bW,jA,cj⟩:=hl;obtain⟨fr,rfl,ai⟩:=an af;rw[ed,ai _ _ aY,ai _ _ bW,ai _ _ jA,ai _ _ cj];clear af ai aY bW jA cj;refine df 12 f119 rfl ?_;go_wp2_with fail;refine eE [g,gt,pr] wx [] [0,1,2,3,4,5,6,7,8,9,10,11,12,13,14,15] ?_;refine al ?_;simp only[ah,Zx];repeat go_big_quiet_step(fail)
  apply wpQuiet_nil;go_wp2_with fail;exact hK _ _ ⟨rfl,rfl,rfl,rfl,rfl⟩ j6.out
 ·rw[if_neg a1]at hK;have j6:=zH (aD.below (w:=wx.drew) (zb.drew));replace aD:=zH aD;replace fG:=zH fG;clear fi hA vD jR;replace a1:=Int.not_le.1 a1;obtain⟨af,aY,bW,jA,cj⟩:=hl;obtain⟨fr,rfl,ai⟩:=an af;rw[ed,ai _ _ aY,ai _ _ bW,ai _ _ jA,ai _ _ cj];clear af ai aY bW jA cj;refine df 12 f119 rfl ?_;go_wp2_with fail;refine eE [g,gt,pr] wx [] [0,1,2,3,4,5,6,7,8,9,10,11,12,13,14,15] ?_;refine al ?_;simp only[ah,Zx];repeat go_big_quiet_step(fail)
  apply wpQuiet_nil;go_wp2_with fail;exact hK _ _ ⟨rfl,rfl,rfl,rfl,rfl⟩ j6.out
theorem Pj(gw:Calls prog 70 #[.pointer (some ⟨g,0,none⟩)] wx fun e w'=>e=.returned (.tuple #[])/\G w')(hl:LB l g s last has)(hK:∀l' w',LB l' g s last has->G w'->K ⟨l'.toArray,[]⟩ w'):sQ 13 f119 K Q' l wx:=by
 obtain⟨af,aY,bW,jA,cj⟩:=hl;obtain⟨fr,rfl,ai⟩:=an af;rw[ed,ai _ _ aY,ai _ _ bW,ai _ _ jA,ai _ _ cj];clear af ai aY bW jA cj;refine df 13 f119 rfl ?_;go_wp2_with fail;refine gw.mono ?_;rintro e w2 ⟨rfl,hp⟩;replace hp:=zH hp;go_wp2_with fail;exact hK _ _ ⟨rfl,rfl,rfl,rfl,rfl⟩ hp.out
theorem Pk(h:aK ag c q wx g R v)(dP:s<R.peers.length)(kH:R.peer s=P)(tL:P.next<=last->Calls prog 100 #[.pointer (some ⟨g,0,none⟩),.int .i64 s] wx fun e w'=>e=.returned (.tuple #[])/\G w')(xy:last<P.next->G wx)(hl:LB l g s last has):tP 14 f119 (rT G) l wx:=by
 obtain⟨pr,d,fG,Q5,Ln,yx⟩:=h.peer_at dP;clear yx;obtain⟨⟨p0,p1,p2,p3⟩,_,wb⟩:=h.peer_cells dP fG kH;have c14:=h.s.cell 14;simp only[bu,Zx]at c14;rw[fG]at c14;obtain⟨n,fi⟩:=zN (R.peers.length);rw[fi]at dP c14;clear fi h p1 p2 p3 fG kH;obtain⟨af,aY,bW,jA,cj⟩:=hl;obtain⟨fr,rfl,ai⟩:=an af;rw[ed,ai _ _ aY,ai _ _ bW,ai _ _ jA,ai _ _ cj];clear af ai aY bW jA cj;refine Fm 14 f119 rfl ?_;by_cases a1:P.next<=last
 ·have eG:=tL a1;clear tL xy;go_wp2_with fail;refine eG.mono ?_;rintro e wn ⟨rfl,hp⟩;replace hp:=zH hp;clear eG;go_wp2_with fail;exact am rfl rfl ⟨rfl,hp.out⟩
 ·have hG:=zH (xy (Int.not_le.1 a1));replace a1:=Int.not_le.1 a1;clear tL xy;go_wp2_with fail;exact am rfl rfl ⟨rfl,hG.out⟩
end
section
variable {aa ag:Nat->Nat}{c q g s b pr d n1 c1 n2 c2:Nat}{A1 A2:Option Addr}{w w1 wx:World}{R:Rf}{v:Aw}{P:Pr}{K:Act->World->Prop}{Q':Exit->Act->World->Prop}{l:List Value}{m:Mg}{rd last has:Int}{G:World->Prop}
theorem Tr(hl:l.length=263/\l[0]?=some (.pointer (some ⟨g,0,none⟩))/\l[1]?=some (.agg (jU m s A1 A2 n1 c1 n2 c2)))(hK:∀l':List Value,l'.length=263/\l'[0]?=some (.pointer (some ⟨g,0,none⟩))/\l'[3]?=some (.pointer (some ⟨wx.heap.size,0,none⟩))->K ⟨l'.toArray,[]⟩ (wx.alloc (.cells (jU m s A1 A2 n1 c1 n2 c2) 39))):sQ 0 f119 K Q' l wx:=by
 unfold jU at *;obtain⟨af,aY,ci⟩:=hl;obtain⟨fr,rfl,ai⟩:=an af;rw[ed,ai _ _ aY,ai _ _ ci];clear af ai aY ci;refine df 0 f119 rfl ?_;go_wp2_with fail;exact⟨rfl,rfl,rfl⟩
theorem Ts(bM:ao wx b 39 (jU m s A1 A2 n1 c1 n2 c2))(hl:l.length=263/\l[0]?=some (.pointer (some ⟨g,0,none⟩))/\l[3]?=some (.pointer (some ⟨b,0,none⟩)))(hK:∀l':List Value,l'.length=263/\l'[0]?=some (.pointer (some ⟨g,0,none⟩))/\l'[3]?=some (.pointer (some ⟨b,0,none⟩))/\l'[4]?=some (.int .i64 s)->K ⟨l'.toArray,[]⟩ wx):sQ 1 f119 K Q' l wx:=by
 have y1:=bM.cell 1;simp only[jU,Zx]at y1;clear bM;obtain⟨af,aY,aL⟩:=hl;obtain⟨fr,rfl,ai⟩:=an af;rw[ed,ai _ _ aY,ai _ _ aL];clear af ai aY aL;refine df 1 f119 rfl ?_;go_wp2_with fail;exact⟨rfl,rfl,rfl,rfl⟩
theorem Tt(bM:ao wx b 39 (jU m s A1 A2 n1 c1 n2 c2))(hl:l.length=263/\l[0]?=some (.pointer (some ⟨g,0,none⟩))/\l[3]?=some (.pointer (some ⟨b,0,none⟩))/\l[4]?=some (.int .i64 s))(hK:∀l',LA l' g b s m.round->K ⟨l'.toArray,[]⟩ wx):sQ 2 f119 K Q' l wx:=by
 have y7:=bM.cell 7;simp only[jU,Zx]at y7;clear bM;obtain⟨af,aY,aL,bW⟩:=hl;obtain⟨fr,rfl,ai⟩:=an af;rw[ed,ai _ _ aY,ai _ _ aL,ai _ _ bW];clear af ai aY aL bW;refine df 2 f119 rfl ?_;go_wp2_with fail;exact⟨rfl,rfl,rfl,rfl,rfl⟩
theorem xI(R:Rf)(s:Nat):R.agrees.peer s=R.peer s/\R.agrees.peers=R.peers/\R.agrees.n=R.n/\R.agrees.track=R.track:=by
 obtain⟨k,cs,e⟩:=jv R;rw[e];exact⟨rfl,rfl,rfl,rfl⟩
theorem tu{K M:Nat}(m:Mg)(s:Nat)(A1 A2:Option Addr)(n1 c1 n2 c2:Nat)(ha:aN c q)(h:aK aa c q w g R v)(hk:Ok K M R)(hr:R.role=3)(hK:K<=50000)(hM:M<=20000)(hi:R.track.index<=R.commit)
  (hf:m.frm=(s:Int)) (hs:s<=R.n) (ul:m.kind=6\/(m.kind=8/\m.reject=false)) (hx:0<=m.idx/\m.idx<=1099511627776) (ho:0<=m.offset) :
  Calls prog 119 #[.pointer (some ⟨g,0,none⟩),eI m (.slice A1 n1 c1) (.slice A2 n2 c2)] w fun e w'=>e=.returned (.tuple #[])/\au aa c q w g (R.answered m) w':=by
 obtain⟨dP,kZ⟩:=hk.peer hr hs;have cx:=hk.trk;have aI:Below w.heap.size w (w.alloc (.cells (jU m s A1 A2 n1 c1 n2 c2) 39)):=zb.alloc zl _;have bM:=ao.new w 39 (jU m s A1 A2 n1 c1 n2 c2);have JS:eI m (.slice A1 n1 c1) (.slice A2 n2 c2)=.agg (jU m s A1 A2 n1 c1 n2 c2):=by unfold eI jU;rw[hf];rfl
 rw[JS];obtain⟨w1,ct⟩:=zN (w.alloc (.cells (jU m s A1 A2 n1 c1 n2 c2) 39));rw[ct]at aI bM;have h1:=h.fresh (q+c+10) aI;obtain⟨ag,dY⟩:=zN (aj aa w.heap.size (q+c+10));rw[dY]at h1;have cD:∀j,j<w.heap.size->ag j=aa j:=fun j hj=>by rw[<-dY];exact ac hj
 have cO:ag w.heap.size≠c+4:=by rw[<-dY,az zl];omega
 have Qz:g≠w.heap.size:=by have:=h.s.lt;omega
 have cY:∀R' w',au ag c q w1 g R' w'->au aa c q w g R' w':=fun R' w' hp=>hp.next cD (Fr.of_below aI)
 obtain⟨pr,d,fG,Q5,Ln,yx⟩:=h1.peer_at dP;clear yx Q5 Ln;obtain⟨P,hP⟩:=zN (R.peer s);have DC:mL ag c q w1 g R s v w.heap.size (jU m s A1 A2 n1 c1 n2 c2) P w1:=⟨by rw[<-hP,wW R s dP];exact h1,Fr.refl _ _,bM⟩;have ui:=lI dP hf;obtain⟨P1,F8⟩:∃P1:Pr,({P with round:=max P.round (min m.round R.round)}:Pr)=P1:=⟨_,rfl⟩;have qe:oR R s m=P1:=by unfold oR;rw[hP];exact F8
 have Mi:P.next=P1.next/\P.mat=P1.mat/\P.offset=P1.offset:=by rw[<-F8];exact⟨rfl,rfl,rfl⟩
 rw[qe,hP,Mi.1,Mi.2.1]at ui;rw[hP]at kZ;have kZ:zr R P1:=by rw[<-F8];exact kZ
 have eG:∀(P':Pr) w',zr R P'->mL ag c q w1 g R s v w.heap.size (jU m s A1 A2 n1 c1 n2 c2) P' w'->R.answered m=(R.setPeer s P').lacks s->Calls prog 100 #[.pointer (some ⟨g,0,none⟩),.int .i64 s] w' fun e w''=>e=.returned (.tuple #[])/\au aa c q w g (R.answered m) w'':=fun P' w' ho aD e=>by
  refine(aD.post.call fun bs v2 h2=>tW s ha h2 (hk.setPeer s ho) hr hs (by omega) (by omega)).mono ?_;rintro e' w'' ⟨rfl,hp⟩;exact⟨rfl,by rw[e];exact cY _ _ hp⟩
 refine cV (args:=[.pointer (some ⟨g,0,none⟩),.agg (jU m s A1 A2 n1 c1 n2 c2)]) 263 func119 (by kernel_rfl) ntmps119 (by simp) fun la jL fQ=>?_
 refine aJ (by kernel_rfl) (Tr ⟨jL,fQ 0 _ rfl,fQ 1 _ rfl⟩ fun l0 j3=>?_);rw[ct];refine aJ (by kernel_rfl) (Ts bM j3 fun l1 ql=>?_);refine aJ (by kernel_rfl) (Tt bM ql fun l2 dG=>?_);refine aJ (by kernel_rfl) (Tu dG DC fun l3 lx=>?_);refine aJ (by kernel_rfl) (Tv ha dP fG cO lx DC fun l4 w4 od jh=>?_);rw[F8]at jh;clear DC qe hP F8 Mi;by_cases hb:m.kind=8/\0<m.total
 ·rw[if_pos hb]at ui;by_cases ht:m.idx=R.snap.idx/\P1.next-1<R.snap.idx
  ·rw[if_pos ht]at ui;exact aJ (by kernel_rfl) (Fv ha dP fG cO Qz hb.1 hb.2 ht.1 ht.2 kZ.2.1 od jh fun w' hst'=>eG {P1 with offset:=min m.offset R.snap.data.length} w' ⟨kZ.1,kZ.2.1,by show 0<=min m.offset _;omega,by show min m.offset _<=_;omega⟩ hst' ui)
  ·rw[if_neg ht]at ui;exact aJ (by kernel_rfl) (Dk dP fG hb.1 hb.2 ht kZ.2.1 od jh fun w' hst'=>by rw[ui];exact cY _ _ hst'.post)
 ·rw[if_neg hb]at ui;refine aJ (by kernel_rfl) (IX hb od jh fun l5 oY=>?_);by_cases hj:m.reject=true
  ·have h6:m.kind=6:=by
    rcases ul with h|⟨_,h⟩
    ·exact h
    ·rw[hj]at h;cases h
   rw[if_pos ⟨h6,hj⟩]at ui;exact aJ (by kernel_rfl) (Fw ha dP fG cO hj hx kZ.2.1 kZ.1 oY jh fun w' hst'=>eG {P1 with next:=max (P1.mat+1) (min (P1.next-1) (m.idx+1))} w' ⟨kZ.1,⟨by show 1<=max _ _;have:=kZ.1;have:=kZ.2.1;omega,by show max _ _<=_;have:=kZ.1;have:=kZ.2.1;omega⟩,kZ.2.2⟩ hst' ui)
  ·have JJ:m.reject=false:=by simpa using hj
   rw[if_neg (fun e=>hj e.2),Br]at ui;refine aJ (by kernel_rfl) (IY JJ oY jh fun l6 un=>?_);refine aJ (by kernel_rfl) (Tw (by omega) un jh fun l7 w7 AH hst7=>?_);refine aJ (by kernel_rfl) (Tx AH hst7 fun l8 hl8=>?_);refine aJ (by kernel_rfl) (Ty hl8 fun l9 hl9=>?_);refine aJ (by kernel_rfl) (Pg ha dP fG cO hl9 hst7 fun l10 w10 hl10 hst10=>?_);have oe:=hk.tr.last;have uy:=hk.tr.room;have Xe:=hk.tr.b;have ZT:=kZ.1;refine aJ (by kernel_rfl) (Ph ha dP fG cO ⟨by show 0<=max P1.mat _;omega,by show max P1.mat _<=_;omega⟩ hl10 hst10 fun l11 w11 GD hst11=>?_);refine aJ (by kernel_rfl) (Pi ha dP fG cO GD hst11 fun l12 w12 hl12 hst12=>?_);have Lv:(R.setPeer s P1).peer s=P1:=bK R s _ dP;have Xq:nZ (R.setPeer s P1) s m.idx=⟨max P1.next (max P1.mat (min m.idx R.track.lastF.1)+1),max P1.mat (min m.idx R.track.lastF.1),if R.track.index<=max P1.mat (min m.idx R.track.lastF.1)then 0 else P1.offset,P1.round⟩:=by
    unfold nZ;rw[Lv];rfl
   rw[Xq,fp]at ui;have Vh:zr R ⟨max P1.next (max P1.mat (min m.idx R.track.lastF.1)+1),max P1.mat (min m.idx R.track.lastF.1),if R.track.index<=max P1.mat (min m.idx R.track.lastF.1)then 0 else P1.offset,P1.round⟩:=by
    rw[<-Xq];exact vK (hk.setPeer s kZ) m.idx (by rw[Lv];exact kZ)
   have eY:=hk.setPeer s Vh;have gw:Calls prog 70 #[.pointer (some ⟨g,0,none⟩)] w12 fun e w'=>e=.returned (.tuple #[])/\au ag c q w1 g (R.setPeer s ⟨max P1.next (max P1.mat (min m.idx R.track.lastF.1)+1),max P1.mat (min m.idx R.track.lastF.1),if R.track.index<=max P1.mat (min m.idx R.track.lastF.1)then 0 else P1.offset,P1.round⟩).agrees w':=
    hst12.post.call fun bs v2 h2=>lF ha h2 (eY.ld hr).1 hk.id.2.2 hi hk.cm.1 (by show R.track.L.length<=_;omega) (by have:=hk.cs;show R.out.commits.length<=_;omega)
   refine aJ (by kernel_rfl) (Pj gw hl12 fun l13 w13 hl13 Np=>?_);obtain⟨bs,v2,h2,dG,dC⟩:=id Np;have xu:=xI (R.setPeer s ⟨max P1.next (max P1.mat (min m.idx R.track.lastF.1)+1),max P1.mat (min m.idx R.track.lastF.1),if R.track.index<=max P1.mat (min m.idx R.track.lastF.1)then 0 else P1.offset,P1.round⟩) s;refine Pk h2 (by rw[xu.2.1,bj];exact dP) (xu.1.trans (bK R s _ dP)) (fun fd=>?_) (fun aU=>?_) hl13
   ·refine(Np.call fun cJ v3 h3=>tW s ha h3 eY.agrees (by rw[lH];exact hr) (by rw[xu.2.2.1];exact hs) (by omega) (by omega)).mono ?_;rintro e' w'' ⟨rfl,hp⟩;have e:=ui.trans (if_pos fd);exact⟨rfl,by rw[e];exact cY _ _ hp⟩
   ·have e:=ui.trans (if_neg (Int.not_le.2 aU));rw[e];exact cY _ _ Np
end
def qv(G:Gt)(gv:Value):Array Value:=#[.int .i64 G.frm,.int .i64 G.idx,.int .i64 G.term,.int .i64 G.total,gv]
def cF(m:Mg)(A1 A2:Option Addr)(n1 c1 n2 c2:Nat):Array Value:=#[.int .i64 m.kind,.int .i64 m.frm,.int .i64 m.tgt,.int .i64 m.term,.int .i64 m.idx,.int .i64 m.logTerm,.int .i64 m.commit,.int .i64 m.round,.bool m.reject,.int .i64 m.offset,.int .i64 m.total,.slice A1 n1 c1,.slice A2 n2 c2]
structure kU(cz:Nat->Nat)(c q:Nat)(w1:World)(g:Nat)(R:Rf)(v:Aw)(b:Nat)(mc:Array Value)(vd:Value)(md:List UInt8)(gb:Nat)(G:Gt)(gv:Value)(aa:Nat->Nat)(wx:World):Prop where
 a:aK aa c q wx g R v
 l:∀j,j<w1.heap.size->aa j=cz j
 f:Fr (aX cz c) w1 wx
 m:ao wx b 39 mc
 k:ao wx gb 120 (qv G gv)
 kn:¬dv aa c q gb
 mn:¬dv aa c q b
 w1g:w1.heap.size<=gb
 d:bP aa q wx gv G.data
 md:bP aa q wx vd md
def LP(l:List Value)(g b:Nat):Prop:=l.length=221/\l[0]?=some (.pointer (some ⟨g,0,none⟩))/\l[3]?=some (.pointer (some ⟨b,0,none⟩))
def LG(l:List Value)(g b gb:Nat):Prop:=l.length=221/\l[0]?=some (.pointer (some ⟨g,0,none⟩))/\l[3]?=some (.pointer (some ⟨b,0,none⟩))/\l[4]?=some (.pointer (some ⟨gb,0,none⟩))
section
variable {aa cz:Nat->Nat}{c q g b gb n1 c1 n2 c2:Nat}{A1 A2:Option Addr}{w1 wx w':World}{R:Rf}{v:Aw}{mc:Array Value}{G:Gt}{gv vd:Value}{mD:List UInt8}{K:Act->World->Prop}{Q':Exit->Act->World->Prop}{l:List Value}{m:Mg}{H:World->Prop}
theorem kU.below(h:kU cz c q w1 g R v b mc vd mD gb G gv aa wx)(hb:Below wx.heap.size wx w'):kU cz c q w1 g R v b mc vd mD gb G gv aa w':=
 ⟨h.a.below hb,h.l,h.f.trans (Fr.of_below (X:=aX cz c) hb) fun _ h=>.inl h,h.m.kept hb,h.k.kept hb,h.kn,h.mn,h.w1g,h.d.keep fun j _ hl=>hb.block j hl,h.md.keep fun j _ hl=>hb.block j hl⟩
theorem kU.turn{G':Gt}{gv':Value}(h:kU cz c q w1 g R v b mc vd mD gb G gv aa wx)(hF:Fr (fun j=>j=gb) wx w')(AD:b≠gb)(hk:ao w' gb 120 (qv G' gv'))(hd:bP aa q w' gv' G'.data):kU cz c q w1 g R v b mc vd mD gb G' gv' aa w':=by
 have hs:=h.f.size;refine⟨h.a.keep fun j hj hl=>hF.block j hl fun e=>h.kn (e▸hj),h.l,h.f.trans hF fun j e=>.inr (by have:=h.w1g;omega),(hF.block b h.m.lt AD).trans h.m,hk,h.kn,h.mn,h.w1g,hd,h.md.keep fun j hj hl=>hF.block j hl fun e=>h.kn (e▸.inr hj)⟩
theorem pc0(hl:l.length=221/\l[0]?=some (.pointer (some ⟨g,0,none⟩))/\l[1]?=some (.agg (cF m A1 A2 n1 c1 n2 c2)))(hK:∀l':List Value,LP l' g wx.heap.size->K ⟨l'.toArray,[]⟩ (wx.alloc (.cells (cF m A1 A2 n1 c1 n2 c2) 39))):sQ 0 f118 K Q' l wx:=by
 unfold cF at *;obtain⟨af,aY,ci⟩:=hl;obtain⟨fr,rfl,ai⟩:=an af;rw[dV,ai _ _ aY,ai _ _ ci];clear af ai aY ci;refine df 0 f118 rfl ?_;go_wp2_with fail;exact⟨rfl,rfl,rfl⟩
theorem Kt(hb:ao wx b 39 (cF m A1 A2 n1 c1 n2 c2))(h0:m.idx=0\/m.logTerm=0\/¬(1<=m.total/\m.total<=65536))(hl:LP l g b)(hH:H wx):sP 1 f118 K (rT H) l wx:=by
 obtain⟨y4,y5,y10,-⟩:=hb.cs [4,5,10];simp only[cF,Zx]at y4 y5 y10;have cB:(m.idx==0)=true\/((m.idx==0)=false/\(m.logTerm==0)=true)\/((m.idx==0)=false/\(m.logTerm==0)=false/\m.total<1)\/((m.idx==0)=false/\(m.logTerm==0)=false/\1<=m.total/\65536<m.total):=by
  simp only[beq_iff_eq,beq_eq_false_iff_ne];omega
 clear hb h0;replace hH:=zH hH;obtain⟨af,aY,aL⟩:=hl;obtain⟨fr,rfl,ai⟩:=an af;rw[dV,ai _ _ aY,ai _ _ aL];clear af ai aY aL;refine df 1 f118 rfl ?_;rcases cB with h1|⟨h1,h2⟩|⟨h1,h2,h3⟩|⟨h1,h2,h3,h4⟩
 all_goals
  go_wp2_with fail;exact aP rfl rfl ⟨rfl,hH.out⟩
theorem Oc(hb:ao wx b 39 (cF m A1 A2 n1 c1 n2 c2))(h0:¬(m.idx=0\/m.logTerm=0\/¬(1<=m.total/\m.total<=65536)))(hl:LP l g b)(hK:∀l',LP l' g b->K ⟨l'.toArray,[]⟩ wx):sQ 1 f118 K Q' l wx:=by
 obtain⟨y4,y5,y10,-⟩:=hb.cs [4,5,10];simp only[cF,Zx]at y4 y5 y10;have h1:(m.idx==0)=false:=by simp only[beq_eq_false_iff_ne];omega
 have h2:(m.logTerm==0)=false:=by simp only[beq_eq_false_iff_ne];omega
 have h3:1<=m.total:=by omega
 have h4:m.total<=65536:=by omega
 clear hb h0;obtain⟨af,aY,aL⟩:=hl;obtain⟨fr,rfl,ai⟩:=an af;rw[dV,ai _ _ aY,ai _ _ aL];clear af ai aY aL;refine df 1 f118 rfl ?_;go_wp2_with fail;exact⟨rfl,rfl,rfl⟩
theorem Ku(ha:aN c q)(h:aK aa c q wx g R v)(hb:ao wx b 39 (cF m A1 A2 n1 c1 n2 c2))(h0:m.idx<=R.commit)(hn:R.out.msgs.length<=100000)(hl:LP l g b)(hH:∀w',au aa c q wx g (R.send {dh with kind:=8,tgt:=m.frm,idx:=R.commit,round:=m.round}) w'->H w'):sP 2 f118 K (rT H) l wx:=by
 obtain⟨y1,y4,y7,-⟩:=hb.cs [1,4,7];simp only[cF,Zx]at y1 y4 y7;have c8:=h.s.cell 8;simp only[bu,vi,Zx]at c8;have gA:=dm {dh with kind:=8,tgt:=m.frm,idx:=R.commit,round:=m.round} rfl rfl ha (h.below (w':=wx.drew.drew) (ay zb 2)) hn;unfold eI at gA;simp only[dh,vi]at gA;have aE:=zH (fun w5 (hp:au aa c q wx.drew.drew g (R.send {dh with kind:=8,tgt:=m.frm,idx:=R.commit,round:=m.round}) w5)=>hH w5 (hp.behind (w:=wx) (ay zb 2)));obtain⟨k4,k8⟩:=pU [g,b] y4 c8;have d1:=ae (w:=wx.drew) (gs:=[g,b]) y1 (by simp);have d7:=ae (w:=wx.drew) (gs:=[g,b]) y7 (by simp);have d8:=ae (w:=wx.drew) (gs:=[g,b]) c8 (by simp);clear h hb hH;obtain⟨af,aY,aL⟩:=hl;obtain⟨fr,rfl,ai⟩:=an af;rw[dV,ai _ _ aY,ai _ _ aL];clear af ai aY aL;refine df 2 f118 rfl ?_;go_wp2_with fail;refine eE [g,b] wx [] [0,1,2,3,4,5,6] ?_;refine al ?_;simp only[ah,Zx];repeat go_big_quiet_step(fail)
 apply wpQuiet_nil;go_wp2_with fail;refine bU (C:=dS [g,b] wx.drew) [] ([0,1,2,3,4,5,6,7,8,9],10) (by kernel_rfl) (by kernel_rfl) (fun _ _ _ _ e h=>⟨e.symm.trans h.1,h.2⟩) aQ ?_;refine aC ?_;simp only[ah,Zx];repeat go_big_quiet_step(fail)
 apply wpQuiet_nil;go_wp2_with fail;refine gA.mono ?_;rintro e w5 ⟨rfl,hp⟩;have hQ:=zH (aE.out w5 hp);clear gA hp;go_wp2_with fail;exact aP rfl rfl ⟨rfl,hQ.out⟩
theorem Od(h:aK aa c q wx g R v)(hb:ao wx b 39 (cF m A1 A2 n1 c1 n2 c2))(h0:R.commit<m.idx)(hl:LP l g b)(hK:∀l',LP l' g b->K ⟨l'.toArray,[]⟩ wx.drew):sP 2 f118 K (rT H) l wx:=by
 have y4:=hb.cell 4;simp only[cF,Zx]at y4;have c8:=h.s.cell 8;simp only[bu,vi,Zx]at c8;obtain⟨k4,k8⟩:=pU [g,b] y4 c8;clear h hb;obtain⟨af,aY,aL⟩:=hl;obtain⟨fr,rfl,ai⟩:=an af;rw[dV,ai _ _ aY,ai _ _ aL];clear af ai aY aL;refine df 2 f118 rfl ?_;go_wp2_with fail;refine eE [g,b] wx [] [0,1,2,3,4,5,6] ?_;refine al ?_;simp only[ah,Zx];repeat go_big_quiet_step(fail)
 apply wpQuiet_nil;go_wp2_with fail;exact⟨rfl,rfl,rfl⟩
theorem pc3(h:aK aa c q wx g R v)(hl:LP l g b)(hK:∀l',LG l' g b wx.heap.size->K ⟨l'.toArray,[]⟩ (wx.alloc (.cells (qv R.gath v.gat) 120))):sQ 3 f118 K Q' l wx:=by
 obtain⟨c17,c18,c19,c20,c21,-⟩:=h.s.cs [17,18,19,20,21];simp only[bu,vi,Zx]at c17 c18 c19 c20 c21;obtain⟨Ag,cg,pM,_⟩:=id h.gd;obtain⟨ng,S1⟩:∃n,R.gath.data.length=n:=⟨_,rfl⟩;rw[S1]at pM;unfold qv at hK;rw[pM]at hK c21;have cW:=h.s.lt;clear h pM S1;obtain⟨af,aY,aL⟩:=hl;obtain⟨fr,rfl,ai⟩:=an af;rw[dV,ai _ _ aY,ai _ _ aL];clear af ai aY aL;refine df 3 f118 rfl ?_;go_wp2_with fail;exact⟨rfl,rfl,rfl,rfl⟩
end
section
variable {aa cz:Nat->Nat}{c q g b gb n1 c1 n2 c2:Nat}{A1 A2:Option Addr}{w1 wx w':World}{R:Rf}{v:Aw}{mc:Array Value}{G:Gt}{gv vd:Value}{mD:List UInt8}{K:Act->World->Prop}{Q':Exit->Act->World->Prop}{l:List Value}{m:Mg}{H:World->Prop}
theorem Kx{A:Option Addr}{B:Nat}(h:∀j,aA A j->aA none j\/B<=j):∀j,aA A j->B<=j:=fun j hj=>by
 rcases h j hj with hh|hh
 ·obtain⟨_,e,_⟩:=hh;cases e
 ·exact hh
theorem I9{w w':World}(h:Fr (aA none) w w'):Below w.heap.size w w':=⟨h.os,h.tape,h.output,h.size,fun k hk=>h.block k hk fun hh=>by obtain⟨_,e,_⟩:=hh;cases e⟩
theorem I8{A:Option Addr}{w w6 w7:World}(h:Below w.heap.size w w6)(hF:Fr (aA A) w6 w7)(hr:∀j,aA A j->w.heap.size<=j):Below w.heap.size w w7:=
 ⟨hF.os.trans h.os,hF.tape.trans h.tape,hF.output.trans h.output,Nat.le_trans h.size hF.size,fun k hk=>(hF.block k (by have:=h.size;omega) fun hh=>by have:=hr k hh;omega).trans (h.block k hk)⟩
theorem N0{w:World}(h:ao w b 39 (cF m A1 A2 n1 c1 n2 c2)):w.cell? ⟨b,12,none⟩=some (.slice A2 n2 c2):=h.cell 12
theorem Pp{w:World}(h:ao w gb 120 (qv G gv)):w.cell? ⟨gb,4,none⟩=some gv:=h.cell 4
theorem pc4(aD:kU cz c q w1 g R v b (cF m A1 A2 n1 c1 n2 c2) (.slice A2 n2 c2) mD gb G gv aa wx)(AD:b≠gb)(hl:LG l g b gb)(hK:∀l' gv' w',LG l' g b gb->kU cz c q w1 g R v b (cF m A1 A2 n1 c1 n2 c2) (.slice A2 n2 c2) mD gb ((if G.frm=m.frm/\G.idx=m.idx/\G.term=m.logTerm/\G.total=m.total/\m.offset≠0 then G else⟨m.frm,m.idx,m.logTerm,m.total,[]⟩:Gt)) gv' aa w'->K ⟨l'.toArray,[]⟩ w'):sQ 4 f118 K Q' l wx:=by
 obtain⟨y1,y4,y5,y9,y10,-⟩:=aD.m.cs [1,4,5,9,10];simp only[cF,Zx]at y1 y4 y5 y9 y10;obtain⟨x0,x1,x2,x3,x4,-⟩:=aD.k.cs [0,1,2,3,4];simp only[qv,Zx]at x0 x1 x2 x3 x4;obtain⟨e0,e1,e2,e3,e4,-⟩:=aD.k.fs [0,1,2,3,4];by_cases hc:G.frm=m.frm/\G.idx=m.idx/\G.term=m.logTerm/\G.total=m.total/\m.offset≠0
 ·rw[if_pos hc]at hK;have a1:(G.frm !=m.frm)=false:=by simp[hc.1]
  have a2:(G.idx !=m.idx)=false:=by simp[hc.2.1]
  have a3:(G.term !=m.logTerm)=false:=by simp[hc.2.2.1]
  have a4:(G.total !=m.total)=false:=by simp[hc.2.2.2.1]
  have a5:(m.offset==0)=false:=by simp[hc.2.2.2.2]
  replace hc:=zH hc;replace aD:=zH aD;obtain⟨af,aY,aL,bW⟩:=hl;obtain⟨fr,rfl,ai⟩:=an af;rw[dV,ai _ _ aY,ai _ _ aL,ai _ _ bW];clear af ai aY aL bW;refine df 4 f118 rfl ?_;go_wp2_with fail;exact hK _ _ _ ⟨rfl,rfl,rfl,rfl⟩ aD.out
 ·rw[if_neg hc]at hK;obtain⟨W,hW⟩:=zN (((((wx.setCell ⟨gb,0,none⟩ (.int .i64 m.frm)).setCell ⟨gb,1,none⟩ (.int .i64 m.idx)).setCell ⟨gb,2,none⟩ (.int .i64 m.logTerm)).setCell ⟨gb,3,none⟩ (.int .i64 m.total)).setCell ⟨gb,4,none⟩ (.slice none 0 0));have hF:Fr (fun j=>j=gb) wx W:=by
   have e:∀{a b:World},Fr (fun j=>j=gb) wx a->Fr (fun j=>j=gb) a b->Fr (fun j=>j=gb) wx b:=fun h h'=>h.trans h' fun _ h=>.inl h
   rw[<-hW];exact e (e (e (e (Fr.set (w:=wx) gb 0 _) (Fr.set gb 1 _)) (Fr.set gb 2 _)) (Fr.set gb 3 _)) (Fr.set gb 4 _)
  have Xx:ao W gb 120 (qv ⟨m.frm,m.idx,m.logTerm,m.total,[]⟩ (.slice none 0 0)):=by
   have s:=((((aD.k.set_ 0 (.int .i64 m.frm)).set_ 1 (.int .i64 m.idx)).set_ 2 (.int .i64 m.logTerm)).set_ 3 (.int .i64 m.total)).set_ 4 (.slice none 0 0);simp only[qv,Zy]at s;rw[<-hW];exact s
  have hS:=zH (aD.turn hF AD Xx (bP.nil _ _ _));have cB:(G.frm !=m.frm)=true\/((G.frm !=m.frm)=false/\(G.idx !=m.idx)=true)\/((G.frm !=m.frm)=false/\(G.idx !=m.idx)=false/\(G.term !=m.logTerm)=true)\/((G.frm !=m.frm)=false/\(G.idx !=m.idx)=false/\(G.term !=m.logTerm)=false/\(G.total !=m.total)=true)\/((G.frm !=m.frm)=false/\(G.idx !=m.idx)=false/\(G.term !=m.logTerm)=false/\(G.total !=m.total)=false/\(m.offset==0)=true):=by
   simp only[bne_iff_ne,bne_eq_false_iff_eq,beq_iff_eq];omega
  clear Xx hF;replace hW:=zH hW;replace hc:=zH hc;replace aD:=zH aD;obtain⟨af,aY,aL,bW⟩:=hl;obtain⟨fr,rfl,ai⟩:=an af;rw[dV,ai _ _ aY,ai _ _ aL,ai _ _ bW];clear af ai aY aL bW;refine df 4 f118 rfl ?_;rcases cB with a1|⟨a1,a2⟩|⟨a1,a2,a3⟩|⟨a1,a2,a3,a4⟩|⟨a1,a2,a3,a4,a5⟩
  all_goals
   go_wp2_with fail;rw[hW.out];exact hK _ _ _ ⟨rfl,rfl,rfl,rfl⟩ hS.out
theorem pc5(aD:kU cz c q w1 g R v b (cF m A1 A2 n1 c1 n2 c2) (.slice A2 n2 c2) mD gb G gv aa wx)(AD:b≠gb)(hn:n2=mD.length)(GM:n2<=160)(hg:G.data.length<=65536)(hl:LG l g b gb)(hK:∀l' gv' ak w',LG l' g b gb->kU cz c q w1 g R v b (cF m A1 A2 n1 c1 n2 c2) (.slice A2 n2 c2) mD gb (if m.offset=G.data.length/\G.data.length+mD.length<=m.total then {G with data:=G.data++mD}else G:Gt) gv' ak w'->K ⟨l'.toArray,[]⟩ w'):sP 5 f118 K (rT H) l wx:=by
 obtain⟨y9,y10,y12,-⟩:=aD.m.cs [9,10,12];simp only[cF,Zx]at y9 y10 y12;have x4:=aD.k.cell 4;simp only[qv,Zx]at x4;have e4:=aD.k.free 4;have JC:=aD.k.lt;obtain⟨Ag,cg,pM,Vu⟩:∃Ag cg,gv=.slice Ag G.data.length cg/\Rd wx Ag G.data.length G.data:=by
  obtain⟨Ag,cg,h1,h2,_⟩:=id aD.d;exact⟨Ag,cg,h1,h2⟩
 obtain⟨N,hN⟩:=zN (G.data.length);rw[hN]at pM Vu;have Lq:Rd wx A2 n2 mD:=by
  obtain⟨A,c',h1,h2,_⟩:=id aD.md;injection h1 with e1 e2 e3;subst e1;subst e2;exact h2
 by_cases hc:m.offset=G.data.length/\G.data.length+mD.length<=m.total
 ·rw[if_pos hc]at hK;have a1:(m.offset==(N:Int))=true:=by rw[beq_iff_eq,<-hN];exact hc.1
  have a2:(N:Int)+n2<=m.total:=by rw[<-hN,hn];exact hc.2
  have YF:N<=65536:=by omega
  have j5:=aD;have NF:=zH aD;have Zz:=aD.m;have vT:=aD.k;have aE:∀A7 c7 w7,w7.ownsRow wx.heap.size 5 1 (.slice A7 (N+n2) c7) (N+n2) ((G.data++mD).map vb)->Below wx.heap.size wx w7->kU cz c q w1 g R v b (cF m A1 A2 n1 c1 n2 c2) (.slice A2 n2 c2) mD gb {G with data:=G.data++mD} (.slice A7 (N+n2) c7) (aj aa wx.heap.size q) (w7.setCell ⟨gb,4,none⟩ (.slice A7 (N+n2) c7)):=fun A7 c7 w7 ho hb=>by
   have h7:=j5.below hb;have hF:=Fr.set (w:=w7) gb 4 (.slice A7 (N+n2) c7);have s:=h7.k.set_ 4 (.slice A7 (N+n2) c7);simp only[qv,Zy]at s;have rC:∀j,dv (aj aa wx.heap.size q) c q j->j<wx.heap.size->dv aa c q j:=fun j hj hl=>by
    unfold dv at hj ⊢;rw[ac hl]at hj;exact hj
   have JD:gb<wx.heap.size:=j5.k.lt;have fu:b<wx.heap.size:=j5.m.lt;refine⟨(j5.a.fresh q hb).keep fun j hj hl=>hF.block j hl fun e=>?_,fun j hj=>(ac (by have:=j5.f.size;omega)).trans (j5.l j hj),h7.f.trans hF fun j e=>.inr (by have:=j5.w1g;omega),(hF.block b h7.m.lt AD).trans h7.m,s,fun hh=>j5.kn (rC _ hh JD),fun hh=>j5.mn (rC _ hh fu),j5.w1g,?_,?_⟩
   ·subst e;exact j5.kn (rC _ hj JD)
   ·have hl:(G.data++mD).length=N+n2:=by rw[List.length_append];omega
    unfold bP;rw[hl];have dP:Sl (aM (aj aa wx.heap.size q) q) w7 1 (.slice A7 (N+n2) c7) (N+n2) ((G.data++mD).map vb):=Sl.of_own ho fun j hj _ _=>az hj
    refine Sl.keep dP fun j hj aU=>hF.block j aU fun e=>?_
    subst e;exact j5.kn (rC _ (.inr hj) JD)
   ·have h8:bP (aj aa wx.heap.size q) q w7 (.slice A2 n2 c2) mD:=(j5.md.keep fun j _ hl=>hb.block j hl).relabel (ak:=aj aa wx.heap.size q) fun j aU e=>by
     rcases Nat.lt_or_ge j wx.heap.size with h9|h9
     ·rw[ac h9];exact e
     ·exact az h9
    refine h8.keep fun j hj aU=>hF.block j aU fun e=>?_
    subst e;exact j5.kn (rC _ (.inr hj) JD)
  have iL:=zH aE;have CG:=zH hK;replace hc:=zH hc;replace aD:=zH aD;replace j5:=zH j5;replace hn:=zH hn;replace hN:=zH hN;clear aE hK hg;rw[pM]at x4;replace pM:=zH pM;obtain⟨af,aY,aL,bW⟩:=hl;obtain⟨fr,rfl,ai⟩:=an af;rw[dV,ai _ _ aY,ai _ _ aL,ai _ _ bW];clear af ai aY aL bW;refine df 5 f118 rfl ?_;have br:N+0<=1000000000:=by omega
  go_wp2_with (at_builtin;first
   | (refine ic rfl (.tmp 106) (.tmp 108) rfl wx.heap.size rfl (l:=[]) (bX _ _) rfl Vu (by omega) zl ?_;intro A6 c6 w6 vY kV Fi;have iT:=I9 kV;have z12:=N0 (Zz.kept iT);rw[Nat.zero_add]at vY ⊢;rw[List.nil_append]at vY;have Nz:=Kx Fi;have RD:Rd w6 A2 n2 mD:=cn.below Lq iT;have J2:=iT.size;clear y9 y10 y12 x4 e4 Vu kV Fi;replace Nz:=zH Nz;replace iT:=zH iT)
   | (go_loud (refine ic rfl (.tmp 110) (.tmp 112) rfl wx.heap.size rfl vY rfl RD (by omega) J2 ?_;intro A7 c7 w7 ho7 CA Tb;have iw:=I8 iT.out CA Nz.out;have x4:=Pp (vT.kept iw);have x4f:=(vT.kept iw).free 4;have hQ:=zH (iL.out A7 c7 w7 ho7 iw);clear vY CA Tb ho7 RD z12)))
  exact CG.out _ _ _ _ ⟨rfl,rfl,rfl,rfl⟩ hQ.out
 ·rw[if_neg hc]at hK;have cB:(m.offset==(N:Int))=false\/((m.offset==(N:Int))=true/\m.total<(N:Int)+n2):=by
   simp only[beq_iff_eq,beq_eq_false_iff_ne];omega
  have YF:N<=65536:=by omega
  replace hc:=zH hc;replace aD:=zH aD;replace hn:=zH hn;rw[pM]at x4;replace pM:=zH pM;replace hN:=zH hN;obtain⟨af,aY,aL,bW⟩:=hl;obtain⟨fr,rfl,ai⟩:=an af;rw[dV,ai _ _ aY,ai _ _ aL,ai _ _ bW];clear af ai aY aL bW;refine df 5 f118 rfl ?_;rcases cB with a1|⟨a1,a2⟩
  ·go_wp2_with fail;exact hK _ _ _ _ ⟨rfl,rfl,rfl,rfl⟩ aD.out
  ·go_wp2_with fail;exact hK _ _ _ _ ⟨rfl,rfl,rfl,rfl⟩ aD.out
end
def LT(l:List Value)(g b gb:Nat)(tm er:Int):Prop:=l.length=221/\l[0]?=some (.pointer (some ⟨g,0,none⟩))/\l[3]?=some (.pointer (some ⟨b,0,none⟩))/\l[4]?=some (.pointer (some ⟨gb,0,none⟩))/\l[6]?=some (.int .i64 tm)/\l[7]?=some (.int .i64 er)
section
variable {aa cz:Nat->Nat}{c q g b gb n1 c1 n2 c2:Nat}{A1 A2:Option Addr}{w1 wx w':World}{R:Rf}{v:Aw}{mc:Array Value}{G:Gt}{gv vd:Value}{mD:List UInt8}{K:Act->World->Prop}{Q':Exit->Act->World->Prop}{l:List Value}{m:Mg}{H:World->Prop}{tm er:Int}
theorem kU.struct{R':Rf}{v':Aw}(h:kU cz c q w1 g R v b mc vd mD gb G gv aa wx)(hF:Fr (fun j=>j=g) wx w')(ha:aK aa c q w' g R' v')(Qz:cz g=c+1)(cW:g<w1.heap.size)(Mx:aN c q):kU cz c q w1 g R' v' b mc vd mD gb G gv aa w':=by
 have hs:=h.f.size;have hg:aa g=c+1:=h.a.sl;have hm:dv aa c q g:=.inl (by omega);have hq:∀j,aa j=q->j≠g:=fun j hj e=>by subst e;unfold aN at Mx;omega
 exact⟨ha,h.l,h.f.trans (hF.mono (X':=aX cz c) fun j e=>by rw[e];exact⟨by omega,by omega⟩) fun j e=>.inl e,(hF.block b h.m.lt fun e=>h.mn (e▸hm)).trans h.m,(hF.block gb h.k.lt fun e=>h.kn (e▸hm)).trans h.k,h.kn,h.mn,h.w1g,h.d.keep fun j hj hl=>hF.block j hl (hq j hj),h.md.keep fun j hj hl=>hF.block j hl (hq j hj)⟩
theorem pc6(ha:aN c q)(dA:cz g=c+1)(cW:g<w1.heap.size)(aD:kU cz c q w1 g R v b (cF m A1 A2 n1 c1 n2 c2) (.slice A2 n2 c2) mD gb G gv aa wx)(hl:LG l g b gb)(hK:∀l' w',LG l' g b gb->kU cz c q w1 g {R with gath:=G} {v with gat:=gv} b (cF m A1 A2 n1 c1 n2 c2) (.slice A2 n2 c2) mD gb G gv aa w'->K ⟨l'.toArray,[]⟩ w'):sQ 6 f118 K Q' l wx:=by
 obtain⟨x0,x1,x2,x3,x4,-⟩:=aD.k.cs [0,1,2,3,4];simp only[qv,Zx]at x0 x1 x2 x3 x4;obtain⟨z17,z18,z19,z20,z21,-⟩:=aD.a.s.cs [17,18,19,20,21];simp only[bu,Zx]at z17 z18 z19 z20 z21;obtain⟨e17,e18,e19,e20,e21,-⟩:=aD.a.s.fs [17,18,19,20,21];obtain⟨Ag,cg,pM,_⟩:=id aD.d;obtain⟨N,hN⟩:=zN (G.data.length);rw[hN]at pM;obtain⟨Ah,ch,VN,_⟩:=id aD.a.gd;obtain⟨M,hM⟩:=zN (R.gath.data.length);rw[hM]at VN;rw[VN]at z21;obtain⟨W,hW⟩:=zN ((((((wx).setCell ⟨g,17,none⟩ (.int .i64 G.frm)).setCell ⟨g,18,none⟩ (.int .i64 G.idx)).setCell ⟨g,19,none⟩ (.int .i64 G.term)).setCell ⟨g,20,none⟩ (.int .i64 G.total)).setCell ⟨g,21,none⟩ (gv));have yv:=aD.a.s.lt;have hF:Fr (fun j=>j=g) wx W:=by
   have e:∀{a b:World},Fr (fun j=>j=g) wx a->Fr (fun j=>j=g) a b->Fr (fun j=>j=g) wx b:=fun h h'=>h.trans h' fun _ h=>.inl h
   rw[<-hW];exact e (e (e (e (Fr.set (w:=wx) g 17 _) (Fr.set g 18 _)) (Fr.set g 19 _)) (Fr.set g 20 _)) (Fr.set g 21 _)
 have hs:ao W g 122 (bu {R with gath:=G} {v with gat:=gv}):=by
  have s:=(((((aD.a.s.set_ 17 (.int .i64 G.frm)).set_ 18 (.int .i64 G.idx)).set_ 19 (.int .i64 G.term)).set_ 20 (.int .i64 G.total)).set_ 21 (gv));simp only[bu,Zy]at s;rw[<-hW];exact s
 have hq:∀j,aa j=q->j≠g:=fun j hj e=>by subst e;have:=aD.a.sl;unfold aN at ha;omega
 have hA:aK aa c q W g {R with gath:=G} {v with gat:=gv}:=aD.a.turn [] ha hs (fun _ _=>rfl) (by simp) (hF.mono fun j e=>.inl e) tI tI tI tI (.inr ⟨rfl,rfl⟩) (.inl (aD.d.keep fun j hj hl=>hF.block j hl (hq j hj))) tI tI (.inr ⟨rfl,rfl⟩) tI tI;have hS:=zH (aD.struct hF hA dA cW ha);clear hF hs hA hq;rw[pM]at x4 hW;replace hW:=zH hW;replace aD:=zH aD;replace pM:=zH pM;clear VN;obtain⟨af,aY,aL,bW⟩:=hl;obtain⟨fr,rfl,ai⟩:=an af;rw[dV,ai _ _ aY,ai _ _ aL,ai _ _ bW];clear af ai aY aL bW;refine df 6 f118 rfl ?_;go_wp2_with fail;rw[hW.out];exact hK _ _ ⟨rfl,rfl,rfl,rfl⟩ hS.out
theorem Kv(ha:aN c q)(aD:kU cz c q w1 g R v b (cF m A1 A2 n1 c1 n2 c2) (.slice A2 n2 c2) mD gb G gv aa wx)(h0:(G.data.length:Int)<m.total)(hn:R.out.msgs.length<=100000)(hl:LG l g b gb)(hH:∀w',au aa c q wx g (R.send {dh with kind:=8,tgt:=m.frm,idx:=m.idx,round:=m.round,offset:=G.data.length,total:=m.total}) w'->H w'):sP 7 f118 K (rT H) l wx:=by
 obtain⟨y1,y4,y7,y10,-⟩:=aD.m.cs [1,4,7,10];simp only[cF,Zx]at y1 y4 y7 y10;have x4:=aD.k.cell 4;simp only[qv,Zx]at x4;obtain⟨Ag,cg,pM,_⟩:=id aD.d;obtain⟨N,hN⟩:=zN (G.data.length);rw[hN]at pM;rw[pM]at x4;have gA:=dm {dh with kind:=8,tgt:=m.frm,idx:=m.idx,round:=m.round,offset:=G.data.length,total:=m.total} rfl rfl ha aD.a hn;rw[hN]at h0;unfold eI at gA;simp only[dh,vi]at gA;rw[hN]at gA;have aE:=zH (fun w5 (hp:au aa c q wx g (R.send {dh with kind:=8,tgt:=m.frm,idx:=m.idx,round:=m.round,offset:=N,total:=m.total}) w5)=>hH w5 (by rw[hN];exact hp));clear hH hn;replace aD:=zH aD;replace pM:=zH pM;replace hN:=zH hN;obtain⟨af,aY,aL,bW⟩:=hl;obtain⟨fr,rfl,ai⟩:=an af;rw[dV,ai _ _ aY,ai _ _ aL,ai _ _ bW];clear af ai aY aL bW;refine df 7 f118 rfl ?_;go_wp2_with fail;refine gA.mono ?_;rintro e w5 ⟨rfl,hp⟩;have hQ:=zH (aE.out w5 hp);clear gA hp;go_wp2_with fail;exact aP rfl rfl ⟨rfl,hQ.out⟩
theorem Oe(aD:kU cz c q w1 g R v b (cF m A1 A2 n1 c1 n2 c2) (.slice A2 n2 c2) mD gb G gv aa wx)(h0:m.total<=(G.data.length:Int))(hl:LG l g b gb)(hK:∀l',LG l' g b gb->K ⟨l'.toArray,[]⟩ wx):sQ 7 f118 K Q' l wx:=by
 obtain⟨y1,y4,y7,y10,-⟩:=aD.m.cs [1,4,7,10];simp only[cF,Zx]at y1 y4 y7 y10;have x4:=aD.k.cell 4;simp only[qv,Zx]at x4;obtain⟨Ag,cg,pM,_⟩:=id aD.d;obtain⟨N,hN⟩:=zN (G.data.length);rw[hN]at pM;rw[pM]at x4;rw[hN]at h0;replace aD:=zH aD;replace pM:=zH pM;replace hN:=zH hN;obtain⟨af,aY,aL,bW⟩:=hl;obtain⟨fr,rfl,ai⟩:=an af;rw[dV,ai _ _ aY,ai _ _ aL,ai _ _ bW];clear af ai aY aL bW;refine df 7 f118 rfl ?_;go_wp2_with fail;exact⟨rfl,rfl,rfl,rfl⟩
theorem pc8(aD:kU cz c q w1 g R v b (cF m A1 A2 n1 c1 n2 c2) (.slice A2 n2 c2) mD gb G gv aa wx)(hN:R.track.L.length<=1000000)(ht:R.track.termF m.idx=(tm,er))(hl:LG l g b gb)(hK:∀l' w',LT l' g b gb tm er->kU cz c q w1 g R v b (cF m A1 A2 n1 c1 n2 c2) (.slice A2 n2 c2) mD gb G gv aa w'->K ⟨l'.toArray,[]⟩ w'):sP 8 f118 K (rT H) l wx:=by
 have y4:=aD.m.cell 4;simp only[cF,Zx]at y4;have z4:=aD.a.s.cell 4;simp only[bu,Zx]at z4;have hS:=zH (aD.below (w':=wx.drew) (zb.drew));have qG:=sR m.idx hS.out.a.t hN;rw[ht]at qG;obtain⟨gt,iV,_⟩:=aD.a.trk_at;rw[iV]at qG z4;obtain⟨k4,kz⟩:=pU [g,b] y4 z4;replace aD:=zH aD;clear iV;replace ht:=zH ht;obtain⟨af,aY,aL,bW⟩:=hl;obtain⟨fr,rfl,ai⟩:=an af;rw[dV,ai _ _ aY,ai _ _ aL,ai _ _ bW];clear af ai aY aL bW;refine df 8 f118 rfl ?_;go_wp2_with fail;refine eE [g,b] wx [([0,1,2,3,4,5],6)] [7,8,9,10,11] ?_;refine aF fun K1 cQ=>?_
 simp only[ah,Zx];repeat go_big_quiet_step(fail)
 apply wpQuiet_nil;go_wp2_with fail;refine qG.mono ?_;rintro e w5 ⟨rfl,rfl⟩;go_wp2_with fail;refine⟨aQ,cQ _ _ ?_⟩;refine al ?_;simp only[ah,Zx];repeat go_big_quiet_step(fail)
 apply wpQuiet_nil;go_wp2_with fail;exact hK _ _ ⟨rfl,rfl,rfl,rfl,rfl,rfl⟩ hS.out
end
def BV(R:Rf)(idx term:Int):Rf:=if R.track.termF idx=(term,0)then {R with track:=(R.track.dropF idx).2}else {R with track:=⟨idx,term,[]⟩,out:={R.out with reset:=true}}
def Sb(R:Rf)(x:tU):Rf:={R with snap:=x,commit:=x.idx,gath:=Fq,out:={R.out with snap:=some x,save:=true}}
theorem yS(R:Rf)(x:tU):R.install x=Sb (BV R x.idx x.term) x:=by
 unfold Rf.install BV Sb;split <;> rfl
theorem bP.relabel_of{aa ak:Nat->Nat}{q:Nat}{w w':World}{v:Value}{l:List UInt8}(h:bP aa q w' v l)(hs:w.heap.size<=w'.heap.size)(hl:∀j,j<w.heap.size->ak j=aa j)(h0:bP aa q w v l):bP ak q w' v l:=by
 obtain⟨A,c,e,h1,h2,h3,_⟩:=h;obtain⟨A0,c0,e0,g1,_,_,g4⟩:=h0;rw[e]at e0;injection e0 with e1 e2 e3;subst e1;exact⟨A,c,e,h1,h2,h3,fun h9 ad ea=>(hl _ (cn.lt g1 h9 (by omega) ea)).trans (g4 h9 ad ea)⟩
section
variable {aa cz:Nat->Nat}{c q g b gb n1 c1 n2 c2:Nat}{A1 A2:Option Addr}{w w1 w2 wx w':World}{R:Rf}{v:Aw}{mc:Array Value}{G:Gt}{gv vd:Value}{mD:List UInt8}{K:Act->World->Prop}{Q':Exit->Act->World->Prop}{l:List Value}{m:Mg}{H:World->Prop}{tm er:Int}
theorem aK.anew{idx term:Int}(ha:aN c q)(h:aK aa c q w g R v)(hi:1<=idx/\idx<=1099511627776)(ht:1<=term/\term<=1099511627776)(hk:ao w2 w.heap.size 138 #[.int .i64 idx,.int .i64 term,.slice none 0 0])(hb:Below w.heap.size w w2) :
  aK (aj aa w.heap.size (c+2)) c q ((w2.setCell ⟨g,4,none⟩ (.pointer (some ⟨w.heap.size,0,none⟩))).setCell ⟨g,23,none⟩ (.bool true)) g {R with track:=⟨idx,term,[]⟩,out:={R.out with reset:=true}} {v with trk:=.pointer (some ⟨w.heap.size,0,none⟩)}:=by
 have cW:=h.s.lt;have h2:=h.s.kept hb;have s:=(h2.set_ 4 (.pointer (some ⟨w.heap.size,0,none⟩))).set_ 23 (.bool true);simp only[bu,Zy]at s;have dC:Fr (fun j=>j=g) w2 ((w2.setCell ⟨g,4,none⟩ (.pointer (some ⟨w.heap.size,0,none⟩))).setCell ⟨g,23,none⟩ (.bool true)):=(Fr.set (w:=w2) g 4 _).trans (Fr.set g 23 _) fun _ h=>.inl h
 have hF:Fr (fun j=>j=g\/∃i,i∈[2]/\aa j=c+i) w ((w2.setCell ⟨g,4,none⟩ (.pointer (some ⟨w.heap.size,0,none⟩))).setCell ⟨g,23,none⟩ (.bool true)):=(Fr.of_below hb).trans (dC.mono (X':=fun j=>j=g\/∃i,i∈[2]/\aa j=c+i) fun j e=>.inl e) fun j e=>.inl e
 refine h.turn [2] ha s (fun j hj=>ac hj) (by simp) hF (.inl ?_) tI tI tI (.inr ⟨rfl,rfl⟩) (.inr ⟨rfl,rfl⟩) tI tI (.inr ⟨rfl,rfl⟩) tI tI;have CG:ao ((w2.setCell ⟨g,4,none⟩ (.pointer (some ⟨w.heap.size,0,none⟩))).setCell ⟨g,23,none⟩ (.bool true)) w.heap.size 138 #[.int .i64 idx,.int .i64 term,.slice none 0 0]:=(dC.block _ hk.lt (by omega)).trans hk;refine⟨w.heap.size,none,0,0,[],rfl,⟨CG,bX _ _,fun z hz=>(by cases hz),rfl,?_⟩,fun j hj=>?_⟩
 ·exact⟨.inr ⟨hi.1,hi.2,ht.1,ht.2⟩,fun i x hx=>(by simp at hx),fun x hx=>(by cases hx),fun i x hx=>(by simp at hx)⟩
 ·rcases hj with rfl|⟨_,e,_⟩
  ·exact az zl
  ·cases e
theorem pc9(ha:aN c q)(dA:cz g=c+1)(cW:g<w1.heap.size)(aD:kU cz c q w1 g R v b (cF m A1 A2 n1 c1 n2 c2) (.slice A2 n2 c2) mD gb G gv aa wx)(hN:R.track.L.length<=1000000)(hi:1<=m.idx/\m.idx<=1099511627776)(ht:1<=m.logTerm/\m.logTerm<=1099511627776)(qG:R.track.termF m.idx=(tm,er))(hl:LT l g b gb tm er)(hK:∀l' ak v' w',LG l' g b gb->kU cz c q w1 g (BV R m.idx m.logTerm) v' b (cF m A1 A2 n1 c1 n2 c2) (.slice A2 n2 c2) mD gb G gv ak w'->K ⟨l'.toArray,[]⟩ w'):sP 9 f118 K (rT H) l wx:=by
 obtain⟨y4,y5,-⟩:=aD.m.cs [4,5];simp only[cF,Zx]at y4 y5;obtain⟨z4,z23,-⟩:=aD.a.s.cs [4,23];simp only[bu,Zx]at z4 z23;obtain⟨e4,e23,-⟩:=aD.a.s.fs [4,23];obtain⟨gt,iV,AK,qq,rI⟩:=aD.a.trk_at;have Re:¬dv cz c q gb->True:=fun _=>trivial
 clear Re;have yv:=aD.a.s.lt;have xk:=aD.m.lt;have JC:=aD.k.lt;have fU:=aD.f.size;have qp:∀ak:Nat->Nat,(∀j,j<wx.heap.size->ak j=aa j)->∀j,j<wx.heap.size->dv ak c q j->dv aa c q j:=fun ak M4 j hj hm=>by
  unfold dv at hm ⊢;rw[M4 j hj]at hm;exact hm
 by_cases hc:R.track.termF m.idx=(m.logTerm,0)
 ·have e:BV R m.idx m.logTerm={R with track:=(R.track.dropF m.idx).2}:=if_pos hc;rw[e]at hK;rw[qG]at hc;injection hc with c1' c2';have a1:(er==0)=true:=by simp[c2']
  have a2:(tm==m.logTerm)=true:=by simp[c1']
  have hd:=Di m.idx ha (aD.a.below (w':=wx.drew) (zb.drew)) hN;rw[iV]at hd z4;obtain⟨k4,kz⟩:=pU [g,b] y4 z4;have aE:∀w5,no aa c q wx.drew g {R with track:=(R.track.dropF m.idx).2} v w5->∃ak,kU cz c q w1 g {R with track:=(R.track.dropF m.idx).2} v b (cF m A1 A2 n1 c1 n2 c2) (.slice A2 n2 c2) mD gb G gv ak w5:=fun w5 hp=>by
   obtain⟨dU,p1,p2,p3⟩:=hp;have p3':Fr (aX aa c) wx w5:=(Fr.of_below (X:=aX aa c) (zb.drew)).trans p3 fun _ h=>.inl h
   have dO:∀j,¬dv aa c q j->¬aX aa c j:=fun j h1 h2=>h1 (.inl h2)
   have O1:∀j,aa j=q->¬aX aa c j:=fun j e h2=>by unfold aX at h2;unfold aN at ha;omega
   refine⟨dU,p1,fun j hj=>(p2 j (by show j<wx.heap.size;omega)).trans (aD.l j hj),aD.f.trans p3' fun j hj=>?_,(p3'.block b xk (dO b aD.mn)).trans aD.m,(p3'.block gb JC (dO gb aD.kn)).trans aD.k,fun hm=>aD.kn (qp dU p2 gb JC hm),fun hm=>aD.mn (qp dU p2 b xk hm),aD.w1g,?_,?_⟩
   ·rcases Nat.lt_or_ge j w1.heap.size with h9|h9
    ·left;unfold aX at hj ⊢;rw[aD.l j h9]at hj;exact hj
    ·exact .inr h9
   ·exact(aD.d.keep fun j hj hl=>p3'.block j hl (O1 j hj)).relabel_of p3'.size p2 aD.d
   ·exact(aD.md.keep fun j hj hl=>p3'.block j hl (O1 j hj)).relabel_of p3'.size p2 aD.md
  replace aE:=zH aE;replace aD:=zH aD;clear e c1' c2';replace qG:=zH qG;replace iV:=zH iV;obtain⟨af,aY,aL,bW,fM,jA⟩:=hl;obtain⟨fr,rfl,ai⟩:=an af;rw[dV,ai _ _ aY,ai _ _ aL,ai _ _ bW,ai _ _ fM,ai _ _ jA];clear af ai aY aL bW fM jA;refine df 9 f118 rfl ?_;go_wp2_with fail;refine nj [g,b] wx [] ([0,1,2,3,4,5],6) ?_;refine aC ?_;simp only[ah,Zx];repeat go_big_quiet_step(fail)
  apply wpQuiet_nil;go_wp2_with fail;refine hd.mono ?_;rintro e w5 ⟨rfl,hp⟩;obtain⟨dU,h5⟩:=aE.out w5 hp;replace h5:=zH h5;clear hd hp;go_wp2_with fail;exact hK _ _ _ _ ⟨rfl,rfl,rfl,rfl⟩ h5.out
 ·have e:BV R m.idx m.logTerm={R with track:=⟨m.idx,m.logTerm,[]⟩,out:={R.out with reset:=true}}:=if_neg hc;rw[e]at hK;rw[qG]at hc;have cB:(er==0)=false\/((er==0)=true/\(tm==m.logTerm)=false):=by
   by_cases h0:er=0
   ·refine .inr ⟨by simp[h0],?_⟩;rw[beq_eq_false_iff_ne];intro h1;exact hc (by rw[h0,h1])
   ·exact .inl (by rw[beq_eq_false_iff_ne];exact h0)
  have gm:=C5 (i:=m.idx) (tm:=m.logTerm) (by unfold iK eA;rw[Bool.or_eq_true];right;simp;omega) wx;have aE:∀w2,ao w2 wx.heap.size 138 #[.int .i64 m.idx,.int .i64 m.logTerm,.slice none 0 0]->Below wx.heap.size wx w2->kU cz c q w1 g {R with track:=⟨m.idx,m.logTerm,[]⟩,out:={R.out with reset:=true}} {v with trk:=.pointer (some ⟨wx.heap.size,0,none⟩)} b (cF m A1 A2 n1 c1 n2 c2) (.slice A2 n2 c2) mD gb G gv (aj aa wx.heap.size (c+2)) ((w2.setCell ⟨g,4,none⟩ (.pointer (some ⟨wx.heap.size,0,none⟩))).setCell ⟨g,23,none⟩ (.bool true)):=fun w2 eY bQ=>by
   have hA:=aD.a.anew ha hi ht eY bQ;have h2:=aD.below bQ;have dC:Fr (fun j=>j=g) w2 ((w2.setCell ⟨g,4,none⟩ (.pointer (some ⟨wx.heap.size,0,none⟩))).setCell ⟨g,23,none⟩ (.bool true)):=(Fr.set (w:=w2) g 4 _).trans (Fr.set g 23 _) fun _ h=>.inl h
   have hg:aa g=c+1:=aD.a.sl;have hm:dv aa c q g:=.inl (by omega);have hq:∀j,aa j=q->j≠g:=fun j hj e=>by subst e;unfold aN at ha;omega
   refine⟨hA,fun j hj=>(ac (by omega)).trans (aD.l j hj),h2.f.trans (dC.mono (X':=aX cz c) fun j e=>by rw[e];exact⟨by omega,by omega⟩) fun j e=>.inl e,(dC.block b h2.m.lt fun e=>aD.mn (e▸hm)).trans h2.m,(dC.block gb h2.k.lt fun e=>aD.kn (e▸hm)).trans h2.k,fun hh=>aD.kn (qp _ (fun j hj=>ac hj) gb JC hh),fun hh=>aD.mn (qp _ (fun j hj=>ac hj) b xk hh),aD.w1g,?_,?_⟩
   ·exact(h2.d.keep fun j hj hl=>dC.block j hl (hq j hj)).relabel_of (Nat.le_trans bQ.size dC.size) (fun j hj=>ac hj) aD.d
   ·exact(h2.md.keep fun j hj hl=>dC.block j hl (hq j hj)).relabel_of (Nat.le_trans bQ.size dC.size) (fun j hj=>ac hj) aD.md
  have O4:∀w2,Below wx.heap.size wx w2->w2.heap[g]?=wx.heap[g]?:=fun w2 hb=>hb.block g yv
  have NG:=aD;replace aE:=zH aE;replace aD:=zH aD;replace NG:=zH NG;clear e;replace hc:=zH hc;replace qG:=zH qG;replace O4:=zH O4;rw[iV]at z4;replace iV:=zH iV;obtain⟨af,aY,aL,bW,fM,jA⟩:=hl;obtain⟨fr,rfl,ai⟩:=an af;rw[dV,ai _ _ aY,ai _ _ aL,ai _ _ bW,ai _ _ fM,ai _ _ jA];clear af ai aY aL bW fM jA;refine df 9 f118 rfl ?_;rcases cB with a1|⟨a1,a2⟩
  all_goals
   go_wp2_with fail;refine gm.mono ?_;rintro e w5 ⟨rfl,CF,cM⟩;have hQ:=zH (aE.out w5 CF cM);have NB:=NG.out.a.s.kept cM;obtain⟨z4,z23,-⟩:=NB.cs [4,23];simp only[bu,Zx]at z4 z23;rw[iV.out]at z4;obtain⟨e4,e23,-⟩:=NB.fs [4,23];clear gm CF cM NB;go_wp2_with fail;exact hK _ _ _ _ ⟨rfl,rfl,rfl,rfl⟩ hQ.out
end
section
variable {aa cz:Nat->Nat}{c q g b gb n1 c1 n2 c2:Nat}{A1 A2:Option Addr}{w w1 w2 wx w':World}{R:Rf}{v:Aw}{mc:Array Value}{G:Gt}{gv vd:Value}{mD:List UInt8}{K:Act->World->Prop}{Q':Exit->Act->World->Prop}{l:List Value}{m:Mg}{H:World->Prop}{tm er:Int}
theorem Wo(ha:aN c q)(dA:cz g=c+1)(cW:g<w1.heap.size)(aD:kU cz c q w1 g R v b (cF m A1 A2 n1 c1 n2 c2) (.slice A2 n2 c2) mD gb G gv aa wx)(hl:LG l g b gb)(hK:∀l' w',LG l' g b gb->kU cz c q w1 g {R with snap:=⟨m.idx,m.logTerm,G.data⟩} {v with dat:=gv} b (cF m A1 A2 n1 c1 n2 c2) (.slice A2 n2 c2) mD gb G gv aa w'->K ⟨l'.toArray,[]⟩ w'):sQ 10 f118 K Q' l wx:=by
 obtain⟨y1,y4,y5,y7,-⟩:=aD.m.cs [1,4,5,7];simp only[cF,Zx]at y1 y4 y5 y7;have x4:=aD.k.cell 4;simp only[qv,Zx]at x4;obtain⟨z5,z6,z7,-⟩:=aD.a.s.cs [5,6,7];simp only[bu,vi,Zx]at z5 z6 z7;obtain⟨e5,e6,e7,-⟩:=aD.a.s.fs [5,6,7];obtain⟨A0x,c0x,tJ,_⟩:=id aD.d;obtain⟨N0x,F4⟩:∃N,G.data.length=N:=⟨_,rfl⟩;rw[F4]at tJ;rw[tJ]at x4;obtain⟨A1x,c1x,G5,_⟩:=id aD.a.d;obtain⟨N1x,Mh⟩:∃N,R.snap.data.length=N:=⟨_,rfl⟩;rw[Mh]at G5;rw[G5]at z7;obtain⟨W,hW⟩:=zN ((((wx).setCell ⟨g,5,none⟩ (.int .i64 m.idx)).setCell ⟨g,6,none⟩ (.int .i64 m.logTerm)).setCell ⟨g,7,none⟩ (gv));have yv:=aD.a.s.lt;have hF:Fr (fun j=>j=g) wx W:=by
   have e:∀{a b:World},Fr (fun j=>j=g) wx a->Fr (fun j=>j=g) a b->Fr (fun j=>j=g) wx b:=fun h h'=>h.trans h' fun _ h=>.inl h
   rw[<-hW];exact e (e (Fr.set (w:=wx) g 5 _) (Fr.set g 6 _)) (Fr.set g 7 _)
 have hs:ao W g 122 (bu {R with snap:=⟨m.idx,m.logTerm,G.data⟩} {v with dat:=gv}):=by
  have s:=(((aD.a.s.set_ 5 (.int .i64 m.idx)).set_ 6 (.int .i64 m.logTerm)).set_ 7 (gv));simp only[bu,Zy]at s;rw[<-hW];exact s
 have hq:∀j,aa j=q->j≠g:=fun j hj e=>by subst e;have:=aD.a.sl;unfold aN at ha;omega
 have hA:aK aa c q W g {R with snap:=⟨m.idx,m.logTerm,G.data⟩} {v with dat:=gv}:=aD.a.turn [] ha hs (fun _ _=>rfl) (by simp) (hF.mono fun j e=>.inl e) tI tI tI tI (.inl (aD.d.keep fun j hj hl=>hF.block j hl (hq j hj))) (.inr ⟨rfl,rfl⟩) tI tI (.inr ⟨rfl,rfl⟩) tI tI;have hS:=zH (aD.struct hF hA dA cW ha);clear hF hs hA hq;rw[tJ]at hW;replace hW:=zH hW;replace aD:=zH aD;obtain⟨af,aY,aL,bW⟩:=hl;obtain⟨fr,rfl,ai⟩:=an af;rw[dV,ai _ _ aY,ai _ _ aL,ai _ _ bW];clear af ai aY aL bW;refine df 10 f118 rfl ?_;go_wp2_with fail;rw[hW.out];exact hK _ _ ⟨rfl,rfl,rfl,rfl⟩ hS.out
theorem Wp(ha:aN c q)(dA:cz g=c+1)(cW:g<w1.heap.size)(aD:kU cz c q w1 g R v b (cF m A1 A2 n1 c1 n2 c2) (.slice A2 n2 c2) mD gb G gv aa wx)(hl:LG l g b gb)(hK:∀l' w',LG l' g b gb->kU cz c q w1 g {R with out:={R.out with snap:=some ⟨js R.out.snap,jt R.out.snap,nK R.out.snap⟩}} v b (cF m A1 A2 n1 c1 n2 c2) (.slice A2 n2 c2) mD gb G gv aa w'->K ⟨l'.toArray,[]⟩ w'):sQ 11 f118 K Q' l wx:=by
 obtain⟨y1,y4,y5,y7,-⟩:=aD.m.cs [1,4,5,7];simp only[cF,Zx]at y1 y4 y5 y7;have x4:=aD.k.cell 4;simp only[qv,Zx]at x4;have z28:=aD.a.s.cell 28;simp only[bu,vi,Zx]at z28;have e28:=aD.a.s.free 28;obtain⟨W,hW⟩:=zN ((wx).setCell ⟨g,28,none⟩ (.bool true));have yv:=aD.a.s.lt;have hF:Fr (fun j=>j=g) wx W:=by
   have e:∀{a b:World},Fr (fun j=>j=g) wx a->Fr (fun j=>j=g) a b->Fr (fun j=>j=g) wx b:=fun h h'=>h.trans h' fun _ h=>.inl h
   rw[<-hW];exact Fr.set (w:=wx) g 28 _
 have hs:ao W g 122 (bu {R with out:={R.out with snap:=some ⟨js R.out.snap,jt R.out.snap,nK R.out.snap⟩}} v):=by
  have s:=(aD.a.s.set_ 28 (.bool true));simp only[bu,Zy]at s;rw[<-hW];exact s
 have hq:∀j,aa j=q->j≠g:=fun j hj e=>by subst e;have:=aD.a.sl;unfold aN at ha;omega
 have hA:aK aa c q W g {R with out:={R.out with snap:=some ⟨js R.out.snap,jt R.out.snap,nK R.out.snap⟩}} v:=aD.a.turn [] ha hs (fun _ _=>rfl) (by simp) (hF.mono fun j e=>.inl e) tI tI tI tI (.inr ⟨rfl,rfl⟩) (.inr ⟨rfl,rfl⟩) tI tI (.inl (aD.a.sd.keep fun j hj hl=>hF.block j hl (hq j hj))) tI tI;have hS:=zH (aD.struct hF hA dA cW ha);clear hF hs hA hq;replace hW:=zH hW;replace aD:=zH aD;obtain⟨af,aY,aL,bW⟩:=hl;obtain⟨fr,rfl,ai⟩:=an af;rw[dV,ai _ _ aY,ai _ _ aL,ai _ _ bW];clear af ai aY aL bW;refine df 11 f118 rfl ?_;go_wp2_with fail;rw[hW.out];exact hK _ _ ⟨rfl,rfl,rfl,rfl⟩ hS.out
theorem Wq(RJ:R.out.snap.isSome=true)(ha:aN c q)(dA:cz g=c+1)(cW:g<w1.heap.size)(aD:kU cz c q w1 g R v b (cF m A1 A2 n1 c1 n2 c2) (.slice A2 n2 c2) mD gb G gv aa wx)(hl:LG l g b gb)(hK:∀l' w',LG l' g b gb->kU cz c q w1 g {R with out:={R.out with snap:=some R.snap}} {v with sd:=v.dat} b (cF m A1 A2 n1 c1 n2 c2) (.slice A2 n2 c2) mD gb G gv aa w'->K ⟨l'.toArray,[]⟩ w'):sQ 12 f118 K Q' l wx:=by
 obtain⟨y1,y4,y5,y7,-⟩:=aD.m.cs [1,4,5,7];simp only[cF,Zx]at y1 y4 y5 y7;have x4:=aD.k.cell 4;simp only[qv,Zx]at x4;obtain⟨z5,z6,z7,z29,z30,z31,-⟩:=aD.a.s.cs [5,6,7,29,30,31];simp only[bu,vi,Zx]at z5 z6 z7 z29 z30 z31;obtain⟨e29,e30,e31,-⟩:=aD.a.s.fs [29,30,31];obtain⟨A0x,c0x,tJ,_⟩:=id aD.a.d;obtain⟨N0x,F4⟩:∃N,R.snap.data.length=N:=⟨_,rfl⟩;rw[F4]at tJ;rw[tJ]at z7;obtain⟨A1x,c1x,G5,_⟩:=id aD.a.sd;obtain⟨N1x,Mh⟩:∃N,(nK R.out.snap).length=N:=⟨_,rfl⟩;rw[Mh]at G5;rw[G5]at z31;obtain⟨W,hW⟩:=zN ((((wx).setCell ⟨g,29,none⟩ (.int .i64 R.snap.idx)).setCell ⟨g,30,none⟩ (.int .i64 R.snap.term)).setCell ⟨g,31,none⟩ (v.dat));have yv:=aD.a.s.lt;have hF:Fr (fun j=>j=g) wx W:=by
   have e:∀{a b:World},Fr (fun j=>j=g) wx a->Fr (fun j=>j=g) a b->Fr (fun j=>j=g) wx b:=fun h h'=>h.trans h' fun _ h=>.inl h
   rw[<-hW];exact e (e (Fr.set (w:=wx) g 29 _) (Fr.set g 30 _)) (Fr.set g 31 _)
 have hs:ao W g 122 (bu {R with out:={R.out with snap:=some R.snap}} {v with sd:=v.dat}):=by
  have s:=(((aD.a.s.set_ 29 (.int .i64 R.snap.idx)).set_ 30 (.int .i64 R.snap.term)).set_ 31 (v.dat));simp only[bu,Zy]at s;rw[RJ]at s;rw[<-hW];exact s
 have hq:∀j,aa j=q->j≠g:=fun j hj e=>by subst e;have:=aD.a.sl;unfold aN at ha;omega
 have hA:aK aa c q W g {R with out:={R.out with snap:=some R.snap}} {v with sd:=v.dat}:=aD.a.turn [] ha hs (fun _ _=>rfl) (by simp) (hF.mono fun j e=>.inl e) tI tI tI tI (.inr ⟨rfl,rfl⟩) (.inr ⟨rfl,rfl⟩) tI tI (.inl (aD.a.d.keep fun j hj hl=>hF.block j hl (hq j hj))) tI tI;have hS:=zH (aD.struct hF hA dA cW ha);clear hF hs hA hq;rw[tJ]at hW;replace hW:=zH hW;replace aD:=zH aD;obtain⟨af,aY,aL,bW⟩:=hl;obtain⟨fr,rfl,ai⟩:=an af;rw[dV,ai _ _ aY,ai _ _ aL,ai _ _ bW];clear af ai aY aL bW;refine df 12 f118 rfl ?_;go_wp2_with fail;rw[hW.out];exact hK _ _ ⟨rfl,rfl,rfl,rfl⟩ hS.out
theorem Wr(ha:aN c q)(dA:cz g=c+1)(cW:g<w1.heap.size)(aD:kU cz c q w1 g R v b (cF m A1 A2 n1 c1 n2 c2) (.slice A2 n2 c2) mD gb G gv aa wx)(hl:LG l g b gb)(hK:∀l' w',LG l' g b gb->kU cz c q w1 g {R with out:={R.out with save:=true}} v b (cF m A1 A2 n1 c1 n2 c2) (.slice A2 n2 c2) mD gb G gv aa w'->K ⟨l'.toArray,[]⟩ w'):sQ 13 f118 K Q' l wx:=by
 obtain⟨y1,y4,y5,y7,-⟩:=aD.m.cs [1,4,5,7];simp only[cF,Zx]at y1 y4 y5 y7;have x4:=aD.k.cell 4;simp only[qv,Zx]at x4;have z22:=aD.a.s.cell 22;simp only[bu,vi,Zx]at z22;have e22:=aD.a.s.free 22;obtain⟨W,hW⟩:=zN ((wx).setCell ⟨g,22,none⟩ (.bool true));have yv:=aD.a.s.lt;have hF:Fr (fun j=>j=g) wx W:=by
   have e:∀{a b:World},Fr (fun j=>j=g) wx a->Fr (fun j=>j=g) a b->Fr (fun j=>j=g) wx b:=fun h h'=>h.trans h' fun _ h=>.inl h
   rw[<-hW];exact Fr.set (w:=wx) g 22 _
 have hs:ao W g 122 (bu {R with out:={R.out with save:=true}} v):=by
  have s:=(aD.a.s.set_ 22 (.bool true));simp only[bu,Zy]at s;rw[<-hW];exact s
 have hq:∀j,aa j=q->j≠g:=fun j hj e=>by subst e;have:=aD.a.sl;unfold aN at ha;omega
 have hA:aK aa c q W g {R with out:={R.out with save:=true}} v:=aD.a.turn [] ha hs (fun _ _=>rfl) (by simp) (hF.mono fun j e=>.inl e) tI tI tI tI (.inr ⟨rfl,rfl⟩) (.inr ⟨rfl,rfl⟩) tI tI (.inr ⟨rfl,rfl⟩) tI tI;have hS:=zH (aD.struct hF hA dA cW ha);clear hF hs hA hq;replace hW:=zH hW;replace aD:=zH aD;obtain⟨af,aY,aL,bW⟩:=hl;obtain⟨fr,rfl,ai⟩:=an af;rw[dV,ai _ _ aY,ai _ _ aL,ai _ _ bW];clear af ai aY aL bW;refine df 13 f118 rfl ?_;go_wp2_with fail;rw[hW.out];exact hK _ _ ⟨rfl,rfl,rfl,rfl⟩ hS.out
theorem Ws(ha:aN c q)(dA:cz g=c+1)(cW:g<w1.heap.size)(aD:kU cz c q w1 g R v b (cF m A1 A2 n1 c1 n2 c2) (.slice A2 n2 c2) mD gb G gv aa wx)(hl:LG l g b gb)(hK:∀l' w',LG l' g b gb->kU cz c q w1 g {R with commit:=m.idx} v b (cF m A1 A2 n1 c1 n2 c2) (.slice A2 n2 c2) mD gb G gv aa w'->K ⟨l'.toArray,[]⟩ w'):sQ 14 f118 K Q' l wx:=by
 obtain⟨y1,y4,y5,y7,-⟩:=aD.m.cs [1,4,5,7];simp only[cF,Zx]at y1 y4 y5 y7;have x4:=aD.k.cell 4;simp only[qv,Zx]at x4;have z8:=aD.a.s.cell 8;simp only[bu,vi,Zx]at z8;have e8:=aD.a.s.free 8;obtain⟨W,hW⟩:=zN ((wx).setCell ⟨g,8,none⟩ (.int .i64 m.idx));have yv:=aD.a.s.lt;have hF:Fr (fun j=>j=g) wx W:=by
   have e:∀{a b:World},Fr (fun j=>j=g) wx a->Fr (fun j=>j=g) a b->Fr (fun j=>j=g) wx b:=fun h h'=>h.trans h' fun _ h=>.inl h
   rw[<-hW];exact Fr.set (w:=wx) g 8 _
 have hs:ao W g 122 (bu {R with commit:=m.idx} v):=by
  have s:=(aD.a.s.set_ 8 (.int .i64 m.idx));simp only[bu,Zy]at s;rw[<-hW];exact s
 have hq:∀j,aa j=q->j≠g:=fun j hj e=>by subst e;have:=aD.a.sl;unfold aN at ha;omega
 have hA:aK aa c q W g {R with commit:=m.idx} v:=aD.a.turn [] ha hs (fun _ _=>rfl) (by simp) (hF.mono fun j e=>.inl e) tI tI tI tI (.inr ⟨rfl,rfl⟩) (.inr ⟨rfl,rfl⟩) tI tI (.inr ⟨rfl,rfl⟩) tI tI;have hS:=zH (aD.struct hF hA dA cW ha);clear hF hs hA hq;replace hW:=zH hW;replace aD:=zH aD;obtain⟨af,aY,aL,bW⟩:=hl;obtain⟨fr,rfl,ai⟩:=an af;rw[dV,ai _ _ aY,ai _ _ aL,ai _ _ bW];clear af ai aY aL bW;refine df 14 f118 rfl ?_;go_wp2_with fail;rw[hW.out];exact hK _ _ ⟨rfl,rfl,rfl,rfl⟩ hS.out
theorem Wu(ha:aN c q)(dA:cz g=c+1)(cW:g<w1.heap.size)(aD:kU cz c q w1 g R v b (cF m A1 A2 n1 c1 n2 c2) (.slice A2 n2 c2) mD gb G gv aa wx)(hl:LG l g b gb)(hK:∀l' w',LG l' g b gb->kU cz c q w1 g {R with gath:=Fq} {v with gat:=.slice none 0 0} b (cF m A1 A2 n1 c1 n2 c2) (.slice A2 n2 c2) mD gb G gv aa w'->K ⟨l'.toArray,[]⟩ w'):sQ 15 f118 K Q' l wx:=by
 obtain⟨y1,y4,y5,y7,-⟩:=aD.m.cs [1,4,5,7];simp only[cF,Zx]at y1 y4 y5 y7;have x4:=aD.k.cell 4;simp only[qv,Zx]at x4;obtain⟨z17,z18,z19,z20,z21,-⟩:=aD.a.s.cs [17,18,19,20,21];simp only[bu,vi,Zx]at z17 z18 z19 z20 z21;obtain⟨e17,e18,e19,e20,e21,-⟩:=aD.a.s.fs [17,18,19,20,21];obtain⟨A0x,c0x,tJ,_⟩:=id aD.a.gd;obtain⟨N0x,F4⟩:∃N,R.gath.data.length=N:=⟨_,rfl⟩;rw[F4]at tJ;rw[tJ]at z21;obtain⟨W,hW⟩:=zN ((((((wx).setCell ⟨g,17,none⟩ (.int .i64 0)).setCell ⟨g,18,none⟩ (.int .i64 0)).setCell ⟨g,19,none⟩ (.int .i64 0)).setCell ⟨g,20,none⟩ (.int .i64 0)).setCell ⟨g,21,none⟩ (.slice none 0 0));have yv:=aD.a.s.lt;have hF:Fr (fun j=>j=g) wx W:=by
   have e:∀{a b:World},Fr (fun j=>j=g) wx a->Fr (fun j=>j=g) a b->Fr (fun j=>j=g) wx b:=fun h h'=>h.trans h' fun _ h=>.inl h
   rw[<-hW];exact e (e (e (e (Fr.set (w:=wx) g 17 _) (Fr.set g 18 _)) (Fr.set g 19 _)) (Fr.set g 20 _)) (Fr.set g 21 _)
 have hs:ao W g 122 (bu {R with gath:=Fq} {v with gat:=.slice none 0 0}):=by
  have s:=(((((aD.a.s.set_ 17 (.int .i64 0)).set_ 18 (.int .i64 0)).set_ 19 (.int .i64 0)).set_ 20 (.int .i64 0)).set_ 21 (.slice none 0 0));simp only[bu,Zy]at s;rw[<-hW];exact s
 have hq:∀j,aa j=q->j≠g:=fun j hj e=>by subst e;have:=aD.a.sl;unfold aN at ha;omega
 have hA:aK aa c q W g {R with gath:=Fq} {v with gat:=.slice none 0 0}:=aD.a.turn [] ha hs (fun _ _=>rfl) (by simp) (hF.mono fun j e=>.inl e) tI tI tI tI (.inr ⟨rfl,rfl⟩) (.inl (bP.nil _ _ _)) tI tI (.inr ⟨rfl,rfl⟩) tI tI;have hS:=zH (aD.struct hF hA dA cW ha);clear hF hs hA hq;replace hW:=zH hW;replace aD:=zH aD;obtain⟨af,aY,aL,bW⟩:=hl;obtain⟨fr,rfl,ai⟩:=an af;rw[dV,ai _ _ aY,ai _ _ aL,ai _ _ bW];clear af ai aY aL bW;refine df 15 f118 rfl ?_;go_wp2_with fail;rw[hW.out];exact hK _ _ ⟨rfl,rfl,rfl,rfl⟩ hS.out
theorem Wv(ha:aN c q)(aD:kU cz c q w1 g R v b (cF m A1 A2 n1 c1 n2 c2) (.slice A2 n2 c2) mD gb G gv aa wx)(hn:R.out.msgs.length<=100000)(hl:LG l g b gb)(hH:∀w',au aa c q wx g (R.send {dh with kind:=8,tgt:=m.frm,idx:=m.idx,round:=m.round}) w'->H w'):tP 16 f118 (rT H) l wx:=by
 obtain⟨y1,y4,y7,-⟩:=aD.m.cs [1,4,7];simp only[cF,Zx]at y1 y4 y7;have gA:=dm {dh with kind:=8,tgt:=m.frm,idx:=m.idx,round:=m.round} rfl rfl ha aD.a hn;unfold eI at gA;simp only[dh,vi]at gA;have aE:=zH hH;clear hH hn;replace aD:=zH aD;obtain⟨af,aY,aL,bW⟩:=hl;obtain⟨fr,rfl,ai⟩:=an af;rw[dV,ai _ _ aY,ai _ _ aL,ai _ _ bW];clear af ai aY aL bW;refine Fm 16 f118 rfl ?_;go_wp2_with fail;refine gA.mono ?_;rintro e w5 ⟨rfl,hp⟩;have hQ:=zH (aE.out w5 hp);clear gA hp;go_wp2_with fail;exact am rfl rfl ⟨rfl,hQ.out⟩
theorem AQ{K M:Nat}(m:Mg)(A1 A2:Option Addr)(n1 c1 n2 c2:Nat)(ha:aN c q)(h:aK aa c q w g R v)(hk:Ok K M R)(hK:K<=100000)(hM:M<=60000)(hd:bP aa q w (.slice A2 n2 c2) m.data)(hn:n2=m.data.length)(GM:n2<=160)
  (LI:0<=m.idx) (tL:m.idx<=1099511627776) (rI:0<=m.logTerm) (O5:m.logTerm<=1099511627776) :
  Calls prog 118 #[.pointer (some ⟨g,0,none⟩),eI m (.slice A1 n1 c1) (.slice A2 n2 c2)] w fun e w'=>e=.returned (.tuple #[])/\au aa c q w g (R.piece m) w':=by
 have JS:eI m (.slice A1 n1 c1) (.slice A2 n2 c2)=.agg (cF m A1 A2 n1 c1 n2 c2):=rfl;rw[JS];have xq:=hk.ms;have cx:=hk.trk;have yu:=hk.gat;have aI:Below w.heap.size w (w.alloc (.cells (cF m A1 A2 n1 c1 n2 c2) 39)):=zb.alloc zl _;have bM:=ao.new w 39 (cF m A1 A2 n1 c1 n2 c2);obtain⟨w1,ct⟩:=zN (w.alloc (.cells (cF m A1 A2 n1 c1 n2 c2) 39));rw[ct]at aI bM;have h1:=h.fresh (q+c+10) aI;have yq:bP (aj aa w.heap.size (q+c+10)) q w1 (.slice A2 n2 c2) m.data:=(hd.keep fun j _ hl=>aI.block j hl).relabel_of aI.size (fun j hj=>ac hj) hd;obtain⟨ag,dY⟩:=zN (aj aa w.heap.size (q+c+10));rw[dY]at h1 yq;have cD:∀j,j<w.heap.size->ag j=aa j:=fun j hj=>by rw[<-dY];exact ac hj
 have KZ:∀j,w.heap.size<=j->¬dv ag c q j:=fun j hj hm=>by
  unfold dv at hm;rw[<-dY,az hj]at hm;omega
 have cY:∀R' w',au ag c q w1 g R' w'->au aa c q w g R' w':=fun R' w' hp=>hp.next cD (Fr.of_below aI)
 have iM:ag g=c+1:=h1.sl;have rz:=h1.s.lt;have pK:=aI.size;refine cV (args:=[.pointer (some ⟨g,0,none⟩),.agg (cF m A1 A2 n1 c1 n2 c2)]) 221 func118 (by kernel_rfl) ntmps118 (by simp) fun la jL fQ=>?_
 refine aJ (by kernel_rfl) (pc0 ⟨jL,fQ 0 _ rfl,fQ 1 _ rfl⟩ fun l0 j3=>?_);rw[ct];unfold Rf.piece;by_cases g0:m.idx=0\/m.logTerm=0\/¬(1<=m.total/\m.total<=65536)
 ·rw[if_pos g0];exact aJ (by kernel_rfl) (Kt bM g0 j3 (cY _ _ (au.refl h1)))
 ·rw[if_neg g0];refine aJ (by kernel_rfl) (Oc bM g0 j3 fun l1 ql=>?_);by_cases g1:m.idx<=R.commit
  ·rw[if_pos g1];exact aJ (by kernel_rfl) (Ku ha h1 bM g1 (by omega) ql fun w' hp=>cY _ _ hp)
  ·rw[if_neg g1];simp only;refine aJ (by kernel_rfl) (Od h1 bM (by omega) ql fun l2 dG=>?_);have OC:aK ag c q w1.drew g R v:=h1.below (zb.drew);refine aJ (by kernel_rfl) (pc3 OC dG fun l3 lx=>?_);have YU:Below w1.drew.heap.size w1.drew (w1.drew.alloc (.cells (qv R.gath v.gat) 120)):=zb.alloc zl _;have Zo:=ao.new w1.drew 120 (qv R.gath v.gat);have Jq:Below w1.heap.size w1 (w1.drew.alloc (.cells (qv R.gath v.gat) 120)):=(zb.drew).alloc zl _;have wg:kU ag c q w1 g R v w.heap.size (cF m A1 A2 n1 c1 n2 c2) (.slice A2 n2 c2) m.data w1.drew.heap.size R.gath v.gat ag (w1.drew.alloc (.cells (qv R.gath v.gat) 120)):=
    ⟨OC.below YU,fun _ _=>rfl,Fr.of_below Jq,bM.kept Jq,Zo,KZ _ (by show w.heap.size<=w1.heap.size;omega),KZ _ zl,Nat.le_refl _,h1.gd.keep fun j _ hl=>Jq.block j hl,yq.keep fun j _ hl=>Jq.block j hl⟩
   have AD:w.heap.size≠w1.drew.heap.size:=by have:=bM.lt;show w.heap.size≠w1.heap.size;omega
   obtain⟨gb,Qz⟩:=zN (w1.drew.heap.size);rw[Qz]at wg AD lx;obtain⟨w3,jm⟩:=zN (w1.drew.alloc (.cells (qv R.gath v.gat) 120));rw[jm]at wg ⊢;refine aJ (by kernel_rfl) (pc4 wg AD lx fun l4 gv4 w4 od jh=>?_);have UI:((if R.gath.frm=m.frm/\R.gath.idx=m.idx/\R.gath.term=m.logTerm/\R.gath.total=m.total/\m.offset≠0 then R.gath else⟨m.frm,m.idx,m.logTerm,m.total,[]⟩:Gt)).data.length<=65536:=by
    split
    ·exact yu
    ·exact Nat.zero_le _
   refine aJ (by kernel_rfl) (pc5 jh AD hn GM UI od fun l5 gv5 dU w5 oY hst5=>?_);have eg:(if m.offset=((if R.gath.frm=m.frm/\R.gath.idx=m.idx/\R.gath.term=m.logTerm/\R.gath.total=m.total/\m.offset≠0 then R.gath else⟨m.frm,m.idx,m.logTerm,m.total,[]⟩:Gt)).data.length/\((if R.gath.frm=m.frm/\R.gath.idx=m.idx/\R.gath.term=m.logTerm/\R.gath.total=m.total/\m.offset≠0 then R.gath else⟨m.frm,m.idx,m.logTerm,m.total,[]⟩:Gt)).data.length+m.data.length<=m.total then {(if R.gath.frm=m.frm/\R.gath.idx=m.idx/\R.gath.term=m.logTerm/\R.gath.total=m.total/\m.offset≠0 then R.gath else⟨m.frm,m.idx,m.logTerm,m.total,[]⟩:Gt)with data:=((if R.gath.frm=m.frm/\R.gath.idx=m.idx/\R.gath.term=m.logTerm/\R.gath.total=m.total/\m.offset≠0 then R.gath else⟨m.frm,m.idx,m.logTerm,m.total,[]⟩:Gt)).data++m.data}else(if R.gath.frm=m.frm/\R.gath.idx=m.idx/\R.gath.term=m.logTerm/\R.gath.total=m.total/\m.offset≠0 then R.gath else⟨m.frm,m.idx,m.logTerm,m.total,[]⟩:Gt):Gt)=R.gath1 m:=rfl;rw[eg]at hst5;obtain⟨G,hG⟩:=zN (R.gath1 m);rw[hG]at hst5 ⊢;refine aJ (by kernel_rfl) (pc6 ha iM rz hst5 oY fun l6 w6 un wh=>?_);have eG:∀j,j<w1.heap.size->dU j=ag j:=wh.l;by_cases g2:(G.data.length:Int)<m.total
   ·rw[if_pos g2];exact aJ (by kernel_rfl) (Kv ha wh g2 (by show R.out.msgs.length<=_;omega) un fun w' hp=>cY _ _ (hp.next wh.l wh.f))
   ·rw[if_neg g2];refine aJ (by kernel_rfl) (Oe wh (by omega) un fun l7 AH=>?_);obtain⟨⟨tm,er⟩,XS⟩:∃p,R.track.termF m.idx=p:=⟨_,rfl⟩;refine aJ (by kernel_rfl) (pc8 wh (by show R.track.L.length<=_;omega) XS AH fun l8 w8 hl8 hst8=>?_);refine aJ (by kernel_rfl) (pc9 ha iM rz hst8 (by show R.track.L.length<=_;omega) ⟨by omega,tL⟩ ⟨by omega,O5⟩ XS hl8 fun l9 aam v9 w9 hl9 hst9=>?_);have Va:(BV {R with gath:=G} m.idx m.logTerm).out.msgs.length<=100000:=by
     unfold BV;split <;> (show R.out.msgs.length<=_;omega)
    refine aJ (by kernel_rfl) (Wo ha iM rz hst9 hl9 fun l10 w10 hl10 hst10=>?_);refine aJ (by kernel_rfl) (Wp ha iM rz hst10 hl10 fun l11 w11 GD hst11=>?_);refine aJ (by kernel_rfl) (Wq rfl ha iM rz hst11 GD fun l12 w12 hl12 hst12=>?_);refine aJ (by kernel_rfl) (Wr ha iM rz hst12 hl12 fun l13 w13 hl13 hst13=>?_);refine aJ (by kernel_rfl) (Ws ha iM rz hst13 hl13 fun l14 w14 hl14 hst14=>?_);refine aJ (by kernel_rfl) (Wu ha iM rz hst14 hl14 fun l15 w15 hl15 hst15=>?_);refine Wv ha hst15 Va hl15 fun w' hp=>?_
    rw[yS];exact cY _ _ (hp.next hst15.l hst15.f)
end
def LD(l:List Value)(g b:Nat)(nw:Bool):Prop:=l.length=236/\l[0]?=some (.pointer (some ⟨g,0,none⟩))/\l[3]?=some (.pointer (some ⟨b,0,none⟩))/\l[6]?=some (.bool nw)
section
variable {aa:Nat->Nat}{c q g b n1 c1 n2 c2:Nat}{A1 A2:Option Addr}{wx w':World}{R:Rf}{v:Aw}{K:Act->World->Prop}{Q':Exit->Act->World->Prop}{l:List Value}{m:Mg}{H:World->Prop}{nw:Bool}{li lt:Int}
theorem Yf(hl:l.length=236/\l[0]?=some (.pointer (some ⟨g,0,none⟩))/\l[1]?=some (.agg (cF m A1 A2 n1 c1 n2 c2)))(hK:∀l':List Value,l'.length=236/\l'[0]?=some (.pointer (some ⟨g,0,none⟩))/\l'[3]?=some (.pointer (some ⟨wx.heap.size,0,none⟩))->K ⟨l'.toArray,[]⟩ (wx.alloc (.cells (cF m A1 A2 n1 c1 n2 c2) 39))):sQ 0 f64 K Q' l wx:=by
 unfold cF at *;obtain⟨af,aY,ci⟩:=hl;obtain⟨fr,rfl,ai⟩:=an af;rw[eW,ai _ _ aY,ai _ _ ci];clear af ai aY ci;refine df 0 f64 rfl ?_;go_wp2_with fail;exact⟨rfl,rfl,rfl⟩
theorem Yg(h:aK aa c q wx g R v)(hN:R.track.L.length<=1000000)(hi:R.track.lastF.1=li)(ht:R.track.lastF.2=lt)(hl:l.length=236/\l[0]?=some (.pointer (some ⟨g,0,none⟩))/\l[3]?=some (.pointer (some ⟨b,0,none⟩)))(hK:∀(l':List Value) w',l'.length=236/\l'[0]?=some (.pointer (some ⟨g,0,none⟩))/\l'[3]?=some (.pointer (some ⟨b,0,none⟩))/\l'[4]?=some (.int .i64 li)/\l'[5]?=some (.int .i64 lt)->Below wx.heap.size wx w'->K ⟨l'.toArray,[]⟩ w'):sQ 1 f64 K Q' l wx:=by
 have z4:=h.s.cell 4;simp only[bu,Zx]at z4;have bH:=jF h.t hN;rw[hi,ht]at bH;clear h hi ht;obtain⟨af,aY,aL⟩:=hl;obtain⟨fr,rfl,ai⟩:=an af;rw[eW,ai _ _ aY,ai _ _ aL];clear af ai aY aL;refine df 1 f64 rfl ?_;go_wp2_with fail;refine bH.mono ?_;rintro e w2 ⟨rfl,hb⟩;replace hb:=zH hb;clear bH;go_wp2_with fail;exact hK _ _ ⟨rfl,rfl,rfl,rfl,rfl⟩ hb.out
theorem Yh(hb:ao wx b 39 (cF m A1 A2 n1 c1 n2 c2))(hl:l.length=236/\l[0]?=some (.pointer (some ⟨g,0,none⟩))/\l[3]?=some (.pointer (some ⟨b,0,none⟩))/\l[4]?=some (.int .i64 li)/\l[5]?=some (.int .i64 lt))(hK:∀l',LD l' g b (fY m.idx m.logTerm li lt)->K ⟨l'.toArray,[]⟩ wx):sQ 2 f64 K Q' l wx:=by
 obtain⟨y4,y5,-⟩:=hb.cs [4,5];simp only[cF,Zx]at y4 y5;have oh:=wR m.idx m.logTerm li lt wx;obtain⟨nw,fi⟩:∃x,fY m.idx m.logTerm li lt=x:=⟨_,rfl⟩;rw[fi]at oh hK;clear hb fi;obtain⟨af,aY,aL,bW,dK⟩:=hl;obtain⟨fr,rfl,ai⟩:=an af;rw[eW,ai _ _ aY,ai _ _ aL,ai _ _ bW,ai _ _ dK];clear af ai aY aL bW dK;refine df 2 f64 rfl ?_;go_wp2_with fail;refine oh.mono ?_;rintro e w2 ⟨rfl,rfl⟩;clear oh;go_wp2_with fail;exact⟨rfl,rfl,rfl,rfl⟩
theorem L9(hb:ao wx b 39 (cF m A1 A2 n1 c1 n2 c2))(h0:m.kind≠1)(hl:LD l g b nw)(hK:∀l',LD l' g b nw->K ⟨l'.toArray,[]⟩ wx):sQ 3 f64 K Q' l wx:=by
 have y0:=hb.cell 0;simp only[cF,Zx]at y0;have a1:(m.kind==1)=false:=by simpa using h0
 replace h0:=zH h0;clear hb;obtain⟨af,aY,aL,fM⟩:=hl;obtain⟨fr,rfl,ai⟩:=an af;rw[eW,ai _ _ aY,ai _ _ aL,ai _ _ fM];clear af ai aY aL fM;refine df 3 f64 rfl ?_;go_wp2_with fail;exact⟨rfl,rfl,rfl,rfl⟩
theorem I1(ha:aN c q)(h:aK aa c q wx g R v)(hb:ao wx b 39 (cF m A1 A2 n1 c1 n2 c2))(h0:m.kind=1)(oh:R.newer m=nw)(hn:R.out.msgs.length<=100000)(hl:LD l g b nw)(hH:∀w',au aa c q wx g (R.asked m) w'->H w'):sP 3 f64 K (rT H) l wx:=by
 obtain⟨y0,y1,y3,-⟩:=hb.cs [0,1,3];simp only[cF,Zx]at y0 y1 y3;obtain⟨z2,z9,z10,z11,-⟩:=h.s.cs [2,9,10,11];simp only[bu,vi,Zx]at z2 z9 z10 z11;have a1:(m.kind==1)=true:=by simp[h0]
 have Mv:(R.role≠3/\(R.leader=0\/10<=R.clock))/\R.hard.term<m.term/\nw=true->∀w',au aa c q wx.drew g (R.send {dh with kind:=2,tgt:=m.frm,term:=m.term}) w'->H w':=fun hc w' hp=>hH w' (by
  have e:R.asked m=R.send {dh with kind:=2,tgt:=m.frm,term:=m.term}:=if_pos (by rw[oh];exact hc);rw[e];exact hp.behind (w:=wx) (zb.drew))
 have xf:¬((R.role≠3/\(R.leader=0\/10<=R.clock))/\R.hard.term<m.term/\nw=true)->∀w',au aa c q wx.drew g (R.send {dh with kind:=2,tgt:=m.frm,reject:=true}) w'->H w':=fun hc w' hp=>hH w' (by
  have e:R.asked m=R.send {dh with kind:=2,tgt:=m.frm,reject:=true}:=if_neg (by rw[oh];exact hc);rw[e];exact hp.behind (w:=wx) (zb.drew))
 have D0:=dm {dh with kind:=2,tgt:=m.frm,term:=m.term} rfl rfl ha (h.below (w':=wx.drew) (zb.drew)) hn;have tj:=dm {dh with kind:=2,tgt:=m.frm,reject:=true} rfl rfl ha (h.below (w':=wx.drew) (zb.drew)) hn;unfold eI at D0 tj;simp only[dh,vi]at D0 tj;obtain⟨k3,kz2,kz9,kz10,kz11⟩:=Ov [g,b] y3 z2 z9 z10 z11;have cB:((decide (R.hard.term<m.term)=false)\/(decide (R.hard.term<m.term)=true/\nw=false)\/(decide (R.hard.term<m.term)=true/\nw=true/\(R.role !=3)=false)\/(decide (R.hard.term<m.term)=true/\nw=true/\(R.role !=3)=true/\(R.leader==0)=false/\decide (10<=R.clock)=false))\/((decide (R.hard.term<m.term)=true/\nw=true/\(R.role !=3)=true/\(R.leader==0)=true)\/(decide (R.hard.term<m.term)=true/\nw=true/\(R.role !=3)=true/\(R.leader==0)=false/\decide (10<=R.clock)=true)):=by
  simp only[bne_iff_ne,bne_eq_false_iff_eq,beq_iff_eq,beq_eq_false_iff_ne,decide_eq_true_eq,decide_eq_false_iff_not];cases nw <;> simp <;> omega
 clear h hb oh hH;replace h0:=zH h0;rcases cB with cB|cB
 ·have hc:¬((R.role≠3/\(R.leader=0\/10<=R.clock))/\R.hard.term<m.term/\nw=true):=by
   simp only[bne_iff_ne,bne_eq_false_iff_eq,beq_iff_eq,beq_eq_false_iff_ne,decide_eq_true_eq,decide_eq_false_iff_not]at cB;cases nw <;> simp at cB ⊢ <;> omega
  have aE:=zH (xf hc);clear Mv xf D0 hc;obtain⟨af,aY,aL,fM⟩:=hl;obtain⟨fr,rfl,ai⟩:=an af;rw[eW,ai _ _ aY,ai _ _ aL,ai _ _ fM];clear af ai aY aL fM;refine df 3 f64 rfl ?_;rcases cB with e1|⟨e1,e2⟩|⟨e1,e2,e3⟩|⟨e1,e2,e3,e4,e5⟩
  all_goals
   try subst e2
   go_wp2_with fail;refine eE [g,b] wx [] [0,1,2,3,4,5,6,7,8,9,10,11,12,13,14,15,16,17,18,19,20,21,22,23,24,25,26,27,28,29,30,31,32] ?_;refine al ?_;simp only[ah,Zx];repeat go_big_quiet_step(fail)
   apply wpQuiet_nil;go_wp2_with fail;refine tj.mono ?_;rintro e w5 ⟨rfl,hp⟩;have hQ:=zH (aE.out w5 hp);clear tj hp;go_wp2_with fail;exact aP rfl rfl ⟨rfl,hQ.out⟩
 ·have hc:(R.role≠3/\(R.leader=0\/10<=R.clock))/\R.hard.term<m.term/\nw=true:=by
   simp only[bne_iff_ne,bne_eq_false_iff_eq,beq_iff_eq,beq_eq_false_iff_ne,decide_eq_true_eq,decide_eq_false_iff_not]at cB;cases nw <;> simp at cB ⊢ <;> omega
  have aE:=zH (Mv hc);clear Mv xf tj hc;obtain⟨af,aY,aL,fM⟩:=hl;obtain⟨fr,rfl,ai⟩:=an af;rw[eW,ai _ _ aY,ai _ _ aL,ai _ _ fM];clear af ai aY aL fM;refine df 3 f64 rfl ?_;rcases cB with⟨e1,e2,e3,e4⟩|⟨e1,e2,e3,e4,e5⟩
  all_goals
   subst e2;go_wp2_with fail;refine eE [g,b] wx [] [0,1,2,3,4,5,6,7,8,9,10,11,12,13,14,15,16,17,18,19,20,21,22,23,24,25,26,27,28,29,30,31,32] ?_;refine al ?_;simp only[ah,Zx];repeat go_big_quiet_step(fail)
   apply wpQuiet_nil;go_wp2_with fail;refine D0.mono ?_;rintro e w5 ⟨rfl,hp⟩;have hQ:=zH (aE.out w5 hp);clear D0 hp;go_wp2_with fail;exact aP rfl rfl ⟨rfl,hQ.out⟩
theorem FO(h:aK aa c q wx g R v)(hb:ao wx b 39 (cF m A1 A2 n1 c1 n2 c2))(h0:¬(m.kind=2/\m.reject=false/\R.role=1/\m.term=R.hard.term+1))(XR:0<=R.hard.term/\R.hard.term<=1099511627776)(hl:LD l g b nw)(hK:∀l',LD l' g b nw->K ⟨l'.toArray,[]⟩ wx.drew):sP 4 f64 K (rT H) l wx:=by
 obtain⟨y0,y3,y8,-⟩:=hb.cs [0,3,8];simp only[cF,Zx]at y0 y3 y8;obtain⟨z2,z9,-⟩:=h.s.cs [2,9];simp only[bu,vi,Zx]at z2 z9;obtain⟨k0,k3,kz2,kz9⟩:=IA [g,b] y0 y3 z2 z9;obtain⟨rj,kL⟩:∃x,m.reject=x:=⟨_,rfl⟩;rw[kL]at y8 h0;have k8:=EY [g,b] y8;have cB:(m.kind==2)=false\/((m.kind==2)=true/\rj=true)\/((m.kind==2)=true/\rj=false/\(R.role==1)=false)\/((m.kind==2)=true/\rj=false/\(R.role==1)=true/\(m.term==R.hard.term+1)=false):=by
  simp only[beq_iff_eq,beq_eq_false_iff_ne];cases rj <;> simp at h0 ⊢ <;> omega
 clear h hb kL;replace h0:=zH h0;obtain⟨af,aY,aL,fM⟩:=hl;obtain⟨fr,rfl,ai⟩:=an af;rw[eW,ai _ _ aY,ai _ _ aL,ai _ _ fM];clear af ai aY aL fM;refine df 4 f64 rfl ?_;rcases cB with e1|⟨e1,e2⟩|⟨e1,e2,e3⟩|⟨e1,e2,e3,e4⟩
 all_goals
  try subst e2
  go_wp2_with fail;refine eE [g,b] wx [] [0,1,2,3,4,5,6,7,8,9,10,11,12,13,14,15,16,17,18,19,20,21,22,23,24,25] ?_;refine al ?_;simp only[ah,Zx];repeat go_big_quiet_step(fail)
  apply wpQuiet_nil;go_wp2_with fail;exact⟨rfl,rfl,rfl,rfl⟩
theorem I2(h:aK aa c q wx g R v)(hb:ao wx b 39 (cF m A1 A2 n1 c1 n2 c2))(h0:m.kind=2/\m.reject=false/\R.role=1/\m.term=R.hard.term+1)(XR:0<=R.hard.term/\R.hard.term<=1099511627776){J:World->Prop}{won:Bool}(hy:Calls prog 101 #[.pointer (some ⟨g,0,none⟩),.int .i64 m.frm] wx.drew fun e w'=>e=.returned (.bool won)/\J w')(aD:won=true->∀w',J w'->Calls prog 102 #[.pointer (some ⟨g,0,none⟩)] w' fun e w''=>e=.returned (.tuple #[])/\H w'')(dO:won=false->∀w',J w'->H w')(hl:LD l g b nw)(hK:∀l' w',LD l' g b nw->H w'->K ⟨l'.toArray,[]⟩ w'):sP 4 f64 K (rT H) l wx:=by
 obtain⟨y0,y1,y3,y8,-⟩:=hb.cs [0,1,3,8];simp only[cF,Zx]at y0 y1 y3 y8;obtain⟨z2,z9,-⟩:=h.s.cs [2,9];simp only[bu,vi,Zx]at z2 z9;obtain⟨g1,g2,g3,g4⟩:=h0;have e1:(m.kind==2)=true:=by simp[g1]
 have e3:(R.role==1)=true:=by simp[g3]
 have e4:(m.term==R.hard.term+1)=true:=by simp[g4]
 rw[g2]at y8;obtain⟨k0,k3,k8,kz2,kz9⟩:=Ov [g,b] y0 y3 y8 z2 z9;clear h hb g1 g2 g3;replace g4:=zH g4;replace aD:=zH aD;replace dO:=zH dO;obtain⟨af,aY,aL,fM⟩:=hl;obtain⟨fr,rfl,ai⟩:=an af;rw[eW,ai _ _ aY,ai _ _ aL,ai _ _ fM];clear af ai aY aL fM;refine df 4 f64 rfl ?_;go_wp2_with fail;refine eE [g,b] wx [] [0,1,2,3,4,5,6,7,8,9,10,11,12,13,14,15,16,17,18,19,20,21,22,23,24,25] ?_;refine al ?_;simp only[ah,Zx];repeat go_big_quiet_step(fail)
 apply wpQuiet_nil;go_wp2_with fail;refine hy.mono ?_;rintro e w5 ⟨rfl,hJ⟩;clear hy;cases won with
 | true=>
  have eG:=aD.out rfl w5 hJ;clear hJ aD dO;go_wp2_with fail;refine eG.mono ?_;rintro e w6 ⟨rfl,hQ⟩;replace hQ:=zH hQ;clear eG;go_wp2_with fail;exact hK _ _ ⟨rfl,rfl,rfl,rfl⟩ hQ.out
 | false=>
  have hQ:=zH (dO.out rfl w5 hJ);clear hJ aD dO;go_wp2_with fail;exact hK _ _ ⟨rfl,rfl,rfl,rfl⟩ hQ.out
end
section
variable {aa:Nat->Nat}{c q g b n1 c1 n2 c2:Nat}{A1 A2:Option Addr}{wx w':World}{R:Rf}{v:Aw}{K:Act->World->Prop}{Q':Exit->Act->World->Prop}{l:List Value}{m:Mg}{H:World->Prop}{nw:Bool}{li lt:Int}
theorem FP(hb:ao wx b 39 (cF m A1 A2 n1 c1 n2 c2))(h0:m.kind≠3)(hl:LD l g b nw)(hK:∀l',LD l' g b nw->K ⟨l'.toArray,[]⟩ wx):sQ 5 f64 K Q' l wx:=by
 have y0:=hb.cell 0;simp only[cF,Zx]at y0;have a1:(m.kind==3)=false:=by simpa using h0
 replace h0:=zH h0;clear hb;obtain⟨af,aY,aL,fM⟩:=hl;obtain⟨fr,rfl,ai⟩:=an af;rw[eW,ai _ _ aY,ai _ _ aL,ai _ _ fM];clear af ai aY aL fM;refine df 5 f64 rfl ?_;go_wp2_with fail;exact⟨rfl,rfl,rfl,rfl⟩
theorem I4(ha:aN c q)(h:aK aa c q wx g R v)(hb:ao wx b 39 (cF m A1 A2 n1 c1 n2 c2))(h0:m.kind=3)(hc:(R.hard.vote=0\/R.hard.vote=m.frm)/\nw=true)(oh:R.newer m=nw)(hn:R.out.msgs.length<=100000)(hl:LD l g b nw)(hK:∀l' w',LD l' g b nw->au aa c q wx g (R.votes m) w'->K ⟨l'.toArray,[]⟩ w'):sP 5 f64 K (rT H) l wx:=by
 obtain⟨y0,y1,-⟩:=hb.cs [0,1];simp only[cF,Zx]at y0 y1;obtain⟨z3,z11,z12,z22,-⟩:=h.s.cs [3,11,12,22];simp only[bu,vi,Zx]at z3 z11 z12 z22;obtain⟨f3,f11,f12,f22,-⟩:=h.s.fs [3,11,12,22];have a1:(m.kind==3)=true:=by simp[h0]
 obtain⟨k1,kz3⟩:=pU [g,b] y1 z3;obtain⟨W,hW⟩:=zN (((((wx).setCell ⟨g,3,none⟩ (.int .i64 m.frm)).setCell ⟨g,22,none⟩ (.bool true)).setCell ⟨g,11,none⟩ (.int .i64 0)).setCell ⟨g,12,none⟩ (.int .i64 0));have hF:Fr (fun j=>j=g) wx W:=by
   have e:∀{a b:World},Fr (fun j=>j=g) wx a->Fr (fun j=>j=g) a b->Fr (fun j=>j=g) wx b:=fun h h'=>h.trans h' fun _ h=>.inl h
   rw[<-hW];exact e (e (e (Fr.set (w:=wx) g 3 _) (Fr.set g 22 _)) (Fr.set g 11 _)) (Fr.set g 12 _)
 have hs:ao W g 122 (bu {R.rest with hard:=⟨R.hard.term,m.frm⟩,out:={R.out with save:=true}} v):=by
  have s:=((((h.s.set_ 3 (.int .i64 m.frm)).set_ 22 (.bool true)).set_ 11 (.int .i64 0)).set_ 12 (.int .i64 0));simp only[bu,Zy]at s;rw[<-hW];exact s
 have hA:aK aa c q W.drew g {R.rest with hard:=⟨R.hard.term,m.frm⟩,out:={R.out with save:=true}} v:=(h.nums ha hs hF rfl rfl rfl rfl rfl rfl rfl rfl rfl rfl rfl).below (zb.drew);have gA:=dm {dh with kind:=4,tgt:=m.frm,reject:=false} rfl rfl ha hA hn;unfold eI at gA;simp only[dh,vi]at gA;have dP:=h.sl;have aE:=zH (fun l' w5 (M4:LD l' g b nw) (hp:au aa c q W.drew g (Rf.send {R.rest with hard:=⟨R.hard.term,m.frm⟩,out:={R.out with save:=true}} {dh with kind:=4,tgt:=m.frm,reject:=false}) w5)=>hK l' w5 M4 (by
  have e:R.votes m=Rf.send {R.rest with hard:=⟨R.hard.term,m.frm⟩,out:={R.out with save:=true}} {dh with kind:=4,tgt:=m.frm,reject:=false}:=if_pos (by rw[oh];exact hc);rw[e];exact(hp.behind (w:=W) (zb.drew)).next (fun _ _=>rfl) (hF.mono (X':=aX aa c) fun j e=>by rw[e];exact⟨by omega,by omega⟩)))
 have hYW:W.drew.cell? ⟨b,1,none⟩=some (.int .i64 m.frm):=by
  have AD:b≠g:=fun e=>by
   have h1:=hb;rw[e]at h1;have h2:=h.s;unfold ao at h1 h2;rw[h2]at h1;injection h1 with h1;injection h1 with _ h1 _;exact absurd h1 (by decide)
  exact(World.cell?_of_block (hF.block b hb.lt AD)).trans y1
 have cB:((R.hard.vote==0)=true)\/((R.hard.vote==0)=false/\(R.hard.vote==m.frm)=true):=by
  simp only[beq_iff_eq,beq_eq_false_iff_ne];omega
 obtain⟨_,ZG⟩:=hc;subst ZG;clear hF hs hA h hb hn hK oh;replace hW:=zH (show((((wx).setCell ⟨g,3,none⟩ (.int .i64 m.frm)).setCell ⟨g,22,none⟩ (.bool true)).setCell ⟨g,11,none⟩ (.int .i64 0)).setCell ⟨g,12,none⟩ (.int .i64 0)=W from hW);replace h0:=zH h0;obtain⟨af,aY,aL,fM⟩:=hl;obtain⟨fr,rfl,ai⟩:=an af;rw[eW,ai _ _ aY,ai _ _ aL,ai _ _ fM];clear af ai aY aL fM;refine df 5 f64 rfl ?_;rcases cB with e1|⟨e1,e2⟩
 all_goals
  go_wp2_with fail;refine eE [g,b] wx [] [0,1,2,3,4,5,6,7,8,9,10,11,12,13,14,15,16,17,18,19] ?_;refine al ?_;simp only[ah,Zx];repeat go_big_quiet_step(fail)
  apply wpQuiet_nil;go_wp2_with fail;rw[hW.out];refine gA.mono ?_;rintro e w5 ⟨rfl,hp⟩;replace hp:=zH hp;clear gA;go_wp2_with fail;exact aE.out _ _ ⟨rfl,rfl,rfl,rfl⟩ hp.out
theorem I3(ha:aN c q)(h:aK aa c q wx g R v)(hb:ao wx b 39 (cF m A1 A2 n1 c1 n2 c2))(h0:m.kind=3)(hc:¬((R.hard.vote=0\/R.hard.vote=m.frm)/\nw=true))(oh:R.newer m=nw)(hn:R.out.msgs.length<=100000)(hl:LD l g b nw)(hK:∀l' w',LD l' g b nw->au aa c q wx g (R.votes m) w'->K ⟨l'.toArray,[]⟩ w'):sP 5 f64 K (rT H) l wx:=by
 obtain⟨y0,y1,-⟩:=hb.cs [0,1];simp only[cF,Zx]at y0 y1;obtain⟨z3,z11,z12,z22,-⟩:=h.s.cs [3,11,12,22];simp only[bu,vi,Zx]at z3 z11 z12 z22;obtain⟨f3,f11,f12,f22,-⟩:=h.s.fs [3,11,12,22];have a1:(m.kind==3)=true:=by simp[h0]
 obtain⟨k1,kz3⟩:=pU [g,b] y1 z3;have gA:=dm {dh with kind:=4,tgt:=m.frm,reject:=true} rfl rfl ha (h.below (w':=wx.drew) (zb.drew)) hn;unfold eI at gA;simp only[dh,vi]at gA;have aE:=zH (fun l' w5 (M4:LD l' g b nw) (hp:au aa c q wx.drew g (R.send {dh with kind:=4,tgt:=m.frm,reject:=true}) w5)=>hK l' w5 M4 (by
  have e:R.votes m=R.send {dh with kind:=4,tgt:=m.frm,reject:=true}:=if_neg (by rw[oh];exact hc);rw[e];exact hp.behind (w:=wx) (zb.drew)))
 have cB:((R.hard.vote==0)=true/\nw=false)\/((R.hard.vote==0)=false/\nw=false/\(R.hard.vote==m.frm)=true)\/((R.hard.vote==0)=false/\(nw=nw)/\(R.hard.vote==m.frm)=false):=by
  simp only[beq_iff_eq,beq_eq_false_iff_ne];cases nw <;> simp at hc ⊢ <;> omega
 clear h hb hn hK oh;replace hc:=zH hc;replace h0:=zH h0;obtain⟨af,aY,aL,fM⟩:=hl;obtain⟨fr,rfl,ai⟩:=an af;rw[eW,ai _ _ aY,ai _ _ aL,ai _ _ fM];clear af ai aY aL fM;refine df 5 f64 rfl ?_;rcases cB with⟨e1,e2⟩|⟨e1,e2,e3⟩|⟨e1,e2,e3⟩
 all_goals
  try subst e2
  go_wp2_with fail;refine eE [g,b] wx [] [0,1,2,3,4,5,6,7,8,9,10,11,12,13,14,15,16,17,18,19] ?_;refine al ?_;simp only[ah,Zx];repeat go_big_quiet_step(fail)
  apply wpQuiet_nil;go_wp2_with fail;refine gA.mono ?_;rintro e w5 ⟨rfl,hp⟩;replace hp:=zH hp;clear gA;go_wp2_with fail;exact aE.out _ _ ⟨rfl,rfl,rfl,rfl⟩ hp.out
theorem Bf(h:aK aa c q wx g R v)(hb:ao wx b 39 (cF m A1 A2 n1 c1 n2 c2))(h0:¬(m.kind=4/\m.reject=false/\R.role=2))(hl:LD l g b nw)(hK:∀l',LD l' g b nw->K ⟨l'.toArray,[]⟩ wx):sQ 6 f64 K Q' l wx:=by
 obtain⟨y0,y8,-⟩:=hb.cs [0,8];simp only[cF,Zx]at y0 y8;have z9:=h.s.cell 9;simp only[bu,vi,Zx]at z9;obtain⟨rj,kL⟩:∃x,m.reject=x:=⟨_,rfl⟩;rw[kL]at y8 h0;have cB:(m.kind==4)=false\/((m.kind==4)=true/\rj=true)\/((m.kind==4)=true/\rj=false/\(R.role==2)=false):=by
  simp only[beq_iff_eq,beq_eq_false_iff_ne];cases rj <;> simp at h0 ⊢ <;> omega
 clear kL;replace h0:=zH h0;clear h;clear hb;obtain⟨af,aY,aL,fM⟩:=hl;obtain⟨fr,rfl,ai⟩:=an af;rw[eW,ai _ _ aY,ai _ _ aL,ai _ _ fM];clear af ai aY aL fM;refine df 6 f64 rfl ?_;rcases cB with e1|⟨e1,e2⟩|⟨e1,e2,e3⟩
 all_goals
  try subst e2
  go_wp2_with fail;exact⟨rfl,rfl,rfl,rfl⟩
theorem I5(h:aK aa c q wx g R v)(hb:ao wx b 39 (cF m A1 A2 n1 c1 n2 c2))(h0:m.kind=4/\m.reject=false/\R.role=2){J:World->Prop}{won:Bool}(hy:Calls prog 101 #[.pointer (some ⟨g,0,none⟩),.int .i64 m.frm] wx fun e w'=>e=.returned (.bool won)/\J w')(aD:won=true->∀w',J w'->Calls prog 116 #[.pointer (some ⟨g,0,none⟩)] w' fun e w''=>e=.returned (.tuple #[])/\H w'')(dO:won=false->∀w',J w'->H w')(hl:LD l g b nw):sP 6 f64 K (rT H) l wx:=by
 obtain⟨y0,y1,y8,-⟩:=hb.cs [0,1,8];simp only[cF,Zx]at y0 y1 y8;have z9:=h.s.cell 9;simp only[bu,vi,Zx]at z9;obtain⟨g1,g2,g3⟩:=h0;have e1:(m.kind==4)=true:=by simp[g1]
 have e3:(R.role==2)=true:=by simp[g3]
 rw[g2]at y8;clear h hb g1 g2 g3;replace aD:=zH aD;replace dO:=zH dO;obtain⟨af,aY,aL,fM⟩:=hl;obtain⟨fr,rfl,ai⟩:=an af;rw[eW,ai _ _ aY,ai _ _ aL,ai _ _ fM];clear af ai aY aL fM;refine df 6 f64 rfl ?_;go_wp2_with fail;refine hy.mono ?_;rintro e w5 ⟨rfl,hJ⟩;clear hy;cases won with
 | true=>
  have eG:=aD.out rfl w5 hJ;clear hJ aD dO;go_wp2_with fail;refine eG.mono ?_;rintro e w6 ⟨rfl,hQ⟩;replace hQ:=zH hQ;clear eG;go_wp2_with fail;exact aP rfl rfl ⟨rfl,hQ.out⟩
 | false=>
  have hQ:=zH (dO.out rfl w5 hJ);clear hJ aD dO;go_wp2_with fail;exact aP rfl rfl ⟨rfl,hQ.out⟩
theorem rk(h:aK aa c q wx g R v)(hb:ao wx b 39 (cF m A1 A2 n1 c1 n2 c2))(h0:¬((m.kind=5\/m.kind=7)/\R.role≠3))(hl:LD l g b nw)(hK:∀l',LD l' g b nw->K ⟨l'.toArray,[]⟩ wx):sQ 7 f64 K Q' l wx:=by
 have y0:=hb.cell 0;simp only[cF,Zx]at y0;have z9:=h.s.cell 9;simp only[bu,vi,Zx]at z9;have cB:((m.kind==5)=false/\(m.kind==7)=false)\/((m.kind==5)=true/\(R.role !=3)=false)\/((m.kind==5)=false/\(m.kind==7)=true/\(R.role !=3)=false):=by
  simp only[beq_iff_eq,beq_eq_false_iff_ne,bne_eq_false_iff_eq];omega
 replace h0:=zH h0;clear h;clear hb;obtain⟨af,aY,aL,fM⟩:=hl;obtain⟨fr,rfl,ai⟩:=an af;rw[eW,ai _ _ aY,ai _ _ aL,ai _ _ fM];clear af ai aY aL fM;refine df 7 f64 rfl ?_;rcases cB with⟨e1,e3⟩|⟨e1,e3⟩|⟨e1,e3,e4⟩
 all_goals
  try subst e2
  go_wp2_with fail;exact⟨rfl,rfl,rfl,rfl⟩
theorem Pm(ha:aN c q)(h:aK aa c q wx g R v)(hb:ao wx b 39 (cF m A1 A2 n1 c1 n2 c2))(h0:m.kind=5/\R.role≠3)(eG:∀W,aK aa c q W g (R.hears m) v->Fr (fun j=>j=g) wx W->Calls prog 117 #[.pointer (some ⟨g,0,none⟩),.agg (cF m A1 A2 n1 c1 n2 c2)] W fun e w''=>e=.returned (.tuple #[])/\H w'')(hl:LD l g b nw):sP 7 f64 K (rT H) l wx:=by
 obtain⟨y0,y1,y2,y3,y4,y5,y6,y7,y8,y9,y10,y11,y12,-⟩:=hb.cs [0,1,2,3,4,5,6,7,8,9,10,11,12];simp only[cF,Zx]at y0 y1 y2 y3 y4 y5 y6 y7 y8 y9 y10 y11 y12;obtain⟨z9,z10,z11,z12,-⟩:=h.s.cs [9,10,11,12];simp only[bu,vi,Zx]at z9 z10 z11 z12;obtain⟨f9,f10,f11,f12,-⟩:=h.s.fs [9,10,11,12];obtain⟨W,hW⟩:=zN (((((wx).setCell ⟨g,9,none⟩ (.int .i64 0)).setCell ⟨g,10,none⟩ (.int .i64 m.frm)).setCell ⟨g,11,none⟩ (.int .i64 0)).setCell ⟨g,12,none⟩ (.int .i64 0));have hF:Fr (fun j=>j=g) wx W:=by
   have e:∀{a b:World},Fr (fun j=>j=g) wx a->Fr (fun j=>j=g) a b->Fr (fun j=>j=g) wx b:=fun h h'=>h.trans h' fun _ h=>.inl h
   rw[<-hW];exact e (e (e (Fr.set (w:=wx) g 9 _) (Fr.set g 10 _)) (Fr.set g 11 _)) (Fr.set g 12 _)
 have hs:ao W g 122 (bu (R.hears m) v):=by
  have s:=((((h.s.set_ 9 (.int .i64 0)).set_ 10 (.int .i64 m.frm)).set_ 11 (.int .i64 0)).set_ 12 (.int .i64 0));simp only[bu,Zy]at s;rw[<-hW];exact s
 have hA:aK aa c q W g (R.hears m) v:=h.nums ha hs hF rfl rfl rfl rfl rfl rfl rfl rfl rfl rfl rfl;have aH:=eG W hA hF;have AD:b≠g:=fun e=>by
  have h1:=hb;rw[e]at h1;have h2:=h.s;unfold ao at h1 h2;rw[h2]at h1;injection h1 with h1;injection h1 with _ h1 _;exact absurd h1 (by decide)
 have e1:(m.kind==5)=true:=by simp[h0.1]
 have e2:(m.kind==7)=false:=by simp[h0.1]
 have e3:(R.role !=3)=true:=by simp[h0.2]
 unfold cF at aH;clear hF hs hA h hb eG;replace hW:=zH hW;replace h0:=zH h0;obtain⟨af,aY,aL,fM⟩:=hl;obtain⟨fr,rfl,ai⟩:=an af;rw[eW,ai _ _ aY,ai _ _ aL,ai _ _ fM];clear af ai aY aL fM;refine df 7 f64 rfl ?_;go_wp2_with fail;rw[hW.out];refine aH.mono ?_;rintro e w5 ⟨rfl,hp⟩;replace hp:=zH hp;clear aH;go_wp2_with fail;exact aP rfl rfl ⟨rfl,hp.out⟩
theorem Pn(ha:aN c q)(h:aK aa c q wx g R v)(hb:ao wx b 39 (cF m A1 A2 n1 c1 n2 c2))(h0:m.kind=7/\R.role≠3)(eG:∀W,aK aa c q W g (R.hears m) v->Fr (fun j=>j=g) wx W->Calls prog 118 #[.pointer (some ⟨g,0,none⟩),.agg (cF m A1 A2 n1 c1 n2 c2)] W fun e w''=>e=.returned (.tuple #[])/\H w'')(hl:LD l g b nw):sP 7 f64 K (rT H) l wx:=by
 obtain⟨y0,y1,y2,y3,y4,y5,y6,y7,y8,y9,y10,y11,y12,-⟩:=hb.cs [0,1,2,3,4,5,6,7,8,9,10,11,12];simp only[cF,Zx]at y0 y1 y2 y3 y4 y5 y6 y7 y8 y9 y10 y11 y12;obtain⟨z9,z10,z11,z12,-⟩:=h.s.cs [9,10,11,12];simp only[bu,vi,Zx]at z9 z10 z11 z12;obtain⟨f9,f10,f11,f12,-⟩:=h.s.fs [9,10,11,12];obtain⟨W,hW⟩:=zN (((((wx).setCell ⟨g,9,none⟩ (.int .i64 0)).setCell ⟨g,10,none⟩ (.int .i64 m.frm)).setCell ⟨g,11,none⟩ (.int .i64 0)).setCell ⟨g,12,none⟩ (.int .i64 0));have hF:Fr (fun j=>j=g) wx W:=by
   have e:∀{a b:World},Fr (fun j=>j=g) wx a->Fr (fun j=>j=g) a b->Fr (fun j=>j=g) wx b:=fun h h'=>h.trans h' fun _ h=>.inl h
   rw[<-hW];exact e (e (e (Fr.set (w:=wx) g 9 _) (Fr.set g 10 _)) (Fr.set g 11 _)) (Fr.set g 12 _)
 have hs:ao W g 122 (bu (R.hears m) v):=by
  have s:=((((h.s.set_ 9 (.int .i64 0)).set_ 10 (.int .i64 m.frm)).set_ 11 (.int .i64 0)).set_ 12 (.int .i64 0));simp only[bu,Zy]at s;rw[<-hW];exact s
 have hA:aK aa c q W g (R.hears m) v:=h.nums ha hs hF rfl rfl rfl rfl rfl rfl rfl rfl rfl rfl rfl;have aH:=eG W hA hF;have AD:b≠g:=fun e=>by
  have h1:=hb;rw[e]at h1;have h2:=h.s;unfold ao at h1 h2;rw[h2]at h1;injection h1 with h1;injection h1 with _ h1 _;exact absurd h1 (by decide)
 have e1:(m.kind==5)=false:=by simp[h0.1]
 have e2:(m.kind==7)=true:=by simp[h0.1]
 have e3:(R.role !=3)=true:=by simp[h0.2]
 unfold cF at aH;clear hF hs hA h hb eG;replace hW:=zH hW;replace h0:=zH h0;obtain⟨af,aY,aL,fM⟩:=hl;obtain⟨fr,rfl,ai⟩:=an af;rw[eW,ai _ _ aY,ai _ _ aL,ai _ _ fM];clear af ai aY aL fM;refine df 7 f64 rfl ?_;go_wp2_with fail;rw[hW.out];refine aH.mono ?_;rintro e w5 ⟨rfl,hp⟩;replace hp:=zH hp;clear aH;go_wp2_with fail;exact aP rfl rfl ⟨rfl,hp.out⟩
theorem oU(h:aK aa c q wx g R v)(hb:ao wx b 39 (cF m A1 A2 n1 c1 n2 c2))(h0:¬(R.role=3/\(m.kind=6\/(m.kind=8/\m.reject=false))))(hl:LD l g b nw)(hH:H wx):tP 8 f64 (rT H) l wx:=by
 obtain⟨y0,y8,-⟩:=hb.cs [0,8];simp only[cF,Zx]at y0 y8;have z9:=h.s.cell 9;simp only[bu,vi,Zx]at z9;obtain⟨rj,kL⟩:∃x,m.reject=x:=⟨_,rfl⟩;rw[kL]at y8 h0;have cB:(R.role==3)=false\/((R.role==3)=true/\rj=rj/\(m.kind==6)=false/\(m.kind==8)=false)\/((R.role==3)=true/\rj=true/\(m.kind==6)=false/\(m.kind==8)=true):=by
  simp only[beq_iff_eq,beq_eq_false_iff_ne];cases rj <;> simp at h0 ⊢ <;> omega
 clear kL h hb;replace h0:=zH h0;replace hH:=zH hH;obtain⟨af,aY,aL,fM⟩:=hl;obtain⟨fr,rfl,ai⟩:=an af;rw[eW,ai _ _ aY,ai _ _ aL,ai _ _ fM];clear af ai aY aL fM;refine Fm 8 f64 rfl ?_;rcases cB with e1|⟨e1,e2,e3,e4⟩|⟨e1,e2,e3,e4⟩
 all_goals
  try subst e2
  go_wp2_with fail;exact am rfl rfl ⟨rfl,hH.out⟩
theorem I6(h:aK aa c q wx g R v)(hb:ao wx b 39 (cF m A1 A2 n1 c1 n2 c2))(h0:R.role=3/\(m.kind=6\/(m.kind=8/\m.reject=false)))(aH:Calls prog 119 #[.pointer (some ⟨g,0,none⟩),.agg (cF m A1 A2 n1 c1 n2 c2)] wx fun e w''=>e=.returned (.tuple #[])/\H w'')(hl:LD l g b nw):tP 8 f64 (rT H) l wx:=by
 obtain⟨y0,y1,y2,y3,y4,y5,y6,y7,y8,y9,y10,y11,y12,-⟩:=hb.cs [0,1,2,3,4,5,6,7,8,9,10,11,12];simp only[cF,Zx]at y0 y1 y2 y3 y4 y5 y6 y7 y8 y9 y10 y11 y12;have z9:=h.s.cell 9;simp only[bu,vi,Zx]at z9;have e1:(R.role==3)=true:=by simp[h0.1]
 have cB:((m.kind==6)=true)\/((m.kind==6)=false/\(m.kind==8)=true/\m.reject=false):=by
  rcases h0.2 with h|⟨h,h'⟩
  ·exact .inl (by simp[h])
  ·exact .inr ⟨by simp[h],by simp[h],h'⟩
 unfold cF at aH;clear h hb;replace h0:=zH h0;obtain⟨af,aY,aL,fM⟩:=hl;obtain⟨fr,rfl,ai⟩:=an af;rw[eW,ai _ _ aY,ai _ _ aL,ai _ _ fM];clear af ai aY aL fM;refine Fm 8 f64 rfl ?_;rcases cB with e2|⟨e2,e3,e4⟩
 ·go_wp2_with fail;refine aH.mono ?_;rintro e w5 ⟨rfl,hp⟩;replace hp:=zH hp;clear aH;go_wp2_with fail;exact am rfl rfl ⟨rfl,hp.out⟩
 ·rw[e4]at y8 aH;replace e4:=zH e4;go_wp2_with fail;refine aH.mono ?_;rintro e w5 ⟨rfl,hp⟩;replace hp:=zH hp;clear aH;go_wp2_with fail;exact am rfl rfl ⟨rfl,hp.out⟩
end
section
variable {aa:Nat->Nat}{c q g b n1 c1 n2 c2:Nat}{A1 A2:Option Addr}{w wx w':World}{R:Rf}{v:Aw}{K:Act->World->Prop}{Q':Exit->Act->World->Prop}{l:List Value}{m:Mg}{H:World->Prop}{nw:Bool}{li lt:Int}
theorem xT(h:aK aa c q wx g R v)(hb:ao wx b 39 (cF m A1 A2 n1 c1 n2 c2))(h0:m.kind=2\/m.kind=3)(hl:LD l g b nw)(hH:H wx):tP 6 f64 (rT H) l wx:=
 aJ (by kernel_rfl) (Bf h hb (by omega) hl fun _ cD=>aJ (by kernel_rfl) (rk h hb (by omega) cD fun _ dG=>oU h hb (by omega) dG hH))
theorem xS(h:aK aa c q wx g R v)(hb:ao wx b 39 (cF m A1 A2 n1 c1 n2 c2))(h0:m.kind=2)(hl:LD l g b nw)(hH:H wx):tP 5 f64 (rT H) l wx:=
 aJ (by kernel_rfl) (FP hb (by omega) hl fun _ cD=>xT h hb (.inl h0) cD hH)
theorem Dh{K M:Nat}(m:Mg)(A1 A2:Option Addr)(n1 c1 n2 c2:Nat)(ha:aN c q)(h:aK aa c q w g R v)(hk:Ok K M R)(cQ:1<=K)(hK:K<=9000)(hM:M<=15000)(hi:dz R)(he:cP aa q w (.slice A1 n1 c1) m.entries)(hd:bP aa q w (.slice A2 n2 c2) m.data)(kJ:n2=m.data.length)(hm:xE R m) :
  Calls prog 64 #[.pointer (some ⟨g,0,none⟩),eI m (.slice A1 n1 c1) (.slice A2 n2 c2)] w fun e w'=>e=.returned (.tuple #[])/\au aa c q w g (R.does m) w':=by
 have JS:eI m (.slice A1 n1 c1) (.slice A2 n2 c2)=.agg (cF m A1 A2 n1 c1 n2 c2):=rfl;rw[JS];have xq:=hk.ms;have cx:=hk.trk;have qG:=hk.tm;have wu:=hk.yl;have aI:Below w.heap.size w (w.alloc (.cells (cF m A1 A2 n1 c1 n2 c2) 39)):=zb.alloc zl _;have bM:=ao.new w 39 (cF m A1 A2 n1 c1 n2 c2);obtain⟨w1,ct⟩:=zN (w.alloc (.cells (cF m A1 A2 n1 c1 n2 c2) 39));rw[ct]at aI bM;have h1:=h.fresh (q+c+10) aI;have yq:bP (aj aa w.heap.size (q+c+10)) q w1 (.slice A2 n2 c2) m.data:=(hd.keep fun j _ hl=>aI.block j hl).relabel_of aI.size (fun j hj=>ac hj) hd;have OO:cP (aj aa w.heap.size (q+c+10)) q w1 (.slice A1 n1 c1) m.entries:=(he.relabel (ak:=aj aa w.heap.size (q+c+10)) fun j hj e=>(ac hj).trans e).keep fun j _ hl=>aI.block j hl
 obtain⟨ag,dY⟩:=zN (aj aa w.heap.size (q+c+10));rw[dY]at h1 yq OO;have cD:∀j,j<w.heap.size->ag j=aa j:=fun j hj=>by rw[<-dY];exact ac hj
 have gH:¬aX ag c w.heap.size:=fun hh=>by
  unfold aX at hh;rw[<-dY,az zl]at hh;omega
 have DX:∀j,ag j=q->j≠g:=fun j hj e=>by subst e;have:=h1.sl;unfold aN at ha;omega
 have cY:∀R' w',au ag c q w1 g R' w'->au aa c q w g R' w':=fun R' w' hp=>hp.next cD (Fr.of_below aI)
 refine Calls.mono (R:=fun e w'=>e=.returned (.tuple #[])/\au ag c q w1 g (R.does m) w') ?_ (fun e w' hh=>⟨hh.1,cY _ _ hh.2⟩);refine cV (args:=[.pointer (some ⟨g,0,none⟩),.agg (cF m A1 A2 n1 c1 n2 c2)]) 236 func64 (by kernel_rfl) ntmps64 (by simp) fun la jL fQ=>?_
 refine aJ (by kernel_rfl) (Yf ⟨jL,fQ 0 _ rfl,fQ 1 _ rfl⟩ fun l0 j3=>?_);rw[ct];refine aJ (by kernel_rfl) (Yg h1 (by omega) rfl rfl ⟨j3.1,j3.2.1,j3.2.2⟩ fun l1 w2 ql bQ=>?_);have h2:=h1.below bQ;have mQ:=bM.kept bQ;have Bv:bP ag q w2 (.slice A2 n2 c2) m.data:=yq.keep fun j _ hl=>bQ.block j hl
 have Qp:cP ag q w2 (.slice A1 n1 c1) m.entries:=OO.keep fun j _ hl=>bQ.block j hl
 refine aJ (by kernel_rfl) (Yh mQ ql fun l2 dG=>?_);obtain⟨nw,oh⟩:∃x,R.newer m=x:=⟨_,rfl⟩;rw[show fY m.idx m.logTerm R.track.lastF.1 R.track.lastF.2=nw from oh]at dG;have gK:∀R' w',au ag c q w2 g R' w'->au ag c q w1 g R' w':=fun R' w' hp=>hp.behind bQ
 have xk:∀R' w',au ag c q w2 g R' w'->ao w' w.heap.size 39 (cF m A1 A2 n1 c1 n2 c2):=fun R' w' hp=>hp.blk gH mQ
 unfold Rf.does;by_cases k1:m.kind=1
 ·rw[if_pos k1];exact aJ (by kernel_rfl) (I1 ha h2 mQ k1 oh (by omega) dG fun w' hp=>gK _ _ hp)
 rw[if_neg k1];refine aJ (by kernel_rfl) (L9 mQ k1 dG fun l3 lx=>?_);have Xy:=hk.says m.frm;have gB:∀wy,au ag c q w2 g R wy->Calls prog 101 #[.pointer (some ⟨g,0,none⟩),.int .i64 m.frm] wy fun e w'=>e=.returned (.bool (R.says m.frm).won)/\au ag c q w2 g (R.says m.frm) w':=fun wy hy=>by
  obtain⟨cJ,v3,q1,q2,q3⟩:=hy;refine(rb m.frm ha q1 (by omega)).mono ?_;rintro e w' ⟨rfl,hp⟩;exact⟨rfl,hp.next q2 q3⟩
 by_cases k2:m.kind=2
 ·rw[if_pos k2];by_cases c2':m.reject=false/\m.term=R.hard.term+1/\R.role=1
  ·rw[if_pos c2'];have qq:R.hard.term<1099511627776:=by have:=hm.term;omega
   refine aJ (by kernel_rfl) (I2 (J:=fun w'=>au ag c q w2 g (R.says m.frm) w') (won:=(R.says m.frm).won) h2 mQ ⟨k2,c2'.1,c2'.2.2,c2'.2.1⟩ qG (gB _ ((au.refl h2).below (zb.drew))) (fun hw w' hJ=>?_) (fun hw w' hJ=>?_) lx fun l4 w4 od TQ=>?_)
   ·rw[if_pos hw];refine(hJ.call fun cJ v3 h3=>pC ha h3 Xy (by omega) (by omega) (by omega) (hi.says m.frm) qq).mono ?_;rintro e w'' ⟨rfl,hp⟩;exact⟨rfl,gK _ _ hp⟩
   ·rw[if_neg (by rw[hw];simp)];exact gK _ _ hJ
   ·obtain⟨Kc,v4,q1,q2,q3⟩:=id TQ;exact xS q1 (TQ.blk gH bM) k2 od TQ
  ·rw[if_neg c2'];refine aJ (by kernel_rfl) (FO h2 mQ (fun hh=>c2' ⟨hh.2.1,hh.2.2.2,hh.2.2.1⟩) qG lx fun l4 od=>?_);exact xS (h2.below (zb.drew)) mQ.drew k2 od (gK _ _ ((au.refl h2).below (zb.drew)))
 rw[if_neg k2];refine aJ (by kernel_rfl) (FO h2 mQ (fun hh=>k2 hh.1) qG lx fun l4 od=>?_);have h4:aK ag c q w2.drew g R v:=h2.below (zb.drew);have ll:=mQ.drew;have Bo:au ag c q w2 g R w2.drew:=(au.refl h2).below (zb.drew);have MI:∀R' w',au ag c q w2.drew g R' w'->au ag c q w2 g R' w':=fun R' w' hp=>hp.behind (zb.drew)
 by_cases k3:m.kind=3
 ·rw[if_pos k3];have Lx:∀(l':List Value) w',LD l' g w.heap.size nw->au ag c q w2.drew g (R.votes m) w'->(Ip 6 (bv f64)).wp prog (bodyPost prog f64 fun e w''=>e=.returned (.tuple #[])/\au ag c q w1 g (R.votes m) w'') ⟨l'.toArray,[]⟩ w':=fun l' w' M4 hp=>by
   have AI:=MI _ _ hp;obtain⟨dU,v5,q1,q2,q3⟩:=id AI;exact xT q1 (xk _ _ AI) (.inr k3) M4 (gK _ _ AI)
  by_cases hc:(R.hard.vote=0\/R.hard.vote=m.frm)/\nw=true
  ·exact aJ (by kernel_rfl) (I4 ha h4 ll k3 hc oh (by omega) od Lx)
  ·exact aJ (by kernel_rfl) (I3 ha h4 ll k3 hc oh (by omega) od Lx)
 rw[if_neg k3];refine aJ (by kernel_rfl) (FP ll k3 od fun l5 oY=>?_);by_cases k4:m.kind=4
 ·rw[if_pos k4];by_cases c4:m.reject=false/\R.role=2
  ·rw[if_pos c4];refine aJ (by kernel_rfl) (I5 (J:=fun w'=>au ag c q w2 g (R.says m.frm) w') (won:=(R.says m.frm).won) h4 ll ⟨k4,c4⟩ (gB _ Bo) (fun hw w' hJ=>?_) (fun hw w' hJ=>?_) oY)
   ·rw[if_pos hw];refine(hJ.call fun cJ v3 h3=>qZ ha h3 Xy (by omega) (by omega) (by omega) (hi.says m.frm)).mono ?_;rintro e w'' ⟨rfl,hp⟩;exact⟨rfl,gK _ _ hp⟩
   ·rw[if_neg (by rw[hw];simp)];exact gK _ _ hJ
  ·rw[if_neg c4];refine aJ (by kernel_rfl) (Bf h4 ll (fun hh=>c4 hh.2) oY fun l6 un=>?_);refine aJ (by kernel_rfl) (rk h4 ll (by omega) un fun l7 AH=>?_);exact oU h4 ll (by omega) AH (gK _ _ Bo)
 rw[if_neg k4];refine aJ (by kernel_rfl) (Bf h4 ll (fun hh=>k4 hh.1) oY fun l6 un=>?_);have SY:∀W,Fr (fun j=>j=g) w2.drew W->cP ag q W (.slice A1 n1 c1) m.entries/\bP ag q W (.slice A2 n2 c2) m.data:=fun W hF=>
  ⟨Qp.keep fun j hj hl=>hF.block j hl (DX j hj),Bv.keep fun j hj hl=>hF.block j hl (DX j hj)⟩
 have aE:∀W R',Fr (fun j=>j=g) w2.drew W->∀w',au ag c q W g R' w'->au ag c q w1 g R' w':=fun W R' hF w' hp=>gK _ _ (MI _ _ (hp.next (fun _ _=>rfl) (hF.mono (X':=aX ag c) fun j e=>by have:=h1.sl;rw[e];exact⟨by omega,by omega⟩)))
 by_cases k5:m.kind=5
 ·rw[if_pos k5];by_cases c5:R.role≠3
  ·rw[if_pos c5];refine aJ (by kernel_rfl) (Pm ha h4 ll ⟨k5,c5⟩ (fun W hW hF=>?_) un);refine(vq m A1 A2 n1 c1 n2 c2 ha hW (hk.hears m) (by omega) (by omega) hi (SY W hF).1 hm.el hm.idx hm.cmt.2).mono ?_;rintro e w' ⟨rfl,hp⟩;exact⟨rfl,aE W _ hF w' hp⟩
  ·rw[if_neg c5];refine aJ (by kernel_rfl) (rk h4 ll (fun hh=>c5 hh.2) un fun l7 AH=>?_);exact oU h4 ll (by omega) AH (gK _ _ Bo)
 rw[if_neg k5];by_cases k7:m.kind=7
 ·rw[if_pos k7];by_cases c7:R.role≠3
  ·rw[if_pos c7];refine aJ (by kernel_rfl) (Pn ha h4 ll ⟨k7,c7⟩ (fun W hW hF=>?_) un);refine(AQ m A1 A2 n1 c1 n2 c2 ha hW (hk.hears m) (by omega) (by omega) (SY W hF).2 kJ (by have:=hm.dl;omega) hm.idx.1 hm.idx.2 hm.lgt.1 hm.lgt.2).mono ?_;rintro e w' ⟨rfl,hp⟩;exact⟨rfl,aE W _ hF w' hp⟩
  ·rw[if_neg c7];refine aJ (by kernel_rfl) (rk h4 ll (fun hh=>c7 hh.2) un fun l7 AH=>?_);exact oU h4 ll (by omega) AH (gK _ _ Bo)
 rw[if_neg k7];refine aJ (by kernel_rfl) (rk h4 ll (by omega) un fun l7 AH=>?_);by_cases c8:m.kind=8/\m.reject=true
 ·rw[if_pos c8];exact oU h4 ll (fun hh=>hh.2.elim (fun e=>by omega) fun e=>by have e:=e.2;rw[c8.2]at e;cases e) AH (gK _ _ Bo)
 rw[if_neg c8];by_cases cr:R.role=3
 ·rw[if_pos cr];have ul:m.kind=6\/(m.kind=8/\m.reject=false):=by
   have:=hm.kind;by_cases e:m.kind=8
   ·exact .inr ⟨e,by simpa using fun hh=>c8 ⟨e,hh⟩⟩
   ·exact .inl (by omega)
  refine I6 h4 ll ⟨cr,ul⟩ ?_ AH;have ai:=hm.frm;refine(tu m m.frm.toNat A1 A2 n1 c1 n2 c2 ha h4 hk cr (by omega) (by omega) hi (by omega) (by omega) ul hm.idx hm.off.1).mono ?_;rintro e w' ⟨rfl,hp⟩;exact⟨rfl,gK _ _ (MI _ _ hp)⟩
 ·rw[if_neg cr];exact oU h4 ll (fun hh=>cr hh.1) AH (gK _ _ Bo)
end
theorem AT:(prog.info? 173).map (fun i=>(i.zero,i.size,i.bytes))=some (some (.agg #[.int .i64 0,.int .i64 0,.int .i64 0]),3,24):=by kernel_rfl
theorem xK:(prog.info? 135).map (fun i=>(i.zero,i.size,i.bytes))=some (some (.agg #[.int .i64 0,.int .i64 0]),2,16):=by kernel_rfl
theorem pA{w:World}{ops:Array Oper}{rest:List Oper}{o:Oper}{a:Act}{Q:Exit->Act->World->Prop}(lq:o.guard=none)(s x:Operand)
  (ho:o.op=.call {callee:=.builtin .append,args:=#[s,x],argTypes:=#[118,118]})
  (base:Nat) {A:Option Addr} {n c:Nat} {l:List Wt} (hs:a.eval s=.slice A n c) (aB:w.ownsRow base 173 3 (.slice A n c) n (l.flatMap Dc))
  {B:Option Addr} {m d:Nat} {r:List Wt} (hx:a.eval x=.slice B m d) (hr:cn w 3 B m (r.flatMap Dc)) (hb:n+m<=1000000000) (bE:base<=w.heap.size)
  (h:∀A' c' w',w'.ownsRow base 173 3 (.slice A' (n+m) c') (n+m) ((l++r).flatMap Dc)->Fr (aA A) w w'->(∀j,aA A' j->aA A j\/w.heap.size<=j)->wpList prog ops Q rest (a.put o.dst (.slice A' (n+m) c')) w'):wpList prog ops Q (o::rest) a w:=by
 obtain⟨i0,iF,jT,iW,gC⟩:=info_parts AT;refine bg w lq s x 118 ho base 173 i0 _ 3 24 underlying118 iF jT iW gC rfl (by omega) (.slice A n c) n _ hs aB B m d _ hx hr (fun u hu=>?_) (by unfold maxLen;omega) (by omega) bE fun A' c' w' h3 h4 h5=>?_
 ·obtain⟨z,_,hz⟩:=List.mem_flatMap.1 hu;unfold Dc at hz;simp only[List.mem_cons,List.not_mem_nil,or_false]at hz;rcases hz with rfl|rfl|rfl <;> rfl
 ·rw[<-List.flatMap_append]at h3;exact h A' c' w' h3 (Fr.grown h4) (iA h5)
theorem py{w:World}{ops:Array Oper}{rest:List Oper}{o:Oper}{a:Act}{Q:Exit->Act->World->Prop}(lq:o.guard=none)(s x:Operand)
  (ho:o.op=.call {callee:=.builtin .append,args:=#[s,x],argTypes:=#[50,50]})
  (base:Nat) {A:Option Addr} {n c:Nat} {l:List (Int×Int)} (hs:a.eval s=.slice A n c) (aB:w.ownsRow base 135 2 (.slice A n c) n (l.flatMap qM))
  {B:Option Addr} {m d:Nat} {r:List (Int×Int)} (hx:a.eval x=.slice B m d) (hr:cn w 2 B m (r.flatMap qM)) (hb:n+m<=1000000000) (bE:base<=w.heap.size)
  (h:∀A' c' w',w'.ownsRow base 135 2 (.slice A' (n+m) c') (n+m) ((l++r).flatMap qM)->Fr (aA A) w w'->(∀j,aA A' j->aA A j\/w.heap.size<=j)->wpList prog ops Q rest (a.put o.dst (.slice A' (n+m) c')) w'):wpList prog ops Q (o::rest) a w:=by
 obtain⟨i0,iF,jT,iW,gC⟩:=info_parts xK;refine bg w lq s x 50 ho base 135 i0 _ 2 16 underlying50 iF jT iW gC rfl (by omega) (.slice A n c) n _ hs aB B m d _ hx hr (fun u hu=>?_) (by unfold maxLen;omega) (by omega) bE fun A' c' w' h3 h4 h5=>?_
 ·obtain⟨z,_,hz⟩:=List.mem_flatMap.1 hu;unfold qM at hz;simp only[List.mem_cons,List.not_mem_nil,or_false]at hz;rcases hz with rfl|rfl <;> rfl
 ·rw[<-List.flatMap_append]at h3;exact h A' c' w' h3 (Fr.grown h4) (iA h5)
theorem C4{w:World}{g size:Nat}{T:TypeId}{l:List Value}(hg:ao w g T l.toArray)(hl:l.length=size):cn w size (some ⟨g,0,none⟩) 1 l:=
 ⟨by rw[hl];omega,fun _=>⟨_,rfl,fun j y hy=>by
  have e:(⟨g,0,none⟩:Addr).add j=⟨g,j,none⟩:=by unfold Addr.add;split <;> simp[*]
  rw[e,hg.cell j,<-hy];simp⟩⟩
def fJ(R:Rf)(k:Int)(j:Nat):Rf:={R with out:={R.out with reads:=R.out.reads++fb k (R.waits.take j)}}
section
variable {aa:Nat->Nat}{c q g:Nat}{w:World}{R:Rf}{v:Aw}
def pY(aa:Nat->Nat)(c q:Nat)(w:World)(g:Nat)(R':Rf)(A:Option Addr)(d:Nat)(l:List Wt)(wr:World):Prop:=
 ∃(ag:Nat->Nat) (v1:Aw),aK ag c q wr g R' v1/\(∀j,j<w.heap.size->ag j=aa j)/\Fr (aX aa c) w wr/\wr.ownsRow w.heap.size 173 3 (.slice A l.length d) l.length (l.flatMap Dc)/\∀j,aA A j->ag j=q+c+10
variable {w2 w3 wr:World}{R' R2:Rf}{A A':Option Addr}{d d':Nat}{l:List Wt}{x:Wt}
theorem pY.grow(h:pY aa c q w g R' A d l wr)(hb:Below wr.heap.size wr w2)(ho:w3.ownsRow w.heap.size 173 3 (.slice A' (l.length+1) d') (l.length+1) ((l++[x]).flatMap Dc))(hF:Fr (aA A) w2 w3)(hr:∀j,aA A' j->aA A j\/w2.heap.size<=j):pY aa c q w g R' A' d' (l++[x]) w3:=by
 obtain⟨ag,v1,h1,h2,h3,h4,h5⟩:=h;have mU:=h3.size;have VF:=hb.size;have h6:=h1.fresh (q+c+10) hb;have aU:∀j,aA A j->j<wr.heap.size:=fun j hj=>(aw h4 A d rfl j hj).1
 have h7:=h6.keep (w':=w3) fun j hj hl=>hF.block j hl fun hh=>by
  unfold dv at hj;rw[ac (aU j hh),h5 j hh]at hj;omega
 refine⟨aj ag wr.heap.size (q+c+10),v1,h7,fun j hj=>(ac (by omega)).trans (h2 j hj),(h3.trans (Fr.of_below (X:=aX aa c) hb) fun _ h=>.inl h).trans hF fun j hj=>.inr (aw h4 A d rfl j hj).2.1,by rw[List.length_append];exact ho,fun j hj=>?_⟩;rcases hr j hj with h|h
 ·exact(ac (aU j h)).trans (h5 j h)
 ·exact az (by omega)
theorem pY.act(h:pY aa c q w g R' A d l wr):∃ag v1,aK ag c q wr g R' v1/\wr.ownsRow w.heap.size 173 3 (.slice A l.length d) l.length (l.flatMap Dc)/\∀R2 w3,au ag c q wr g R2 w3->pY aa c q w g R2 A d l w3:=by
 obtain⟨ag,v1,h1,h2,h3,h4,h5⟩:=h;refine⟨ag,v1,h1,h4,fun R2 w3 hP=>?_⟩;obtain⟨bs,v2,q1,q2,q3⟩:=hP;have mU:=h3.size;have aU:∀j,aA A j->j<wr.heap.size:=fun j hj=>(aw h4 A d rfl j hj).1
 refine⟨bs,v2,q1,fun j hj=>(q2 j (by omega)).trans (h2 j hj),h3.trans q3 fun j hj=>fE h2 hj,cN h4 fun j hj hl=>q3.block j hl fun hh=>?_,fun j hj=>(q2 j (aU j hj)).trans (h5 j hj)⟩;unfold aX at hh;rw[h5 j hj]at hh;omega
theorem pY.done(ha:aN c q)(h:pY aa c q w g R' A d l wr)(cW:g<w.heap.size):au aa c q w g {R' with waits:=l} (wr.setCell ⟨g,16,none⟩ (.slice A l.length d)):=by
 obtain⟨ag,v1,h1,h2,h3,h4,h5⟩:=h;have mU:=h3.size;have aU:∀j,aA A j->j<wr.heap.size/\w.heap.size<=j:=fun j hj=>⟨(aw h4 A d rfl j hj).1,(aw h4 A d rfl j hj).2.1⟩
 classical
 have hrel:=h1.relabel (ak:=fun j=>if aA A j then c+5 else ag j) fun j hj hm=>if_neg fun hh=>by
  unfold dv at hm;rw[h5 j hh]at hm;omega
 have yw:¬aA A g:=fun hh=>by have:=(aU g hh).2;omega
 have hS:=h1.s.set_ 16 (.slice A l.length d);simp only[bu,Zy]at hS;have hF:=Fr.set (w:=wr) g 16 (.slice A l.length d);have bS:bR (fun j=>if aA A j then c+5 else ag j) (c+5) (wr.setCell ⟨g,16,none⟩ (.slice A l.length d)) 173 3 (.slice A l.length d) l.length (l.flatMap Dc):=
  ⟨A,d,rfl,eB (cN h4 fun j hj hl=>hF.block j hl fun e=>yw (e▸hj)) zz,fun j hj=>if_pos hj⟩
 have hX:∀i∈[5],1<i/\i<=9:=by simp
 have dC:Fr (fun j=>j=g\/∃i,i∈[5]/\(fun j=>if aA A j then c+5 else ag j) j=c+i) wr (wr.setCell ⟨g,16,none⟩ (.slice A l.length d)):=hF.mono fun j e=>.inl e
 have h9:=hrel.turn (R':={R' with waits:=l}) (v':={v1 with waits:=.slice A l.length d}) [5] ha hS (fun j hj=>rfl) hX dC tI tI tI (.inl bS) (.inr ⟨rfl,rfl⟩) (.inr ⟨rfl,rfl⟩) tI tI (.inr ⟨rfl,rfl⟩) tI tI;refine⟨_,_,h9,fun j hj=>(if_neg fun hh=>by have:=(aU j hh).2;omega).trans (h2 j hj),h3.trans (hF.mono (X':=aX ag c) fun j e=>?_) fun j hj=>fE h2 hj⟩;rw[e];have:=h1.sl;exact⟨by omega,by omega⟩
theorem AR{K M:Nat}(ha:aN c q)(h:aK aa c q w g R v)(hk:Ok K M R)(hr:R.role=3)(hM:M<=90000) :
  Calls prog 65 #[.pointer (some ⟨g,0,none⟩)] w fun e w'=>e=.returned (.tuple #[])/\au aa c q w g R.reads w':=by
 have cW:=h.s.lt;have pI:=hk.id.2.2;have hp:R.peers.length=R.n+1:=(hk.ld hr).1;have fL:=hk.ws;have Vx:=hk.rs;have hH:=zH h;have Ua:=Below.refl w.heap.size w;replace hk:=zH hk;clear h;go_enter func65,ntmps65;go_wp2_with fail
 go_loopw [2,3] (fun o s' wr=>∃(k:Nat) (A:Option Addr) (d:Nat),k<=R.n/\s'=.int .i64 ((k:Int)+1)/\o=.slice A k d/\wr.ownsRow w.heap.size 3 1 (.slice A k d) k ((fC R R.round Pr.round k).map vi)/\Below w.heap.size w wr) (fun _ s' _=>R.n+1-(intOf s').toNat)
 case atStart=>exact⟨0,none,0,Nat.zero_le _,rfl,rfl,bX _ _,Ua⟩
 case round=>
  obtain⟨k,A,d,hk,rfl,rfl,aB,hb⟩:=hrel;have lA:=hH.out.below hb;obtain⟨c0,c1,c14,c15,-⟩:=lA.s.cs [0,1,14,15];simp only[bu,vi,Zx]at c0 c1 c14 c15;by_cases aU:k<R.n
  ·have aO:=zH (show R.n+1-(k+1+1)<R.n+1-(k+1) by omega);have fd:(k:Int)+1<=R.n:=by omega
   have cu:=iX R R.round Pr.round k;have fw:k+1<=1000000000:=by omega
   by_cases jb:k+1=R.id
   ·rw[if_pos jb]at cu;have jg:(R.id:Int)=(k:Int)+1:=by omega
    rw[jg]at c0;have Vw:=fv.one wr R.round;have aI:Below wr.heap.size wr (wr.alloc (.cells #[.int .i64 R.round] 3)):=zb.alloc zl _;have cw:=bf aB aI;have bQ:=ab hb aI zl;replace cu:=zH cu;clear jg jb lA aB;go_wp2_with (at_builtin;refine bh rfl (.tmp 21) (.tmp 26) rfl w.heap.size rfl cw rfl Vw fw bQ.size ?_;intro A3 c3 w3 bY iy bN);exact⟨⟨k+1,A3,c3,aU,by go_num,rfl,by rw[cu.out];exact bY,bQ.trans bN⟩,by simp[intOf];have:=aO.out;omega⟩
   ·rw[if_neg jb]at cu;obtain⟨p,dp,hv,nA,Rx,p0,p1,p2,p3,yx⟩:=lA.peer_at (s:=k+1) (by omega);clear yx;rw[hv,hp]at c14;obtain⟨mt,CL⟩:∃m,(R.peer (k+1)).round=m:=⟨_,rfl⟩;rw[CL]at p3 cu;have Vw:=fv.one wr mt;have aI:Below wr.heap.size wr (wr.alloc (.cells #[.int .i64 mt] 3)):=zb.alloc zl _;have cw:=bf aB aI;have bQ:=ab hb aI zl;have i1:(((k:Int)+1)==(R.id:Int))=false:=beq_eq_false_iff_ne.2 (by omega);replace cu:=zH cu;replace CL:=zH CL;clear jb lA aB p0 p1 p2;go_wp2_with (at_builtin;refine bh rfl (.tmp 28) (.tmp 37) rfl w.heap.size rfl cw rfl Vw fw bQ.size ?_;intro A3 c3 w3 bY iy bN);exact⟨⟨k+1,A3,c3,aU,by go_num,rfl,by rw[cu.out];exact bY,bQ.trans bN⟩,by simp[intOf];have:=aO.out;omega⟩
  ·obtain rfl:k=R.n:=by omega
   have kI:¬((R.n:Int)+1<=R.n):=by omega
   have qf:=ni (R.n:Int) A R.n d (fC R R.round Pr.round R.n) wr (fv.of_own aB);obtain⟨N,Dy⟩:=zN (eL R.n (fC R R.round Pr.round R.n));rw[Dy]at qf;have IM:R.readsTo=N:=by rw[<-Dy];rfl
   clear aB lA;go_wp2_with fail;refine qf.mono ?_;rintro e w5 ⟨rfl,cM⟩;clear qf;have kE:=ab hb cM zl;have DC:pY aa c q w g (fJ R N 0) none 0 (dE N (R.waits.take 0)) w5:=by
    have e:fJ R N 0=R:=by unfold fJ fb;simp
    rw[e];exact⟨aj aa w.heap.size (q+c+10),v,hH.out.fresh (q+c+10) kE,fun j hj=>ac hj,Fr.of_below kE,bX _ _,fun j hj=>by obtain⟨_,e,_⟩:=hj;cases e⟩
   replace IM:=zH IM;replace Dy:=zH Dy;clear c0 c1 c14 c15;go_wp2_with fail
   go_loopw [5,6] (fun o i wr=>∃(j:Nat) (A:Option Addr) (d:Nat),j<=R.waits.length/\i=.int .i64 j/\o=.slice A (dE N (R.waits.take j)).length d/\pY aa c q w g (fJ R N j) A d (dE N (R.waits.take j)) wr) (fun _ i _=>R.waits.length-(intOf i).toNat)
   case atStart=>exact⟨0,none,0,Nat.zero_le _,rfl,rfl,DC⟩
   case round=>
    clear DC;obtain⟨j,A5,d5,hj,rfl,rfl,Mm⟩:=hrel;obtain⟨ag,v1,h1,aB,cY⟩:=Mm.act;obtain⟨L,hL⟩:=zN (R.waits.length);rw[hL]at hj fL;have hLL:=zH hL;obtain⟨Aw,dw,LE,CQ,hlw⟩:=id h1.x;have e9:(fJ R N j).waits=R.waits:=rfl;rw[e9,hL]at LE CQ;have c16:wr.cell? ⟨g,16,none⟩=some (.slice Aw L dw):=by
     have:=h1.s.cell 16;simp only[bu,Zx]at this;rw[this,LE]
    by_cases ny:j<L
    ·obtain⟨x,hx⟩:∃x,R.waits[j]?=some x:=⟨_,List.getElem?_eq_getElem (by omega)⟩;obtain⟨pw,dw',ew,_,Zt,JX,eh,_⟩:=h1.x.at_ (by rw[e9,hL];omega);rw[LE,e9,hL]at ew;injection ew with ew1 _ ew3;subst ew1;subst ew3;have key:∀s u,s<3->(Dc x)[s]?=some u->wr.cell? ⟨pw,j*3+s,none⟩=some u:=fun s u hs hu=>eh _ _ ((dW (f:=Dc) (k:=3) (fun _=>rfl) hs (show(fJ R N j).waits[j]?=some x from hx)).trans hu)
     have m0:=key 0 _ (by omega) rfl;have m1:=key 1 _ (by omega) rfl;have m2:=key 2 _ (by omega) rfl;simp only[vi,Nat.add_zero]at m0 m1 m2;have aO:=zH (show L-(j+1)<L-j by omega);have AJ:=nI (k:=N) hx;have J5:=nN (k:=N) hx;have iM:=h1.s.lt;have CO:(dE N (R.waits.take j)).length<=16:=by
      have h1:=uS N (R.waits.take j);have h2:(R.waits.take j).length<=j:=by rw[List.length_take];omega
      omega
     by_cases fd:x.round<=N
     ·
      rw[if_neg (by omega),List.append_nil]at AJ;rw[if_pos fd]at J5;have dX:Below wr.heap.size wr ((wr.alloc (.cells #[.int .i64 x.ctx,.int .i64 x.idx] 135)).drew):=((Below.refl wr.heap.size wr).alloc zl _).drew;have h2:=h1.fresh (q+c+10) dX;obtain⟨Ar,dr,VP,Lt,SW⟩:=id h2.r;obtain⟨n,fi⟩:=zN ((fJ R N j).out.reads.length);rw[fi]at VP Lt;have lr:n<=M+16:=by
       rw[<-fi];show(R.out.reads++fb N (R.waits.take j)).length<=_;have h3:(fb N (R.waits.take j)).length<=(R.waits.take j).length:=by unfold fb;rw[List.length_map];exact List.length_filter_le _ _
       have h4:(R.waits.take j).length<=j:=by rw[List.length_take];omega
       rw[List.length_append];omega
      have c32:wr.cell? ⟨g,32,none⟩=some (.slice Ar n dr):=by
       have:=h1.s.cell 32;simp only[bu,Zx]at this;rw[this,VP]
      have gp:cn ((wr.alloc (.cells #[.int .i64 x.ctx,.int .i64 x.idx] 135)).drew) 2 (some ⟨wr.heap.size,0,none⟩) 1 ([(x.ctx,x.idx)].flatMap qM):=C4 (ao.new wr _ _) rfl;have fw:n+1<=1000000000:=by omega
      have du:fJ R N (j+1)={fJ R N j with out:={(fJ R N j).out with reads:=(fJ R N j).out.reads++[(x.ctx,x.idx)]}}:=by
       unfold fJ;rw[J5];simp only[List.append_assoc];rfl
      have Vf:¬ag pw=c+8:=by omega
      have aE:∀(A3:Option Addr) (c3:Nat) (w3:World),w3.ownsRow 0 135 2 (.slice A3 (n+1) c3) (n+1) (((fJ R N j).out.reads++[(x.ctx,x.idx)]).flatMap qM)->Fr (aA Ar) ((wr.alloc (.cells #[.int .i64 x.ctx,.int .i64 x.idx] 135)).drew) w3->(∀j,aA A3 j->aA Ar j\/((wr.alloc (.cells #[.int .i64 x.ctx,.int .i64 x.idx] 135)).drew).heap.size<=j)->
        ao w3 g 122 (bu (fJ R N j) v1)/\(∀x∈[g,pw],w3.heap[x]?=wr.heap[x]?)/\pY aa c q w g (fJ R N (j+1)) A5 d5 (dE N (R.waits.take (j+1))) (w3.setCell ⟨g,32,none⟩ (.slice A3 (n+1) c3)):=fun A3 c3 w3 ho hF hr=>by
       have hy:=h2.r;rw[VP,fi]at hy;obtain⟨g1,g2⟩:=oD hy ho hF hr;have e2:((fJ R N j).out.reads++[(x.ctx,x.idx)]).length=n+1:=by rw[List.length_append,fi];rfl
       obtain⟨h3,h4,h5⟩:=h2.setReads ha g2 (by rw[e2];exact g1);refine⟨h5,fun y hy=>?_,?_⟩
       ·simp only[List.mem_cons,List.not_mem_nil,or_false]at hy;rcases hy with rfl|rfl
        ·exact h5.trans h1.s.symm
        ·exact(g2.block y (Nat.lt_of_lt_of_le JX dX.size) fun e=>Vf (by have e:aj ag wr.heap.size (q+c+10) y=c+8:=e;rw[ac JX]at e;exact e)).trans (dX.block y JX)
       ·rw[AJ,du];exact cY _ _ (au.fresh (q+c+10) ⟨_,_,h3,fun j hj=>ac hj,h4⟩ dX)
      obtain⟨k32,k16,k0,k2⟩:=IA [g,pw] c32 c16 m0 m2;have dA:∀x∈[g,pw],x<wr.heap.size:=by simp;exact⟨iM,JX⟩
      rw[AJ]at aE;replace AJ:=zH AJ;clear h1 h2 Mm aB cY CQ key eh SW du J5 fi;go_wp2_with fail;refine nj [g,pw] wr [([0,1,2,3,4,5,6,7,8,9,10,11,12,13,14,15,16,17,18,19,20,21,22],23),([],24)] ([25,26,27],28) ?_;refine aq fun K5 vE=>?_
      simp only[ah,Zx];repeat go_big_quiet_step(fail)
      apply wpQuiet_nil;go_wp2_with fail;refine⟨av dA dX,vE _ _ ?_⟩;refine aq fun K6 vF=>?_
      simp only[ah,Zx];apply wpQuiet_nil;go_wp2_with (at_builtin;refine py rfl (.tmp 69) (.tmp 87) rfl 0 rfl Lt rfl gp fw zz ?_;intro A3 c3 w3 cH dk hrw3;obtain⟨iE,jS,kW⟩:=aE A3 c3 w3 cH dk hrw3;replace kW:=zH kW;clear aE cH dk hrw3);have x32:=iE.cell 32;have y32:=iE.free 32;simp only[bu,vi,Zx]at x32;refine⟨dT jS,vF _ _ ?_⟩;refine aC ?_;simp only[ah,Zx];repeat go_big_quiet_step(fail)
      apply wpQuiet_nil;go_wp2_with fail;exact⟨⟨j+1,A5,d5,by rw[hL];exact ny,by go_num,by rw[AJ.out],by rw[AJ.out];exact kW.out⟩,by rw[hL];simp[intOf];exact aO.out⟩
     ·
      rw[if_pos (by omega)]at AJ;rw[if_neg fd,List.append_nil]at J5;have gh:fJ R N (j+1)=fJ R N j:=by unfold fJ;rw[J5]
      have dX:Below wr.heap.size wr (wr.alloc (.cells #[.int .i64 x.ctx,.int .i64 x.round,.int .i64 x.idx] 173)):=(Below.refl wr.heap.size wr).alloc zl _;have gp:cn (wr.alloc (.cells #[.int .i64 x.ctx,.int .i64 x.round,.int .i64 x.idx] 173)) 3 (some ⟨wr.heap.size,0,none⟩) 1 ([x].flatMap Dc):=C4 (ao.new wr _ _) rfl;have pJ:=bf aB dX;obtain⟨n,fi⟩:=zN ((dE N (R.waits.take j)).length);have aE:∀(A3:Option Addr) (c3:Nat) (w3:World),w3.ownsRow w.heap.size 173 3 (.slice A3 (n+1) c3) (n+1) ((dE N (R.waits.take j)++[x]).flatMap Dc)->Fr (aA A5) (wr.alloc (.cells #[.int .i64 x.ctx,.int .i64 x.round,.int .i64 x.idx] 173)) w3->(∀j,aA A3 j->aA A5 j\/(wr.alloc (.cells #[.int .i64 x.ctx,.int .i64 x.round,.int .i64 x.idx] 173)).heap.size<=j)->
        pY aa c q w g (fJ R N (j+1)) A3 c3 (dE N (R.waits.take (j+1))) w3:=fun A3 c3 w3 ho hF hr=>by
       rw[AJ,gh];exact Mm.grow dX (by rw[fi];exact ho) hF hr
      have af:(dE N (R.waits.take (j+1))).length=n+1:=by rw[AJ,List.length_append,fi];rfl
      have bE:w.heap.size<=(wr.alloc (.cells #[.int .i64 x.ctx,.int .i64 x.round,.int .i64 x.idx] 173)).heap.size:=by
       obtain⟨_,_,_,_,mz,_⟩:=id Mm;have:=mz.size;have:=dX.size;omega
      have fw:n+1<=1000000000:=by omega
      rw[fi]at pJ;replace fd:=Int.not_le.1 fd;replace af:=zH af;try rw[fi]
      clear h1 Mm aB cY CQ key eh gh J5 AJ;replace fi:=zH fi;go_wp2_with (at_builtin;refine pA rfl (.tmp 92) (.tmp 100) rfl w.heap.size rfl pJ rfl gp fw bE ?_;intro A3 c3 w3 cH dk hrw3;have kW:=aE A3 c3 w3 cH dk hrw3;replace kW:=zH kW;clear aE cH dk hrw3);exact⟨⟨j+1,A3,c3,by rw[hL];exact ny,by go_num,by rw[af.out],kW.out⟩,by rw[hL];simp[intOf];exact aO.out⟩
    ·obtain rfl:j=L:=by omega
     have cx:R.waits.take j=R.waits:=by rw[<-hL];exact List.take_length
     have hd:=Mm.done ha cW;have aE:({fJ R N j with waits:=dE N (R.waits.take j)}:Rf)=R.reads:=by
      unfold fJ;rw[cx];unfold Rf.reads;rw[IM.out];rfl
     rw[aE]at hd;have f16:=h1.s.free 16;replace hd:=zH hd;clear Mm h1 aB cY CQ aE cx;go_wp2_with fail;exact cL rfl rfl ⟨rfl,hd.out⟩
end
end Go.Proofs.YtjcninheccmpoaaGreat
