import Derived.Test.YtjcninheccmpoaaGreatM12
import Derived.Deep.MidRow
import Derived.ProofKit
import Derived.OpenShut
import Derived.Deep.Slices
import Derived.Deep.Fields
import Derived.ChangeSame
import Derived.ChangeSlices
import Derived.SliceStrings
set_option maxRecDepth 100000
set_option maxHeartbeats 8000000
set_option linter.all false
namespace Go.Proofs.YtjcninheccmpoaaGreat
open Go.RowKit Go.Proofs.Tryz
section
variable {ga gb bx b c q K0:Nat}{aa:Nat->Nat}{R:Rf}{wx w':World}{K:Act->World->Prop}{H:Ending->World->Prop}{l:List Value}{x:Ac}{s:As}
theorem rY{S:Nat->Prop}{w:World}{A:Option Addr}{n c:Nat}{fs:List Fa}(h:aG S w (.slice A n c) fs):n=fs.length/\n<=maxLen:=by
 obtain⟨ys,⟨A0,c0,e,_,h2,h3,_⟩,_⟩:=h;injection e with e1 e2 e3;exact⟨e2,by omega⟩
theorem zU(hs:qO b c q)(hf:fN K0 R)(ct:1<=K0)(zA:K0<=8000)(h:ii aa b c q wx ga gb R)(hx:o8 aa q wx x s)(hb:ar wx bx 44 (km x s))(iw:aa bx=c+10)(hk:gP x.kind 5=2)
  (hl:ol l ga gb bx (.bool true)) (hK:∀(l':List Value) (w':World),ol l' ga gb bx (.bool true)/\zt aa b c q wx ga gb (R.propose x.cmd).2 w'->K ⟨l'.toArray,[]⟩ w') :
  sP 5 f27 K H l wx:=by
 obtain⟨⟨v,hr⟩,va,ha⟩:=h;have rl:=hs.1;have Ev:=hs.2;have jz:=j6 x.kind 5 wx hx.kb.1 hx.kb.2 (by omega) (by omega);rw[hk]at jz;have ht:=Aq q x.cmd s.fa s.fn s.fc q hr hf.ok zA (by omega) (by omega) (by omega) hx.f hx.fm;obtain⟨O,hO⟩:=zN (R.propose x.cmd);rw[hO]at ht hK;have cB:=hf.ok;have oE:=hf.low;have ul:∀(ag:Nat->Nat) (va1:Aw) (w1:World),o8 ag q w1 x s->aJ ag c q w1 gb R va1->Calls prog 22 #[.pointer (some ⟨gb,0,none⟩),.agg #[.int .i64 x.cmd.op,.int .i64 x.cmd.sess,.int .i64 x.cmd.seq,.slice s.fa s.fn s.fc]] w1 fun e w'=>∃Y A1 n1 c1,e=.returned (.tuple #[ni O.1.1 (.slice A1 n1 c1),.int .i64 O.1.2.1,.agg (aZ O.1.2.2 Y)])/\
   jk ag c q w1 gb O.1.2.2 O.2 Y (.slice A1 n1 c1) O.1.1.facts w':=by
  intro ag va1 w1 om h1;rw[<-hO];exact vI x.cmd s.fa s.fn s.fc hs.apart h1 cB (by omega) (by omega) oE om.f om.fm
 replace oE:=zH oE;unfold bg ni at ht;unfold aZ ni at ul;obtain⟨y0,y15,y16,y17,y18,-⟩:=hb.cs [0,15,16,17,18];simp only[km,Zx]at y0 y15 y16 y17 y18;have jZ:=hb.lt;replace ul:=zH ul;replace hO:=zH hO;replace hx:=zH hx;replace hf:=zH hf;replace cB:=zH cB;replace iw:=zH iw;replace hb:=zH hb;replace ha:=zH ha;clear hr hk;obtain⟨ah,aS,bH,cA,fU⟩:=hl;obtain⟨fr,rfl,am⟩:=an ah;rw[gc,am _ _ aS,am _ _ bH,am _ _ cA,am _ _ fU];clear ah am aS bH cA fU;refine cI 5 f27 rfl ?_;go_wp2_with fail;refine jz.mono ?_;rintro e w0 ⟨rfl,rfl⟩;go_wp2_with fail;refine ht.mono ?_;rintro e w1 ⟨X,A1,n1,c1,rfl,hT⟩;obtain⟨ag,⟨v1,jX⟩,DC,nc,CJ,gw⟩:=hT.leaves hs ha.out;have qJ:=(gw.stay bx jZ (by unfold bv;rw[iw.out];omega));have nR:=hb.out;have nR:ar w1 bx 44 (km x s):=qJ.2.trans nR;obtain⟨z15,z16,z17,z18,-⟩:=nR.cs [15,16,17,18];simp only[km,vi,Zx]at z15 z16 z17 z18;have TO:=nR.lt;have bJ:Below w1.heap.size w1 ((w1.alloc (.cells (bY (.slice A1 n1 c1,O.1.1)).toArray 59)).alloc (.cells (bg O.1.2.2 X) 49)):=(zb.alloc zl _).alloc (by simp) _;obtain⟨SK,eb,su⟩:=fC w1 59 49 (bY (.slice A1 n1 c1,O.1.1)).toArray (bg O.1.2.2 X);obtain⟨w2,cw⟩:=zN ((w1.alloc (.cells (bY (.slice A1 n1 c1,O.1.1)).toArray 59)).alloc (.cells (bg O.1.2.2 X) 49));rw[cw]at bJ eb su;unfold bg bY vi at cw;have CX:=jX.fresh' (c+10) bJ;have pW:=CJ.fresh (c+10) bJ;have qr:=aM.new (aa:=ag) (c+10) bJ;have o6:=(qr.keeps q fun _ _ _ hf=>hf).outX DC;have qV:=(qr.keeps q fun _ _ _ hf=>hf).facts nc;have zm:=((gn gw (i:=q) (by omega)).trans (qr.keeps q fun _ _ _ hf=>hf)).act hx.out;have Ed:=ul.out _ va w2 zm pW;have qo:ai ag w1.heap.size (c+10) w1.heap.size=c+10:=ay (by omega);have Nf:ai ag w1.heap.size (c+10) (w1.heap.size+1)=c+10:=ay (by omega);obtain⟨p,hp⟩:=zN (w1.heap.size);have xx:=nR.kept bJ;have X3:=xx.lt;obtain⟨u15,u16,u17,u18,-⟩:=xx.cs [15,16,17,18];simp only[km,vi,Zx]at u15 u16 u17 u18;replace cw:=zH cw;replace hp:=zH hp;replace qo:=zH qo;replace Nf:=zH Nf;replace nR:=zH nR;replace xx:=zH xx;replace eb:=zH eb;replace su:=zH su;replace DC:=zH DC;replace o6:=zH o6;replace gw:=zH gw;replace qr:=zH qr;replace qV:=zH qV;clear nc SK zm;clear hT;go_wp2_with fail;rw[cw.out,hp.out];refine Ed.mono ?_;rintro e w3 ⟨Y,A3,n3,c3,rfl,Pw⟩;obtain⟨cM,⟨va3,IQ⟩,OF,uc,EX,FE⟩:=Pw.leaves hs CX;have Ji:=dO FE (i:=q) (by omega);have pS:=Ji.outX o6.out;have gK:=Ji.facts qV.out;have ja:=((dO FE (i:=c+10) (by omega)).blk eb.out qo.out).1;have IN:=((dO FE (i:=c+10) (by omega)).blk su.out Nf.out).1;rw[hp.out]at ja IN;have nr:=zH ((gn gw.out (i:=q) (by omega)).trans ((qr.out.keeps q fun _ _ _ hf=>hf).trans Ji));have cz:Below w3.heap.size w3 ((w3.alloc (.cells (bY (.slice A3 n3 c3,O.1.1)).toArray 59)).alloc (.cells (aZ O.1.2.2 Y) 52)):=(zb.alloc zl _).alloc (by simp) _;obtain⟨w4,eL⟩:=zN ((w3.alloc (.cells (bY (.slice A3 n3 c3,O.1.1)).toArray 59)).alloc (.cells (aZ O.1.2.2 Y) 52));obtain⟨Ve,ED,JQ⟩:=fC w3 59 52 (bY (.slice A3 n3 c3,O.1.1)).toArray (aZ O.1.2.2 Y);rw[eL]at cz ED JQ;unfold aZ bY vi at eL;have Ik:=pS.keep fun j _ hj=>cz.block j hj
 have Tk:=OF.keep fun j _ hj=>cz.block j hj
 have KG:=gK.keep (fun j _ hj=>cz.block j hj);have DB:=uc.keep (fun j _ hj=>cz.block j hj);have iI:=rY KG;have AN:=rY DB;have UK:n3=n1:=AN.1.trans iI.1.symm;subst UK;have Tq:=sz KG DB (by omega);unfold ni at Tq;have M2:=IN.kept cz;have J4:=ja.lt;have We:=IN.lt;obtain⟨e0,e1,e2,e3,e4,e5,-⟩:=ja.cs [0,1,2,3,4,5];simp only[bY,vi,Zx]at e0 e1 e2 e3 e4 e5;have C6:=zH (ii.below (R:=O.2) hs ⟨⟨v1,EX⟩,va3,IQ⟩ cz);have Sz:=zH (nr.out.trans ((aM.same cM cz).keeps q fun _ _ _ hf=>hf));replace eL:=zH eL;replace JQ:=zH JQ;replace Ik:=zH Ik;replace Tk:=zH Tk;replace M2:=zH M2;clear Pw pS ja IN OF EX IQ FE cz CX pW Ed jX CJ Ve ED KG DB gK uc Ji iI AN;go_wp2_with fail;rw[eL.out];refine Tq.mono ?_;rintro e w5 ⟨rfl,cD⟩;have ik:=nX (Ik.out.keep fun j _ hj=>cD.block j hj) (Tk.out.keep fun j _ hj=>cD.block j hj);unfold bg aZ at ik;have yV:=M2.out.kept cD;have Py:=JQ.out.kept cD;obtain⟨r0,r1,r2,r3,r4,r5,r6,r7,r8,-⟩:=yV.cs [0,1,2,3,4,5,6,7,8];simp only[bg,vi,Zx]at r0 r1 r2 r3 r4 r5 r6 r7 r8;obtain⟨t0,t1,t2,t3,t4,t5,t6,t7,t8,t9,t10,t11,-⟩:=Py.cs [0,1,2,3,4,5,6,7,8,9,10,11];simp only[aZ,vi,Zx]at t0 t1 t2 t3 t4 t5 t6 t7 t8 t9 t10 t11;have Mn:=zH (ii.below hs C6.out cD);have Tj:=zH (Sz.out.trans ((aM.same cM cD).keeps q fun _ _ _ hf=>hf));clear Tq cD yV Py;go_wp2_with fail;refine ik.mono ?_;rintro e w6 ⟨rfl,gz⟩;have E8:=zH (ii.below hs Mn.out gz);have fS:=zH (Tj.out.trans ((aM.same cM gz).keeps q fun _ _ _ hf=>hf));clear ik gz;go_wp2_with fail;exact⟨⟨rfl,rfl,rfl,rfl,rfl⟩,cM,E8.out,fS.out⟩
end
def QS(l:List Value)(u v:Value):Prop:=l.length=157/\l[7]?=some u/\l[21]?=some v
section
variable {ga gb bx b c q K0:Nat}{aa:Nat->Nat}{R:Rf}{wx w':World}{K:Act->World->Prop}{H:Ending->World->Prop}{l:List Value}{x:Ac}{s:As}{Q':Exit->Act->World->Prop}
theorem zt.below(hs:qO b c q){w1:World}(h:zt aa b c q wx ga gb R w')(hb:Below w'.heap.size w' w1):zt aa b c q wx ga gb R w1:=by
 obtain⟨ak,h1,h2⟩:=h;exact⟨ak,h1.below hs hb,h2.trans ((aM.same ak hb).keeps q fun _ _ _ hf=>hf)⟩
theorem Ym(hs:qO b c q)(hN:R.track.L.length<=1000000)(h:zt aa b c q wx ga gb R w')(hl:ol l ga gb bx (.bool true))(hK:∀(l':List Value) (w1:World),QS l' (.bool true) (.bool true)/\zt aa b c q wx ga gb R w1->K ⟨l'.toArray,[]⟩ w1) :
  sQ 6 f27 K Q' l w':=by
 obtain⟨ak,⟨⟨v,h1⟩,va,h2⟩,_⟩:=id h;have aE:=oR h1 h2 hN;clear h1 h2;replace h:=zH h;obtain⟨ah,aS,bH,cA,fU⟩:=hl;obtain⟨fr,rfl,am⟩:=an ah;rw[gc,am _ _ aS,am _ _ bH,am _ _ cA,am _ _ fU];clear ah am aS bH cA fU;refine cI 6 f27 rfl ?_;go_wp2_with fail;refine aE.mono ?_;rintro e w1 ⟨rfl,bs⟩;have hD:=zH (h.out.below hs bs);clear bs aE;go_wp2_with fail;exact⟨⟨rfl,rfl,rfl⟩,hD.out⟩
theorem Y8(hl:QS l (.bool true) (.bool true))(hH:H (.returned (.bool true)) wx):tP 7 f27 H l wx:=by
 replace hH:=zH hH;obtain⟨ah,fU,Qm⟩:=hl;obtain⟨fr,rfl,am⟩:=an ah;rw[gc,am _ _ fU,am _ _ Qm];clear ah am fU Qm;refine F0 7 f27 rfl ?_;go_wp2_with fail;exact hH.out
theorem W1(hs:qO b c q)(hf:fN K0 R)(ct:1<=K0)(zA:K0<=8000)(h:ii aa b c q wx ga gb R)(hx:o8 aa q wx x s)(hb:ar wx bx 44 (km x s))(iw:aa bx=c+10)(fi:s.bn<=1000)
  (hl:ol l ga gb bx (.bool true)) (hK:∀(l':List Value) (w':World),ol l' ga gb bx (.bool true)/\zt aa b c q wx ga gb (x.play R) w'->K ⟨l'.toArray,[]⟩ w') :
  sP 5 f27 K H l wx:=by
 have h5:=GL x.kind (m:=5) (by omega);unfold Ac.play at hK;by_cases h0:gP x.kind 5=0
 ·rw[if_pos h0]at hK;exact GK hs hf ct zA h hx hb iw h0 hl hK
 ·rw[if_neg h0]at hK;by_cases h1:gP x.kind 5=1
  ·rw[if_pos h1]at hK;exact F1 hs hf ct zA h hx hb iw h1 hl hK
  ·rw[if_neg h1]at hK;by_cases h2:gP x.kind 5=2
   ·rw[if_pos h2]at hK;exact zU hs hf ct zA h hx hb iw h2 hl hK
   ·rw[if_neg h2]at hK;by_cases h3:gP x.kind 5=3
    ·rw[if_pos h3]at hK;exact FK hs hf ct zA h hx hb iw h3 hl hK
    ·rw[if_neg h3]at hK;exact xD hs hf fi ct zA h hx hb iw (by omega) hl hK
theorem D4(hs:qO b c q)(hf:fN K0 R)(ct:1<=K0)(zA:K0<=8000)(h:ii aa b c q wx ga gb R)(hx:o8 aa q wx x s) :
  Calls prog 27 #[.pointer (some ⟨ga,0,none⟩),.pointer (some ⟨gb,0,none⟩),.agg (km x s)] wx fun e w'=>e=.returned (.bool true)/\zt aa b c q wx ga gb (x.cut.play R) w':=by
 refine cP (args:=[.pointer (some ⟨ga,0,none⟩),.pointer (some ⟨gb,0,none⟩),.agg (km x s)]) 157 func27 (by kernel_rfl) ntmps27 (by simp) fun la jO fD=>?_
 have bs:Below wx.heap.size wx (wx.alloc (.cells (km x s) 44)):=zb.alloc zl _;have cl:=ar.new wx 44 (km x s);refine aK (by kernel_rfl) (XX ⟨jO,fD 0 _ rfl,fD 1 _ rfl,fD 2 _ rfl⟩ fun l0 jq=>?_);obtain⟨w1,bV⟩:=zN (wx.alloc (.cells (km x s) 44));rw[bV]at bs cl;rw[bV];refine aK (by kernel_rfl) (Zs cl (hx.e.len.2.1) jq fun l1 w2 h1=>?_);obtain⟨cy,eb,di⟩:=h1;refine aK (by kernel_rfl) (Yn eb (hx.d.len.2.1) cy fun l2 w3 h2=>?_);obtain⟨dM,ja,lu⟩:=h2;refine aK (by kernel_rfl) (XB ja (hx.b.len.2.1) dM fun l3 w4 h3=>?_);obtain⟨kr,ED,iK⟩:=h3;refine aK (by kernel_rfl) (ZH kr fun l4 nG=>?_);have hF:=(di.trans lu fun _ h=>.inl h).trans iK fun _ h=>.inl h
 have gw:=aM.new (aa:=aa) (c+10) bs;have Rn:aM (fun j=>j=wx.heap.size) (ai aa wx.heap.size (c+10)) (ai aa wx.heap.size (c+10)) w1 w4:=aM.of_fr hF fun _ _ hn=>⟨rfl,hn⟩
 have iw:ai aa wx.heap.size (c+10) wx.heap.size=c+10:=ay zl;have rl:=hs.1;have Ev:=hs.2;have C6:=(h.new hs (c+10) bs).hold hs Rn fun j _ hm e=>by
  subst e;unfold bv dC at hm;rw[iw]at hm;omega
 have Ji:cK q aa (ai aa wx.heap.size (c+10)) wx w4:=(gw.keeps q fun _ _ _ hf=>hf).trans (Rn.keeps q fun j _ e e2=>by subst e2;rw[iw]at e;omega);have KO:o8 (ai aa wx.heap.size (c+10)) q w4 x.cut s.cutE.cutD.cutB:=(Ji.act hx).cutE.cutD.cutB;refine aK (by kernel_rfl) (W1 hs hf ct zA C6 KO ED iw (Nat.min_le_right _ _) nG fun l5 w5 h5=>?_);obtain⟨oA,Ys⟩:=h5;have hfp:=(hf.play ct x.cut).ok.trk;refine aK (by kernel_rfl) (Ym hs (by omega) Ys oA fun l6 w6 h6=>?_);obtain⟨rf,Ei,Ye,fS⟩:=h6;exact Y8 rf ⟨rfl,Ei,Ye,Ji.trans fS⟩
end
def NQ(l:List Value)(b r:Nat):Prop:=l.length=23/\l[1]?=some (.pointer (some ⟨b,0,none⟩))/\l[2]?=some (.pointer (some ⟨r,0,none⟩))
def nE:Array Value:=#[.int .i64 0,.int .i64 0,.int .i64 0,.int .i64 0,.slice none 0 0,.slice none 0 0]
def qm.few(s:qm):qm:={s with snap:={s.snap with data:=s.snap.data.take 2000},entries:=s.entries.take 30}
section
variable {b r m1 c1 md cd:Nat}{A1 Ad:Option Addr}{wx w':World}{K:Act->World->Prop}{Q':Exit->Act->World->Prop}{l:List Value}{s:qm}{H:Ending->World->Prop}
theorem YI(hl:l.length=23/\l[0]?=some (.agg (eT s Ad A1 md cd m1 c1)))(hK:∀l':List Value,NQ l' wx.heap.size (wx.heap.size+1)->K ⟨l'.toArray,[]⟩ ((wx.alloc (.cells (eT s Ad A1 md cd m1 c1) 29)).alloc (.cells nE 29))):sQ 0 f12 K Q' l wx:=by
 unfold eT nE at *;obtain⟨ah,aS⟩:=hl;obtain⟨fr,rfl,am⟩:=an ah;rw[um,am _ _ aS];clear ah am aS;refine cI 0 f12 rfl ?_;go_wp2_with fail;exact⟨rfl,rfl,rfl⟩
theorem Zk(hb:ar wx b 29 (eT s Ad A1 md cd m1 c1))(hc:m1<=c1)(hl:NQ l b r)(hK:∀(l':List Value) (w':World),NQ l' b r/\ar w' b 29 (eT s Ad A1 md cd (min m1 30) c1)/\Fr (fun j=>j=b) wx w'->K ⟨l'.toArray,[]⟩ w'):sQ 1 f12 K Q' l wx:=by
 have y:=hb.cell 5;have f:=hb.free 5;simp only[eT,Zx]at y;have jZ:=hb.lt;rcases Nat.lt_or_ge 30 m1 with h0|h0
 ·have hs:=hb.set_ 5 (.slice A1 30 c1);have hF:=Fr.set (w:=wx) b 5 (.slice A1 30 c1);have e1:ar (wx.setCell ⟨b,5,none⟩ (.slice A1 30 c1)) b 29 (eT s Ad A1 md cd (min m1 30) c1):=by rw[Nat.min_eq_right (by omega)];exact hs
  replace e1:=zH e1;replace hF:=zH hF;clear hb hs;have gC:30<=c1:=by omega
  obtain⟨ah,bH,fY⟩:=hl;obtain⟨fr,rfl,am⟩:=an ah;rw[um,am _ _ bH,am _ _ fY];clear ah am bH fY;refine cI 1 f12 rfl ?_;go_wp2_with fail;exact⟨⟨rfl,rfl,rfl⟩,e1.out,hF.out⟩
 ·have e1:ar wx b 29 (eT s Ad A1 md cd (min m1 30) c1):=by rw[Nat.min_eq_left (by omega)];exact hb
  have hF:=Fr.refl (fun j=>j=b) wx;replace e1:=zH e1;replace hF:=zH hF;clear hb;obtain⟨ah,bH,fY⟩:=hl;obtain⟨fr,rfl,am⟩:=an ah;rw[um,am _ _ bH,am _ _ fY];clear ah am bH fY;refine cI 1 f12 rfl ?_;go_wp2_with fail;exact⟨⟨rfl,rfl,rfl⟩,e1.out,hF.out⟩
theorem Xl(hb:ar wx b 29 (eT s Ad A1 md cd m1 c1))(hc:md<=cd)(hl:NQ l b r)(hK:∀(l':List Value) (w':World),NQ l' b r/\ar w' b 29 (eT s Ad A1 (min md 2000) cd m1 c1)/\Fr (fun j=>j=b) wx w'->K ⟨l'.toArray,[]⟩ w'):sQ 2 f12 K Q' l wx:=by
 have y:=hb.cell 4;have f:=hb.free 4;simp only[eT,Zx]at y;have jZ:=hb.lt;rcases Nat.lt_or_ge 2000 md with h0|h0
 ·have hs:=hb.set_ 4 (.slice Ad 2000 cd);have hF:=Fr.set (w:=wx) b 4 (.slice Ad 2000 cd);have e1:ar (wx.setCell ⟨b,4,none⟩ (.slice Ad 2000 cd)) b 29 (eT s Ad A1 (min md 2000) cd m1 c1):=by rw[Nat.min_eq_right (by omega)];exact hs
  replace e1:=zH e1;replace hF:=zH hF;clear hb hs;have gC:2000<=cd:=by omega
  obtain⟨ah,bH,fY⟩:=hl;obtain⟨fr,rfl,am⟩:=an ah;rw[um,am _ _ bH,am _ _ fY];clear ah am bH fY;refine cI 2 f12 rfl ?_;go_wp2_with fail;exact⟨⟨rfl,rfl,rfl⟩,e1.out,hF.out⟩
 ·have e1:ar wx b 29 (eT s Ad A1 (min md 2000) cd m1 c1):=by rw[Nat.min_eq_left (by omega)];exact hb
  have hF:=Fr.refl (fun j=>j=b) wx;replace e1:=zH e1;replace hF:=zH hF;clear hb;obtain⟨ah,bH,fY⟩:=hl;obtain⟨fr,rfl,am⟩:=an ah;rw[um,am _ _ bH,am _ _ fY];clear ah am bH fY;refine cI 2 f12 rfl ?_;go_wp2_with fail;exact⟨⟨rfl,rfl,rfl⟩,e1.out,hF.out⟩
theorem Yi(hb:ar wx b 29 (eT s Ad A1 md cd m1 c1))(hr:ar wx r 29 nE)(hl:NQ l b r)(hH:∀w',Fr (fun j=>j=r) wx w'->H (.returned (.agg (eT s Ad A1 md cd m1 c1))) w'):tP 3 f12 H l wx:=by
 obtain⟨y0,y1,y2,y3,y4,y5,-⟩:=hb.cs [0,1,2,3,4,5];simp only[eT,vi,Zx]at y0 y1 y2 y3 y4 y5;obtain⟨f0,f1,f2,f3,f4,f5,-⟩:=hr.fs [0,1,2,3,4,5];obtain⟨z0,z1,z2,z3,z4,z5,-⟩:=hr.cs [0,1,2,3,4,5];simp only[nE,vi,Zx]at z0 z1 z2 z3 z4 z5;have CC:=hr.lt;obtain⟨wE,dk⟩:=zN (((((((wx.setCell ⟨r,0,none⟩ (.int .i64 s.hard.term)).setCell ⟨r,1,none⟩ (.int .i64 s.hard.vote)).setCell ⟨r,2,none⟩ (.int .i64 s.snap.idx)).setCell ⟨r,3,none⟩ (.int .i64 s.snap.term)).setCell ⟨r,4,none⟩ (.slice Ad md cd)).setCell ⟨r,5,none⟩ (.slice A1 m1 c1)));have hF:Fr (fun j=>j=r) wx wE:=by
  rw[<-dk];have e:∀{a b:World},Fr (fun j=>j=r) wx a->Fr (fun j=>j=r) a b->Fr (fun j=>j=r) wx b:=fun h h'=>h.trans h' fun _ h=>.inl h
  exact e (e (e (e (e (Fr.set r 0 _) (Fr.set r 1 _)) (Fr.set r 2 _)) (Fr.set r 3 _)) (Fr.set r 4 _)) (Fr.set r 5 _)
 have hB:ar wE r 29 (eT s Ad A1 md cd m1 c1):=by
  rw[<-dk];exact(((((hr.set_ 0 _).set_ 1 _).set_ 2 _).set_ 3 _).set_ 4 _).set_ 5 _
 have ZP:=zH (hH wE hF);replace dk:=zH dk;replace hB:=zH hB;clear hb hr hF hH;obtain⟨ah,bH,fY⟩:=hl;obtain⟨fr,rfl,am⟩:=an ah;rw[um,am _ _ bH,am _ _ fY];clear ah am bH fY;refine F0 3 f12 rfl ?_;go_wp2_with fail;rw[dk.out];replace hB:=hB.out;obtain⟨r0,r1,r2,r3,r4,r5,-⟩:=hB.cs [0,1,2,3,4,5];simp only[eT,vi,Zx]at r0 r1 r2 r3 r4 r5;exact bodyPost_ret (v:=.agg (eT s Ad A1 md cd m1 c1)) (by simp[results,results12,go_sem,eT,r0,r1,r2,r3,r4,r5]) rfl ZP.out
theorem Jf(hm:m1<=c1)(hd:md<=cd):Calls prog 12 #[.agg (eT s Ad A1 md cd m1 c1)] wx fun e w'=>e=.returned (.agg (eT s Ad A1 (min md 2000) cd (min m1 30) c1))/\Below wx.heap.size wx w':=by
 refine cP (args:=[.agg (eT s Ad A1 md cd m1 c1)]) 23 func12 (by kernel_rfl) ntmps12 (by simp) fun la jO fD=>?_
 obtain⟨jA,cl,eb⟩:=fC wx 29 29 (eT s Ad A1 md cd m1 c1) nE;refine aK (by kernel_rfl) (YI ⟨jO,fD 0 _ rfl⟩ fun l0 jq=>?_);obtain⟨w1,bV⟩:=zN ((wx.alloc (.cells (eT s Ad A1 md cd m1 c1) 29)).alloc (.cells nE 29));rw[bV]at jA cl eb;rw[bV];refine aK (by kernel_rfl) (Zk cl hm jq fun l1 w2 h1=>?_);obtain⟨cy,ja,gR⟩:=h1;refine aK (by kernel_rfl) (Xl ja hd cy fun l2 w3 h2=>?_);obtain⟨dM,ED,di⟩:=h2;have hF:=gR.trans di fun _ h=>.inl h
 have EX:ar w3 (wx.heap.size+1) 29 nE:=(hF.block _ eb.lt (by omega)).trans eb;refine Yi ED EX dM fun w4 iK=>⟨rfl,?_⟩
 have hX:=(hF.mono (X':=fun j=>wx.heap.size<=j) fun j e=>by subst e;exact Nat.le_refl _).trans iK fun j e=>.inl (by subst e;omega)
 exact jA.trans (hX.below (B:=wx.heap.size) (fun _ h=>h) jA.size)
end
def J1:qm:=⟨⟨0,0⟩,LX,[]⟩
def sB:Rf:=Rf.mk 1 3 ⟨0,0⟩ ⟨0,0,[]⟩ LX 0 0 0 0 0 [] [] 0 [] F2 dZ
theorem Nc:Rf.new 1 3 J1=some sB:=by rfl
def XJ(k w:Int):Rf:={sB with clock:=k,wait:=w}
def Iv(k t:Int):Mg:={cZ with kind:=k,frm:=1,tgt:=t,term:=1}
def D3:Rf:={sB with role:=1,yes:=[1]}
def o9:Rf:={sB with role:=2,yes:=[1],hard:=⟨1,1⟩}
def RK:Mg:={cZ with kind:=2,frm:=2,tgt:=1,term:=1}
theorem Pb:D3.step RK=(⟨true,false,⟨1,1⟩,[],[],none,[],[Iv 3 2,Iv 3 3]⟩,o9):=by rfl
def NK:En:=lq 1 1 gk
def Ih:Mg:={cZ with kind:=4,frm:=3,tgt:=1,term:=1}
theorem MQ:eO 3 [1,0,0]=0:=(jL (N:=3) (by decide) _).trans (sH (N:=3) (l:=[1,0,0]) (by decide) ⟨.inl rfl,by decide,by decide⟩).symm
theorem Ng:eO 3 [1,1,0]=1:=(jL (N:=3) (by decide) _).trans (sH (N:=3) (l:=[1,1,0]) (by decide) ⟨.inr ⟨0,by decide,by decide,by decide⟩,by decide,by decide⟩).symm
def gU:Rf:={sB with role:=3,leader:=1,yes:=[1,3],hard:=⟨1,1⟩,round:=1,track:=⟨0,0,[NK]⟩,peers:=[⟨1,0,0,0⟩,⟨1,0,0,0⟩,⟨1,0,0,0⟩,⟨1,0,0,0⟩]}
def Sf(s:Int):Mg:={cZ with kind:=5,frm:=1,tgt:=s,term:=1,entries:=[NK],round:=1}
def yO:Ot:=⟨true,false,⟨0,0⟩,[NK],[],none,[],[Sf 2,Sf 3]⟩
theorem PB:(({o9 with yes:=[1,3]}:Rf).leads1.all)={gU with out:=yO}:=by rfl
theorem Ov:({gU with out:=yO}:Rf).agrees={gU with out:=yO}:=by
 unfold Rf.agrees;have e:({gU with out:=yO}:Rf).agreesTo=0:=MQ;rw[e];rfl
theorem QW:o9.does Ih={gU with out:=yO}:=by
 have e:o9.does Ih=({o9 with yes:=[1,3]}:Rf).leads1.all.agrees:=by rfl
 rw[e,PB,Ov]
theorem Oz:o9.step Ih=({yO with hard:=⟨1,1⟩},gU):=by
 have e:o9.step Ih=(if(o9.does Ih).role=3 then(o9.does Ih).reads else o9.does Ih).tell:=by rfl
 rw[e,QW];rfl
def xq:Mg:={cZ with kind:=6,frm:=2,tgt:=1,term:=1,idx:=1}
def Tm:Rf:={gU with commit:=1,peers:=[⟨1,0,0,0⟩,⟨1,0,0,0⟩,⟨2,1,0,0⟩,⟨1,0,0,0⟩],out:={dZ with commits:=[NK]}}
theorem KM:gU.does xq=Tm:=by
 have e:gU.does xq=({gU with peers:=[⟨1,0,0,0⟩,⟨1,0,0,0⟩,⟨2,1,0,0⟩,⟨1,0,0,0⟩]}:Rf).agrees:=by rfl
 have e2:({gU with peers:=[⟨1,0,0,0⟩,⟨1,0,0,0⟩,⟨2,1,0,0⟩,⟨1,0,0,0⟩]}:Rf).agreesTo=1:=Ng;rw[e];unfold Rf.agrees;rw[e2];rfl
theorem S0:(gU.step xq).1={dZ with commits:=[NK]}:=by
 have e:gU.step xq=(if(gU.does xq).role=3 then(gU.does xq).reads else gU.does xq).tell:=by rfl
 rw[e,KM];rfl
theorem Q8:(gU.step xq).2.role=3:=by
 have e:gU.step xq=(if(gU.does xq).role=3 then(gU.does xq).reads else gU.does xq).tell:=by rfl
 rw[e,KM];rfl
def Ry(k:Nat):Rf:=if k=0 then sB else if k<=9 then XJ k 10 else D3
def De(k:Nat):Ot:=if k=10 then {dZ with msgs:=[Iv 1 2,Iv 1 3]}else dZ
theorem Aa:∀k,k<10->(Ry k).tick 0=(De (k+1),Ry (k+1))
 | 0,_=>rfl
 | 1,_=>rfl
 | 2,_=>rfl
 | 3,_=>rfl
 | 4,_=>rfl
 | 5,_=>rfl
 | 6,_=>rfl
 | 7,_=>rfl
 | 8,_=>rfl
 | 9,_=>rfl
 | k+10,h=>absurd h (by omega)
theorem MM:Ok 1 0 sB:=(yT (id:=1) (n:=3) (s:=J1) (by unfold jT;decide) rfl).1
theorem F6:∀k,k<=10->Ok (1+11*k) 0 (Ry k)
 | 0,_=>MM
 | k+1,h=>by
  have h1:=(F6 k (by omega)).ticked 0;rw[Aa k (by omega)]at h1;exact h1.mono (by omega) zl
def B0(aa:Nat->Nat)(w:World)(p:Nat)(O:Ot):Prop:=∃X,jw aa 20 w O X/\ar w p 49 (bg O X)/\aa p=30
def sM(w0:World)(ga:Nat)(R:Rf)(L:List (Nat×Ot))(w:World):Prop:=∃aa v,ax aa 1 w ga R v/\(∀z∈L,B0 aa w z.1 z.2)/\(∀j,j<w0.heap.size->aa j=0)/\Below w0.heap.size w0 w
section
variable {aa ak:Nat->Nat}{w w' w0:World}{ga p:Nat}{R R':Rf}{O:Ot}{L:List (Nat×Ot)}{X:Ox}{v:Rw}
theorem B0.leaves{Z:Nat->Prop}(h:B0 aa w p O)(hl:aM Z aa ak w w')(hZ:∀j,j<w.heap.size->(aa j=20\/aa j=30)->¬Z j):B0 ak w' p O:=by
 obtain⟨X,h1,h2,h3⟩:=h;obtain⟨h4,h5⟩:=(hl.keeps 30 fun j hj e=>hZ j hj (.inr e)).blk h2 h3;exact⟨X,(hl.keeps 20 fun j hj e=>hZ j hj (.inl e)).outX h1,h4,h5⟩
theorem sM.act(hL:∀z∈L,B0 aa w z.1 z.2)(h0:∀j,j<w0.heap.size->aa j=0)(hB:Below w0.heap.size w0 w)(hT:eA aa 1 20 w ga O R' X w'):sM w0 ga R' ((w'.heap.size,O)::L) (w'.alloc (.cells (bg O X) 49)):=by
 obtain⟨ak,v',q1,q2,q3,q4,q5⟩:=hT;have hl:aM (bv aa 1) aa ak w w':=aM.of_fr q5 fun j hj hn=>⟨q3 j hj hn,fun hm=>hn ⟨hm.1,by have:=hm.2;omega⟩⟩
 have hb:Below w'.heap.size w' (w'.alloc (.cells (bg O X) 49)):=zb.alloc zl _;have hn:=aM.new (aa:=ak) 30 hb;have Um:=hB.size;have rD:∀j,j<w0.heap.size->¬bv aa 1 j:=fun j hj hm=>by have:=h0 j hj;unfold bv at hm;omega
 refine⟨_,v',q1.fresh' 30 hb,fun z hz=>?_,fun j hj=>?_,?_⟩
 ·rcases List.mem_cons.1 hz with rfl|hz
  ·exact⟨X,(hn.keeps 20 fun _ _ _ hf=>hf).outX q2,ar.new _ _ _,ay zl⟩
  ·exact((hL z hz).leaves hl fun j _ e hm=>by unfold bv at hm;omega).leaves hn fun _ _ _ hf=>hf
 ·rw[ac (by have:=q5.size;omega)];exact(q3 j (by omega) (rD j hj)).trans (h0 j hj)
 ·have h1:Below w0.heap.size w0 w':=⟨q5.os.trans hB.os,q5.tape.trans hB.tape,q5.output.trans hB.output,Nat.le_trans hB.size q5.size,fun j hj=>(q5.block j (by omega) fun hm=>rD j hj ⟨hm.1,by have:=hm.2;omega⟩).trans (hB.block j hj)⟩;exact ab h1 hb zl
theorem Cd{O0:Ot}{X0:Ox}{T:TypeId}(O:Ot)(X:Ox)(h:ar w p T (bg O0 X0)):ar (dA w p O X) p T (bg O X):=by
 have s:=((((((((h.set_ 0 (.bool O.save)).set_ 1 (.bool O.reset)).set_ 2 (.int .i64 O.hard.term)).set_ 3 (.int .i64 O.hard.vote)).set_ 4 (.slice X.ea O.entries.length X.ec)).set_ 5 (.slice X.ca O.commits.length X.cc)).set_ 6 (.pointer X.sp)).set_ 7 (.slice X.ra O.reads.length X.rc)).set_ 8 (.slice X.ma O.msgs.length X.mc);simp only[bg,Zy]at s;exact s
theorem sM.tick{w2:World}{O0:Ot}(h:B0 aa w p O0)(h0:∀j,j<w0.heap.size->aa j=0)(hB:Below w0.heap.size w0 w)(hT:eA aa 1 20 w ga O R' X w')(hw:dA w' p O X=w2):sM w0 ga R' [(p,O)] w2:=by
 obtain⟨X0,_,h2,h3⟩:=h;obtain⟨ak,v',q1,q2,q3,q4,q5⟩:=hT;have e:ak p=30:=(q3 p h2.lt (by unfold bv;omega)).trans h3;have h5:ar w' p 49 (bg O0 X0):=(q5.block p h2.lt (by unfold aN;omega)).trans h2;have hF:=oh w' p O X;rw[hw]at hF;have Um:=hB.size;have rD:∀j,j<w0.heap.size->¬bv aa 1 j:=fun j hj hm=>by have:=h0 j hj;unfold bv at hm;omega
 refine⟨ak,v',q1.keep fun j hm hj=>hF.block j hj fun ej=>?_,fun z hz=>?_,fun j hj=>(q3 j (by omega) (rD j hj)).trans (h0 j hj),?_⟩
 ·subst ej;unfold bv at hm;omega
 ·rcases List.mem_cons.1 hz with rfl|hz
  ·refine⟨X,q2.keep fun j hm hj=>hF.block j hj fun ej=>?_,hw▸Cd O X h5,e⟩;subst ej;omega
  ·cases hz
 ·have h1:Below w0.heap.size w0 w':=⟨q5.os.trans hB.os,q5.tape.trans hB.tape,q5.output.trans hB.output,Nat.le_trans hB.size q5.size,fun j hj=>(q5.block j (by omega) fun hm=>rD j hj ⟨hm.1,by have:=hm.2;omega⟩).trans (hB.block j hj)⟩;exact⟨hF.os.trans h1.os,hF.tape.trans h1.tape,hF.output.trans h1.output,Nat.le_trans h1.size hF.size,fun j hj=>(hF.block j (Nat.lt_of_lt_of_le hj h1.size) fun ej=>by subst ej;have:=h0 j hj;omega).trans (h1.block j hj)⟩
theorem B0.after{O0:Ot}(h:B0 aa w p O0)(hT:eA aa 1 20 w ga O R' X w'):∃X0,ar w' p 49 (bg O0 X0):=by
 obtain⟨X0,_,h2,h3⟩:=h;obtain⟨ak,v',q1,q2,q3,q4,q5⟩:=hT;exact⟨X0,(q5.block p h2.lt (by unfold aN;omega)).trans h2⟩
theorem B0.below{O0:Ot}(h:B0 aa w p O0)(hb:Below w.heap.size w w'):B0 aa w' p O0:=h.leaves (aM.same aa hb) fun _ _ _ hf=>hf
def tO:Ot:=⟨true,false,⟨1,1⟩,[],[],none,[],[Iv 3 2,Iv 3 3]⟩
def yW:Ot:={yO with hard:=⟨1,1⟩}
def D6:Ot:={dZ with commits:=[NK]}
def GI:Rf:=(gU.step xq).2
theorem HJ:Ok 200 0 D3:=(F6 10 (by omega)).mono (by omega) (by omega)
theorem Gz:Ok 300 0 o9:=by
 have h:=HJ.stepped (by omega) RK;rw[Pb]at h;exact h.mono (by omega) (by omega)
theorem F3:Ok 400 0 gU:=by
 have h:=Gz.stepped (by omega) Ih;rw[Oz]at h;exact h.mono (by omega) (by omega)
theorem M0:Ok 500 0 GI:=(F3.stepped (by omega) xq).mono (by omega) (by omega)
theorem Qh:gU.step xq=(D6,GI):=by
 have h:=S0;rw[<-Prod.eta (gU.step xq),h];rfl
theorem uZ{i q n c:Nat}{A:Option Addr}{m:Mg}{ms:List Mg}(h:iE aa i q w (.slice A n c) (m::ms)):∃g,A=some ⟨g,0,none⟩/\n=ms.length+1/\n<=c/\w.cell? ⟨g,0,none⟩=some (.int .i64 m.kind)/\w.cell? ⟨g,3,none⟩=some (.int .i64 m.term)/\w.cell? ⟨g,7,none⟩=some (.int .i64 m.round)/\g<w.heap.size:=by
 obtain⟨zs,h1,_,h3⟩:=h;obtain⟨g,c0,e,h4,_,h5,h6,_⟩:=h1.at_ (by simp);injection e with e1 e2 e3;cases zs with
 | nil=>cases h3
 | cons z zs=>
  simp only[List.map_cons,List.cons.injEq]at h3;rw[List.flatMap_cons]at h6;have hz:∀j u,(yL z)[j]?=some u->w.cell? ⟨g,j,none⟩=some u:=fun j u hu=>h6 j u (by rw[List.getElem?_append_left ((List.getElem?_eq_some_iff.1 hu).1)];exact hu)
  rw[<-h3.1];exact⟨g,e1,by rw[e2];rfl,by rw[e2,e3];exact h4,hz 0 _ rfl,hz 3 _ rfl,hz 7 _ rfl,h5⟩
theorem Dy{i q n c:Nat}{A:Option Addr}{m:En}{ms:List En}(h:dU aa i q w (.slice A n c) (m::ms)):∃g,A=some ⟨g,0,none⟩/\n=ms.length+1/\n<=c/\w.cell? ⟨g,0,none⟩=some (.int .i64 m.idx)/\g<w.heap.size:=by
 obtain⟨zs,h1,_,h3⟩:=h;obtain⟨g,c0,e,h4,_,h5,h6,_⟩:=h1.at_ (by simp);injection e with e1 e2 e3;cases zs with
 | nil=>cases h3
 | cons z zs=>
  simp only[List.map_cons,List.cons.injEq]at h3;rw[List.flatMap_cons]at h6;have hz:∀j u,(bY z)[j]?=some u->w.cell? ⟨g,j,none⟩=some u:=fun j u hu=>h6 j u (by rw[List.getElem?_append_left ((List.getElem?_eq_some_iff.1 hu).1)];exact hu)
  rw[<-h3.1];exact⟨g,e1,by rw[e2];rfl,by rw[e2,e3];exact h4,hz 0 _ rfl,h5⟩
theorem Vf(h:B0 aa w p (De 10)):∃q c,2<=c/\w.cell? ⟨p,8,none⟩=some (.slice (some ⟨q,0,none⟩) 2 c)/\w.cell? ⟨q,0,none⟩=some (.int .i64 1)/\w.cell? ⟨q,3,none⟩=some (.int .i64 1)/\p<w.heap.size/\q<w.heap.size:=by
 obtain⟨X,h1,h2,_⟩:=h;obtain⟨q,e1,_,e3,e4,e5,_,e6⟩:=uZ (m:=Iv 1 2) (ms:=[Iv 1 3]) h1.m;exact⟨q,X.mc,e3,(h2.cell 8).trans (by show some (Value.slice X.ma 2 X.mc)=_;rw[e1]),e4,e5,h2.lt,e6⟩
theorem TA(h:B0 aa w p tO):∃A c,w.cell? ⟨p,0,none⟩=some (.bool true)/\w.cell? ⟨p,2,none⟩=some (.int .i64 1)/\w.cell? ⟨p,3,none⟩=some (.int .i64 1)/\w.cell? ⟨p,8,none⟩=some (.slice A 2 c):=by
 obtain⟨X,h1,h2,_⟩:=h;exact⟨X.ma,X.mc,h2.cell 0,h2.cell 2,h2.cell 3,h2.cell 8⟩
theorem Tg(h:B0 aa w p yW):∃A d q c,2<=c/\w.cell? ⟨p,4,none⟩=some (.slice A 1 d)/\w.cell? ⟨p,8,none⟩=some (.slice (some ⟨q,0,none⟩) 2 c)/\w.cell? ⟨q,7,none⟩=some (.int .i64 1):=by
 obtain⟨X,h1,h2,_⟩:=h;obtain⟨q,e1,_,e3,e4,e5,e7,e6⟩:=uZ (m:=Sf 2) (ms:=[Sf 3]) h1.m;exact⟨X.ea,X.ec,q,X.mc,e3,h2.cell 4,(h2.cell 8).trans (by show some (Value.slice X.ma 2 X.mc)=_;rw[e1]),e7⟩
theorem TT(h:B0 aa w p D6):∃q c,1<=c/\w.cell? ⟨p,5,none⟩=some (.slice (some ⟨q,0,none⟩) 1 c)/\w.cell? ⟨q,0,none⟩=some (.int .i64 1):=by
 obtain⟨X,h1,h2,_⟩:=h;obtain⟨q,e1,_,e3,e4,e6⟩:=Dy (m:=NK) (ms:=[]) h1.c;exact⟨q,X.cc,e3,(h2.cell 5).trans (by show some (Value.slice X.ca 1 X.cc)=_;rw[e1]),e4⟩
end
def SG(l:List Value):Prop:=l.length=100
def N0(l:List Value)(ga:Nat):Prop:=l.length=100/\l[1]?=some (.pointer (some ⟨ga,0,none⟩))
def RP(l:List Value)(ga p:Nat):Prop:=l.length=100/\l[1]?=some (.pointer (some ⟨ga,0,none⟩))/\l[2]?=some (.pointer (some ⟨p,0,none⟩))
def Vm(l:List Value)(ga p4:Nat):Prop:=l.length=100/\l[1]?=some (.pointer (some ⟨ga,0,none⟩))/\l[4]?=some (.pointer (some ⟨p4,0,none⟩))
def WJ(l:List Value)(ga p4 p5:Nat):Prop:=l.length=100/\l[1]?=some (.pointer (some ⟨ga,0,none⟩))/\l[4]?=some (.pointer (some ⟨p4,0,none⟩))/\l[5]?=some (.pointer (some ⟨p5,0,none⟩))
def WN(l:List Value)(ga p4 p5 p6:Nat):Prop:=l.length=100/\l[1]?=some (.pointer (some ⟨ga,0,none⟩))/\l[4]?=some (.pointer (some ⟨p4,0,none⟩))/\l[5]?=some (.pointer (some ⟨p5,0,none⟩))/\l[6]?=some (.pointer (some ⟨p6,0,none⟩))
section
variable {ga p p4 p5 p6:Nat}{wx w' w0:World}{K:Act->World->Prop}{Q':Exit->Act->World->Prop}{l:List Value}{H:Ending->World->Prop}
theorem Y4(hl:SG l)(hK:∀l':List Value,SG l'->K ⟨l'.toArray,[]⟩ wx):sP 0 f15 K H l wx:=by
 have hl:l.length=100/\True:=⟨hl,trivial⟩;obtain⟨ah,-⟩:=hl;obtain⟨fr,rfl,am⟩:=an ah;rw[jU];clear ah am;refine C9 (o:=RM 0 (fl f15)) rfl ?_;go_wp2_with fail;rfl
theorem XL(hl:SG l)(hK:∀(l':List Value) (ga:Nat) (w':World),N0 l' ga/\sM wx ga sB [] w'->K ⟨l'.toArray,[]⟩ w'):sP 1 f15 K H l wx:=by
 have gp:=C4 (aa:=fun _=>0) (w:=wx) 1 0 1 3 J1 none none 0 0 0 0 (cN.nil _ _ _) (bM.nil _ _ _) (.inl (by omega)) (by omega) rfl (fun j _ hm=>by have h1:=hm.1;simp at h1);rw[Nc]at gp;unfold J1 LX at gp;obtain⟨ah,-⟩:=(⟨hl,trivial⟩:l.length=100/\True);obtain⟨fr,rfl,am⟩:=an ah;rw[jU];clear ah am;refine C9 (o:=RM 1 (fl f15)) rfl ?_;go_wp2_with fail;refine gp.mono ?_;rintro e w1 ⟨bs,h1⟩;rcases h1 with⟨h1,_⟩|⟨R,g,ak,v',h1,rfl,hR,Vx,_⟩
 ·cases h1
 ·injection h1 with h1;subst h1;have hS:=zH (show sM wx g sB [] w1 from⟨ak,v',hR,(fun z hz=>by cases hz),Vx,bs⟩);clear bs gp hR Vx;go_wp2_with fail;exact hK _ g _ ⟨⟨rfl,rfl⟩,hS.out⟩
theorem WV(hl:N0 l ga)(hK:∀l':List Value,N0 l' ga->K ⟨l'.toArray,[]⟩ wx):sP 2 f15 K H l wx:=by
 obtain⟨ah,bH⟩:=hl;obtain⟨fr,rfl,am⟩:=an ah;rw[jU,am _ _ bH];clear ah am bH;refine cI 2 f15 rfl ?_;go_wp2_with fail;exact⟨rfl,rfl⟩
theorem XG(hl:N0 l ga)(hK:∀(l':List Value) (w':World),RP l' ga wx.heap.size/\w'=wx.alloc (.cells bZ 49)->K ⟨l'.toArray,[]⟩ w'):sP 3 f15 K H l wx:=by
 unfold bZ at hK;obtain⟨ah,bH⟩:=hl;obtain⟨fr,rfl,am⟩:=an ah;rw[jU,am _ _ bH];clear ah am bH;refine cI 3 f15 rfl ?_;go_wp2_with fail;exact⟨rfl,rfl,rfl⟩
theorem ZL(hS:sM w0 ga sB [(p,dZ)] wx)(hl:RP l ga p)(hK:∀(l':List Value) (w':World),RP l' ga p/\sM w0 ga D3 [(p,De 10)] w'->K ⟨l'.toArray,[]⟩ w'):sP 4 f15 K H l wx:=by
 replace hS:=zH hS;obtain⟨ah,bH,fY⟩:=hl;obtain⟨fr,rfl,am⟩:=an ah;rw[jU,am _ _ bH,am _ _ fY];clear ah am bH fY;refine cI 4 f15 rfl ?_;go_wp2_with fail
 go_loopw [3] (fun i wr=>∃k:Nat,k<=10/\i=.int .i64 k/\sM w0 ga (Ry k) [(p,De k)] wr) (fun i _=>10-(intOf i).toNat)
 case atStart=>exact⟨0,Nat.zero_le _,rfl,hS.out⟩
 case round=>
  obtain⟨k,hk,rfl,hs⟩:=hrel;by_cases aU:k<10
  ·obtain⟨aa,v,hR,hX,zS,tU⟩:=hs;have hX:=hX _ (List.mem_cons_self ..);have cB:=(F6 k hk).mono (K':=200) (M':=0) (by omega) zl;have ht:=yi 20 0 hR cB (by omega) (by omega) (by omega) (by omega) (by omega);rw[Aa k aU]at ht;have aP:=zH (show 10-(k+1)<10-k by omega);unfold bg at ht;obtain⟨X0,DC,o6,pS⟩:=id hX;have gT:=o6.free;replace hX:=zH hX;replace zS:=zH zS;replace tU:=zH tU;clear hR DC cB o6;go_wp2_with fail;refine ht.mono ?_;rintro e w1 ⟨X,rfl,hT⟩;obtain⟨w2,cw⟩:=zN (dA w1 p (De (k+1)) X);have ls:=zH (sM.tick hX.out zS.out tU.out hT cw);obtain⟨X1,nR⟩:=hX.out.after hT;obtain⟨y0,y1,y2,y3,y4,y5,y6,y7,y8,-⟩:=nR.cs [0,1,2,3,4,5,6,7,8];simp only[bg,vi,Zx]at y0 y1 y2 y3 y4 y5 y6 y7 y8;obtain⟨f0,f1,f2,f3,f4,f5,f6,f7,f8,-⟩:=nR.fs [0,1,2,3,4,5,6,7,8];have mx:=nR.lt;replace cw:=zH cw;clear hT ht nR;go_wp2_with fail;exact⟨⟨k+1,aU,by go_num,by show sM _ _ _ _ (dA w1 p (De (k+1)) X);rw[cw.out];exact ls.out⟩,by have h9:=aP.out;simp[intOf];omega⟩
  ·obtain rfl:k=10:=by omega
   have hs:=zH hs;go_wp2_with fail;exact⟨⟨rfl,rfl,rfl⟩,hs.out⟩
theorem Yt(hS:sM w0 ga D3 [(p,De 10)] wx)(hl:RP l ga p)(hK:∀l':List Value,N0 l' ga->K ⟨l'.toArray,[]⟩ wx):sP 5 f15 K H l wx:=by
 obtain⟨aa,v,hR,hX,_,_⟩:=hS;obtain⟨q,c,hc,y8,z0,z3,hp,hq⟩:=Vf (hX _ (List.mem_cons_self ..));clear hR hX;obtain⟨ah,bH,fY⟩:=hl;obtain⟨fr,rfl,am⟩:=an ah;rw[jU,am _ _ bH,am _ _ fY];clear ah am bH fY;refine cI 5 f15 rfl ?_;go_wp2_with fail;exact⟨rfl,rfl⟩
theorem W5(hS:sM w0 ga D3 [(p,De 10)] wx)(hl:N0 l ga)(hK:∀(l':List Value) (pn:Nat) (w':World),Vm l' ga pn/\sM w0 ga o9 ((pn,tO)::[(p,De 10)]) w'->K ⟨l'.toArray,[]⟩ w'):sP 6 f15 K H l wx:=by
 obtain⟨aa,v,hR,hX,zS,tU⟩:=hS;have ht:=oB 20 RK none none 0 0 0 0 0 hR HJ (by omega) (by omega) (by omega) (by omega) (.inl (by omega)) (cN.nil _ _ _) (bM.nil _ _ _) rfl rfl;rw[Pb]at ht;simp only[eH,RK,cZ,vi]at ht;have hX:=zH hX;replace zS:=zH zS;replace tU:=zH tU;obtain⟨O,hO⟩:=zN (tO);rw[show(⟨true,false,⟨1,1⟩,[],[],none,[],[Iv 3 2,Iv 3 3]⟩:Ot)=tO from rfl]at ht;rw[hO]at ht hK;unfold bg at ht;clear hR;obtain⟨ah,bH⟩:=hl;obtain⟨fr,rfl,am⟩:=an ah;rw[jU,am _ _ bH];clear ah am bH;refine cI 6 f15 rfl ?_;go_wp2_with fail;refine ht.mono ?_;rintro e w1 ⟨X,rfl,hT⟩;have ls:=zH (sM.act hX.out zS.out tU.out hT);clear hT ht;go_wp2_with fail;exact hK _ _ _ ⟨⟨rfl,rfl,rfl⟩,ls.out⟩
theorem Zu(hS:sM w0 ga o9 [(p4,tO),(p,De 10)] wx)(hl:Vm l ga p4)(hK:∀(l':List Value) (pn:Nat) (w':World),WJ l' ga p4 pn/\sM w0 ga gU ((pn,yW)::[(p4,tO),(p,De 10)]) w'->K ⟨l'.toArray,[]⟩ w'):sP 7 f15 K H l wx:=by
 obtain⟨aa,v,hR,hX,zS,tU⟩:=hS;have ht:=oB 20 Ih none none 0 0 0 0 0 hR Gz (by omega) (by omega) (by omega) (by omega) (.inl (by omega)) (cN.nil _ _ _) (bM.nil _ _ _) rfl rfl;rw[Oz]at ht;simp only[eH,Ih,cZ,vi]at ht;have hX:=zH hX;replace zS:=zH zS;replace tU:=zH tU;obtain⟨O,hO⟩:=zN (yW);rw[show({yO with hard:=⟨1,1⟩}:Ot)=yW from rfl]at ht;rw[hO]at ht hK;unfold bg at ht;clear hR;obtain⟨ah,bH,bW⟩:=hl;obtain⟨fr,rfl,am⟩:=an ah;rw[jU,am _ _ bH,am _ _ bW];clear ah am bH bW;refine cI 7 f15 rfl ?_;go_wp2_with fail;refine ht.mono ?_;rintro e w1 ⟨X,rfl,hT⟩;have ls:=zH (sM.act hX.out zS.out tU.out hT);clear hT ht;go_wp2_with fail;exact hK _ _ _ ⟨⟨rfl,rfl,rfl,rfl⟩,ls.out⟩
theorem Yb(hS:sM w0 ga gU [(p5,yW),(p4,tO),(p,De 10)] wx)(hl:WJ l ga p4 p5)(hK:∀(l':List Value) (pn:Nat) (w':World),WN l' ga p4 p5 pn/\sM w0 ga GI ((pn,D6)::[(p5,yW),(p4,tO),(p,De 10)]) w'->K ⟨l'.toArray,[]⟩ w'):sP 8 f15 K H l wx:=by
 obtain⟨aa,v,hR,hX,zS,tU⟩:=hS;have ht:=oB 20 xq none none 0 0 0 0 0 hR F3 (by omega) (by omega) (by omega) (by omega) (.inl (by omega)) (cN.nil _ _ _) (bM.nil _ _ _) rfl rfl;rw[Qh]at ht;simp only[eH,xq,cZ,vi]at ht;have hX:=zH hX;replace zS:=zH zS;replace tU:=zH tU;obtain⟨O,hO⟩:=zN (D6)
 skip
 rw[hO]at ht hK;unfold bg at ht;clear hR;obtain⟨ah,bH,bW,cA⟩:=hl;obtain⟨fr,rfl,am⟩:=an ah;rw[jU,am _ _ bH,am _ _ bW,am _ _ cA];clear ah am bH bW cA;refine cI 8 f15 rfl ?_;go_wp2_with fail;refine ht.mono ?_;rintro e w1 ⟨X,rfl,hT⟩;have ls:=zH (sM.act hX.out zS.out tU.out hT);clear hT ht;go_wp2_with fail;exact hK _ _ _ ⟨⟨rfl,rfl,rfl,rfl,rfl⟩,ls.out⟩
theorem Yk(hS:sM w0 ga GI [(p6,D6),(p5,yW),(p4,tO),(p,De 10)] wx)(hl:WN l ga p4 p5 p6)(hH:∀w',Below w0.heap.size w0 w'->H (.returned (.bool true)) w'):tP 9 f15 H l wx:=by
 obtain⟨aa,v,hR,hX,_,tU⟩:=hS;have h6:=hX (p6,D6) (by simp);have h5:=hX (p5,yW) (by simp);have h4:=hX (p4,tO) (by simp);have aE:=sk hR (by have:=M0.trk;omega);have Km:GI.role=3:=Q8;unfold uF at aE;rw[Km]at aE;obtain⟨A,c4,y0,y2,y3,y8⟩:=TA h4;have N3:∀(a b c d e f:Int) (w:World),(Instr.field 84 (.agg #[.int .i64 3,.int .i64 a,.int .i64 b,.int .i64 c,.int .i64 d,.int .i64 e,.int .i64 f]) 0).run prog w=.ok (.int .i64 3) w:=fun _ _ _ _ _ _ _=>by kernel_rfl
 replace hH:=zH hH;clear hR hX Km;obtain⟨ah,bH,bW,cA,fP⟩:=hl;obtain⟨fr,rfl,am⟩:=an ah;rw[jU,am _ _ bH,am _ _ bW,am _ _ cA,am _ _ fP];clear ah am bH bW cA fP;refine F0 9 f15 rfl ?_;go_wp2_with fail;refine aE.mono ?_;rintro e w1 ⟨rfl,bs⟩;have VZ:=zH (ab tU bs zl);obtain⟨A5,d5,q5,c5,N1,r4,r8,r7⟩:=Tg (h5.below bs);obtain⟨q6,c6,hc6,s5,s0⟩:=TT (h6.below bs);clear aE h4 h5 h6 bs tU y0 y2 y3 y8;go_wp2_with fail;exact hH.out _ VZ.out
theorem uy:Calls prog 15 #[] wx fun e w'=>e=.returned (.bool true)/\Below wx.heap.size wx w':=by
 refine cP (args:=[]) 100 func15 (by kernel_rfl) ntmps15 (by simp) fun la jO fD=>?_
 refine aK (by kernel_rfl) (Y4 jO fun l0 jq=>?_);refine aK (by kernel_rfl) (XL jq fun l1 ga w1 h1=>?_);obtain⟨cy,AE⟩:=h1;refine aK (by kernel_rfl) (WV cy fun l2 dM=>?_);refine aK (by kernel_rfl) (XG dM fun l3 w3 h3=>?_);obtain⟨kr,rfl⟩:=h3;have iT:sM wx ga sB [(w1.heap.size,dZ)] (w1.alloc (.cells bZ 49)):=by
  obtain⟨aa,v,hR,_,zS,tU⟩:=AE;have hb:Below w1.heap.size w1 (w1.alloc (.cells bZ 49)):=zb.alloc zl _;refine⟨_,v,hR.fresh' 30 hb,fun z hz=>?_,fun j hj=>(ac (Nat.lt_of_lt_of_le hj tU.size)).trans (zS j hj),ab tU hb zl⟩;rcases List.mem_cons.1 hz with rfl|hz
  ·exact⟨lw,jw.zero _ _ _,ar.new _ _ _,ay zl⟩
  ·cases hz
 refine aK (by kernel_rfl) (ZL iT kr fun l4 w4 h4=>?_);obtain⟨nG,AI⟩:=h4;refine aK (by kernel_rfl) (Yt AI nG fun l5 oA=>?_);refine aK (by kernel_rfl) (W5 AI oA fun l6 p4 w6 h6=>?_);refine aK (by kernel_rfl) (Zu h6.2 h6.1 fun l7 p5 w7 h7=>?_);refine aK (by kernel_rfl) (Yb h7.2 h7.1 fun l8 p6 w8 h8=>?_);exact Yk h8.2 h8.1 fun _ hb=>⟨rfl,hb⟩
end
theorem Fs{id n:Int}{s:qm}{R:Rf}(h:Rf.new id n s=some R)(he:s.entries.length<=30):fN 31 R:=by
 by_cases hm:jT id n s
 ·have h1:=hm.1;have h2:=hm.2.1;obtain⟨N,rfl⟩:∃N:Nat,n=N:=⟨n.toNat,by omega⟩;obtain⟨I,rfl⟩:∃I:Nat,id=I:=⟨id.toNat,by omega⟩;obtain⟨p,hp⟩:=zN (bB.takeF (bB.mk s.snap.idx s.snap.term []) s.snap.idx s.snap.term (s.entries.filter fun x=>decide (s.snap.idx<x.idx)));have e:=wY hm hp;rw[e]at h;have h3:=yT hm hp;have h4:=DS hm p.2;split at h
  ·cases h
  ·injection h with h;subst h;exact⟨h3.1.mono (by omega) zl,h3.2,h4⟩
 ·rw[tl hm]at h;cases h
def Im(z:Ac×As):List Value:=(km z.1 z.2).toList
theorem qP(z:Ac×As):(Im z).length=20:=rfl
structure oL(aa:Nat->Nat)(q:Nat)(w:World)(A:Option Addr)(m:Nat)(zs:List (Ac×As)):Prop where
 r:cn w 20 A m (zs.flatMap Im)
 a:0<m->∀ad,A=some ad->aa ad.block=q
 h:∀z∈zs,o8 aa q w z.1 z.2
def playL(zs:List (Ac×As))(R:Rf):Rf:=zs.foldl (fun R z=>z.1.cut.play R) R
section
variable {aa ak:Nat->Nat}{w w' w1 w2:World}{b c q ga gb m:Nat}{A:Option Addr}{zs:List (Ac×As)}{R:Rf}{v:Rw}
theorem oL.len(h:oL aa q w A m zs):zs.length=m:=by
 have h1:=h.r.1;rw[fv qP]at h1;omega
theorem cK.acts(hk:cK q aa ak w w')(h:oL aa q w A m zs):oL ak q w' A m zs:=
 ⟨cn.stay (S:=fun j=>aa j=q) h.r (fun h0 ad e=>h.a h0 ad e) fun j hj hl=>(hk.stay j hl fun hn=>hn hj).2,
  fun h0 ad e=>(hk.stay _ (cn.lt h.r h0 (by omega) e) fun hn=>hn (h.a h0 ad e)).1.trans (h.a h0 ad e),fun z hz=>hk.act (h.h z hz)⟩
theorem oL.at_(h:oL aa q w A m zs){k:Nat}(hk:k<m):∃ad z,A=some ad/\zs[k]?=some z/\o8 aa q w z.1 z.2/\(ad.add (k*20)).block<w.heap.size/\
  (∀u,(Im z)[0]?=some u->w.cell? (ad.add (k*20))=some u)/\∀i u,0<i->i<20->(Im z)[i]?=some u->w.cell? ⟨(ad.add (k*20)).block,(ad.add (k*20)).off+i,none⟩=some u:=by
 have hl:=h.len;obtain⟨ad,e,hc⟩:=h.r.2 (by omega);have hz:zs[k]?=some (zs[k]'(by omega)):=List.getElem?_eq_getElem (by omega);have key:∀i u,i<20->(Im (zs[k]'(by omega)))[i]?=some u->w.cell? (ad.add (k*20+i))=some u:=fun i u hi hu=>hc _ _ ((eo qP hi hz).trans hu)
 refine⟨ad,zs[k]'(by omega),e,hz,h.h _ (List.getElem_mem _),(show(ad.add (k*20)).block=ad.block by unfold Addr.add;split <;> rfl)▸cn.lt h.r (by omega) (by omega) e,fun u hu=>key 0 u (by omega) hu,fun i u h0 hi hu=>?_⟩;have h2:=key i u hi hu;rw[<-gY,ml _ _ (by omega)]at h2;exact h2
theorem Cf{k:Nat}{z:Ac×As}(hz:zs[k]?=some z):playL (zs.take (k+1)) R=z.1.cut.play (playL (zs.take k) R):=by
 unfold playL;rw[List.take_add_one,hz,List.foldl_append];rfl
theorem fN.playL{K:Nat}(hf:fN K R)(hK:1<=K):∀zs:List (Ac×As),fN (K+11*zs.length) (Go.Proofs.YtjcninheccmpoaaGreat.playL zs R):=by
 intro zs;induction zs generalizing R K with
 | nil=>exact hf.mono (by simp)
 | cons z zs ih=>
  have h:=ih (hf.play hK z.1.cut) (by omega);exact h.mono (by simp;omega)
def Dj(aa:Nat->Nat)(b c B:Nat)(j:Nat):Nat:=if b<aa j/\aa j<=b+13 then aa j else if j<B then aa j else c+10
theorem Fu{B j:Nat}(h:j<B):Dj aa b c B j=aa j:=by
 unfold Dj;split
 ·rfl
 ·first|rfl|rw[if_pos h]
theorem Ew{B:Nat}(h:ax aa b w ga R v):ax (Dj aa b c B) b w ga R v:=h.relabel fun j _ hm=>if_pos hm
theorem EE{B:Nat}(hs:qO b c q)(h0:∀j,j<B->aa j=q\/aa j=c+10)(j:Nat):¬aT (Dj aa b c B) c j:=by
 unfold aT Dj;have:=hs.1;have:=hs.2;split
 ·omega
 ·split
  ·rename_i hj;have:=h0 j hj;omega
  ·omega
theorem FT{id n:Int}{s:qm}(hs:qO b c q){pa:Option Addr}(h1:mu aa b w (Rf.new id n s) (.returned (.pointer pa)) w1) :
  (Rf.new id n s=none/\pa=none/\cK q aa aa w w1)\/∃R g ag v,Rf.new id n s=some R/\pa=some ⟨g,0,none⟩/\ax ag b w1 g R v/\aM (fun _=>False) aa ag w w1/\((∀j,j<w.heap.size->aa j=q\/aa j=c+10)->∀j,¬aT ag c j):=by
 obtain⟨hb,⟨h2,h3⟩|⟨R,g,ag,v,h2,h3,h4,h5,_⟩⟩:=h1
 ·injection h3 with h3;injection h3 with h3;exact .inl ⟨h2,h3,(aM.same aa hb).keeps q fun _ _ _ hf=>hf⟩
 ·injection h3 with h3;injection h3 with h3;refine .inr ⟨R,g,Dj ag b c w.heap.size,v,h2,h3,Ew h4,⟨hb.size,fun j hj _=>⟨(Fu hj).trans (h5 j hj),hb.block j hj⟩,hb.os,hb.tape,hb.output⟩,fun h0 j=>EE hs (fun j hj=>?_) j⟩;rw[h5 j hj];exact h0 j hj
end
def R7(l:List Value)(id n:Int)(AL:Option Addr)(m k bx:Nat):Prop:=l.length=59/\l[0]?=some (.int .i64 id)/\l[1]?=some (.int .i64 n)/\l[3]?=some (.slice AL m k)/\l[6]?=some (.pointer (some ⟨bx,0,none⟩))
def Vy(l:List Value)(id n:Int)(AL:Option Addr)(m k bx:Nat)(u:Value):Prop:=l.length=59/\l[0]?=some (.int .i64 id)/\l[1]?=some (.int .i64 n)/\l[3]?=some (.slice AL m k)/\l[6]?=some (.pointer (some ⟨bx,0,none⟩))/\l[9]?=some u
def SY(l:List Value)(AL:Option Addr)(m k:Nat)(u v:Value)(x:Bool):Prop:=l.length=59/\l[3]?=some (.slice AL m k)/\l[9]?=some u/\l[10]?=some v/\l[11]?=some (.bool x)
def WD(l:List Value)(AL:Option Addr)(m k:Nat)(u v:Value):Prop:=l.length=59/\l[3]?=some (.slice AL m k)/\l[9]?=some u/\l[10]?=some v/\l[12]?=some (.bool true)
def It(l:List Value)(AL:Option Addr)(m k:Nat)(u v:Value):Prop:=l.length=59/\l[3]?=some (.slice AL m k)/\l[9]?=some u/\l[10]?=some v
section
variable {bx m k m1 c1 md cd b c q ga gb:Nat}{id n:Int}{AL A1 Ad:Option Addr}{wx w':World}{K:Act->World->Prop}{Q':Exit->Act->World->Prop}{l:List Value}{s:qm}{H:Ending->World->Prop}{aa:Nat->Nat}{R:Rf}{zs:List (Ac×As)}{u v:Value}{x:Bool}
theorem Y9(hl:l.length=59/\l[0]?=some (.int .i64 id)/\l[1]?=some (.int .i64 n)/\l[3]?=some (.slice AL m k)/\l[2]?=some (.agg (eT s Ad A1 md cd m1 c1)))(hK:∀l':List Value,R7 l' id n AL m k wx.heap.size->K ⟨l'.toArray,[]⟩ (wx.alloc (.cells (eT s Ad A1 md cd m1 c1) 29))):sQ 0 f4 K Q' l wx:=by
 have dM:l.length=59/\l[0]?=some (.int .i64 id)/\l[1]?=some (.int .i64 n)/\l[2]?=some (.agg (eT s Ad A1 md cd m1 c1))/\l[3]?=some (.slice AL m k):=⟨hl.1,hl.2.1,hl.2.2.1,hl.2.2.2.2,hl.2.2.2.1⟩;clear hl;unfold eT at *;obtain⟨ah,aS,bH,fY,be⟩:=dM;obtain⟨fr,rfl,am⟩:=an ah;rw[ll,am _ _ aS,am _ _ bH,am _ _ fY,am _ _ be];clear ah am aS bH fY be;refine cI 0 f4 rfl ?_;go_wp2_with fail;exact⟨rfl,rfl,rfl,rfl,rfl⟩
theorem Xm(hb:ar wx bx 29 (eT s Ad A1 md cd m1 c1))(hm:m1<=c1)(hd:md<=cd)(hl:R7 l id n AL m k bx)(hK:∀(l':List Value) (w':World),R7 l' id n AL m k bx/\ar w' bx 29 (eT s Ad A1 (min md 2000) cd (min m1 30) c1)/\Fr (fun j=>j=bx) wx w'->K ⟨l'.toArray,[]⟩ w'):sP 1 f4 K H l wx:=by
 have Ll:=Jf (wx:=wx) (s:=s) (A1:=A1) (Ad:=Ad) hm hd;unfold eT at Ll;obtain⟨y0,y1,y2,y3,y4,y5,-⟩:=hb.cs [0,1,2,3,4,5];simp only[eT,vi,Zx]at y0 y1 y2 y3 y4 y5;replace hb:=zH hb;clear hm hd;obtain⟨ah,aS,bH,be,fP⟩:=hl;obtain⟨fr,rfl,am⟩:=an ah;rw[ll,am _ _ aS,am _ _ bH,am _ _ be,am _ _ fP];clear ah am aS bH be fP;refine cI 1 f4 rfl ?_;go_wp2_with fail;refine Ll.mono ?_;rintro e w1 ⟨rfl,bs⟩;have hk:=hb.out.kept bs;obtain⟨z0,z1,z2,z3,z4,z5,-⟩:=hk.cs [0,1,2,3,4,5];simp only[eT,vi,Zx]at z0 z1 z2 z3 z4 z5;obtain⟨f0,f1,f2,f3,f4,f5,-⟩:=hk.fs [0,1,2,3,4,5];have OT:=hk.lt;obtain⟨mn,Oo⟩:=zN (min m1 30);obtain⟨dn,Vd⟩:=zN (min md 2000);rw[Oo,Vd]at hK ⊢;obtain⟨wE,dk⟩:=zN (((((((w1.setCell ⟨bx,0,none⟩ (.int .i64 s.hard.term)).setCell ⟨bx,1,none⟩ (.int .i64 s.hard.vote)).setCell ⟨bx,2,none⟩ (.int .i64 s.snap.idx)).setCell ⟨bx,3,none⟩ (.int .i64 s.snap.term)).setCell ⟨bx,4,none⟩ (.slice Ad dn cd)).setCell ⟨bx,5,none⟩ (.slice A1 mn c1)));have hF:Fr (fun j=>j=bx) w1 wE:=by
  rw[<-dk];have e:∀{a b:World},Fr (fun j=>j=bx) w1 a->Fr (fun j=>j=bx) a b->Fr (fun j=>j=bx) w1 b:=fun h h'=>h.trans h' fun _ h=>.inl h
  exact e (e (e (e (e (Fr.set bx 0 _) (Fr.set bx 1 _)) (Fr.set bx 2 _)) (Fr.set bx 3 _)) (Fr.set bx 4 _)) (Fr.set bx 5 _)
 have hB:ar wE bx 29 (eT s Ad A1 dn cd mn c1):=by
  rw[<-dk];exact(((((hk.set_ 0 _).set_ 1 _).set_ 2 _).set_ 3 _).set_ 4 _).set_ 5 _
 have S9:Fr (fun j=>j=bx) wx wE:=(Fr.of_below bs).trans hF fun _ h=>.inl h
 replace dk:=zH dk;replace hB:=zH hB;replace S9:=zH S9;replace Oo:=zH Oo;replace Vd:=zH Vd;clear Ll bs hk hF y0 y1 y2 y3 y4 y5;go_wp2_with fail;rw[dk.out];exact⟨⟨rfl,rfl,rfl,rfl,rfl⟩,hB.out,S9.out⟩
theorem Yo(hb:ar wx bx 29 (eT s Ad A1 md cd m1 c1))(hE:cN aa q wx (.slice A1 m1 c1) s.entries)(hD:bM aa q wx (.slice Ad md cd) s.snap.data)(hq:q<=b\/b+13<q)(qy:m1<=100000)(lD:s.snap.data.length=md)(gT:∀j,j<wx.heap.size->¬bv aa b j)(hl:R7 l id n AL m k bx)(hK:∀(l':List Value) (pa:Option Addr) (w':World),Vy l' id n AL m k bx (.pointer pa)/\mu aa b wx (Rf.new id n s) (.returned (.pointer pa)) w'->K ⟨l'.toArray,[]⟩ w'):sP 2 f4 K H l wx:=by
 have hn:=C4 b q id n s Ad A1 md cd m1 c1 hE hD hq qy lD gT;obtain⟨y0,y1,y2,y3,y4,y5,-⟩:=hb.cs [0,1,2,3,4,5];simp only[eT,vi,Zx]at y0 y1 y2 y3 y4 y5;clear hb hE hD hq qy lD gT;obtain⟨ah,aS,bH,be,fP⟩:=hl;obtain⟨fr,rfl,am⟩:=an ah;rw[ll,am _ _ aS,am _ _ bH,am _ _ be,am _ _ fP];clear ah am aS bH be fP;refine cI 2 f4 rfl ?_;go_wp2_with fail;refine hn.mono ?_;rintro e w1 ⟨bs,h1⟩;obtain⟨pa,Yc⟩:∃pa,e=.returned (.pointer pa):=by
  rcases h1 with⟨_,h2⟩|⟨R,g,ag,v,_,h2,_⟩
  ·exact⟨_,h2⟩
  ·exact⟨_,h2⟩
 subst Yc;have hP:=zH (show mu aa b wx (Rf.new id n s) (.returned (.pointer pa)) w1 from⟨bs,h1⟩);clear hn bs h1;go_wp2_with fail;exact hK _ pa _ ⟨⟨rfl,rfl,rfl,rfl,rfl,rfl⟩,hP.out⟩
theorem WG(hb:ar wx bx 29 (eT s Ad A1 md cd m1 c1))(ha:aL c q)(hE:cN aa q wx (.slice A1 m1 c1) s.entries)(hD:bM aa q wx (.slice Ad md cd) s.snap.data)(qy:m1<=100000)(lD:s.snap.data.length=md)(gT:∀j,j<wx.heap.size->¬aT aa c j)(hl:Vy l id n AL m k bx u)(hK:∀(l':List Value) (pb:Option Addr) (x:Bool) (w':World),SY l' AL m k u (.pointer pb) x/\oF aa c q wx (Rf.new id n s) (.returned (.tuple #[.pointer pb,.bool x])) w'->K ⟨l'.toArray,[]⟩ w'):sP 3 f4 K H l wx:=by
 have hn:=FW id n ha hE hD qy lD gT;unfold eT at hn;obtain⟨y0,y1,y2,y3,y4,y5,-⟩:=hb.cs [0,1,2,3,4,5];simp only[eT,vi,Zx]at y0 y1 y2 y3 y4 y5;clear hb hE hD ha qy lD gT;obtain⟨ah,aS,bH,be,fP,gl⟩:=hl;obtain⟨fr,rfl,am⟩:=an ah;rw[ll,am _ _ aS,am _ _ bH,am _ _ be,am _ _ fP,am _ _ gl];clear ah am aS bH be fP gl;refine cI 3 f4 rfl ?_;go_wp2_with fail;refine hn.mono ?_;rintro e w1 ⟨bs,h1⟩;obtain⟨pb,x,ZN⟩:∃pb x,e=.returned (.tuple #[.pointer pb,.bool x]):=by
  rcases h1 with⟨_,p,h2⟩|⟨R,g,ag,v,_,h2,_⟩
  ·exact⟨_,_,h2⟩
  ·exact⟨_,_,h2⟩
 subst ZN;have hP:=zH (show oF aa c q wx (Rf.new id n s) (.returned (.tuple #[.pointer pb,.bool x])) w1 from⟨bs,h1⟩);clear hn bs h1;go_wp2_with fail;exact hK _ pb x _ ⟨⟨rfl,rfl,rfl,rfl,rfl⟩,hP.out⟩
theorem MW(hl:SY l AL m k (.pointer none) v false)(hK:∀l':List Value,It l' AL m k (.pointer none) v->K ⟨l'.toArray,[]⟩ wx):sP 4 f4 K H l wx:=by
 obtain⟨ah,be,gl,eR,sF⟩:=hl;obtain⟨fr,rfl,am⟩:=an ah;rw[ll,am _ _ be,am _ _ gl,am _ _ eR,am _ _ sF];clear ah am be gl eR sF;refine cI 4 f4 rfl ?_;go_wp2_with fail;exact⟨rfl,rfl,rfl,rfl⟩
theorem Jn(hl:SY l AL m k (.pointer (some ⟨ga,0,none⟩)) v true)(hK:∀l':List Value,It l' AL m k (.pointer (some ⟨ga,0,none⟩)) v->K ⟨l'.toArray,[]⟩ wx):sP 4 f4 K H l wx:=by
 obtain⟨ah,be,gl,eR,sF⟩:=hl;obtain⟨fr,rfl,am⟩:=an ah;rw[ll,am _ _ be,am _ _ gl,am _ _ eR,am _ _ sF];clear ah am be gl eR sF;refine cI 4 f4 rfl ?_;go_wp2_with fail;exact⟨rfl,rfl,rfl,rfl⟩
theorem Ma(hl:It l AL m k (.pointer none) v)(hH:∀w',Below wx.heap.size wx w'->H (.returned (.bool true)) w'):sP 5 f4 K H l wx:=by
 have Uq:=uy (wx:=wx);replace hH:=zH hH;obtain⟨ah,be,gl,eR⟩:=hl;obtain⟨fr,rfl,am⟩:=an ah;rw[ll,am _ _ be,am _ _ gl,am _ _ eR];clear ah am be gl eR;refine cI 5 f4 rfl ?_;go_wp2_with fail;refine Uq.mono ?_;rintro e w1 ⟨rfl,jZ⟩;replace jZ:=zH jZ;go_wp2_with fail;exact hH.out _ jZ.out
theorem IP(hl:It l AL m k (.pointer (some ⟨ga,0,none⟩)) v)(hK:∀l':List Value,It l' AL m k (.pointer (some ⟨ga,0,none⟩)) v->K ⟨l'.toArray,[]⟩ wx):sP 5 f4 K H l wx:=by
 obtain⟨ah,be,gl,eR⟩:=hl;obtain⟨fr,rfl,am⟩:=an ah;rw[ll,am _ _ be,am _ _ gl,am _ _ eR];clear ah am be gl eR;refine cI 5 f4 rfl ?_;go_wp2_with fail;exact⟨rfl,rfl,rfl,rfl⟩
theorem Yj(hB:ii aa b c q wx ga gb R)(hN:R.track.L.length<=1000000)(hl:It l AL m k (.pointer (some ⟨ga,0,none⟩)) (.pointer (some ⟨gb,0,none⟩)))(hK:∀(l':List Value) (w':World),WD l' AL m k (.pointer (some ⟨ga,0,none⟩)) (.pointer (some ⟨gb,0,none⟩))/\Below wx.heap.size wx w'->K ⟨l'.toArray,[]⟩ w'):sP 6 f4 K H l wx:=by
 obtain⟨⟨v,h1⟩,va,h2⟩:=hB;have aE:=oR h1 h2 hN;clear h1 h2;obtain⟨ah,be,gl,eR⟩:=hl;obtain⟨fr,rfl,am⟩:=an ah;rw[ll,am _ _ be,am _ _ gl,am _ _ eR];clear ah am be gl eR;refine cI 6 f4 rfl ?_;go_wp2_with fail;refine aE.mono ?_;rintro e w1 ⟨rfl,bs⟩;replace bs:=zH bs;clear aE;go_wp2_with fail;exact⟨⟨rfl,rfl,rfl,rfl,rfl⟩,bs.out⟩
theorem Y1(hl:WD l AL m k u v)(hK:∀l':List Value,It l' AL m k u v->K ⟨l'.toArray,[]⟩ wx):sP 7 f4 K H l wx:=by
 obtain⟨ah,be,gl,eR,Qs⟩:=hl;obtain⟨fr,rfl,am⟩:=an ah;rw[ll,am _ _ be,am _ _ gl,am _ _ eR,am _ _ Qs];clear ah am be gl eR Qs;refine cI 7 f4 rfl ?_;go_wp2_with fail;exact⟨rfl,rfl,rfl,rfl⟩
theorem XT(hl:It l AL m k u v)(hH:∀w',Below wx.heap.size wx w'->H (.returned (.bool true)) w'):tP 9 f4 H l wx:=by
 have Uq:=uy (wx:=wx);replace hH:=zH hH;obtain⟨ah,be,gl,eR⟩:=hl;obtain⟨fr,rfl,am⟩:=an ah;rw[ll,am _ _ be,am _ _ gl,am _ _ eR];clear ah am be gl eR;refine F0 9 f4 rfl ?_;go_wp2_with fail;refine Uq.mono ?_;rintro e w1 ⟨rfl,jZ⟩;replace jZ:=zH jZ;go_wp2_with fail;exact hH.out _ jZ.out
end
section
variable {bx m k m1 c1 md cd b c q ga gb:Nat}{id n:Int}{AL A1 Ad:Option Addr}{wx w':World}{K:Act->World->Prop}{Q':Exit->Act->World->Prop}{l:List Value}{s:qm}{H:Ending->World->Prop}{aa:Nat->Nat}{R:Rf}{zs:List (Ac×As)}{u v:Value}{x:Bool}
theorem H4:(prog.info? 44).map (·.size)=some 20:=by kernel_rfl
theorem DX{w:World}{p:Addr}{u:Value}(h:w.cell? p=some u):p=⟨p.block,p.off,none⟩:=by
 obtain⟨pb,po,ps⟩:=p;cases ps with
 | none=>rfl
 | some s=>
  unfold World.cell? at h;split at h
  ·simp at h
  ·cases h
theorem YX(hs:qO b c q)(hf:fN 31 R)(hB:ii aa b c q wx ga gb R)(hz:oL aa q wx AL m zs)(hl:It l AL m k (.pointer (some ⟨ga,0,none⟩)) (.pointer (some ⟨gb,0,none⟩)))(VX:m<=9223372036854775807)(hK:∀(l':List Value) (w':World) (j:Nat),It l' AL m k (.pointer (some ⟨ga,0,none⟩)) (.pointer (some ⟨gb,0,none⟩))/\zt aa b c q wx ga gb (playL (zs.take j) R) w'->K ⟨l'.toArray,[]⟩ w'):sP 8 f4 K H l wx:=by
 have aE:=zH (show zt aa b c q wx ga gb R wx from⟨aa,hB,cK.refl _ _ _⟩);have xb:=hz.len;replace hz:=zH hz;replace hf:=zH hf;clear hB;obtain⟨ah,be,gl,eR⟩:=hl;obtain⟨fr,rfl,am⟩:=an ah;rw[ll,am _ _ be,am _ _ gl,am _ _ eR];clear ah am be gl eR;refine cI 8 f4 rfl ?_;go_wp2_with fail
 go_loopw [13] (fun i wr=>∃j:Nat,j<=m/\j<=60/\i=.int .i64 j/\zt aa b c q wx ga gb (playL (zs.take j) R) wr) (fun i _=>60-(intOf i).toNat)
 case atStart=>exact⟨0,Nat.zero_le _,by omega,rfl,aE.out⟩
 case round=>
  obtain⟨j,hj,WE,rfl,hD⟩:=hrel;by_cases h6:j<60
  ·by_cases aU:j<m
   ·obtain⟨ag,nR,cl⟩:=hD;obtain⟨ad,z,e,Ke,hx,jZ,fX,Pc⟩:=(cl.acts hz.out).at_ aU;have nc:=(hf.out).playL (by omega) (zs.take j);have Nr:(zs.take j).length<=60:=by rw[List.length_take];omega
    have WL:=D4 hs nc (by omega) (by omega) nR hx;have dh:=zH (Cf (R:=R) Ke);have aP:=zH (show 60-(j+1)<60-j by omega);obtain⟨pb,po,hp⟩:∃pb po,ad.add (j*20)=⟨pb,po,none⟩:=⟨_,_,DX (fX _ rfl)⟩;rw[hp]at fX;simp only[hp]at Pc;have Ut:wr.rangeAt pb po (Im z):=fun i u hu=>by
     have hi:=(List.getElem?_eq_some_iff.1 hu).1;rw[qP]at hi;rcases Nat.eq_zero_or_pos i with rfl|h0
     ·exact fX u hu
     ·exact Pc i u h0 hi hu
    have QE:Calls prog 27 #[.pointer (some ⟨ga,0,none⟩),.pointer (some ⟨gb,0,none⟩),.agg (Im z).toArray] wr fun e w'=>e=.returned (.bool true)/\zt ag b c q wr ga gb (z.1.cut.play (playL (zs.take j) R)) w':=WL
    replace cl:=zH cl;replace Ut:=zH Ut;clear nR hx fX Pc nc Nr Ke jZ WL;subst e;go_wp2_with (refine wpList_load_mid rfl 44 (.tmp 53) rfl pb po rfl (Im z) _ Ut.out underlying44 rfl H4 ?_);refine QE.mono ?_;rintro e w1 ⟨rfl,bu,xx,eb⟩;have Gk:=zH (show zt aa b c q wx ga gb (playL (zs.take (j+1)) R) w1 from⟨bu,by rw[dh.out];exact xx,cl.out.trans eb⟩);clear QE xx eb;go_wp2_with fail;exact⟨⟨j+1,aU,by omega,by go_num,Gk.out⟩,by have h9:=aP.out;simp[intOf];omega⟩
   ·obtain rfl:j=m:=by omega
    replace hD:=zH hD;go_wp2_with fail;exact hK _ _ _ ⟨⟨rfl,rfl,rfl,rfl⟩,hD.out⟩
  ·have XC:j=60:=by omega
   subst XC;replace hD:=zH hD;by_cases aU:60<m
   ·go_wp2_with fail;exact hK _ _ _ ⟨⟨rfl,rfl,rfl,rfl⟩,hD.out⟩
   ·have SA:m=60:=by omega
    subst SA;go_wp2_with fail;exact hK _ _ _ ⟨⟨rfl,rfl,rfl,rfl⟩,hD.out⟩
end
section
variable {m k m1 c1 md cd b c q:Nat}{id n:Int}{AL A1 Ad:Option Addr}{w:World}{s:qm}{zs:List (Ac×As)}{aa:Nat->Nat}
theorem plays_any(hs:qO b c q)(fG:∀j,aa j=q)(hE:cN aa q w (.slice A1 m1 c1) s.entries)(hD:bM aa q w (.slice Ad md cd) s.snap.data)(hz:oL aa q w AL m zs)(VX:m<=9223372036854775807) :
  Calls prog 4 #[.int .i64 id,.int .i64 n,.agg (eT s Ad A1 md cd m1 c1),.slice AL m k] w fun e w'=>e=.returned (.bool true)/\Below w.heap.size w w':=by
 have rl:=hs.1;have Ev:=hs.2;refine cP (args:=[.int .i64 id,.int .i64 n,.agg (eT s Ad A1 md cd m1 c1),.slice AL m k]) 59 func4 (by kernel_rfl) ntmps4 (by simp) fun la jO fD=>?_
 have bs:Below w.heap.size w (w.alloc (.cells (eT s Ad A1 md cd m1 c1) 29)):=zb.alloc zl _;have cl:=ar.new w 29 (eT s Ad A1 md cd m1 c1);refine aK (by kernel_rfl) (Y9 ⟨jO,fD 0 _ rfl,fD 1 _ rfl,fD 3 _ rfl,fD 2 _ rfl⟩ fun l0 jq=>?_);obtain⟨w1,bV⟩:=zN (w.alloc (.cells (eT s Ad A1 md cd m1 c1) 29));rw[bV]at bs cl;rw[bV];refine aK (by kernel_rfl) (Xm cl hE.len.2.1 hD.len.2.1 jq fun l1 w2 h2=>?_);obtain⟨cy,eb,di⟩:=h2;obtain⟨ag,eV⟩:=zN (ai aa w.heap.size (c+10));have nC:∀j,ag j=q\/ag j=c+10:=fun j=>by
  rw[<-eV];unfold ai;split
  ·exact .inr rfl
  ·exact .inl (fG j)
 have eK:ag w.heap.size=c+10:=by rw[<-eV];exact ay zl
 have gw:aM (fun _=>False) aa ag w w1:=by rw[<-eV];exact aM.new (c+10) aa bs
 have qr:aM (fun j=>j=w.heap.size) ag ag w1 w2:=aM.of_fr di fun _ _ hn=>⟨rfl,hn⟩
 have kE:cK q aa ag w w2:=(gw.keeps q fun _ _ _ hf=>hf).trans (qr.keeps q fun j _ e e2=>by subst e2;omega);have Cb:cN ag q w2 (.slice A1 (min m1 30) c1) s.few.entries:=(kE.ens hE).take 30;have Gk:bM ag q w2 (.slice Ad (min md 2000) cd) s.few.snap.data:=(kE.byt hD).take 2000;have su:ar w2 w.heap.size 29 (eT s.few Ad A1 (min md 2000) cd (min m1 30) c1):=eb;refine aK (by kernel_rfl) (Yo (b:=b) (aa:=ag) (q:=q) su Cb Gk (by omega) (by omega) Gk.len.1 (fun j _ hm=>by have:=nC j;unfold bv at hm;omega) cy fun l2 pa w3 h3=>?_);obtain⟨dM,lm⟩:=h3;have bS:=lm.1;have ja:=su.kept bS;rcases FT hs lm with⟨dt,rfl,Lc⟩|⟨R,g,bu,v,hR,rfl,EX,FE,am⟩
 ·have Ba:cK q ag ag w2 w3:=Lc;refine aK (by kernel_rfl) (WG ja hs.apart (Ba.ens Cb) (Ba.byt Gk) (by omega) Gk.len.1 (fun j _ hm=>by have:=nC j;unfold aT at hm;omega) dM fun l3 pb x w4 h4=>?_);obtain⟨kr,cz,⟨_,p,h5⟩|⟨R,g,cM,va,h5,_⟩⟩:=h4
  ·injection h5 with h5;injection h5 with h5;have h6:=congrArg Array.toList h5;injection h6 with _ h6;injection h6 with h6 _;injection h6 with h6;subst h6;refine aK (by kernel_rfl) (MW kr fun l4 nG=>?_);have I0:cK q aa ag w w4:=(kE.trans Ba).trans ((aM.same ag cz).keeps q fun _ _ _ hf=>hf);exact aK (by kernel_rfl) (Ma nG fun w5 cD=>⟨rfl,cK.below (I0.trans ((aM.same ag cD).keeps q fun _ _ _ hf=>hf)) fun j _=>fG j⟩)
  ·rw[dt]at h5;cases h5
 ·have Ba:cK q ag bu w2 w3:=FE.keeps q fun _ _ _ hf=>hf
  refine aK (by kernel_rfl) (WG ja hs.apart (Ba.ens Cb) (Ba.byt Gk) (by omega) Gk.len.1 (fun j _=>am (fun j _=>nC j) j) dM fun l3 pb x w4 h4=>?_);obtain⟨kr,cz,⟨h5,_⟩|⟨R',gb,cM,va,h5,h6,Xp,SR,_⟩⟩:=h4
  ·rw[hR]at h5;cases h5
  ·rw[hR]at h5;injection h5 with h5;subst h5;injection h6 with h6;injection h6 with h6;have h7:=congrArg Array.toList h6;injection h7 with h8 h7;injection h7 with h7 _;injection h7 with h7;injection h8 with h8;subst h7;subst h8;have Rn:aM (fun _=>False) bu cM w3 w4:=⟨cz.size,fun j hj _=>⟨SR j hj,cz.block j hj⟩,cz.os,cz.tape,cz.output⟩;have C6:ii cM b c q w4 g gb R:=⟨⟨v,Rn.raft (fun _ _ _ hf=>hf) EX⟩,va,Xp⟩;have hf:=Fs hR (by show(s.entries.take 30).length<=30;rw[List.length_take];omega);have XD:cK q aa cM w w4:=(kE.trans Ba).trans (Rn.keeps q fun _ _ _ hf=>hf);refine aK (by kernel_rfl) (Jn kr fun l4 nG=>?_);refine aK (by kernel_rfl) (IP nG fun l5 oA=>?_);refine aK (by kernel_rfl) (Yj C6 (by have:=hf.ok.trk;omega) oA fun l6 w5 h6=>?_);obtain⟨rf,gz⟩:=h6;refine aK (by kernel_rfl) (Y1 rf fun l7 xv=>?_);have Ij:cK q aa cM w w5:=XD.trans ((aM.same cM gz).keeps q fun _ _ _ hf=>hf);refine aK (by kernel_rfl) (YX hs hf (C6.below hs gz) (Ij.acts hz) xv VX fun l8 w8 j8 h8=>?_);obtain⟨Md,TL,_,Xk⟩:=h8;exact XT Md fun w9 my=>⟨rfl,cK.below ((Ij.trans Xk).trans ((aM.same TL my).keeps q fun _ _ _ hf=>hf)) fun j _=>fG j⟩
end
section
open Go.ChangeShapes Go.WideShapes Go.Deep
theorem i64_of_wf{z:Int}(h:(Lit.int .i64 z).wf=true):-9223372036854775808<=z/\z<=9223372036854775807:=by
 simp[Lit.wf,IntKind.min,IntKind.max,IntKind.signed,IntKind.bits]at h;omega
theorem Gd{z:Int}(h:(Lit.int .u8 z).wf=true):0<=z/\z<256:=by
 simp[Lit.wf,IntKind.min,IntKind.max,IntKind.signed,IntKind.bits]at h;omega
section
variable {H:Type}{enc:TypeId×Value->H}{P:Program}{w:World}{base:Nat}{spare:Nat->Bool}{df:Bool}
theorem oQ{t e:TypeId}{fs:Array Field}{fuel:Nat}{cs:List Value}{x:DataW H×List MemPlace}(ht:P.underlying t=some (.slice e))(he:P.underlying e=some (.struct fs))
  (gq:oneCellFields P fs=true) (hC:P.cellsOf e=fs.size) (h:DataW.trod enc P w base spare df fuel t cs=some x) :
  (cs=[.slice none 0 0]/\x=(.nil,[]))\/
  ∃(a:Addr) (len cap m:Nat) (D:Nat->DataW H) (Pl:Nat->List MemPlace),cs=[.slice (some a) len cap]/\base<=a.block/\len<=cap/\cap<=maxLen/\m=(if spare a.block then cap else len)/\
   x=(.slice ((List.range len).map D) ((List.range (m-len)).map fun j=>D (len+j)),MemPlace.row a (m*fs.size)++(List.range m).flatMap Pl)/\
   ∀i,i<m->∃(ys:List (DataW H×List MemPlace)) (n:Nat),D i=.agg (ys.map (·.1))/\Pl i=ys.flatMap (·.2)/\ys.length=fs.size/\
    ∀(j:Nat) (f:Field),fs[j]?=some f->∃(v:Value) (y:DataW H×List MemPlace),w.cell? (a.add (i*fs.size+j))=some v/\ys[j]?=some y/\DataW.trod enc P w base spare df n f.type [v]=some y:=by
 rcases open_slice ht h with h0|⟨a,len,cap,m,n,D,Pl,cu,hb,hl,hm,Cy,hx,hi⟩
 ·exact .inl h0
 ·refine .inr ⟨a,len,cap,m,D,Pl,cu,hb,hl,hm,Cy,by rw[hC]at hx;exact hx,fun i him=>?_⟩;obtain⟨cs',hc,ME⟩:=hi i him;rw[hC]at hc;obtain⟨ys,n',R8,hy,ah,xf,hf⟩:=DataW.trod_struct he ME;obtain⟨_,eB,El⟩:=World.cells?_some hc;simp only[Prod.mk.injEq]at hy;refine⟨ys,n',hy.1,hy.2,xf,fun j f hj=>?_⟩;obtain⟨ho,hk⟩:=hone_of gq j f hj;have nj:j<fs.size:=(Array.getElem?_eq_some_iff.1 hj).1;have ee:=El j nj;have hv:cs'[j]?=some (cs'[j]'(by omega)):=List.getElem?_eq_getElem (by omega);have h1:=hf j f hj;rw[ho,hk]at h1;have Pz:(cs'.drop j).take 1=[cs'[j]'(by omega)]:=by
   rw[List.drop_eq_getElem_cons (by omega)];rfl
  rw[Pz]at h1;have TG:ys[j]?=some (ys[j]'(by omega)):=List.getElem?_eq_getElem (by omega);refine⟨_,_,?_,TG,h1.trans TG⟩;rw[<-Go.Deep.add_add,ee,hv]
theorem Cw{t e:TypeId}{fuel:Nat}{v:Value}{x:DataW H×List MemPlace}(ht:P.underlying t=some (.slice e))(he:P.underlying e=some (.int .u8))(hc:P.cellsOf e=1)
  (h:DataW.trod enc P w base spare df fuel t [v]=some x):∃A n c l,v=.slice A n c/\Rd w A n l/\n<=c/\c<=maxLen:=by
 rcases open_ints ht he hc h with⟨cu,_⟩|⟨a,l,c,zs,cu,_,hl,hm,hz,_,ee,WW⟩
 ·obtain rfl:v=.slice none 0 0:=by simpa using cu
  exact⟨none,0,0,[],rfl,Rd.none_,Nat.le_refl _,Nat.zero_le _⟩
 ·obtain rfl:v=.slice (some a) l c:=by simpa using cu
  have VS:l<=zs.length:=by rw[hz];split <;> omega
  refine⟨some a,l,c,(zs.take l).map (fun z=>UInt8.ofNat z.toNat),rfl,⟨by simp;omega,fun _=>⟨a,rfl,fun j u hu=>?_⟩⟩,hl,hm⟩;simp only[List.map_map,List.getElem?_map,Option.map_eq_some_iff]at hu;obtain⟨z,iL,rfl⟩:=hu;rw[List.getElem?_take]at iL;split at iL
  ·have hj:j<zs.length:=(List.getElem?_eq_some_iff.1 iL).1;have Ke:zs.getD j 0=z:=by rw[List.getD_eq_getElem?_getD,iL];rfl
   have hw:=Gd (WW z (List.mem_of_getElem? iL));rw[ee j hj,Ke];have:((z.toNat%256:Nat):Int)=z:=by omega
   simp[vb,this]
  ·cases iL
theorem Hk{t e:TypeId}{fuel:Nat}{v:Value}{x:DataW H×List MemPlace}(ht:P.underlying t=some (.slice e))(he:P.underlying e=some (.int .i64))(hc:P.cellsOf e=1)
  (h:DataW.trod enc P w base spare df fuel t [v]=some x):∃A n c l,v=.slice A n c/\fB w A n l/\n<=c/\c<=maxLen:=by
 rcases open_ints ht he hc h with⟨cu,_⟩|⟨a,l,c,zs,cu,_,hl,hm,hz,_,ee,Yz⟩
 ·obtain rfl:v=.slice none 0 0:=by simpa using cu
  exact⟨none,0,0,[],rfl,fB.none_,Nat.le_refl _,Nat.zero_le _⟩
 ·obtain rfl:v=.slice (some a) l c:=by simpa using cu
  have VS:l<=zs.length:=by rw[hz];split <;> omega
  refine⟨some a,l,c,zs.take l,rfl,⟨by simp;omega,fun _=>⟨a,rfl,fun j u hu=>?_⟩⟩,hl,hm⟩;rw[List.getElem?_map,List.getElem?_take]at hu;split at hu
  ·have hj:j<zs.length:=by omega
   rw[List.getElem?_eq_getElem hj]at hu;have IF:=ee j hj;have Ke:zs.getD j 0=zs[j]:=by rw[List.getD_eq_getElem?_getD,List.getElem?_eq_getElem hj];rfl
   rw[IF,Ke];exact hu
  ·simp at hu
theorem Fq{t e:TypeId}{fuel:Nat}{v:Value}{x:DataW H×List MemPlace}(ht:P.underlying t=some (.slice e))(he:P.underlying e=some .string)(hc:P.cellsOf e=1)
  (h:DataW.trod enc P w base spare df fuel t [v]=some x):∃A n c l,v=.slice A n c/\wu w A n l/\n<=c/\c<=maxLen:=by
 rcases open_strings ht he hc h with⟨cu,_⟩|⟨a,l,c,zs,cu,_,hl,hm,hz,_,ee,Yz⟩
 ·obtain rfl:v=.slice none 0 0:=by simpa using cu
  exact⟨none,0,0,[],rfl,⟨rfl,fun h=>absurd h (by omega)⟩,Nat.le_refl _,Nat.zero_le _⟩
 ·obtain rfl:v=.slice (some a) l c:=by simpa using cu
  have VS:l<=zs.length:=by rw[hz];split <;> omega
  refine⟨some a,l,c,zs.take l,rfl,⟨by simp;omega,fun _=>⟨a,rfl,fun j u hu=>?_⟩⟩,hl,hm⟩;rw[List.getElem?_map,List.getElem?_take]at hu;split at hu
  ·have hj:j<zs.length:=by omega
   rw[List.getElem?_eq_getElem hj]at hu;have IF:=ee j hj;have Ke:zs.getD j ByteArray.empty=zs[j]:=by rw[List.getD_eq_getElem?_getD,List.getElem?_eq_getElem hj];rfl
   rw[IF,Ke];exact hu
  ·simp at hu
end
theorem qT{α:Type}{Q:Nat->α->Prop}(n:Nat)(h:∀i,i<n->∃x,Q i x):∃xs:List α,xs.length=n/\∀i x,xs[i]?=some x->Q i x:=by
 induction n with
 | zero=>exact⟨[],rfl,fun i x hx=>by simp at hx⟩
 | succ n ih=>
  obtain⟨xs,hl,hx⟩:=ih fun i hi=>h i (by omega)
  obtain⟨y,hy⟩:=h n (by omega);refine⟨xs++[y],by simp[hl],fun i x hi=>?_⟩;rcases Nat.lt_or_ge i n with aU|tq
  ·rw[List.getElem?_append_left (by omega)]at hi;exact hx i x hi
  ·rw[List.getElem?_append_right (by omega),hl]at hi;rcases Nat.eq_zero_or_pos (i-n)with h0|h0
   ·rw[h0]at hi;have:y=x:=by simpa using hi
    subst this;rw[show i=n by omega];exact hy
   ·rw[List.getElem?_eq_none (by simp;omega)]at hi;cases hi
theorem rb{w:World}{size n c:Nat}{A:Option Addr}{xs:List Value}(hr:cn w size A n xs)(h0:0<size)(AB:n<=c)(hc:c<=maxLen):Sl (fun j=>j<w.heap.size) w size (.slice A n c) n xs:=
 ⟨A,c,rfl,hr,AB,hc,fun hn _ e=>hr.lt hn h0 e⟩
theorem Ce{α:Type}{w:World}{a:Addr}{f:α->List Value}{k:Nat}(hk:0<k)(hf:∀z,(f z).length=k){l:List α}(h:∀(i:Nat) z,l[i]?=some z->∀j u,j<k->(f z)[j]?=some u->w.cell? (a.add (i*k+j))=some u):cn w k (some a) l.length (l.flatMap f):=by
 refine⟨fv hf l,fun _=>⟨a,rfl,fun q u hu=>?_⟩⟩;have hq:=(List.getElem?_eq_some_iff.1 hu).1;rw[fv hf]at hq;have hi:q/k<l.length:=Nat.div_lt_of_lt_mul (by rw[Nat.mul_comm];exact hq);have hz:l[q/k]?=some (l[q/k]'hi):=List.getElem?_eq_getElem hi;have hm:=Nat.mod_lt q hk;have e:q=q/k*k+q%k:=by rw[Nat.mul_comm];exact(Nat.div_add_mod q k).symm
 have h1:=eo hf hm hz;rw[<-e,hu]at h1;have:=h _ _ hz _ u hm h1.symm;rw[<-e]at this;exact this
section
variable {H:Type}{enc:TypeId×Value->H}{w:World}{base:Nat}{spare:Nat->Bool}{df:Bool}{fuel:Nat}{v:Value}{x:DataW H×List MemPlace}
theorem aY{P:Program}{e:TypeId}{fs:Array Field}{cs:List Value}{j:Nat}{f:Field}(he:P.underlying e=some (.struct fs))(hj:fs[j]?=some f)(k:Nat)(hk:P.cellsOf f.type=k)(h:DataW.trod enc P w base spare df fuel e cs=some x) :
  ∃n y,DataW.trod enc P w base spare df n f.type ((cs.drop f.offset).take k)=some y:=by
 subst hk;obtain⟨ys,n,_,_,_,xf,hf⟩:=DataW.trod_struct he h;have nj:j<fs.size:=(Array.getElem?_eq_some_iff.1 hj).1;exact⟨n,_,(hf j f hj).trans (List.getElem?_eq_getElem (by omega))⟩
theorem Eh(h:DataW.trod enc prog w base spare df fuel 193 [v]=some x):∃p,gm (fun j=>j<w.heap.size) w v p:=by
 obtain⟨A,n,c,l,rfl,hr,h1,h2⟩:=Fq underlying193 underlying9 (by kernel_rfl) h;have hr:cn w 1 A n (l.map Od):=hr;refine⟨l,?_⟩;have:=rb hr (by omega) h1 h2;have hl:=hr.1;rw[List.length_map,Nat.mul_one]at hl;unfold gm;rw[hl];exact this
theorem Dq(h:DataW.trod enc prog w base spare df fuel 76 [v]=some x):∃p,fJ (fun j=>j<w.heap.size) w v p:=by
 obtain⟨A,n,c,l,rfl,hr,h1,h2⟩:=Hk underlying76 underlying3 (by kernel_rfl) h;have hr:cn w 1 A n (l.map vi):=hr;refine⟨l,?_⟩;have:=rb hr (by omega) h1 h2;have hl:=hr.1;rw[List.length_map,Nat.mul_one]at hl;unfold fJ;rw[hl];exact this
theorem BH(h:DataW.trod enc prog w base spare df fuel 189 [v]=some x):∃ps,dS (fun j=>j<w.heap.size) w v ps:=by
 rcases open_slice underlying189 h with⟨cu,_⟩|⟨a,len,cap,m,n,D,Pl,cu,_,hl,hm,Cy,_,hi⟩
 ·obtain rfl:v=.slice none 0 0:=by simpa using cu
  exact⟨[],[],Sl.nil _ _ _,fun i p h=>by cases h⟩
 ·obtain rfl:v=.slice (some a) len cap:=by simpa using cu
  have tL:len<=m:=by rw[Cy];split <;> omega
  have hC:prog.cellsOf 193=1:=by kernel_rfl
  obtain⟨L,h1,h2⟩:=qT (Q:=fun i (y:Value×List ByteArray)=>w.cell? (a.add i)=some y.1/\gm (fun j=>j<w.heap.size) w y.1 y.2) len (fun i lC=>by
   obtain⟨cs',hc,ht⟩:=hi i (by omega);rw[hC]at hc;obtain⟨_,eB,El⟩:=World.cells?_some hc;obtain⟨u,rfl⟩:∃u,cs'=[u]:=by
    match cs',eB with
    | [u],_=>exact⟨u,rfl⟩
   obtain⟨p,hp⟩:=Eh ht;have h0:=El 0 (by omega);rw[Nat.mul_one,nL]at h0;exact⟨(u,p),h0,hp⟩)
  subst h1;refine⟨L.map (·.2),L.map (·.1),?_,fun i p hp=>?_⟩
  ·rw[List.length_map];refine rb ⟨by simp,fun _=>⟨a,rfl,fun j u hu=>?_⟩⟩ (by omega) hl hm;rw[List.getElem?_map]at hu;obtain⟨y,hy,rfl⟩:=Option.map_eq_some_iff.1 hu;exact(h2 j y hy).1
  ·rw[List.getElem?_map]at hp;obtain⟨y,hy,rfl⟩:=Option.map_eq_some_iff.1 hp;exact⟨y.1,by rw[List.getElem?_map,hy];rfl,(h2 i y hy).2⟩
theorem BQ(h:DataW.trod enc prog w base spare df fuel 40 [v]=some x):∃fs,aG (fun j=>j<w.heap.size) w v fs:=by
 rcases oQ underlying40 underlying191 (by kernel_rfl) (by kernel_rfl) h with⟨cu,_⟩|⟨a,len,cap,m,D,Pl,cu,_,hl,hm,Cy,_,hi⟩
 ·obtain rfl:v=.slice none 0 0:=by simpa using cu
  exact⟨[],aG.nil _ _⟩
 ·obtain rfl:v=.slice (some a) len cap:=by simpa using cu
  have tL:len<=m:=by rw[Cy];split <;> omega
  obtain⟨L,h1,h2⟩:=qT (Q:=fun i (y:(Value×Value)×Fa)=>(∀j u,j<2->(Qk y.1)[j]?=some u->w.cell? (a.add (i*2+j))=some u)/\dS (fun j=>j<w.heap.size) w y.1.1 y.2.paths/\fJ (fun j=>j<w.heap.size) w y.1.2 y.2.vals) len (fun i lC=>by
   obtain⟨ys,n',_,_,_,Pi⟩:=hi i (by omega);obtain⟨v0,y0,fX,_,ua⟩:=Pi 0 _ rfl;obtain⟨v1,y1,gC,_,NR⟩:=Pi 1 _ rfl;obtain⟨ps,hp⟩:=BH ua;obtain⟨is,hv⟩:=Dq NR;refine⟨((v0,v1),⟨ps,is⟩),fun j u hj hu=>?_,hp,hv⟩
   match j,hj with
   | 0,_=>obtain rfl:=Option.some.inj hu;exact fX
   | 1,_=>obtain rfl:=Option.some.inj hu;exact gC)
  subst h1;refine⟨L.map (·.2),L.map (·.1),?_,by simp,fun i f hf=>?_⟩
  ·rw[List.length_map];have hr:cn w 2 (some a) (L.map (·.1)).length ((L.map (·.1)).flatMap Qk):=Ce (by omega) wJ fun i z hz=>by
    rw[List.getElem?_map]at hz;obtain⟨y,hy,rfl⟩:=Option.map_eq_some_iff.1 hz;exact(h2 i y hy).1
   rw[List.length_map]at hr;exact rb hr (by omega) hl hm
  ·rw[List.getElem?_map]at hf;obtain⟨y,hy,rfl⟩:=Option.map_eq_some_iff.1 hf;exact⟨y.1,by rw[List.getElem?_map,hy];rfl,(h2 i y hy).2⟩
theorem zZ{v0 v1 v2 v3:Value}(h:DataW.trod enc prog w base spare df fuel 42 [v0,v1,v2,v3]=some x):∃e:En,v0=vi e.op/\v1=vi e.sess/\v2=vi e.seq/\aG (fun j=>j<w.heap.size) w v3 e.facts:=by
 obtain⟨n0,y0,h0⟩:=aY (j:=0) underlying42 rfl 1 (by kernel_rfl) h;obtain⟨n1,y1,h1⟩:=aY (j:=1) underlying42 rfl 1 (by kernel_rfl) h;obtain⟨n2,y2,h2⟩:=aY (j:=2) underlying42 rfl 1 (by kernel_rfl) h;obtain⟨n3,y3,h3⟩:=aY (j:=3) underlying42 rfl 1 (by kernel_rfl) h;have h0:DataW.trod enc prog w base spare df n0 3 [v0]=some y0:=h0;have h1:DataW.trod enc prog w base spare df n1 3 [v1]=some y1:=h1;have h2:DataW.trod enc prog w base spare df n2 3 [v2]=some y2:=h2;have h3:DataW.trod enc prog w base spare df n3 40 [v3]=some y3:=h3;obtain⟨k0,e0,_,_⟩:=DataW.trod_int underlying3 h0;obtain⟨k1,e1,_,_⟩:=DataW.trod_int underlying3 h1;obtain⟨k2,e2,_,_⟩:=DataW.trod_int underlying3 h2;obtain⟨fs,WX⟩:=BQ h3;exact⟨⟨0,0,k0,k1,k2,fs⟩,by simpa[vi]using e0,by simpa[vi]using e1,by simpa[vi]using e2,WX⟩
theorem wz{A:Option Addr}{n c:Nat}(h:DataW.trod enc prog w base spare df fuel 27 [.slice A n c]=some x):∃ys,fu w A n ys/\bq (fun j=>j<w.heap.size) w ys/\n<=c/\c<=maxLen/\(0<n->∀j,az A j->j<w.heap.size):=by
 rcases open_slice underlying27 h with⟨cu,_⟩|⟨a,len,cap,m,q,D,Pl,cu,_,hl,hm,Cy,_,hi⟩
 ·simp at cu;obtain⟨rfl,rfl,rfl⟩:=cu;exact⟨[],cn.none_,fun z hz=>(by cases hz),Nat.le_refl _,Nat.zero_le _,fun h=>absurd h (by omega)⟩
 ·simp at cu;obtain⟨rfl,rfl,rfl⟩:=cu;have tL:n<=m:=by rw[Cy];split <;> omega
  have hC:prog.cellsOf 59=6:=by kernel_rfl
  obtain⟨L,h1,h2⟩:=qT (Q:=fun i (y:Value×En)=>(∀j u,j<6->(bY y)[j]?=some u->w.cell? (a.add (i*6+j))=some u)/\aG (fun j=>j<w.heap.size) w y.1 y.2.facts) n (fun i lC=>by
   obtain⟨cs',hc,ht⟩:=hi i (by omega);rw[hC]at hc;obtain⟨_,eB,El⟩:=World.cells?_some hc;obtain⟨v0,v1,v2,v3,v4,v5,rfl⟩:∃v0 v1 v2 v3 v4 v5,cs'=[v0,v1,v2,v3,v4,v5]:=by
    match cs',eB with
    | [v0,v1,v2,v3,v4,v5],_=>exact⟨v0,v1,v2,v3,v4,v5,rfl⟩
   obtain⟨n0,y0,h0⟩:=aY (j:=0) underlying59 rfl 1 (by kernel_rfl) ht;obtain⟨n1,y1,h1⟩:=aY (j:=1) underlying59 rfl 1 (by kernel_rfl) ht;obtain⟨n2,y2,h2⟩:=aY (j:=2) underlying59 rfl 4 (by kernel_rfl) ht;have h0:DataW.trod enc prog w base spare df n0 3 [v0]=some y0:=h0;have h1:DataW.trod enc prog w base spare df n1 3 [v1]=some y1:=h1;have h2:DataW.trod enc prog w base spare df n2 42 [v2,v3,v4,v5]=some y2:=h2;obtain⟨k0,e0,_,_⟩:=DataW.trod_int underlying3 h0;obtain⟨k1,e1,_,_⟩:=DataW.trod_int underlying3 h1;obtain⟨e,e2,e3,e4,hf⟩:=zZ h2;obtain rfl:v0=.int .i64 k0:=by simpa using e0
   obtain rfl:v1=.int .i64 k1:=by simpa using e1
   subst e2;subst e3;subst e4;refine⟨(v5,⟨k0,k1,e.op,e.sess,e.seq,e.facts⟩),fun j u hj hu=>?_,hf⟩;have hh:=El j hj;rw[Go.Deep.add_add]at hh;exact hh.trans hu)
  refine⟨L,by have:=Ce (k:=6) (by omega) fj fun i z hz=>(h2 i z hz).1;rw[h1]at this;exact this,fun z hz=>?_,hl,hm,fun h0 j hj=>?_⟩
  ·obtain⟨i,NM,rfl⟩:=List.getElem_of_mem hz;exact(h2 i _ (List.getElem?_eq_getElem NM)).2
  ·obtain⟨ad,e,rfl⟩:=hj;injection e with e;subst e;have:=aw ((h2 0 _ (List.getElem?_eq_getElem (by omega))).1 0 _ (by omega) rfl)
   rwa [dJ]at this
theorem xV{q:Nat}{v:Value}(h:DataW.trod enc prog w base spare df fuel 27 [v]=some x):∃A n c L,v=.slice A n c/\cN (fun _=>q) q w (.slice A n c) L:=by
 obtain⟨A,n,c,rfl⟩:∃A n c,v=.slice A n c:=by
  rcases open_slice underlying27 h with⟨cu,_⟩|⟨a,len,cap,m,q,D,Pl,cu,_⟩
  ·exact⟨none,0,0,by simpa using cu⟩
  ·exact⟨_,_,_,by simpa using cu⟩
 obtain⟨ys,g1,g2,g3,g4,g5⟩:=wz h;exact⟨A,n,c,ys.map (·.2),rfl,A,n,c,ys,rfl,g1,g2.mono fun _ _ _=>rfl,rfl,g3,g4,fun _ _ _=>rfl⟩
theorem rW{q:Nat}{v:Value}(h:DataW.trod enc prog w base spare df fuel 24 [v]=some x):∃A n c l,v=.slice A n c/\bM (fun _=>q) q w (.slice A n c) l:=by
 obtain⟨A,n,c,l,rfl,h1,h2,h3⟩:=Cw underlying24 underlying5 (by kernel_rfl) h;have hl:=h1.len;exact⟨A,n,c,l,rfl,A,c,by rw[hl],by rw[hl];exact h1,by omega,h3,fun _ _ _=>rfl⟩
theorem BF{q:Nat}{v0 v1 v2 v3 v4 v5:Value}(h:DataW.trod enc prog w base spare df fuel 29 [v0,v1,v2,v3,v4,v5]=some x):∃(s:qm) (Ad A1:Option Addr) (md cd m1 c1:Nat),#[v0,v1,v2,v3,v4,v5]=eT s Ad A1 md cd m1 c1/\cN (fun _=>q) q w (.slice A1 m1 c1) s.entries/\bM (fun _=>q) q w (.slice Ad md cd) s.snap.data:=by
 obtain⟨n0,y0,h0⟩:=aY (j:=0) underlying29 rfl 2 (by kernel_rfl) h;obtain⟨n1,y1,h1⟩:=aY (j:=1) underlying29 rfl 3 (by kernel_rfl) h;obtain⟨n2,y2,h2⟩:=aY (j:=2) underlying29 rfl 1 (by kernel_rfl) h;have h0:DataW.trod enc prog w base spare df n0 23 [v0,v1]=some y0:=h0;have h1:DataW.trod enc prog w base spare df n1 26 [v2,v3,v4]=some y1:=h1;have h2:DataW.trod enc prog w base spare df n2 27 [v5]=some y2:=h2;obtain⟨m0,z0,g0⟩:=aY (j:=0) underlying23 rfl 1 (by kernel_rfl) h0;obtain⟨m1,z1,g1⟩:=aY (j:=1) underlying23 rfl 1 (by kernel_rfl) h0;obtain⟨m2,z2,g2⟩:=aY (j:=0) underlying26 rfl 1 (by kernel_rfl) h1;obtain⟨m3,z3,g3⟩:=aY (j:=1) underlying26 rfl 1 (by kernel_rfl) h1;obtain⟨m4,z4,g4⟩:=aY (j:=2) underlying26 rfl 1 (by kernel_rfl) h1;have g0:DataW.trod enc prog w base spare df m0 3 [v0]=some z0:=g0;have g1:DataW.trod enc prog w base spare df m1 3 [v1]=some z1:=g1;have g2:DataW.trod enc prog w base spare df m2 3 [v2]=some z2:=g2;have g3:DataW.trod enc prog w base spare df m3 3 [v3]=some z3:=g3;have g4:DataW.trod enc prog w base spare df m4 24 [v4]=some z4:=g4;obtain⟨k0,e0,_,_⟩:=DataW.trod_int underlying3 g0;obtain⟨k1,e1,_,_⟩:=DataW.trod_int underlying3 g1;obtain⟨k2,e2,_,_⟩:=DataW.trod_int underlying3 g2;obtain⟨k3,e3,_,_⟩:=DataW.trod_int underlying3 g3;obtain⟨Ad,md,cd,l,rfl,hD⟩:=rW (q:=q) g4;obtain⟨A1,m1',c1,L,rfl,hE⟩:=xV (q:=q) h2;obtain rfl:v0=.int .i64 k0:=by simpa using e0
 obtain rfl:v1=.int .i64 k1:=by simpa using e1
 obtain rfl:v2=.int .i64 k2:=by simpa using e2
 obtain rfl:v3=.int .i64 k3:=by simpa using e3
 exact⟨⟨⟨k0,k1⟩,⟨k2,k3,l⟩,L⟩,Ad,A1,md,cd,m1',c1,rfl,hE,hD⟩
theorem BI{v:Value}(h:DataW.trod enc prog w base spare df fuel 4 [v]=some x):∃b,v=.bool b:=by
 obtain⟨b,e,_⟩:=DataW.trod_bool underlying4 h;exact⟨b,by simpa using e⟩
theorem GP{q:Nat}{v0 v1 v2 v3 v4 v5 v6 v7 v8 v9 v10 v11 v12:Value}(h:DataW.trod enc prog w base spare df fuel 39 [v0,v1,v2,v3,v4,v5,v6,v7,v8,v9,v10,v11,v12]=some x):∃(m:Mg) (A1 A2:Option Addr) (n1 c1 n2 c2:Nat),[v0,v1,v2,v3,v4,v5,v6,v7,v8,v9,v10,v11,v12]=[.int .i64 m.kind,.int .i64 m.frm,.int .i64 m.tgt,.int .i64 m.term,.int .i64 m.idx,.int .i64 m.logTerm,.int .i64 m.commit,.int .i64 m.round,.bool m.reject,.int .i64 m.offset,.int .i64 m.total,.slice A1 n1 c1,.slice A2 n2 c2]/\
  cN (fun _=>q) q w (.slice A1 n1 c1) m.entries/\bM (fun _=>q) q w (.slice A2 n2 c2) m.data:=by
 obtain⟨n0,y0,h0⟩:=aY (j:=0) underlying39 rfl 1 (by kernel_rfl) h;have h0:DataW.trod enc prog w base spare df n0 3 [v0]=some y0:=h0;obtain⟨n1,y1,h1⟩:=aY (j:=1) underlying39 rfl 1 (by kernel_rfl) h;have h1:DataW.trod enc prog w base spare df n1 3 [v1]=some y1:=h1;obtain⟨n2,y2,h2⟩:=aY (j:=2) underlying39 rfl 1 (by kernel_rfl) h;have h2:DataW.trod enc prog w base spare df n2 3 [v2]=some y2:=h2;obtain⟨n3,y3,h3⟩:=aY (j:=3) underlying39 rfl 1 (by kernel_rfl) h;have h3:DataW.trod enc prog w base spare df n3 3 [v3]=some y3:=h3;obtain⟨n4,y4,h4⟩:=aY (j:=4) underlying39 rfl 1 (by kernel_rfl) h;have h4:DataW.trod enc prog w base spare df n4 3 [v4]=some y4:=h4;obtain⟨n5,y5,h5⟩:=aY (j:=5) underlying39 rfl 1 (by kernel_rfl) h;have h5:DataW.trod enc prog w base spare df n5 3 [v5]=some y5:=h5;obtain⟨n6,y6,h6⟩:=aY (j:=6) underlying39 rfl 1 (by kernel_rfl) h;have h6:DataW.trod enc prog w base spare df n6 3 [v6]=some y6:=h6;obtain⟨n7,y7,h7⟩:=aY (j:=7) underlying39 rfl 1 (by kernel_rfl) h;have h7:DataW.trod enc prog w base spare df n7 3 [v7]=some y7:=h7;obtain⟨n8,y8,h8⟩:=aY (j:=8) underlying39 rfl 1 (by kernel_rfl) h;have h8:DataW.trod enc prog w base spare df n8 4 [v8]=some y8:=h8;obtain⟨n9,y9,h9⟩:=aY (j:=9) underlying39 rfl 1 (by kernel_rfl) h;have h9:DataW.trod enc prog w base spare df n9 3 [v9]=some y9:=h9;obtain⟨n10,y10,nz⟩:=aY (j:=10) underlying39 rfl 1 (by kernel_rfl) h;have nz:DataW.trod enc prog w base spare df n10 3 [v10]=some y10:=nz;obtain⟨n11,y11,CP⟩:=aY (j:=11) underlying39 rfl 1 (by kernel_rfl) h;have CP:DataW.trod enc prog w base spare df n11 27 [v11]=some y11:=CP;obtain⟨n12,y12,HM⟩:=aY (j:=12) underlying39 rfl 1 (by kernel_rfl) h;have HM:DataW.trod enc prog w base spare df n12 24 [v12]=some y12:=HM;obtain⟨k0,e0,_,_⟩:=DataW.trod_int underlying3 h0;obtain rfl:v0=.int .i64 k0:=by simpa using e0
 obtain⟨k1,e1,_,_⟩:=DataW.trod_int underlying3 h1;obtain rfl:v1=.int .i64 k1:=by simpa using e1
 obtain⟨k2,e2,_,_⟩:=DataW.trod_int underlying3 h2;obtain rfl:v2=.int .i64 k2:=by simpa using e2
 obtain⟨k3,e3,_,_⟩:=DataW.trod_int underlying3 h3;obtain rfl:v3=.int .i64 k3:=by simpa using e3
 obtain⟨k4,e4,_,_⟩:=DataW.trod_int underlying3 h4;obtain rfl:v4=.int .i64 k4:=by simpa using e4
 obtain⟨k5,e5,_,_⟩:=DataW.trod_int underlying3 h5;obtain rfl:v5=.int .i64 k5:=by simpa using e5
 obtain⟨k6,e6,_,_⟩:=DataW.trod_int underlying3 h6;obtain rfl:v6=.int .i64 k6:=by simpa using e6
 obtain⟨k7,e7,_,_⟩:=DataW.trod_int underlying3 h7;obtain rfl:v7=.int .i64 k7:=by simpa using e7
 obtain⟨k9,e9,_,_⟩:=DataW.trod_int underlying3 h9;obtain rfl:v9=.int .i64 k9:=by simpa using e9
 obtain⟨k10,e10,_,_⟩:=DataW.trod_int underlying3 nz;obtain rfl:v10=.int .i64 k10:=by simpa using e10
 obtain⟨k8,rfl⟩:=BI h8;obtain⟨A1,n1',c1,L,rfl,hE⟩:=xV (q:=q) CP;obtain⟨A2,n2',c2,l,rfl,hD⟩:=rW (q:=q) HM;exact⟨⟨k0,k1,k2,k3,k4,k5,k6,k7,k8,k9,k10,L,l⟩,A1,A2,n1',c1,n2',c2,rfl,hE,hD⟩
theorem Jj{cs:List Value}(h:cs.length=20):∃v0 v1 v2 v3 v4 v5 v6 v7 v8 v9 v10 v11 v12 v13 v14 v15 v16 v17 v18 v19,cs=[v0,v1,v2,v3,v4,v5,v6,v7,v8,v9,v10,v11,v12,v13,v14,v15,v16,v17,v18,v19]:=by
 match cs,h with
 | [v0,v1,v2,v3,v4,v5,v6,v7,v8,v9,v10,v11,v12,v13,v14,v15,v16,v17,v18,v19],_=>exact⟨v0,v1,v2,v3,v4,v5,v6,v7,v8,v9,v10,v11,v12,v13,v14,v15,v16,v17,v18,v19,rfl⟩
theorem HR{q:Nat}{v0 v1 v2 v3 v4 v5 v6 v7 v8 v9 v10 v11 v12 v13 v14 v15 v16 v17 v18 v19:Value}(h:DataW.trod enc prog w base spare df fuel 44 [v0,v1,v2,v3,v4,v5,v6,v7,v8,v9,v10,v11,v12,v13,v14,v15,v16,v17,v18,v19]=some x):∃(z:Ac×As),[v0,v1,v2,v3,v4,v5,v6,v7,v8,v9,v10,v11,v12,v13,v14,v15,v16,v17,v18,v19]=Im z/\o8 (fun _=>q) q w z.1 z.2:=by
 obtain⟨n0,y0,h0⟩:=aY (j:=0) underlying44 rfl 1 (by kernel_rfl) h;obtain⟨n1,y1,h1⟩:=aY (j:=1) underlying44 rfl 1 (by kernel_rfl) h;obtain⟨n2,y2,h2⟩:=aY (j:=2) underlying44 rfl 13 (by kernel_rfl) h;obtain⟨n3,y3,h3⟩:=aY (j:=3) underlying44 rfl 4 (by kernel_rfl) h;obtain⟨n4,y4,h4⟩:=aY (j:=4) underlying44 rfl 1 (by kernel_rfl) h;have h0:DataW.trod enc prog w base spare df n0 3 [v0]=some y0:=h0;have h1:DataW.trod enc prog w base spare df n1 3 [v1]=some y1:=h1;have h2:DataW.trod enc prog w base spare df n2 39 [v2,v3,v4,v5,v6,v7,v8,v9,v10,v11,v12,v13,v14]=some y2:=h2;have h3:DataW.trod enc prog w base spare df n3 42 [v15,v16,v17,v18]=some y3:=h3;have h4:DataW.trod enc prog w base spare df n4 24 [v19]=some y4:=h4;obtain⟨k0,e0,_,w0⟩:=DataW.trod_int underlying3 h0;obtain⟨k1,e1,_,w1⟩:=DataW.trod_int underlying3 h1;obtain⟨m,A1,A2,n1',c1,n2',c2,em,hE,hD⟩:=GP (q:=q) h2;obtain⟨e,ec0,ec1,ec2,hf⟩:=zZ h3;obtain⟨V,m',d',hv,l1,l2,l3⟩:=hf.form;obtain⟨A3,n3',c3,l,rfl,hB⟩:=rW (q:=q) h4;obtain rfl:v0=.int .i64 k0:=by simpa using e0
 obtain rfl:v1=.int .i64 k1:=by simpa using e1
 subst ec0;subst ec1;subst ec2;obtain rfl:v18=_:=hv;simp only[List.cons.injEq,and_true]at em;obtain⟨rfl,rfl,rfl,rfl,rfl,rfl,rfl,rfl,rfl,rfl,rfl,rfl,rfl⟩:=em;exact⟨(⟨k0,k1,m,e,l⟩,⟨A1,n1',c1,A2,n2',c2,V,m',d',A3,n3',c3⟩),rfl,⟨hE,hD,hf.mono fun _ _ _=>rfl,(show m'<=maxLen by omega),hB,i64_of_wf w1,i64_of_wf w0⟩⟩
theorem open_acts{A:Option Addr}{n c:Nat}{d:DataW H}{p:List MemPlace}(h:DataW.Trod enc prog w base spare df 30 (.slice A n c) d p):∃zs,oL (fun _=>100) 100 w A n zs/\n<=maxLen:=by
 obtain⟨fuel,hf⟩:=h;rcases open_slice underlying30 hf with⟨cu,_⟩|⟨a,len,cap,m,q',D,Pl,cu,_,hl,hm,Cy,_,hi⟩
 ·simp[Value.cells]at cu;obtain⟨rfl,rfl,rfl⟩:=cu;exact⟨[],⟨cn.none_,fun h=>absurd h (by omega),fun z hz=>(by cases hz)⟩,Nat.zero_le _⟩
 ·simp[Value.cells]at cu;obtain⟨rfl,rfl,rfl⟩:=cu;have tL:n<=m:=by rw[Cy];split <;> omega
  have hC:prog.cellsOf 44=20:=by kernel_rfl
  obtain⟨L,h1,h2⟩:=qT (Q:=fun i (z:Ac×As)=>(∀j u,j<20->(Im z)[j]?=some u->w.cell? (a.add (i*20+j))=some u)/\o8 (fun _=>100) 100 w z.1 z.2) n (fun i lC=>by
   obtain⟨cs',hc,ht⟩:=hi i (by omega);rw[hC]at hc;obtain⟨_,eB,El⟩:=World.cells?_some hc;obtain⟨v0,v1,v2,v3,v4,v5,v6,v7,v8,v9,v10,v11,v12,v13,v14,v15,v16,v17,v18,v19,rfl⟩:=Jj eB;obtain⟨z,e,hz⟩:=HR (q:=100) ht;refine⟨z,fun j u hj hu=>?_,hz⟩;have hh:=El j hj;rw[Go.Deep.add_add,e]at hh;exact hh.trans hu)
  refine⟨L,⟨by have:=Ce (k:=20) (by omega) qP fun i z hz=>(h2 i z hz).1;rw[h1]at this;exact this,fun _ _ _=>rfl,fun z hz=>?_⟩,by omega⟩;obtain⟨i,NM,rfl⟩:=List.getElem_of_mem hz;exact(h2 i _ (List.getElem?_eq_getElem NM)).2
theorem DG{cs:Array Value}(h:cs.size=6):∃v0 v1 v2 v3 v4 v5,cs=#[v0,v1,v2,v3,v4,v5]:=by
 obtain⟨l⟩:=cs
 match l,h with
 | [v0,v1,v2,v3,v4,v5],_=>exact⟨v0,v1,v2,v3,v4,v5,rfl⟩
theorem open_saved_arg{b0:Nat}{r:Reach}{d:DataW H}{p:List MemPlace}(hv:Value.okWide prog w r b0 29 v)(h:DataW.Trod enc prog w base spare df 29 v d p) :
  ∃(s:qm) (Ad A1:Option Addr) (md cd m1 c1:Nat),v=.agg (eT s Ad A1 md cd m1 c1)/\cN (fun _=>100) 100 w (.slice A1 m1 c1) s.entries/\bM (fun _=>100) 100 w (.slice Ad md cd) s.snap.data:=by
 obtain⟨cs,rfl,gu⟩:=okWide_struct underlying29 hv;have hC:prog.cellsOf 29=6:=by kernel_rfl
 obtain⟨v0,v1,v2,v3,v4,v5,rfl⟩:=DG (gu.trans hC);obtain⟨fuel,hf⟩:=h;have hf:DataW.trod enc prog w base spare df fuel 29 [v0,v1,v2,v3,v4,v5]=some (d,p):=by simpa[Value.cells]using hf
 obtain⟨s,Ad,A1,md,cd,m1,c1,e,hE,hD⟩:=BF (q:=100) hf;exact⟨s,Ad,A1,md,cd,m1,c1,by rw[e],hE,hD⟩
end
end
end Go.Proofs.YtjcninheccmpoaaGreat
