import Derived.Test.YtjcninheccmpoaaGreatU12
import Derived.Deep.MidRow
import Derived.ProofKit
import Derived.OpenShut
import Derived.Deep.Slices
import Derived.Deep.Fields
import Derived.ChangeSame
import Derived.ChangeSlices
import Derived.SliceStrings
set_option maxRecDepth 100000
set_option maxHeartbeats 8000000
set_option linter.all false
namespace Go.Proofs.YtjcninheccmpoaaGreat
open Go.RowKit Go.Proofs.Tryz
def Pb(l:List Value):Prop:=l.length=100
def KH(l:List Value)(ga:Nat):Prop:=l.length=100/\l[1]?=some (.pointer (some ⟨ga,0,none⟩))
def Oi(l:List Value)(ga p:Nat):Prop:=l.length=100/\l[1]?=some (.pointer (some ⟨ga,0,none⟩))/\l[2]?=some (.pointer (some ⟨p,0,none⟩))
def SU(l:List Value)(ga p4:Nat):Prop:=l.length=100/\l[1]?=some (.pointer (some ⟨ga,0,none⟩))/\l[4]?=some (.pointer (some ⟨p4,0,none⟩))
def SV(l:List Value)(ga p4 p5:Nat):Prop:=l.length=100/\l[1]?=some (.pointer (some ⟨ga,0,none⟩))/\l[4]?=some (.pointer (some ⟨p4,0,none⟩))/\l[5]?=some (.pointer (some ⟨p5,0,none⟩))
def SW(l:List Value)(ga p4 p5 p6:Nat):Prop:=l.length=100/\l[1]?=some (.pointer (some ⟨ga,0,none⟩))/\l[4]?=some (.pointer (some ⟨p4,0,none⟩))/\l[5]?=some (.pointer (some ⟨p5,0,none⟩))/\l[6]?=some (.pointer (some ⟨p6,0,none⟩))
section
variable {ga p p4 p5 p6:Nat}{wx w' w0:World}{K:Go.Act->World->Prop}{Q':Exit->Go.Act->World->Prop}{l:List Value}{H:Ending->World->Prop}
theorem Ym(hl:Pb l)(hK:∀l':List Value,Pb l'->K ⟨l'.toArray,[]⟩ wx):sP 0 f15 K H l wx:=by
 have hl:l.length=100/\True:=⟨hl,trivial⟩;obtain⟨ab,-⟩:=hl;obtain⟨fr,rfl,ag⟩:=am ab;rw[jr];clear ab ag;refine ge (o:=IU 0 (aB f15)) rfl ?_;go_wp2_with fail;rfl
theorem Yn(hl:Pb l)(hK:∀(l':List Value) (ga:Nat) (w':World),KH l' ga/\pS wx ga qH [] w'->K ⟨l'.toArray,[]⟩ w'):sP 1 f15 K H l wx:=by
 have dR:=HN (aa:=fun _=>0) (w:=wx) 1 0 1 3 Gz none none 0 0 0 0 (da.nil _ _ _) (cT.nil _ _ _) (.inl (by omega)) (by omega) rfl (fun j _ hm=>by have h1:=hm.1;simp at h1);rw[Kp]at dR;unfold Gz Ds at dR;obtain⟨ab,-⟩:=(⟨hl,trivial⟩:l.length=100/\True);obtain⟨fr,rfl,ag⟩:=am ab;rw[jr];clear ab ag;refine ge (o:=IU 1 (aB f15)) rfl ?_;go_wp2_with fail;refine dR.mono ?_;rintro e w1 ⟨bH,h1⟩;rcases h1 with⟨h1,_⟩|⟨R,g,ac,v',h1,rfl,hR,S6,_⟩
 ·cases h1
 ·injection h1 with h1;subst h1;have hS:=zH (show pS wx g qH [] w1 from⟨ac,v',hR,(fun z hz=>by cases hz),S6,bH⟩);clear bH dR hR S6;go_wp2_with fail;exact hK _ g _ ⟨⟨rfl,rfl⟩,hS.out⟩
theorem Yo(hl:KH l ga)(hK:∀l':List Value,KH l' ga->K ⟨l'.toArray,[]⟩ wx):sP 2 f15 K H l wx:=by
 obtain⟨ab,aM⟩:=hl;obtain⟨fr,rfl,ag⟩:=am ab;rw[jr,ag _ _ aM];clear ab ag aM;refine lu 2 f15 rfl ?_;go_wp2_with fail;exact⟨rfl,rfl⟩
theorem Yp(hl:KH l ga)(hK:∀(l':List Value) (w':World),Oi l' ga wx.heap.size/\w'=wx.alloc (.cells aV 49)->K ⟨l'.toArray,[]⟩ w'):sP 3 f15 K H l wx:=by
 unfold aV at hK;obtain⟨ab,aM⟩:=hl;obtain⟨fr,rfl,ag⟩:=am ab;rw[jr,ag _ _ aM];clear ab ag aM;refine lu 3 f15 rfl ?_;go_wp2_with fail;exact⟨rfl,rfl,rfl⟩
theorem Yq(hS:pS w0 ga qH [(p,eO)] wx)(hl:Oi l ga p)(hK:∀(l':List Value) (w':World),Oi l' ga p/\pS w0 ga B8 [(p,AM 10)] w'->K ⟨l'.toArray,[]⟩ w'):sP 4 f15 K H l wx:=by
 replace hS:=zH hS;obtain⟨ab,aM,bE⟩:=hl;obtain⟨fr,rfl,ag⟩:=am ab;rw[jr,ag _ _ aM,ag _ _ bE];clear ab ag aM bE;refine lu 4 f15 rfl ?_;go_wp2_with fail
 go_loopw [3] (fun i wr=>∃k:Nat,k<=10/\i=.int .i64 k/\pS w0 ga (O5 k) [(p,AM k)] wr) (fun i _=>10-(intOf i).toNat)
 case atStart=>exact⟨0,Nat.zero_le _,rfl,hS.out⟩
 case round=>
  obtain⟨k,hk,rfl,hs⟩:=hrel;by_cases bh:k<10
  ·obtain⟨aa,v,hR,hX,vX,sc⟩:=hs;have hX:=hX _ (List.mem_cons_self ..);have cz:=(Fc k hk).mono (K':=200) (M':=0) (by omega) zl;have ht:=xA 20 0 hR cz (by omega) (by omega) (by omega) (by omega) (by omega);rw[wV k bh]at ht;have bi:=zH (show 10-(k+1)<10-k by omega);unfold aK at ht;obtain⟨X0,Ws,xN,se⟩:=id hX;have mr:=xN.free;replace hX:=zH hX;replace vX:=zH vX;replace sc:=zH sc;clear hR Ws cz xN;go_wp2_with fail;refine ht.mono ?_;rintro e w1 ⟨X,rfl,hT⟩;obtain⟨w2,eh⟩:=zN (bQ w1 p (AM (k+1)) X);have kh:=zH (pS.tick hX.out vX.out sc.out hT eh);obtain⟨X1,qf⟩:=hX.out.after hT;obtain⟨y0,y1,y2,y3,y4,y5,y6,y7,y8,-⟩:=qf.cs [0,1,2,3,4,5,6,7,8];simp only[aK,vi,Zx]at y0 y1 y2 y3 y4 y5 y6 y7 y8;obtain⟨f0,f1,f2,f3,f4,f5,f6,f7,f8,-⟩:=qf.fs [0,1,2,3,4,5,6,7,8];have jw:=qf.lt;replace eh:=zH eh;clear hT ht qf;go_wp2_with fail;exact⟨⟨k+1,bh,by go_num,by show pS _ _ _ _ (bQ w1 p (AM (k+1)) X);rw[eh.out];exact kh.out⟩,by have h9:=bi.out;simp[intOf];omega⟩
  ·obtain rfl:k=10:=by omega
   have hs:=zH hs;go_wp2_with fail;exact⟨⟨rfl,rfl,rfl⟩,hs.out⟩
theorem Yr(hS:pS w0 ga B8 [(p,AM 10)] wx)(hl:Oi l ga p)(hK:∀l':List Value,KH l' ga->K ⟨l'.toArray,[]⟩ wx):sP 5 f15 K H l wx:=by
 obtain⟨aa,v,hR,hX,_,_⟩:=hS;obtain⟨q,c,hc,y8,z0,z3,hp,hq⟩:=SG (hX _ (List.mem_cons_self ..));clear hR hX;obtain⟨ab,aM,bE⟩:=hl;obtain⟨fr,rfl,ag⟩:=am ab;rw[jr,ag _ _ aM,ag _ _ bE];clear ab ag aM bE;refine lu 5 f15 rfl ?_;go_wp2_with fail;exact⟨rfl,rfl⟩
theorem Ys(hS:pS w0 ga B8 [(p,AM 10)] wx)(hl:KH l ga)(hK:∀(l':List Value) (pn:Nat) (w':World),SU l' ga pn/\pS w0 ga ow ((pn,sw)::[(p,AM 10)]) w'->K ⟨l'.toArray,[]⟩ w'):sP 6 f15 K H l wx:=by
 obtain⟨aa,v,hR,hX,vX,sc⟩:=hS;have ht:=nL 20 O3 none none 0 0 0 0 0 hR Fd (by omega) (by omega) (by omega) (by omega) (.inl (by omega)) (da.nil _ _ _) (cT.nil _ _ _) rfl rfl;rw[N4]at ht;simp only[iw,O3,fx,vi]at ht;have hX:=zH hX;replace vX:=zH vX;replace sc:=zH sc;obtain⟨O,hO⟩:=zN (sw);rw[show(⟨true,false,⟨1,1⟩,[],[],none,[],[Gw 3 2,Gw 3 3]⟩:Ot)=sw from rfl]at ht;rw[hO]at ht hK;unfold aK at ht;clear hR;obtain⟨ab,aM⟩:=hl;obtain⟨fr,rfl,ag⟩:=am ab;rw[jr,ag _ _ aM];clear ab ag aM;refine lu 6 f15 rfl ?_;go_wp2_with fail;refine ht.mono ?_;rintro e w1 ⟨X,rfl,hT⟩;have kh:=zH (pS.act hX.out vX.out sc.out hT);clear hT ht;go_wp2_with fail;exact hK _ _ _ ⟨⟨rfl,rfl,rfl⟩,kh.out⟩
theorem Yt(hS:pS w0 ga ow [(p4,sw),(p,AM 10)] wx)(hl:SU l ga p4)(hK:∀(l':List Value) (pn:Nat) (w':World),SV l' ga p4 pn/\pS w0 ga gI ((pn,wU)::[(p4,sw),(p,AM 10)]) w'->K ⟨l'.toArray,[]⟩ w'):sP 7 f15 K H l wx:=by
 obtain⟨aa,v,hR,hX,vX,sc⟩:=hS;have ht:=nL 20 Gu none none 0 0 0 0 0 hR Fe (by omega) (by omega) (by omega) (by omega) (.inl (by omega)) (da.nil _ _ _) (cT.nil _ _ _) rfl rfl;rw[N5]at ht;simp only[iw,Gu,fx,vi]at ht;have hX:=zH hX;replace vX:=zH vX;replace sc:=zH sc;obtain⟨O,hO⟩:=zN (wU);rw[show({wS with hard:=⟨1,1⟩}:Ot)=wU from rfl]at ht;rw[hO]at ht hK;unfold aK at ht;clear hR;obtain⟨ab,aM,bc⟩:=hl;obtain⟨fr,rfl,ag⟩:=am ab;rw[jr,ag _ _ aM,ag _ _ bc];clear ab ag aM bc;refine lu 7 f15 rfl ?_;go_wp2_with fail;refine ht.mono ?_;rintro e w1 ⟨X,rfl,hT⟩;have kh:=zH (pS.act hX.out vX.out sc.out hT);clear hT ht;go_wp2_with fail;exact hK _ _ _ ⟨⟨rfl,rfl,rfl,rfl⟩,kh.out⟩
theorem Yu(hS:pS w0 ga gI [(p5,wU),(p4,sw),(p,AM 10)] wx)(hl:SV l ga p4 p5)(hK:∀(l':List Value) (pn:Nat) (w':World),SW l' ga p4 p5 pn/\pS w0 ga Fb ((pn,B7)::[(p5,wU),(p4,sw),(p,AM 10)]) w'->K ⟨l'.toArray,[]⟩ w'):sP 8 f15 K H l wx:=by
 obtain⟨aa,v,hR,hX,vX,sc⟩:=hS;have ht:=nL 20 vo none none 0 0 0 0 0 hR Ff (by omega) (by omega) (by omega) (by omega) (.inl (by omega)) (da.nil _ _ _) (cT.nil _ _ _) rfl rfl;rw[Oa]at ht;simp only[iw,vo,fx,vi]at ht;have hX:=zH hX;replace vX:=zH vX;replace sc:=zH sc;obtain⟨O,hO⟩:=zN (B7)
 skip
 rw[hO]at ht hK;unfold aK at ht;clear hR;obtain⟨ab,aM,bc,cP⟩:=hl;obtain⟨fr,rfl,ag⟩:=am ab;rw[jr,ag _ _ aM,ag _ _ bc,ag _ _ cP];clear ab ag aM bc cP;refine lu 8 f15 rfl ?_;go_wp2_with fail;refine ht.mono ?_;rintro e w1 ⟨X,rfl,hT⟩;have kh:=zH (pS.act hX.out vX.out sc.out hT);clear hT ht;go_wp2_with fail;exact hK _ _ _ ⟨⟨rfl,rfl,rfl,rfl,rfl⟩,kh.out⟩
theorem Yv(hS:pS w0 ga Fb [(p6,B7),(p5,wU),(p4,sw),(p,AM 10)] wx)(hl:SW l ga p4 p5 p6)(hH:∀w',Below w0.heap.size w0 w'->H (.returned (.bool true)) w'):tP 9 f15 H l wx:=by
 obtain⟨aa,v,hR,hX,_,sc⟩:=hS;have h6:=hX (p6,B7) (by simp);have h5:=hX (p5,wU) (by simp);have h4:=hX (p4,sw) (by simp);have bP:=mO hR (by have:=Kr.trk;omega);have AA:Fb.role=3:=N9;unfold fb at bP;rw[AA]at bP;obtain⟨A,c4,y0,y2,y3,y8⟩:=SH h4;have QP:∀(a b c d e f:Int) (w:World),(Instr.field 84 (.agg #[.int .i64 3,.int .i64 a,.int .i64 b,.int .i64 c,.int .i64 d,.int .i64 e,.int .i64 f]) 0).run prog w=.ok (.int .i64 3) w:=fun _ _ _ _ _ _ _=>by kernel_rfl
 replace hH:=zH hH;clear hR hX AA;obtain⟨ab,aM,bc,cP,bL⟩:=hl;obtain⟨fr,rfl,ag⟩:=am ab;rw[jr,ag _ _ aM,ag _ _ bc,ag _ _ cP,ag _ _ bL];clear ab ag aM bc cP bL;refine Kw 9 f15 rfl ?_;go_wp2_with fail;refine bP.mono ?_;rintro e w1 ⟨rfl,bH⟩;have Te:=zH (aj sc bH zl);obtain⟨A5,d5,q5,c5,Qy,r4,r8,r7⟩:=SI (h5.below bH);obtain⟨q6,c6,OC,s5,s0⟩:=SJ (h6.below bH);clear bP h4 h5 h6 bH sc y0 y2 y3 y8;go_wp2_with fail;exact hH.out _ Te.out
theorem th:Calls prog 15 #[] wx fun e w'=>e=.returned (.bool true)/\Below wx.heap.size wx w':=by
 refine bJ (args:=[]) 100 func15 (by kernel_rfl) ntmps15 (by simp) fun la gF cQ=>?_
 refine cK (by kernel_rfl) (Ym gF fun l0 ir=>?_);refine cK (by kernel_rfl) (Yn ir fun l1 ga w1 h1=>?_);obtain⟨dm,uT⟩:=h1;refine cK (by kernel_rfl) (Yo dm fun l2 fB=>?_);refine cK (by kernel_rfl) (Yp fB fun l3 w3 h3=>?_);obtain⟨oe,rfl⟩:=h3;have pH:pS wx ga qH [(w1.heap.size,eO)] (w1.alloc (.cells aV 49)):=by
  obtain⟨aa,v,hR,_,vX,sc⟩:=uT;have hb:Below w1.heap.size w1 (w1.alloc (.cells aV 49)):=zb.alloc zl _;refine⟨_,v,hR.fresh' 30 hb,fun z hz=>?_,fun j hj=>(ae (Nat.lt_of_lt_of_le hj sc.size)).trans (vX j hj),aj sc hb zl⟩;rcases List.mem_cons.1 hz with rfl|hz
  ·exact⟨kv,fd.zero _ _ _,ay.new _ _ _,aA zl⟩
  ·cases hz
 refine cK (by kernel_rfl) (Yq pH oe fun l4 w4 h4=>?_);obtain⟨px,Dd⟩:=h4;refine cK (by kernel_rfl) (Yr Dd px fun l5 na=>?_);refine cK (by kernel_rfl) (Ys Dd na fun l6 p4 w6 h6=>?_);refine cK (by kernel_rfl) (Yt h6.2 h6.1 fun l7 p5 w7 h7=>?_);refine cK (by kernel_rfl) (Yu h7.2 h7.1 fun l8 p6 w8 h8=>?_);exact Yv h8.2 h8.1 fun _ hb=>⟨rfl,hb⟩
end
theorem CG{w:World}{p:Addr}{u:Value}(h:w.cell? p=some u):p=⟨p.block,p.off,none⟩:=by
 obtain⟨pb,po,ps⟩:=p;cases ps with
 | none=>rfl
 | some s=>
  unfold World.cell? at h;split at h
  ·simp at h
  ·cases h
theorem DP:(prog.info? 89).map (·.size)=some 8:=by kernel_rfl
def H6(z:xG×(Option Addr×Nat×Nat)):List Value:=(tN z.1 z.2.1 z.2.2.1 z.2.2.2).toList
theorem pC(z:xG×(Option Addr×Nat×Nat)):(H6 z).length=8:=rfl
structure pd(aa:Nat->Nat)(w:World)(A:Option Addr)(n:Nat)(zs:List (xG×(Option Addr×Nat×Nat))):Prop where
 r:cj w 8 A n (zs.flatMap H6)
 a:0<n->∀ad,A=some ad->aa ad.block=10
 h:∀z∈zs,gT z.1/\aN (aL aa 10) w (.slice z.2.1 z.2.2.1 z.2.2.2) z.1.cmd.facts
section
variable {ao aa ac:Nat->Nat}{g n c k i p M:Nat}{x:Int}{A:Option Addr}{zs:List (xG×(Option Addr×Nat×Nat))}{G:Gp}{v:Gv}{ps:List Nat}{w w0 w1 wx w':World}{K:Go.Act->World->Prop}{Q':Exit->Go.Act->World->Prop}{l:List Value}{H:Ending->World->Prop}{u:Value}
theorem pd.len(h:pd aa w A n zs):zs.length=n:=by
 have h1:=h.r.1;rw[eG pC]at h1;omega
theorem bC.des(hk:bC (fun j=>aa j≠10) aa ac w w')(h:pd aa w A n zs):pd ac w' A n zs:=
 have k10:∀j,j<w.heap.size->aa j=10->¬aa j≠10:=fun _ _ e hn=>hn e
 ⟨cj.stay (S:=fun j=>aa j=10) h.r (fun h0 ad e=>h.a h0 ad e) fun j hj hl=>(hk.stay j hl fun hn=>hn hj).2,
  fun h0 ad e=>(hk.stay _ (cj.lt h.r h0 (by omega) e) fun hn=>hn (h.a h0 ad e)).1.trans (h.a h0 ad e),fun z hz=>⟨(h.h z hz).1,hk.one (P:=fun aa w=>aN (aL aa 10) w (.slice z.2.1 z.2.2.1 z.2.2.2) z.1.cmd.facts) (fun _ _ _ h1 h2=>h1.mono fun j hj e=>h2 j hj e) (fun _ _ _ h1 h2=>h1.keep h2) k10 (h.h z hz).2⟩⟩
theorem pd.at_(h:pd aa w A n zs){k:Nat}(hk:k<n):∃ad pb po z,A=some ad/\ad.add (k*8)=⟨pb,po,none⟩/\gT z.1/\aN (aL aa 10) w (.slice z.2.1 z.2.2.1 z.2.2.2) z.1.cmd.facts/\w.rangeAt pb po (H6 z):=by
 have hl:=h.len;obtain⟨ad,e,hc⟩:=h.r.2 (by omega);have hz:zs[k]?=some (zs[k]'(by omega)):=List.getElem?_eq_getElem (by omega);have key:∀i u,i<8->(H6 (zs[k]'(by omega)))[i]?=some u->w.cell? (ad.add (k*8+i))=some u:=fun i u hi hu=>hc _ _ ((cB pC hi hz).trans hu)
 obtain⟨pb,po,hp⟩:∃pb po,ad.add (k*8)=⟨pb,po,none⟩:=⟨_,_,CG (key 0 _ (by omega) rfl)⟩;refine⟨ad,pb,po,zs[k]'(by omega),e,hp,(h.h _ (List.getElem_mem _)).1,(h.h _ (List.getElem_mem _)).2,fun i u hu=>?_⟩;have hi:=(List.getElem?_eq_some_iff.1 hu).1;rw[pC]at hi;have h2:=key i u hi hu;rcases Nat.eq_zero_or_pos i with rfl|h0
 ·rw[Nat.add_zero,hp]at h2;exact h2
 ·rw[<-fE,jy _ _ h0,hp]at h2;exact h2
def H3(ao:Nat->Nat)(w0:World)(g N i:Nat)(A:Option Addr)(n:Nat)(zs:List (xG×(Option Addr×Nat×Nat)))(w:World):Prop:=
 ∃aa G v ps,ku (1+441540*i) aa w g G v ps/\G.n=N/\G.rn<=i/\bC (fun j=>ao j≠10) ao aa w0 w/\pd aa w A n zs
theorem Yx(hl:l.length=32/\l[0]?=some (.int .i64 x)/\l[1]?=some (.slice A n c)/\l[2]?=some (.int .i64 k))(hK:∀l':List Value,(l'.length=32/\l'[0]?=some (.int .i64 x)/\l'[1]?=some (.slice A n c)/\l'[2]?=some (.int .i64 k))->K ⟨l'.toArray,[]⟩ wx):(bR [0] (aB f28)).wp prog (Exit.then K Q') ⟨l.toArray,[]⟩ wx:=by
 replace hK:=zH hK;obtain⟨ab,ax,aM,bE⟩:=hl;obtain⟨fr,rfl,ag⟩:=am ab;rw[mx,ag _ _ ax,ag _ _ aM,ag _ _ bE];clear ab ag ax aM bE;refine cG [0] f28 rfl ?_;go_wp2_with fail;refine hK.out _ ?_;exact⟨rfl,rfl,rfl,rfl⟩
theorem Yy(hf:bC (fun j=>ao j≠10) ao ao wx wx)(hz:pd ao wx A n zs)(hx:i64In x)(hl:l.length=32/\l[0]?=some (.int .i64 x)/\l[1]?=some (.slice A n c)/\l[2]?=some (.int .i64 k))(hK:∀(l':List Value) w' g,(l'.length=32/\l'[1]?=some (.slice A n c)/\l'[2]?=some (.int .i64 k)/\l'[7]?=some (.pointer (some ⟨g,0,none⟩)))/\H3 ao wx g (3+2*cu x 3) 0 A n zs w'->K ⟨l'.toArray,[]⟩ w'):(bR [1,0] (aB f28)).wp prog (Exit.then K Q') ⟨l.toArray,[]⟩ wx:=by
 have gn:=Bp x wx hx.1 hx.2;have Hu:=dH x (m:=3) (by omega);have BJ:=Bo (n:=3+2*cu x 3) hf (by omega);replace BJ:=BJ.mono (R':=fun e w'=>∃g,e=.returned (.pointer (some ⟨g,0,none⟩))/\H3 ao wx g (3+2*cu x 3) 0 A n zs w') (by
  rintro e w' ⟨ac,g,v,ps,rfl,hG,hL⟩;exact⟨g,rfl,ac,_,v,ps,hG,rfl,Nat.le_refl _,hL,hL.des hz⟩)
 obtain⟨s,hs⟩:=zN (3+2*cu x 3);rw[hs]at gn BJ hK;replace hK:=zH hK;clear hs Hu hf hz;obtain⟨ab,ax,aM,bE⟩:=hl;obtain⟨fr,rfl,ag⟩:=am ab;rw[mx,ag _ _ ax,ag _ _ aM,ag _ _ bE];clear ab ag ax aM bE;refine cG [1,0] f28 rfl ?_;go_wp2_with fail;refine gn.mono ?_;rintro e w2 ⟨rfl,rfl⟩;clear gn;go_wp2_with fail;refine BJ.mono ?_;rintro e w2 ⟨g,rfl,hP⟩;clear BJ;replace hP:=zH hP;go_wp2_with fail;refine hK.out _ _ g ?_;exact⟨⟨rfl,rfl,rfl,rfl⟩,hP.out⟩
theorem Yz(hl:l.length=32/\l[1]?=some (.slice A n c)/\l[2]?=some (.int .i64 k)/\l[7]?=some (.pointer (some ⟨g,0,none⟩)))(hK:∀l':List Value,(l'.length=32/\l'[1]?=some (.slice A n c)/\l'[2]?=some (.int .i64 k)/\l'[7]?=some (.pointer (some ⟨g,0,none⟩)))->K ⟨l'.toArray,[]⟩ wx):(bR [1,1,0] (aB f28)).wp prog (Exit.then K Q') ⟨l.toArray,[]⟩ wx:=by
 replace hK:=zH hK;obtain⟨ab,aM,bE,fW⟩:=hl;obtain⟨fr,rfl,ag⟩:=am ab;rw[mx,ag _ _ aM,ag _ _ bE,ag _ _ fW];clear ab ag aM bE fW;refine cG [1,1,0] f28 rfl ?_;go_wp2_with fail;refine hK.out _ ?_;exact⟨rfl,rfl,rfl,rfl⟩
theorem YA(hl:l.length=32/\l[1]?=some (.slice A n c)/\l[2]?=some (.int .i64 k)/\l[7]?=some (.pointer (some ⟨g,0,none⟩)))(hK:∀l':List Value,(l'.length=32/\l'[1]?=some (.slice A n c)/\l'[2]?=some (.int .i64 k)/\l'[7]?=some (.pointer (some ⟨g,0,none⟩))/\l'[8]?=some (.int .i64 (0:Nat)))->K ⟨l'.toArray,[]⟩ wx):(bR [1,1,1,0,0] (aB f28)).wp prog (Exit.then K Q') ⟨l.toArray,[]⟩ wx:=by
 replace hK:=zH hK;obtain⟨ab,aM,bE,fW⟩:=hl;obtain⟨fr,rfl,ag⟩:=am ab;rw[mx,ag _ _ aM,ag _ _ bE,ag _ _ fW];clear ab ag aM bE fW;refine cG [1,1,1,0,0] f28 rfl ?_;go_wp2_with fail;refine hK.out _ ?_;exact⟨rfl,rfl,rfl,rfl,rfl⟩
theorem YB(hi:i<n)(hk:i<k)(hl:l.length=32/\l[1]?=some (.slice A n c)/\l[2]?=some (.int .i64 k)/\l[7]?=some (.pointer (some ⟨g,0,none⟩))/\l[8]?=some (.int .i64 (i:Nat)))(hK:∀l':List Value,(l'.length=32/\l'[1]?=some (.slice A n c)/\l'[2]?=some (.int .i64 k)/\l'[7]?=some (.pointer (some ⟨g,0,none⟩))/\l'[8]?=some (.int .i64 (i:Nat)))->K ⟨l'.toArray,[]⟩ wx):(bR [1,1,1,0,1,2,3,0] (aB f28)).wp prog (Exit.then K Q') ⟨l.toArray,[]⟩ wx:=by
 have d0:decide ((i:Int)<(n:Int))=true:=decide_eq_true (by omega);have d1:decide ((i:Int)<(k:Int))=true:=decide_eq_true (by omega);replace hK:=zH hK;obtain⟨ab,aM,bE,fW,dy⟩:=hl;obtain⟨fr,rfl,ag⟩:=am ab;rw[mx,ag _ _ aM,ag _ _ bE,ag _ _ fW,ag _ _ dy];clear ab ag aM bE fW dy;refine cG [1,1,1,0,1,2,3,0] f28 rfl ?_;go_wp2_with fail;refine hK.out _ ?_;exact⟨rfl,rfl,rfl,rfl,rfl⟩
theorem SM(hi:¬i<n)(hl:l.length=32/\l[1]?=some (.slice A n c)/\l[2]?=some (.int .i64 k)/\l[7]?=some (.pointer (some ⟨g,0,none⟩))/\l[8]?=some (.int .i64 (i:Nat)))(hQ:∀l':List Value,(l'.length=32/\l'[1]?=some (.slice A n c)/\l'[2]?=some (.int .i64 k)/\l'[7]?=some (.pointer (some ⟨g,0,none⟩))/\l'[8]?=some (.int .i64 (i:Nat)))->Q' (.exit 0) ⟨l'.toArray,[]⟩ wx):(bR [1,1,1,0,1,2,3,0] (aB f28)).wp prog (Exit.then K Q') ⟨l.toArray,[]⟩ wx:=by
 have d0:decide ((i:Int)<(n:Int))=false:=decide_eq_false (by omega);replace hQ:=zH hQ;obtain⟨ab,aM,bE,fW,dy⟩:=hl;obtain⟨fr,rfl,ag⟩:=am ab;rw[mx,ag _ _ aM,ag _ _ bE,ag _ _ fW,ag _ _ dy];clear ab ag aM bE fW dy;refine cG [1,1,1,0,1,2,3,0] f28 rfl ?_;go_wp2_with fail;refine hQ.out _ ?_;exact⟨rfl,rfl,rfl,rfl,rfl⟩
theorem SL(hi:i<n)(hk:¬i<k)(hl:l.length=32/\l[1]?=some (.slice A n c)/\l[2]?=some (.int .i64 k)/\l[7]?=some (.pointer (some ⟨g,0,none⟩))/\l[8]?=some (.int .i64 (i:Nat)))(hQ:∀l':List Value,(l'.length=32/\l'[1]?=some (.slice A n c)/\l'[2]?=some (.int .i64 k)/\l'[7]?=some (.pointer (some ⟨g,0,none⟩))/\l'[8]?=some (.int .i64 (i:Nat)))->Q' (.exit 0) ⟨l'.toArray,[]⟩ wx):(bR [1,1,1,0,1,2,3,0] (aB f28)).wp prog (Exit.then K Q') ⟨l.toArray,[]⟩ wx:=by
 have d0:decide ((i:Int)<(n:Int))=true:=decide_eq_true (by omega);have d1:decide ((i:Int)<(k:Int))=false:=decide_eq_false (by omega);replace hQ:=zH hQ;obtain⟨ab,aM,bE,fW,dy⟩:=hl;obtain⟨fr,rfl,ag⟩:=am ab;rw[mx,ag _ _ aM,ag _ _ bE,ag _ _ fW,ag _ _ dy];clear ab ag aM bE fW dy;refine cG [1,1,1,0,1,2,3,0] f28 rfl ?_;go_wp2_with fail;refine hQ.out _ ?_;exact⟨rfl,rfl,rfl,rfl,rfl⟩
theorem YD(h:H3 ao w0 g p i A n zs wx)(hi:i<n)(Hh:i<120)(lO:n<=9223372036854775807)(hl:l.length=32/\l[1]?=some (.slice A n c)/\l[2]?=some (.int .i64 k)/\l[7]?=some (.pointer (some ⟨g,0,none⟩))/\l[8]?=some (.int .i64 (i:Nat)))(hK:∀(l':List Value) w',(l'.length=32/\l'[1]?=some (.slice A n c)/\l'[2]?=some (.int .i64 k)/\l'[7]?=some (.pointer (some ⟨g,0,none⟩))/\l'[8]?=some (.int .i64 (i:Nat)))/\H3 ao w0 g p (i+1) A n zs w'->K ⟨l'.toArray,[]⟩ w'):(bR [1,1,1,0,1,2,3,1,0,2] (aB f28)).wp prog (Exit.then K Q') ⟨l.toArray,[]⟩ wx:=by
 obtain⟨aa,G,v,ps,h1,h2,h3,h4,h5⟩:=h;obtain⟨ad,pb,po,z,e,hp,hd,hF,RO⟩:=h5.at_ hi;subst e;have OD:=Bm h1 hd hF (by omega) (by omega) (by omega);replace OD:=OD.mono (R':=fun e w'=>e=.returned (.tuple #[])/\H3 ao w0 g p (i+1) (some ad) n zs w') (by
  rintro e w' ⟨rfl,ac,G',v',ps',q1,q2,q3,q4⟩;exact⟨rfl,ac,G',v',ps',by rw[show 1+441540*(i+1)=1+441540*i+441540 by omega];exact q1,q2.trans h2,by omega,h4.ten q4,q4.des h5⟩)
 have Mv:Calls prog 33 #[.pointer (some ⟨g,0,none⟩),.agg (H6 z).toArray] wx fun e w'=>e=.returned (.tuple #[])/\H3 ao w0 g p (i+1) (some ad) n zs w':=OD
 replace RO:=zH RO;replace hK:=zH hK;clear h1 h2 h3 h4 h5 hd hF OD;obtain⟨ab,aM,bE,fW,dy⟩:=hl;obtain⟨fr,rfl,ag⟩:=am ab;rw[mx,ag _ _ aM,ag _ _ bE,ag _ _ fW,ag _ _ dy];clear ab ag aM bE fW dy;refine cG [1,1,1,0,1,2,3,1,0,2] f28 rfl ?_;go_wp2_with (refine wpList_load_mid rfl 89 (.tmp 28) rfl pb po rfl (H6 z) _ RO.out underlying89 rfl DP ?_);refine Mv.mono ?_;rintro e w1 ⟨rfl,hP⟩;clear Mv;replace hP:=zH hP;go_wp2_with fail;refine hK.out _ _ ?_;exact⟨⟨rfl,rfl,rfl,rfl,rfl⟩,hP.out⟩
theorem YC(hi:i<1000000)(hl:l.length=32/\l[1]?=some (.slice A n c)/\l[2]?=some (.int .i64 k)/\l[7]?=some (.pointer (some ⟨g,0,none⟩))/\l[8]?=some (.int .i64 (i:Nat)))(hK:∀l':List Value,(l'.length=32/\l'[1]?=some (.slice A n c)/\l'[2]?=some (.int .i64 k)/\l'[7]?=some (.pointer (some ⟨g,0,none⟩))/\l'[8]?=some (.int .i64 ((i+1):Nat)))->K ⟨l'.toArray,[]⟩ wx):(bR [1,1,1,0,1,2,3,1,1] (aB f28)).wp prog (Exit.then K Q') ⟨l.toArray,[]⟩ wx:=by
 replace hK:=zH hK;obtain⟨ab,aM,bE,fW,dy⟩:=hl;obtain⟨fr,rfl,ag⟩:=am ab;rw[mx,ag _ _ aM,ag _ _ bE,ag _ _ fW,ag _ _ dy];clear ab ag aM bE fW dy;refine cG [1,1,1,0,1,2,3,1,1] f28 rfl ?_;go_wp2_with fail;refine hK.out _ ?_;exact⟨rfl,rfl,rfl,rfl,by go_num⟩
theorem Uy(hl:l.length=32/\l[1]?=some (.slice A n c)/\l[2]?=some (.int .i64 k)/\l[7]?=some (.pointer (some ⟨g,0,none⟩))/\l[8]?=some (.int .i64 (i:Nat)))(hH:H (.returned (.pointer (some ⟨g,0,none⟩))) wx):(bR [1,1,1,1] (aB f28)).wp prog (bodyPost prog f28 H) ⟨l.toArray,[]⟩ wx:=by
 replace hH:=zH hH;obtain⟨ab,aM,bE,fW,dy⟩:=hl;obtain⟨fr,rfl,ag⟩:=am ab;rw[mx,ag _ _ aM,ag _ _ bE,ag _ _ fW,ag _ _ dy];clear ab ag aM bE fW dy;refine cG [1,1,1,1] f28 rfl ?_;go_wp2_with fail;exact hH.out
theorem qR(hz:pd ao wx A n zs)(hx:i64In x)(hk:k<=120)(lO:n<=9223372036854775807) :
  Calls prog 28 #[.int .i64 x,.slice A n c,.int .i64 k] wx fun e w'=>∃g i,e=.returned (.pointer (some ⟨g,0,none⟩))/\i<=120/\H3 ao wx g (3+2*cu x 3) i A n zs w':=by
 refine bJ (args:=[.int .i64 x,.slice A n c,.int .i64 k]) 32 func28 (by kernel_rfl) ntmps28 (by simp) fun la gF cQ=>?_
 refine tz (c:=(aB f28)) [] (by kernel_rfl) ?_;refine aF [0] [1] (by kernel_rfl) (Yx ⟨gF,cQ 0 _ rfl,cQ 1 _ rfl,cQ 2 _ rfl⟩ fun l0 ir=>?_);refine aF [1,0] [1,1] (by kernel_rfl) (Yy (bC.refl _ _ _) hz hx ir fun l1 w1 g h1=>?_);obtain⟨dm,h1⟩:=h1;refine aF [1,1,0] [1,1,1] (by kernel_rfl) (Yz dm fun l2 fB=>?_);refine aF [1,1,1,0] [1,1,1,1] (by kernel_rfl) (aF [1,1,1,0,0] [1,1,1,0,1] (by kernel_rfl) (YA fB fun l3 oe=>?_));refine eM [1,1,1,0,1,2] rfl ?_;refine nI [1,1,1,0,1,2,3] (by kernel_rfl) (fun r a w=>∃(l:List Value) (i:Nat),a=⟨l.toArray,[]⟩/\(l.length=32/\l[1]?=some (.slice A n c)/\l[2]?=some (.int .i64 k)/\l[7]?=some (.pointer (some ⟨g,0,none⟩))/\l[8]?=some (.int .i64 (i:Nat)))/\i<=n/\i<=120/\r=120-i/\H3 ao wx g (3+2*cu x 3) i A n zs w) 120 ⟨l3,0,rfl,oe,Nat.zero_le _,Nat.zero_le _,rfl,h1⟩ ?_;rintro r a w ⟨l4,i,rfl,px,kX,Hh,rfl,h4⟩;by_cases hi:i<n
 ·by_cases TQ:i<k
  ·refine aF [1,1,1,0,1,2,3,0] [1,1,1,0,1,2,3,1] (by kernel_rfl) (YB hi TQ px fun l5 na=>?_);refine aF [1,1,1,0,1,2,3,1,0] [1,1,1,0,1,2,3,1,1] (by kernel_rfl) (eM [1,1,1,0,1,2,3,1,0,2] rfl (fh (YD h4 hi (by omega) lO na fun l6 w6 h6=>?_)));exact YC (by omega) h6.1 fun l7 Lb=>⟨120-(i+1),by omega,l7,i+1,rfl,Lb,hi,by omega,rfl,h6.2⟩
  ·refine aF [1,1,1,0,1,2,3,0] [1,1,1,0,1,2,3,1] (by kernel_rfl) (SL hi TQ px fun l5 na=>?_);exact Uy na ⟨g,i,rfl,Hh,h4⟩
 ·refine aF [1,1,1,0,1,2,3,0] [1,1,1,0,1,2,3,1] (by kernel_rfl) (SM hi px fun l5 na=>?_);exact Uy na ⟨g,i,rfl,Hh,h4⟩
theorem one_any(g9:∀j,ao j=10)(hz:pd ao wx A n zs)(hx:i64In x)(lO:n<=9223372036854775807) :
  Calls prog 5 #[.int .i64 x,.slice A n c] wx fun e w'=>e=.returned (.bool true)/\Below wx.heap.size wx w':=by
 have jw:=qR (c:=c) (k:=120) hz hx zl lO;replace jw:=jw.mono (R':=fun e w'=>∃g G v,e=.returned (.pointer (some ⟨g,0,none⟩))/\ay w' g 79 (dQ G v)/\G.two=false/\Below wx.heap.size wx w') (by
  rintro e w' ⟨g,i,rfl,_,aa,G,v,ps,h1,_,_,h4,_⟩;obtain⟨_,_,_,_,_,h2,_⟩:=h1.ok.facts;exact⟨g,G,v,rfl,h1.gr.s,h2,⟨h4.wld.1,h4.wld.2.1,h4.wld.2.2,h4.size,fun j hj=>(h4.stay j hj fun hn=>hn (g9 j)).2⟩⟩)
 clear hz;go_enter func5,ntmps5;go_wp2_with fail;refine jw.mono ?_;rintro e w1 ⟨g,G,v,rfl,hB,h2,hb⟩;clear jw;obtain⟨c8,c13,-⟩:=hB.cs [8,13];simp only[dQ,vi,Zx]at c8 c13;rw[h2]at c8;have bV:=hB.lt;have Nf:=th (wx:=w1);have aO:=zH (fun w2 (bU:Below w1.heap.size w1 w2)=>show Below wx.heap.size wx w2 from aj hb bU zl);clear hB hb;go_wp2_with fail;refine Nf.mono ?_;rintro e w2 ⟨rfl,bU⟩;clear Nf;have cv:=zH (aO.out w2 bU);clear aO bU;go_wp2_with fail;go_ret;exact⟨rfl,cv.out⟩
theorem same_any(g9:∀j,ao j=10)(hz:pd ao wx A n zs)(hx:i64In x)(lO:n<=9223372036854775807) :
  Calls prog 6 #[.int .i64 x,.slice A n c] wx fun e w'=>e=.returned (.bool true)/\Below wx.heap.size wx w':=by
 have jw:=qR (c:=c) (k:=120) hz hx zl lO;replace jw:=jw.mono (R':=fun e w'=>∃g G v,e=.returned (.pointer (some ⟨g,0,none⟩))/\ay w' g 79 (dQ G v)/\G.two=false/\Below wx.heap.size wx w') (by
  rintro e w' ⟨g,i,rfl,_,aa,G,v,ps,h1,_,_,h4,_⟩;obtain⟨_,_,_,_,_,h2,_⟩:=h1.ok.facts;exact⟨g,G,v,rfl,h1.gr.s,h2,⟨h4.wld.1,h4.wld.2.1,h4.wld.2.2,h4.size,fun j hj=>(h4.stay j hj fun hn=>hn (g9 j)).2⟩⟩)
 clear hz;go_enter func6,ntmps6;go_wp2_with fail;refine jw.mono ?_;rintro e w1 ⟨g,G,v,rfl,hB,h2,hb⟩;clear jw;obtain⟨c5,c13,-⟩:=hB.cs [5,13];simp only[dQ,vi,Zx]at c5 c13;clear h2;have bV:=hB.lt;have Nf:=th (wx:=w1);have aO:=zH (fun w2 (bU:Below w1.heap.size w1 w2)=>show Below wx.heap.size wx w2 from aj hb bU zl);clear hB hb;go_wp2_with fail;refine Nf.mono ?_;rintro e w2 ⟨rfl,bU⟩;clear Nf;have cv:=zH (aO.out w2 bU);clear aO bU;go_wp2_with fail;go_ret;exact⟨rfl,cv.out⟩
end
section
open Go.ChangeShapes Go.WideShapes Go.Deep
theorem i64_of_wf{z:Int}(h:(Lit.int .i64 z).wf=true):-9223372036854775808<=z/\z<=9223372036854775807:=by
 simp[Lit.wf,IntKind.min,IntKind.max,IntKind.signed,IntKind.bits]at h;omega
section
variable {H:Type}{enc:TypeId×Value->H}{P:Program}{w:World}{base:Nat}{spare:Nat->Bool}{io:Bool}
theorem nz{t e:TypeId}{fs:Array Field}{fuel:Nat}{cs:List Value}{x:DataW H×List MemPlace}(ht:P.underlying t=some (.slice e))(he:P.underlying e=some (.struct fs))
  (jp:oneCellFields P fs=true) (hC:P.cellsOf e=fs.size) (h:DataW.trod enc P w base spare io fuel t cs=some x) :
  (cs=[.slice none 0 0]/\x=(.nil,[]))\/
  ∃(a:Addr) (len cap m:Nat) (D:Nat->DataW H) (Pl:Nat->List MemPlace),cs=[.slice (some a) len cap]/\base<=a.block/\len<=cap/\cap<=maxLen/\m=(if spare a.block then cap else len)/\
   x=(.slice ((List.range len).map D) ((List.range (m-len)).map fun j=>D (len+j)),MemPlace.row a (m*fs.size)++(List.range m).flatMap Pl)/\
   ∀i,i<m->∃(ys:List (DataW H×List MemPlace)) (n:Nat),D i=.agg (ys.map (·.1))/\Pl i=ys.flatMap (·.2)/\ys.length=fs.size/\
    ∀(j:Nat) (f:Field),fs[j]?=some f->∃(v:Value) (y:DataW H×List MemPlace),w.cell? (a.add (i*fs.size+j))=some v/\ys[j]?=some y/\DataW.trod enc P w base spare io n f.type [v]=some y:=by
 rcases open_slice ht h with h0|⟨a,len,cap,m,n,D,Pl,fA,hb,hl,hm,og,hx,hi⟩
 ·exact .inl h0
 ·refine .inr ⟨a,len,cap,m,D,Pl,fA,hb,hl,hm,og,by rw[hC]at hx;exact hx,fun i him=>?_⟩;obtain⟨cs',hc,Kg⟩:=hi i him;rw[hC]at hc;obtain⟨ys,n',T7,hy,ab,Gr,hf⟩:=DataW.trod_struct he Kg;obtain⟨_,gf,xP⟩:=World.cells?_some hc;simp only[Prod.mk.injEq]at hy;refine⟨ys,n',hy.1,hy.2,Gr,fun j f hj=>?_⟩;obtain⟨ho,hk⟩:=hone_of jp j f hj;have uf:j<fs.size:=(Array.getElem?_eq_some_iff.1 hj).1;have aQ:=xP j uf;have hv:cs'[j]?=some (cs'[j]'(by omega)):=List.getElem?_eq_getElem (by omega);have h1:=hf j f hj;rw[ho,hk]at h1;have Ns:(cs'.drop j).take 1=[cs'[j]'(by omega)]:=by
   rw[List.drop_eq_getElem_cons (by omega)];rfl
  rw[Ns]at h1;have Ss:ys[j]?=some (ys[j]'(by omega)):=List.getElem?_eq_getElem (by omega);refine⟨_,_,?_,Ss,h1.trans Ss⟩;rw[<-Go.Deep.add_add,aQ,hv]
theorem Fq{t e:TypeId}{fuel:Nat}{v:Value}{x:DataW H×List MemPlace}(ht:P.underlying t=some (.slice e))(he:P.underlying e=some (.int .i64))(hc:P.cellsOf e=1)
  (h:DataW.trod enc P w base spare io fuel t [v]=some x):∃A n c l,v=.slice A n c/\jK w A n l/\n<=c/\c<=maxLen:=by
 rcases open_ints ht he hc h with⟨fA,_⟩|⟨a,l,c,zs,fA,_,hl,hm,hz,_,aQ,X9⟩
 ·obtain rfl:v=.slice none 0 0:=by simpa using fA
  exact⟨none,0,0,[],rfl,jK.none_,Nat.le_refl _,Nat.zero_le _⟩
 ·obtain rfl:v=.slice (some a) l c:=by simpa using fA
  have Ro:l<=zs.length:=by rw[hz];split <;> omega
  refine⟨some a,l,c,zs.take l,rfl,⟨by simp;omega,fun _=>⟨a,rfl,fun j u hu=>?_⟩⟩,hl,hm⟩;rw[List.getElem?_map,List.getElem?_take]at hu;split at hu
  ·have hj:j<zs.length:=by omega
   rw[List.getElem?_eq_getElem hj]at hu;have Jr:=aQ j hj;have Sv:zs.getD j 0=zs[j]:=by rw[List.getD_eq_getElem?_getD,List.getElem?_eq_getElem hj];rfl
   rw[Jr,Sv];exact hu
  ·simp at hu
theorem Ft{t e:TypeId}{fuel:Nat}{v:Value}{x:DataW H×List MemPlace}(ht:P.underlying t=some (.slice e))(he:P.underlying e=some .string)(hc:P.cellsOf e=1)
  (h:DataW.trod enc P w base spare io fuel t [v]=some x):∃A n c l,v=.slice A n c/\vD w A n l/\n<=c/\c<=maxLen:=by
 rcases open_strings ht he hc h with⟨fA,_⟩|⟨a,l,c,zs,fA,_,hl,hm,hz,_,aQ,X9⟩
 ·obtain rfl:v=.slice none 0 0:=by simpa using fA
  exact⟨none,0,0,[],rfl,⟨rfl,fun h=>absurd h (by omega)⟩,Nat.le_refl _,Nat.zero_le _⟩
 ·obtain rfl:v=.slice (some a) l c:=by simpa using fA
  have Ro:l<=zs.length:=by rw[hz];split <;> omega
  refine⟨some a,l,c,zs.take l,rfl,⟨by simp;omega,fun _=>⟨a,rfl,fun j u hu=>?_⟩⟩,hl,hm⟩;rw[List.getElem?_map,List.getElem?_take]at hu;split at hu
  ·have hj:j<zs.length:=by omega
   rw[List.getElem?_eq_getElem hj]at hu;have Jr:=aQ j hj;have Sv:zs.getD j ByteArray.empty=zs[j]:=by rw[List.getD_eq_getElem?_getD,List.getElem?_eq_getElem hj];rfl
   rw[Jr,Sv];exact hu
  ·simp at hu
end
theorem uv{α:Type}{Q:Nat->α->Prop}(n:Nat)(h:∀i,i<n->∃x,Q i x):∃xs:List α,xs.length=n/\∀i x,xs[i]?=some x->Q i x:=by
 induction n with
 | zero=>exact⟨[],rfl,fun i x hx=>by simp at hx⟩
 | succ n ih=>
  obtain⟨xs,hl,hx⟩:=ih fun i hi=>h i (by omega)
  obtain⟨y,hy⟩:=h n (by omega);refine⟨xs++[y],by simp[hl],fun i x hi=>?_⟩;rcases Nat.lt_or_ge i n with bh|ud
  ·rw[List.getElem?_append_left (by omega)]at hi;exact hx i x hi
  ·rw[List.getElem?_append_right (by omega),hl]at hi;rcases Nat.eq_zero_or_pos (i-n)with h0|h0
   ·rw[h0]at hi;have:y=x:=by simpa using hi
    subst this;rw[show i=n by omega];exact hy
   ·rw[List.getElem?_eq_none (by simp;omega)]at hi;cases hi
theorem pP{w:World}{size n c:Nat}{A:Option Addr}{xs:List Value}(hr:cj w size A n xs)(h0:0<size)(lO:n<=c)(hc:c<=maxLen):Sl (fun j=>j<w.heap.size) w size (.slice A n c) n xs:=
 ⟨A,c,rfl,hr,lO,hc,fun hn _ e=>hr.lt hn h0 e⟩
theorem FG{α:Type}{w:World}{a:Addr}{f:α->List Value}{k:Nat}(hk:0<k)(hf:∀z,(f z).length=k){l:List α}(h:∀(i:Nat) z,l[i]?=some z->∀j u,j<k->(f z)[j]?=some u->w.cell? (a.add (i*k+j))=some u):cj w k (some a) l.length (l.flatMap f):=by
 refine⟨eG hf l,fun _=>⟨a,rfl,fun q u hu=>?_⟩⟩;have hq:=(List.getElem?_eq_some_iff.1 hu).1;rw[eG hf]at hq;have hi:q/k<l.length:=Nat.div_lt_of_lt_mul (by rw[Nat.mul_comm];exact hq);have hz:l[q/k]?=some (l[q/k]'hi):=List.getElem?_eq_getElem hi;have hm:=Nat.mod_lt q hk;have e:q=q/k*k+q%k:=by rw[Nat.mul_comm];exact(Nat.div_add_mod q k).symm
 have h1:=cB hf hm hz;rw[<-e,hu]at h1;have:=h _ _ hz _ u hm h1.symm;rw[<-e]at this;exact this
section
variable {H:Type}{enc:TypeId×Value->H}{w:World}{base:Nat}{spare:Nat->Bool}{io:Bool}{fuel:Nat}{v:Value}{x:DataW H×List MemPlace}
theorem ei{P:Program}{e:TypeId}{fs:Array Field}{cs:List Value}{j:Nat}{f:Field}(he:P.underlying e=some (.struct fs))(hj:fs[j]?=some f)(k:Nat)(hk:P.cellsOf f.type=k)(h:DataW.trod enc P w base spare io fuel e cs=some x) :
  ∃n y,DataW.trod enc P w base spare io n f.type ((cs.drop f.offset).take k)=some y:=by
 subst hk;obtain⟨ys,n,_,_,_,Gr,hf⟩:=DataW.trod_struct he h;have uf:j<fs.size:=(Array.getElem?_eq_some_iff.1 hj).1;exact⟨n,_,(hf j f hj).trans (List.getElem?_eq_getElem (by omega))⟩
theorem Ce(h:DataW.trod enc prog w base spare io fuel 193 [v]=some x):∃p,fH (fun j=>j<w.heap.size) w v p:=by
 obtain⟨A,n,c,l,rfl,hr,h1,h2⟩:=Ft underlying193 underlying9 (by kernel_rfl) h;have hr:cj w 1 A n (l.map Lr):=hr;refine⟨l,?_⟩;have:=pP hr (by omega) h1 h2;have hl:=hr.1;rw[List.length_map,Nat.mul_one]at hl;unfold fH;rw[hl];exact this
theorem Cf(h:DataW.trod enc prog w base spare io fuel 76 [v]=some x):∃p,fu (fun j=>j<w.heap.size) w v p:=by
 obtain⟨A,n,c,l,rfl,hr,h1,h2⟩:=Fq underlying76 underlying3 (by kernel_rfl) h;have hr:cj w 1 A n (l.map vi):=hr;refine⟨l,?_⟩;have:=pP hr (by omega) h1 h2;have hl:=hr.1;rw[List.length_map,Nat.mul_one]at hl;unfold fu;rw[hl];exact this
theorem zr(h:DataW.trod enc prog w base spare io fuel 189 [v]=some x):∃ps,dt (fun j=>j<w.heap.size) w v ps:=by
 rcases open_slice underlying189 h with⟨fA,_⟩|⟨a,len,cap,m,n,D,Pl,fA,_,hl,hm,og,_,hi⟩
 ·obtain rfl:v=.slice none 0 0:=by simpa using fA
  exact⟨[],[],Sl.nil _ _ _,fun i p h=>by cases h⟩
 ·obtain rfl:v=.slice (some a) len cap:=by simpa using fA
  have Av:len<=m:=by rw[og];split <;> omega
  have hC:prog.cellsOf 193=1:=by kernel_rfl
  obtain⟨L,h1,h2⟩:=uv (Q:=fun i (y:Value×List ByteArray)=>w.cell? (a.add i)=some y.1/\fH (fun j=>j<w.heap.size) w y.1 y.2) len (fun i kX=>by
   obtain⟨cs',hc,ht⟩:=hi i (by omega);rw[hC]at hc;obtain⟨_,gf,xP⟩:=World.cells?_some hc;obtain⟨u,rfl⟩:∃u,cs'=[u]:=by
    match cs',gf with
    | [u],_=>exact⟨u,rfl⟩
   obtain⟨p,hp⟩:=Ce ht;have h0:=xP 0 (by omega);rw[Nat.mul_one,iE]at h0;exact⟨(u,p),h0,hp⟩)
  subst h1;refine⟨L.map (·.2),L.map (·.1),?_,fun i p hp=>?_⟩
  ·rw[List.length_map];refine pP ⟨by simp,fun _=>⟨a,rfl,fun j u hu=>?_⟩⟩ (by omega) hl hm;rw[List.getElem?_map]at hu;obtain⟨y,hy,rfl⟩:=Option.map_eq_some_iff.1 hu;exact(h2 j y hy).1
  ·rw[List.getElem?_map]at hp;obtain⟨y,hy,rfl⟩:=Option.map_eq_some_iff.1 hp;exact⟨y.1,by rw[List.getElem?_map,hy];rfl,(h2 i y hy).2⟩
theorem zp(h:DataW.trod enc prog w base spare io fuel 40 [v]=some x):∃fs,aN (fun j=>j<w.heap.size) w v fs:=by
 rcases nz underlying40 underlying191 (by kernel_rfl) (by kernel_rfl) h with⟨fA,_⟩|⟨a,len,cap,m,D,Pl,fA,_,hl,hm,og,_,hi⟩
 ·obtain rfl:v=.slice none 0 0:=by simpa using fA
  exact⟨[],aN.nil _ _⟩
 ·obtain rfl:v=.slice (some a) len cap:=by simpa using fA
  have Av:len<=m:=by rw[og];split <;> omega
  obtain⟨L,h1,h2⟩:=uv (Q:=fun i (y:(Value×Value)×Fa)=>(∀j u,j<2->(Lw y.1)[j]?=some u->w.cell? (a.add (i*2+j))=some u)/\dt (fun j=>j<w.heap.size) w y.1.1 y.2.paths/\fu (fun j=>j<w.heap.size) w y.1.2 y.2.vals) len (fun i kX=>by
   obtain⟨ys,n',_,_,_,MG⟩:=hi i (by omega);obtain⟨v0,y0,fO,_,BU⟩:=MG 0 _ rfl;obtain⟨v1,y1,fP,_,pL⟩:=MG 1 _ rfl;obtain⟨ps,hp⟩:=zr BU;obtain⟨is,hv⟩:=Cf pL;refine⟨((v0,v1),⟨ps,is⟩),fun j u hj hu=>?_,hp,hv⟩
   match j,hj with
   | 0,_=>obtain rfl:=Option.some.inj hu;exact fO
   | 1,_=>obtain rfl:=Option.some.inj hu;exact fP)
  subst h1;refine⟨L.map (·.2),L.map (·.1),?_,by simp,fun i f hf=>?_⟩
  ·rw[List.length_map];have hr:cj w 2 (some a) (L.map (·.1)).length ((L.map (·.1)).flatMap Lw):=FG (by omega) tR fun i z hz=>by
    rw[List.getElem?_map]at hz;obtain⟨y,hy,rfl⟩:=Option.map_eq_some_iff.1 hz;exact(h2 i y hy).1
   rw[List.length_map]at hr;exact pP hr (by omega) hl hm
  ·rw[List.getElem?_map]at hf;obtain⟨y,hy,rfl⟩:=Option.map_eq_some_iff.1 hf;exact⟨y.1,by rw[List.getElem?_map,hy];rfl,(h2 i y hy).2⟩
theorem Fp{v0 v1 v2 v3:Value}(h:DataW.trod enc prog w base spare io fuel 42 [v0,v1,v2,v3]=some x):∃e:En,v0=vi e.op/\v1=vi e.sess/\v2=vi e.seq/\aN (fun j=>j<w.heap.size) w v3 e.facts:=by
 obtain⟨n0,y0,h0⟩:=ei (j:=0) underlying42 rfl 1 (by kernel_rfl) h;obtain⟨n1,y1,h1⟩:=ei (j:=1) underlying42 rfl 1 (by kernel_rfl) h;obtain⟨n2,y2,h2⟩:=ei (j:=2) underlying42 rfl 1 (by kernel_rfl) h;obtain⟨n3,y3,h3⟩:=ei (j:=3) underlying42 rfl 1 (by kernel_rfl) h;have h0:DataW.trod enc prog w base spare io n0 3 [v0]=some y0:=h0;have h1:DataW.trod enc prog w base spare io n1 3 [v1]=some y1:=h1;have h2:DataW.trod enc prog w base spare io n2 3 [v2]=some y2:=h2;have h3:DataW.trod enc prog w base spare io n3 40 [v3]=some y3:=h3;obtain⟨k0,e0,_,_⟩:=DataW.trod_int underlying3 h0;obtain⟨k1,e1,_,_⟩:=DataW.trod_int underlying3 h1;obtain⟨k2,e2,_,_⟩:=DataW.trod_int underlying3 h2;obtain⟨fs,WU⟩:=zp h3;exact⟨⟨0,0,k0,k1,k2,fs⟩,by simpa[vi]using e0,by simpa[vi]using e1,by simpa[vi]using e2,WU⟩
theorem zo{v:Value}(h:DataW.trod enc prog w base spare io fuel 4 [v]=some x):∃b,v=.bool b:=by
 obtain⟨b,e,_⟩:=DataW.trod_bool underlying4 h;exact⟨b,by simpa using e⟩
theorem Bg{cs:List Value}(h:cs.length=8):∃v0 v1 v2 v3 v4 v5 v6 v7,cs=[v0,v1,v2,v3,v4,v5,v6,v7]:=by
 match cs,h with
 | [v0,v1,v2,v3,v4,v5,v6,v7],_=>exact⟨v0,v1,v2,v3,v4,v5,v6,v7,rfl⟩
theorem Cd{v0 v1 v2 v3 v4 v5 v6 v7:Value}(h:DataW.trod enc prog w base spare io fuel 89 [v0,v1,v2,v3,v4,v5,v6,v7]=some x):∃(z:xG×(Option Addr×Nat×Nat)),[v0,v1,v2,v3,v4,v5,v6,v7]=H6 z/\gT z.1/\aN (aL (fun _=>10) 10) w (.slice z.2.1 z.2.2.1 z.2.2.2) z.1.cmd.facts:=by
 obtain⟨n0,y0,h0⟩:=ei (j:=0) underlying89 rfl 1 (by kernel_rfl) h;have h0:DataW.trod enc prog w base spare io n0 3 [v0]=some y0:=h0;obtain⟨n1,y1,h1⟩:=ei (j:=1) underlying89 rfl 1 (by kernel_rfl) h;have h1:DataW.trod enc prog w base spare io n1 3 [v1]=some y1:=h1;obtain⟨n2,y2,h2⟩:=ei (j:=2) underlying89 rfl 1 (by kernel_rfl) h;have h2:DataW.trod enc prog w base spare io n2 3 [v2]=some y2:=h2;obtain⟨n3,y3,h3⟩:=ei (j:=3) underlying89 rfl 1 (by kernel_rfl) h;have h3:DataW.trod enc prog w base spare io n3 4 [v3]=some y3:=h3;obtain⟨n4,y4,h4⟩:=ei (j:=4) underlying89 rfl 4 (by kernel_rfl) h;have h4:DataW.trod enc prog w base spare io n4 42 [v4,v5,v6,v7]=some y4:=h4;obtain⟨k0,e0,_,w0⟩:=DataW.trod_int underlying3 h0;obtain⟨k1,e1,_,w1⟩:=DataW.trod_int underlying3 h1;obtain⟨k2,e2,_,w2⟩:=DataW.trod_int underlying3 h2;obtain⟨k3,rfl⟩:=zo h3;obtain⟨e,ec0,ec1,ec2,hf⟩:=Fp h4;obtain⟨V,m',d',hv,l1,l2,l3⟩:=hf.form;obtain rfl:v0=.int .i64 k0:=by simpa using e0
 obtain rfl:v1=.int .i64 k1:=by simpa using e1
 obtain rfl:v2=.int .i64 k2:=by simpa using e2
 subst ec0;subst ec1;subst ec2;obtain rfl:v7=_:=hv;exact⟨(⟨k0,k1,k2,k3,e⟩,(V,m',d')),rfl,⟨i64_of_wf w0,i64_of_wf w1,i64_of_wf w2⟩,hf.mono fun _ _ _=>rfl⟩
theorem open_deeds{A:Option Addr}{n c:Nat}{d:DataW H}{p:List MemPlace}(h:DataW.Trod enc prog w base spare io 71 (.slice A n c) d p):∃zs,pd (fun _=>10) w A n zs/\n<=maxLen:=by
 obtain⟨fuel,hf⟩:=h;rcases open_slice underlying71 hf with⟨fA,_⟩|⟨a,len,cap,m,q',D,Pl,fA,_,hl,hm,og,_,hi⟩
 ·simp[Value.cells]at fA;obtain⟨rfl,rfl,rfl⟩:=fA;exact⟨[],⟨cj.none_,fun h=>absurd h (by omega),fun z hz=>(by cases hz)⟩,Nat.zero_le _⟩
 ·simp[Value.cells]at fA;obtain⟨rfl,rfl,rfl⟩:=fA;have Av:n<=m:=by rw[og];split <;> omega
  have hC:prog.cellsOf 89=8:=by kernel_rfl
  obtain⟨L,h1,h2⟩:=uv (Q:=fun i (z:xG×(Option Addr×Nat×Nat))=>(∀j u,j<8->(H6 z)[j]?=some u->w.cell? (a.add (i*8+j))=some u)/\gT z.1/\aN (aL (fun _=>10) 10) w (.slice z.2.1 z.2.2.1 z.2.2.2) z.1.cmd.facts) n (fun i kX=>by
   obtain⟨cs',hc,ht⟩:=hi i (by omega);rw[hC]at hc;obtain⟨_,gf,xP⟩:=World.cells?_some hc;obtain⟨v0,v1,v2,v3,v4,v5,v6,v7,rfl⟩:=Bg gf;obtain⟨z,e,hz⟩:=Cd ht;refine⟨z,fun j u hj hu=>?_,hz⟩;have hh:=xP j hj;rw[Go.Deep.add_add,e]at hh;exact hh.trans hu)
  refine⟨L,⟨by have:=FG (k:=8) (by omega) pC fun i z hz=>(h2 i z hz).1;rw[h1]at this;exact this,fun _ _ _=>rfl,fun z hz=>?_⟩,by omega⟩;obtain⟨i,OG,rfl⟩:=List.getElem_of_mem hz;exact(h2 i _ (List.getElem?_eq_getElem OG)).2
end
end
end Go.Proofs.YtjcninheccmpoaaGreat
