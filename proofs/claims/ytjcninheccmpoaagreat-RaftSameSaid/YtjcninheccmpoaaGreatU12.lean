import Derived.Test.YtjcninheccmpoaaGreatU11
set_option maxRecDepth 100000
set_option maxHeartbeats 8000000
set_option linter.all false
namespace Go.Proofs.YtjcninheccmpoaaGreat
open Go.RowKit Go.Proofs.Tryz
structure pa(ao aa:Nat->Nat)(w0 w:World)(g s:Nat)(G:Gp)(v:Gv)(ps:List Nat)(R':Rf)(o:Ot)(X:Ox):Prop where
 gr:bB aa w g {G with l:=G.l.set s R'} v ps
 sv:fS aa w G.n (G.l.set s R') ps
 x:fd aa 10 w o X
 f:bC (fun j=>ao j≠10) ao aa w0 w
section
variable {ao aa ac ar:Nat->Nat}{g b b2 s p t n k m d i:Nat}{x:xG}{V:Option Addr}{c er wv:Int}{R':Rf}{o:Ot}{X:Ox}{G G' G1:Gp}{v v':Gv}{ps ps':List Nat}{w w0 w1 wx w':World}{K:Go.Act->World->Prop}{Q':Exit->Go.Act->World->Prop}{l:List Value}{H:Ending->World->Prop}{M M':Nat}{u:Value}
theorem pa.below(h:pa ao aa w0 wx g s G v ps R' o X)(hb:Below wx.heap.size wx w'):pa ao (relab aa wx.heap.size 12) w0 w' g s G v ps R' o X:=
 have hL:=bC.new 12 aa hb
 ⟨hL.grp (fun _ _ _ h=>h) h.gr,hL.srvs (fun _ _ h=>h.elim) h.sv,hL.outX (fun _ _ _ h=>h) h.x,h.f.trans hL fun _ _ _ _ h=>h⟩
theorem pa.set(h:pa ao aa w0 wx g s G v ps R' o X)(hb:aa b2=12)(hF:Fr (fun j=>j=b2) wx w'):pa ao aa w0 w' g s G v ps R' o X:=
 have hL:bC (fun j=>j=b2) aa aa wx w':=bC.of_fr hF fun j _ hn=>⟨rfl,hn⟩
 have k:∀j,j<wx.heap.size->cW (aa j)->¬j=b2:=fun j _ hg e=>by rw[e,hb]at hg;unfold cW at hg;omega
 have k10:∀j,j<wx.heap.size->aa j=10->¬j=b2:=fun j _ e e2=>by rw[e2,hb]at e;omega
 ⟨hL.grp k h.gr,hL.srvs (fun j _ e=>by rw[show j=b2 from e,hb];omega) h.sv,hL.outX k10 h.x,h.f.trans hL fun j _ hn e hx=>by have hx:j=b2:=hx;rw[<-e,hx,hb]at hn;exact hn (by omega)⟩
theorem pa.takes(h:pa ao aa w0 wx g s G v ps R' o X)(cz:ik M G)(kj:G.rn<=1000000)(hs:s<G.n)(hM:M<=800000000)(hA:ik (M+11) (G.act s (o,R'))/\ni {G with l:=G.l.set s R'} s o)(bl:Bool) :
  Calls prog 32 #[.pointer (some ⟨g,0,none⟩),.int .i64 s,.agg (aK o X),.bool bl] wx fun e w'=>e=.returned (.tuple #[])/\Cx (M+11) ao w0 g G w':=by
 obtain⟨q1,q2,q3,q5⟩:=h;have wn:∀j,j<w0.heap.size->¬ao j≠10->aa j=ao j->¬aa j≠10:=fun j _ hn e hx=>by rw[e]at hx;exact hn hx
 cases bl with
 | false=>
  refine(tC q1 q2 q3 hA.2).mono ?_;rintro e w2 ⟨rfl,bK,v2,h1,h2⟩;obtain⟨e1,e2,e3⟩:=rB {G with l:=G.l.set s R'} s o;have e1:(G.act s (o,R')).n=G.n:=e1;have e2:(G.act s (o,R')).l=G.l.set s R':=e2;have e3:(G.act s (o,R')).rn=G.rn:=e3;exact⟨rfl,bK,G.act s (o,R'),v2,ps,⟨h1,by rw[e1,e2];exact h2.srvs (fun j _ hx=>uC hx) q2,hA.1,by rw[e3];exact kj⟩,e1,by rw[e3];exact Nat.le_refl _,q5.trans (h2.mono (Y:=fun j=>aa j≠10) fun j _ hx=>hx.2) wn⟩
 | true=>
  have kW:=cz.crOk hs hM kj;have yI:=cz.crash hs;have e0:=sG G s R' yI.1;refine(rA q1 q2 ⟨kW.hs,kW.n7,by show(G.l.set s R').length=G.n;rw[List.length_set];exact kW.ll,kW.dl,kW.pl,kW.nw,kW.en,kW.fl,kW.rn⟩).mono ?_;rintro e w2 ⟨rfl,bK,v2,ps2,k,hk,h1,h2,h3⟩;rw[e0]at h1 h2;have hk:k<=G.rn:=hk;have e1:(G.crash s).n=G.n:=by
   unfold Gp.crash;split <;> rfl
  exact⟨rfl,bK,{G.crash s with rn:=k},v2,ps2,⟨h1,h2,(yI.2.mono (by omega)).setRn k,by show k<=_;omega⟩,e1,hk,q5.trans h3 wn⟩
theorem rZ(h:bB aa wx g G v ps):Calls prog 29 #[.pointer (some ⟨g,0,none⟩)] wx fun e w'=>e=.returned (.int .i64 G.log.length)/\wx=w':=by
 obtain⟨zs,⟨A,c,hv,_⟩,_⟩:=id h.e;obtain⟨n,hn⟩:=zN (G.log.length);rw[hn]at hv;have c4:=h.s.cell 4;simp only[dQ,vi,Zx]at c4;rw[hv]at c4;rw[hn];clear h;go_enter func29,ntmps29;go_wp2_with fail;go_ret;exact⟨rfl,rfl⟩
theorem YH(hQ:∀c (a b:Go.Act) w,a.defers=b.defers->Q' (.panic c) a w->Q' (.panic c) b w)(h:ju M ao aa w0 wx g b G v ps x V m d)(hl:l.length=246/\l[0]?=some (.pointer (some ⟨g,0,none⟩))/\l[3]?=some (.pointer (some ⟨b,0,none⟩))/\l[4]?=some (.int .i64 s)/\l[25]?=some (.int .i64 k))(hK:∀(l':List Value) w' ac c,(l'.length=246/\l'[0]?=some (.pointer (some ⟨g,0,none⟩))/\l'[3]?=some (.pointer (some ⟨b,0,none⟩))/\l'[4]?=some (.int .i64 s)/\l'[25]?=some (.int .i64 k)/\l'[11]?=some (.int .i64 c))/\ju M ao ac w0 w' g b G v ps x V m d->K ⟨l'.toArray,[]⟩ w'):(bR [1,1,1,2,1,5,1,5,1,5,1,5,1,4,0] (aB f33)).wp prog (Exit.then K Q') ⟨l.toArray,[]⟩ wx:=by
 obtain⟨rs,qr,A,c0,hv,ho,_⟩:=id h.st.gr.r;have kj:=h.st.rn;obtain⟨r,hr⟩:=zN (G.rn);rw[hr]at hv kj;obtain⟨c10,c12,-⟩:=h.st.gr.s.cs [10,12];simp only[dQ,vi,Zx]at c10 c12;rw[hv]at c10;obtain⟨k10,k12⟩:=rQ [g] c10 c12;have aO:=zH (h.below 12 ((Below.refl _ wx).drew));replace hr:=zH hr;replace hK:=zH hK;clear h qr ho hv;obtain⟨ab,ax,bb,bc,aW⟩:=hl;obtain⟨fr,rfl,ag⟩:=am ab;rw[bq,ag _ _ ax,ag _ _ bb,ag _ _ bc,ag _ _ aW];clear ab ag ax bb bc aW;refine cG [1,1,1,2,1,5,1,5,1,5,1,5,1,4,0] f33 rfl ?_;go_wp2_with fail;refine bo (C:=cr [g] wx) [] [0,1,2,3,4,5,6,7,8,9,10,11] (by kernel_rfl) (by kernel_rfl) hQ az ?_;refine an ?_;simp only[af,Zx];repeat go_big_quiet_step(fail)
 apply wpQuiet_nil;go_wp2_with fail;exact hK.out _ _ (relab aa wx.heap.size 12) _ ⟨⟨rfl,rfl,rfl,rfl,rfl,rfl⟩,aO.out⟩
theorem YI(h:ju M ao aa w0 wx g b G v ps x V m d)(hl:l.length=246/\l[0]?=some (.pointer (some ⟨g,0,none⟩))/\l[3]?=some (.pointer (some ⟨b,0,none⟩))/\l[4]?=some (.int .i64 s)/\l[25]?=some (.int .i64 k)/\l[11]?=some (.int .i64 c))(hK:∀(l':List Value) wv,(l'.length=246/\l'[0]?=some (.pointer (some ⟨g,0,none⟩))/\l'[3]?=some (.pointer (some ⟨b,0,none⟩))/\l'[4]?=some (.int .i64 s)/\l'[25]?=some (.int .i64 k)/\l'[11]?=some (.int .i64 c)/\l'[12]?=some (.int .i64 wv))->K ⟨l'.toArray,[]⟩ wx):(bR [1,1,1,2,1,5,1,5,1,5,1,5,1,4,1,0] (aB f33)).wp prog (Exit.then K Q') ⟨l.toArray,[]⟩ wx:=by
 have hc:=rZ h.st.gr;replace hK:=zH hK;clear h;obtain⟨ab,ax,bb,bc,aW,qw⟩:=hl;obtain⟨fr,rfl,ag⟩:=am ab;rw[bq,ag _ _ ax,ag _ _ bb,ag _ _ bc,ag _ _ aW,ag _ _ qw];clear ab ag ax bb bc aW qw;refine cG [1,1,1,2,1,5,1,5,1,5,1,5,1,4,1,0] f33 rfl ?_;go_wp2_with fail;refine hc.mono ?_;rintro e w2 ⟨rfl,rfl⟩;clear hc;go_wp2_with fail;exact hK.out _ _ ⟨rfl,rfl,rfl,rfl,rfl,rfl,rfl⟩
theorem YJ(h:ju M ao aa w0 wx g b G v ps x V m d)(hl:l.length=246/\l[0]?=some (.pointer (some ⟨g,0,none⟩))/\l[3]?=some (.pointer (some ⟨b,0,none⟩))/\l[4]?=some (.int .i64 s)/\l[25]?=some (.int .i64 k)/\l[11]?=some (.int .i64 c)/\l[12]?=some (.int .i64 wv))(hK:∀(l':List Value) c,(l'.length=246/\l'[0]?=some (.pointer (some ⟨g,0,none⟩))/\l'[3]?=some (.pointer (some ⟨b,0,none⟩))/\l'[4]?=some (.int .i64 s)/\l'[25]?=some (.int .i64 k)/\l'[11]?=some (.int .i64 c)/\l'[12]?=some (.int .i64 wv))->K ⟨l'.toArray,[]⟩ wx):(bR [1,1,1,2,1,5,1,5,1,5,1,5,1,4,1,1,0] (aB f33)).wp prog (Exit.then K Q') ⟨l.toArray,[]⟩ wx:=by
 have IJ:=h.st.gr.r;obtain⟨rs,qr,A,c0,hv,ho,_⟩:=id IJ;have kj:=h.st.rn;obtain⟨r,hr⟩:=zN (G.rn);rw[hr]at hv kj IJ;have f10:=h.st.gr.s.cell 10;simp only[dQ,vi,Zx]at f10;rw[hv]at f10 IJ;replace hr:=zH hr;replace hK:=zH hK;clear h qr ho hv;obtain⟨ab,ax,bb,bc,aW,qw,E0⟩:=hl;obtain⟨fr,rfl,ag⟩:=am ab;rw[bq,ag _ _ ax,ag _ _ bb,ag _ _ bc,ag _ _ aW,ag _ _ qw,ag _ _ E0];clear ab ag ax bb bc aW qw E0;refine cG [1,1,1,2,1,5,1,5,1,5,1,5,1,4,1,1,0] f33 rfl ?_;go_wp2_with fail
 go_loopw [11,13] (fun u11 u13 wr=>∃(i:Nat) (c:Int),i<=r/\u11=.int .i64 c/\u13=.int .i64 i/\wr=wx) (fun _ u13 _=>r-(intOf u13).toNat)
 case atStart=>exact⟨0,c,Nat.zero_le _,rfl,rfl,rfl⟩
 case round=>
  obtain⟨i,c,hi,rfl,rfl,rfl⟩:=hrel;by_cases bh:i<r
  ·have d1:decide ((i:Int)<(r:Int))=true:=decide_eq_true (by omega);obtain⟨ad,c1,a1,a2,a3,e1,e2,k0,k1,k2⟩:=IJ.at_ bh;injection e1 with e1 _ e3;subst e1;have bi:=zH (show r-(i+1)<r-i by omega);replace IJ:=zH IJ;by_cases hc:c<=a2
   ·have d2:decide (c<=a2)=true:=decide_eq_true hc;go_wp2_with fail;exact⟨⟨i+1,_,bh,rfl,by go_num,trivial⟩,by simp[intOf];exact bi.out⟩
   ·have d2:decide (c<=a2)=false:=decide_eq_false hc;go_wp2_with fail;exact⟨⟨i+1,_,bh,rfl,by go_num,trivial⟩,by simp[intOf];exact bi.out⟩
  ·obtain rfl:i=r:=by omega
   have d1:decide ((i:Int)<(i:Int))=false:=decide_eq_false (by omega);replace IJ:=zH IJ;go_wp2_with fail;refine hK.out _ c ?_;exact⟨rfl,rfl,rfl,rfl,rfl,rfl,rfl⟩
theorem ju.ask{w1:World}{u:Value}(h:ju M ao aa w0 wx g b G v ps x V m d)(kj:G.rn+1<=1000000)(hn:eq (relab aa wx.heap.size 8) 8 w1 u (G.rn+1))(hF:Fr (aL aa 8) wx w1) :
  ay w1 g 79 (dQ G v)/\ju M ao (relab aa wx.heap.size 8) w0 (w1.setCell ⟨g,10,none⟩ u) g b {G with rn:=G.rn+1} {v with reads:=u} ps x V m d:=by
 have bV:=h.st.gr.s.lt;have hB:ay w1 g 79 (dQ G v):=(hF.block g bV fun e=>by have e:aa g=8:=e;have:=h.st.gr.sl;omega).trans h.st.gr.s;have hS:=hB.set_ 10 u;have du:=Fr.set (w:=w1) g 10 u;have gn:=hF.size;have dn:∀j,j<wx.heap.size->aa j≠8->aa j≠1->(w1.setCell ⟨g,10,none⟩ u).heap[j]?=wx.heap[j]?:=fun j hj h5 h1=>
  (du.block j (by omega) fun e=>h1 (by rw[e];exact h.st.gr.sl)).trans (hF.block j hj h5)
 have hL:bC (fun j=>aa j=8\/aa j=1) aa (relab aa wx.heap.size 8) wx (w1.setCell ⟨g,10,none⟩ u):=⟨by have:=du.size;omega,fun j hj hn=>⟨ae hj,dn j hj (fun e=>hn (.inl e)) fun e=>hn (.inr e)⟩,du.os.trans hF.os,du.tape.trans hF.tape,du.output.trans hF.output⟩;have k10:∀j,j<wx.heap.size->aa j=10->¬(aa j=8\/aa j=1):=fun j _ e e2=>by omega
 obtain⟨q1,q2⟩:=hL.stay b h.k.lt (k10 b h.k.lt h.l);refine⟨hB,⟨⟨bB.turn (fun i=>i=8) h.st.gr hS hL.size (fun j hj _=>ae hj) (fun j hj _ h1 h5=>dn j hj h5 h1) (by decide) (.inr ⟨by decide,rfl,rfl,rfl⟩) (.inr ⟨by decide,rfl,rfl⟩) (.inr ⟨by decide,rfl,rfl⟩) (.inr ⟨by decide,rfl,rfl⟩) (.inr ⟨by decide,rfl,rfl⟩) (.inr ⟨by decide,rfl,rfl⟩) (.inl ?_),hL.srvs (fun j _ e=>by omega) h.st.sv,h.st.ok.setRn _,kj⟩,q2.trans h.k,q1.trans h.l,hL.one (P:=fun aa w=>aN (aL aa 10) w (.slice V m d) x.cmd.facts) (fun _ _ _ h1 h2=>h1.mono fun j hj e=>h2 j hj e) (fun _ _ _ h1 h2=>h1.keep h2) k10 h.fv,h.f.trans hL fun j _ hn e hx=>by rw[e]at hx;exact hn (by omega)⟩⟩;exact hn.keep fun j e hj=>du.block j hj fun e2=>by
  rw[e2,ae bV,h.st.gr.sl]at e;omega
theorem YK(h:ju M ao aa w0 wx g b G v ps x V m d)(kj:G.rn+1<=1000000)(hl:l.length=246/\l[0]?=some (.pointer (some ⟨g,0,none⟩))/\l[3]?=some (.pointer (some ⟨b,0,none⟩))/\l[4]?=some (.int .i64 s)/\l[25]?=some (.int .i64 k)/\l[11]?=some (.int .i64 c)/\l[12]?=some (.int .i64 wv))(hK:∀(l':List Value) w' ac v',(l'.length=246/\l'[0]?=some (.pointer (some ⟨g,0,none⟩))/\l'[3]?=some (.pointer (some ⟨b,0,none⟩))/\l'[4]?=some (.int .i64 s)/\l'[25]?=some (.int .i64 k)/\l'[11]?=some (.int .i64 c))/\ju M ao ac w0 w' g b {G with rn:=G.rn+1} v' ps x V m d->K ⟨l'.toArray,[]⟩ w'):(bR [1,1,1,2,1,5,1,5,1,5,1,5,1,4,1,1,1,0] (aB f33)).wp prog (Exit.then K Q') ⟨l.toArray,[]⟩ wx:=by
 have aU:Below wx.heap.size wx (wx.alloc (.cells #[.int .i64 s,.int .i64 c,.int .i64 wv] 149)):=zb.alloc zl _;have eu:=ay.new wx 149 #[.int .i64 s,.int .i64 c,.int .i64 wv];have h2:=h.below 12 aU;have lM:=h2.st.gr.r;have ax:∃A c0,v.reads=.slice A G.rn c0:=by
  obtain⟨rs,qr,A,c0,hv,_⟩:=id lM;exact⟨A,c0,hv⟩
 obtain⟨A,c0,hv⟩:=ax;have f10:=h.st.gr.s.cell 10;simp only[dQ,vi,Zx]at f10;rw[hv]at f10;obtain⟨r,hr⟩:=zN (G.rn);have fo:=zH (fun(A':Option Addr) (c':Nat) (w':World) (hn:eq (relab (relab aa wx.heap.size 12) (wx.alloc (.cells #[.int .i64 s,.int .i64 c,.int .i64 wv] 149)).heap.size 8) 8 w' (.slice A' (r+1) c') (r+1)) (hF:Fr (aL (relab aa wx.heap.size 12) 8) (wx.alloc (.cells #[.int .i64 s,.int .i64 c,.int .i64 wv] 149)) w')=>h2.ask kj (by rw[hr];exact hn) hF);rw[hr]at f10 kj;rw[hv,hr]at lM;have bV:=h.st.gr.s.lt;replace hr:=zH hr;replace hK:=zH hK;clear h h2 aU hv;obtain⟨ab,ax,bb,bc,aW,qw,E0⟩:=hl;obtain⟨fr,rfl,ag⟩:=am ab;rw[bq,ag _ _ ax,ag _ _ bb,ag _ _ bc,ag _ _ aW,ag _ _ qw,ag _ _ E0];clear ab ag ax bb bc aW qw E0;refine cG [1,1,1,2,1,5,1,5,1,5,1,5,1,4,1,1,1,0] f33 rfl ?_;go_wp2_with (at_builtin;refine jJ rfl (.tmp 181) (.tmp 186) rfl rfl lM rfl eu (by omega) ?_;intro A3 c3 w3 bg dW;obtain⟨ig,pp⟩:=fo.out A3 c3 w3 bg dW;replace pp:=zH pp;have z10:=ig.cell 10;have f3:=ig.free 10;simp only[dQ,Zx]at z10;have ip:=ig.lt;clear fo dW bg lM eu ig);exact hK.out _ _ _ _ ⟨⟨rfl,rfl,rfl,rfl,rfl,rfl⟩,pp.out⟩
theorem YL(h:ku M aa wx g G v ps)(hs:s<G.n)(hM:M<=800000000)(hl:l.length=246/\l[0]?=some (.pointer (some ⟨g,0,none⟩))/\l[3]?=some (.pointer (some ⟨b,0,none⟩))/\l[4]?=some (.int .i64 s)/\l[25]?=some (.int .i64 k)/\l[11]?=some (.int .i64 c))(hK:∀(l':List Value) w' ac er b2 X,(l'.length=246/\l'[0]?=some (.pointer (some ⟨g,0,none⟩))/\l'[3]?=some (.pointer (some ⟨b,0,none⟩))/\l'[4]?=some (.int .i64 s)/\l'[14]?=some (.int .i64 er)/\l'[15]?=some (.pointer (some ⟨b2,0,none⟩)))/\er=((G.srv s).read c).1.1/\ay w' b2 49 (aK ((G.srv s).read c).1.2 X)/\pa aa ac wx w' g s G v ps ((G.srv s).read c).2 ((G.srv s).read c).1.2 X->K ⟨l'.toArray,[]⟩ w'):(bR [1,1,1,2,1,5,1,5,1,5,1,5,1,4,1,1,1,1,0] (aB f33)).wp prog (Exit.then K Q') ⟨l.toArray,[]⟩ wx:=by
 obtain⟨⟨_,gg⟩,mG,_,_,_,_,_,cz⟩:=h.ok.facts;obtain⟨p,rv,hp,hr⟩:=h.sv s hs;obtain⟨q,c0,hq,jX,eW,fR,kG,aQ,ef⟩:=h.gr.l.form (by omega);have f1:=h.gr.s.cell 1;simp only[dQ,vi,Zx]at f1;rw[hq]at f1;have cp:=aQ s (kq p) (by rw[List.getElem?_map,hp];rfl);unfold kq at cp;have J8:20<=sb s:=by unfold sb;omega
 have gf:=FH 10 c hr (cz s hs).1 hM (by omega) (by omega);have gf:Calls prog 74 #[.pointer (some ⟨p,0,none⟩),.int .i64 c] wx fun e w'=>∃X,e=.returned (.tuple #[.int .i64 ((G.srv s).read c).1.1,.agg (aK ((G.srv s).read c).1.2 X)])/\cV aa (sb s) 10 wx p ((G.srv s).read c).1.2 ((G.srv s).read c).2 X w':=gf
 have aO:=zH (fun X w1 (hT:cV aa (sb s) 10 wx p ((G.srv s).read c).1.2 ((G.srv s).read c).2 X w1)=>show ∃ac,ay (w1.alloc (.cells (aK ((G.srv s).read c).1.2 X) 49)) w1.heap.size 49 (aK ((G.srv s).read c).1.2 X)/\pa aa ac wx (w1.alloc (.cells (aK ((G.srv s).read c).1.2 X) 49)) g s G v ps ((G.srv s).read c).2 ((G.srv s).read c).1.2 X from by
  obtain⟨ar,q1,q2,q3,q4⟩:=Dv h.gr h.sv hs mG hp hT;have hA:pa aa ar wx w1 g s G v ps ((G.srv s).read c).2 ((G.srv s).read c).1.2 X:=⟨q1,q2,q3,q4.mono fun j _ hm e=>by unfold ba sb at hm;omega⟩;exact⟨_,ay.new w1 49 _,hA.below (zb.alloc zl _)⟩)
 obtain⟨er,ub⟩:=zN (((G.srv s).read c).1.1);obtain⟨n,hn⟩:=zN (G.n);rw[hn]at f1 jX hs;rw[ub]at gf;have ou:s<7:=by omega
 unfold aK at gf;replace hK:=zH hK;replace hn:=zH hn;replace ub:=zH ub;replace aQ:=zH aQ;replace ef:=zH ef;replace hp:=zH hp;clear h hr cz mG hq;obtain⟨ab,ax,bb,bc,aW,qw⟩:=hl;obtain⟨fr,rfl,ag⟩:=am ab;rw[bq,ag _ _ ax,ag _ _ bb,ag _ _ bc,ag _ _ aW,ag _ _ qw];clear ab ag ax bb bc aW qw;refine cG [1,1,1,2,1,5,1,5,1,5,1,5,1,4,1,1,1,1,0] f33 rfl ?_;go_wp2_with fail;refine gf.mono ?_;rintro e w1 ⟨X,rfl,hT⟩;obtain⟨ar,hE⟩:=aO.out X w1 hT;replace hE:=zH hE;clear gf hT aO;go_wp2_with fail;refine hK.out _ _ ar er w1.heap.size X ?_;exact⟨⟨rfl,rfl,rfl,rfl,rfl,rfl⟩,ub.out.symm,hE.out⟩
theorem YM(ub:er=0)(hl:l.length=246/\l[0]?=some (.pointer (some ⟨g,0,none⟩))/\l[3]?=some (.pointer (some ⟨b,0,none⟩))/\l[4]?=some (.int .i64 s)/\l[14]?=some (.int .i64 er)/\l[15]?=some (.pointer (some ⟨b2,0,none⟩)))(hK:∀(l':List Value),(l'.length=246/\l'[0]?=some (.pointer (some ⟨g,0,none⟩))/\l'[3]?=some (.pointer (some ⟨b,0,none⟩))/\l'[4]?=some (.int .i64 s)/\l'[14]?=some (.int .i64 er)/\l'[15]?=some (.pointer (some ⟨b2,0,none⟩)))->K ⟨l'.toArray,[]⟩ wx):(bR [1,1,1,2,1,5,1,5,1,5,1,5,1,4,1,1,1,1,1,0] (aB f33)).wp prog (Exit.then K Q') ⟨l.toArray,[]⟩ wx:=by
 subst ub;replace hK:=zH hK;obtain⟨ab,ax,bb,bc,wz,wD⟩:=hl;obtain⟨fr,rfl,ag⟩:=am ab;rw[bq,ag _ _ ax,ag _ _ bb,ag _ _ bc,ag _ _ wz,ag _ _ wD];clear ab ag ax bb bc wz wD;refine cG [1,1,1,2,1,5,1,5,1,5,1,5,1,4,1,1,1,1,1,0] f33 rfl ?_;go_wp2_with fail;refine hK.out _ ?_;exact⟨rfl,rfl,rfl,rfl,rfl,rfl⟩
theorem pa.unask(h:pa ao aa w0 wx g s {G with rn:=G.rn+1} v ps R' o X)(hR:R'=G.srv s)(hs:s<G.n)(mG:G.l.length=G.n){A:Option Addr}{c0 n:Nat}(hn:G.rn=n)(hv:v.reads=.slice A (n+1) c0)(cz:ik M G)(kj:G.rn+1<=1000000) :
  ku M aa (wx.setCell ⟨g,10,none⟩ (.slice A n c0)) g G {v with reads:=.slice A n c0} ps/\bC (fun j=>ao j≠10) ao aa w0 (wx.setCell ⟨g,10,none⟩ (.slice A n c0)):=by
 subst hn;have e0:G.l.set s R'=G.l:=by
  subst hR;refine rx ?_;unfold Gp.srv;rw[List.getElem?_eq_getElem (by omega)];rfl
 obtain⟨hg,hS,_,hf⟩:=h;have hg:bB aa wx g {G with rn:=G.rn+1,l:=G.l} v ps:=by
  have:=hg;simp only at this;rw[e0]at this;exact this
 have hS:fS aa wx G.n G.l ps:=by
  have:=hS;simp only at this;rw[e0]at this;exact this
 have hB:=hg.s.set_ 10 (.slice A G.rn c0);have hF:=Fr.set (w:=wx) g 10 (.slice A G.rn c0);have dn:∀j,j<wx.heap.size->aa j≠1->(wx.setCell ⟨g,10,none⟩ (.slice A G.rn c0)).heap[j]?=wx.heap[j]?:=fun j hj h1=>hF.block j hj fun e=>h1 (by rw[e];exact hg.sl)
 have hL:bC (fun j=>aa j=1) aa aa wx (wx.setCell ⟨g,10,none⟩ (.slice A G.rn c0)):=⟨hF.size,fun j hj hn=>⟨rfl,dn j hj hn⟩,hF.os,hF.tape,hF.output⟩;refine⟨⟨bB.turn (G':=G) (v':={v with reads:=.slice A G.rn c0}) (fun i=>i=8) hg hB hF.size (fun _ _ _=>rfl) (fun j hj _ h1 _=>dn j hj h1) (by decide) (.inr ⟨by decide,rfl,rfl,rfl⟩) (.inr ⟨by decide,rfl,rfl⟩) (.inr ⟨by decide,rfl,rfl⟩) (.inr ⟨by decide,rfl,rfl⟩) (.inr ⟨by decide,rfl,rfl⟩) (.inr ⟨by decide,rfl,rfl⟩) (.inl ?_),hL.srvs (fun j _ e=>by omega) hS,cz,by omega⟩,hf.trans hL fun j _ hn e hx=>by rw[e]at hx;exact hn (by omega)⟩;obtain⟨rs,qr,A',c',Un,ho,g9⟩:=hg.r;rw[hv]at Un;injection Un with e1 _ e3;subst e1;subst e3;have qr:rs.length=G.rn+1:=qr;have ho:wx.ownsRow 0 149 3 (.slice A (G.rn+1) c0) (G.rn+1) (rs.flatMap fun x=>[vi x.1,vi x.2.1,vi x.2.2]):=ho;refine⟨rs.take G.rn,by rw[List.length_take];omega,?_⟩;have h1:aX aa 8 wx 149 3 (.slice A G.rn c0) G.rn ((rs.take G.rn).flatMap fun x=>[vi x.1,vi x.2.1,vi x.2.2]):=by
  refine⟨A,c0,rfl,?_,g9⟩;obtain⟨a1,a2⟩:=ho;have a3:((rs.take G.rn).flatMap fun x=>[vi x.1,vi x.2.1,vi x.2.2])=(rs.flatMap fun x=>[vi x.1,vi x.2.1,vi x.2.2]).take (G.rn*3):=jB (k:=3) (fun _=>rfl) rs G.rn;refine⟨by rw[a3,List.length_take,a1];omega,?_⟩;rcases a2 with⟨q1,q2⟩|⟨gq,cap,cur,q1,q2,q3,q4,q5,q6,q7⟩
  ·omega
  ·injection q1 with r1 _ r3;subst r1;subst r3;exact .inr ⟨gq,c0,cur,rfl,q2,q3,by omega,q5,q6,by rw[a3,<-q7,List.take_take];congr 1;omega⟩
 exact h1.keep fun j e hj=>dn j hj (by omega)
theorem SO(Wl:∀c (a b:Go.Act) w,a.defers=b.defers->Q' (.panic c) a w->Q' (.panic c) b w)(h:pa ao aa w0 wx g s {G with rn:=G.rn+1} v ps R' o X)(hR:R'=G.srv s)(hs:s<G.n)(mG:G.l.length=G.n)(cz:ik M G)(kj:G.rn+1<=1000000)(ub:er≠0)(hl:l.length=246/\l[0]?=some (.pointer (some ⟨g,0,none⟩))/\l[3]?=some (.pointer (some ⟨b,0,none⟩))/\l[4]?=some (.int .i64 s)/\l[14]?=some (.int .i64 er)/\l[15]?=some (.pointer (some ⟨b2,0,none⟩)))(hQ:∀(l':List Value) w',Dx M ao w0 g G w'->Q' .ret ⟨l'.toArray,[]⟩ w'):(bR [1,1,1,2,1,5,1,5,1,5,1,5,1,4,1,1,1,1,1,0] (aB f33)).wp prog (Exit.then K Q') ⟨l.toArray,[]⟩ wx:=by
 obtain⟨rs,qr,A,c0,hv,ho,_⟩:=id h.gr.r;obtain⟨r,hr⟩:=zN (G.rn);have sX:=aZ ho;have hv:v.reads=.slice A (G.rn+1) c0:=hv;have sX:G.rn+1<=c0/\c0<=maxLen:=sX;rw[hr]at hv sX;have aO:=zH (fun w' (hb:Below wx.heap.size (wx.setCell ⟨g,10,none⟩ (.slice A r c0)) w')=>show Dx M ao w0 g G w' from by
  obtain⟨q1,q2⟩:=h.unask hR hs mG hr hv cz kj;have bU:Below (wx.setCell ⟨g,10,none⟩ (.slice A r c0)).heap.size (wx.setCell ⟨g,10,none⟩ (.slice A r c0)) w':=by
   have e:(wx.setCell ⟨g,10,none⟩ (.slice A r c0)).heap.size=wx.heap.size:=by simp[World.setCell]
   rw[e];exact hb
  exact⟨_,_,_,_,(q1.below 12 bU).1,rfl,by omega,q2.ten (q1.below 12 bU).2⟩)
 have f10:=h.gr.s.cell 10;simp only[dQ,vi,Zx]at f10;rw[hv]at f10;have fz:=h.gr.s.free 10;have bV:=h.gr.s.lt;have k10:=IX [g] f10;rw[hr]at kj;replace hr:=zH hr;replace hQ:=zH hQ;have d1:(er==0)=false:=beq_eq_false_iff_ne.2 ub;have d2:decide (er=0)=false:=decide_eq_false ub;have d3:(er !=0)=true:=by simp[ub]
 clear h qr ho hv cz mG;obtain⟨ab,ax,bb,bc,wz,wD⟩:=hl;obtain⟨fr,rfl,ag⟩:=am ab;rw[bq,ag _ _ ax,ag _ _ bb,ag _ _ bc,ag _ _ wz,ag _ _ wD];clear ab ag ax bb bc wz wD;refine cG [1,1,1,2,1,5,1,5,1,5,1,5,1,4,1,1,1,1,1,0] f33 rfl ?_;go_wp2_with fail;refine bz (C:=cr [g] wx) [] ([0,1,2,3,4,5,6,7,8,9,10,11,12,13],14) (by kernel_rfl) (by kernel_rfl) Wl az ?_;refine aE ?_;simp only[af,Zx];repeat go_big_quiet_step(fail)
 apply wpQuiet_nil;go_wp2_with fail;exact hQ.out _ _ (aO.out _ (zb.drew))
theorem YN(h:pa ao aa w0 wx g s G v ps R' o X)(hb:ay wx b2 49 (aK o X))(cz:ik M G)(kj:G.rn<=1000000)(hs:s<G.n)(hM:M<=800000000)(hA:ik (M+11) (G.act s (o,R'))/\ni {G with l:=G.l.set s R'} s o)(hl:l.length=246/\l[0]?=some (.pointer (some ⟨g,0,none⟩))/\l[3]?=some (.pointer (some ⟨b,0,none⟩))/\l[4]?=some (.int .i64 s)/\l[14]?=some (.int .i64 er)/\l[15]?=some (.pointer (some ⟨b2,0,none⟩)))(hK:∀(l':List Value) w',Cx (M+11) ao w0 g G w'->K ⟨l'.toArray,[]⟩ w'):(bR [1,1,1,2,1,5,1,5,1,5,1,5,1,4,1,1,1,1,1,1] (aB f33)).wp prog (Exit.then K Q') ⟨l.toArray,[]⟩ wx:=by
 have hc:=h.takes cz kj hs hM hA false;obtain⟨y0,y1,y2,y3,y4,y5,y6,y7,y8,-⟩:=hb.cs [0,1,2,3,4,5,6,7,8];simp only[aK,vi,Zx]at y0 y1 y2 y3 y4 y5 y6 y7 y8;unfold aK at hc;replace hK:=zH hK;clear h hb cz hA;obtain⟨ab,ax,bb,bc,wz,wD⟩:=hl;obtain⟨fr,rfl,ag⟩:=am ab;rw[bq,ag _ _ ax,ag _ _ bb,ag _ _ bc,ag _ _ wz,ag _ _ wD];clear ab ag ax bb bc wz wD;refine cG [1,1,1,2,1,5,1,5,1,5,1,5,1,4,1,1,1,1,1,1] f33 rfl ?_;go_wp2_with fail;refine hc.mono ?_;rintro e w3 ⟨rfl,hC⟩;replace hC:=zH hC;clear hc;go_wp2_with fail;exact hK.out _ _ hC.out
theorem HS{R:Rf}{c:Int}(h:(R.read c).1.1≠0):(R.read c).2=R:=by
 unfold Rf.read at h ⊢;split
 ·rfl
 ·rename_i h1;rw[if_neg h1]at h;split
  ·rfl
  ·rename_i h2;rw[if_neg h2]at h;split
   ·rfl
   ·rename_i h3;rw[if_neg h3]at h;exact absurd rfl h
theorem GE(hQ:∀c (a b:Go.Act) w,a.defers=b.defers->Q' (.panic c) a w->Q' (.panic c) b w)(hR:∀(l':List Value) w',Dx (M+11) ao w0 g G w'->Q' .ret ⟨l'.toArray,[]⟩ w')(h:ju M ao aa w0 wx g b G v ps x V m d)(hs:s<G.n)(kj:G.rn+1<=1000000)(hM:M+11<=800000000)(hl:l.length=246/\l[0]?=some (.pointer (some ⟨g,0,none⟩))/\l[3]?=some (.pointer (some ⟨b,0,none⟩))/\l[4]?=some (.int .i64 s)/\l[25]?=some (.int .i64 k))(hK:∀(l':List Value) w',Dx (M+11) ao w0 g G w'->K ⟨l'.toArray,[]⟩ w'):(bR [1,1,1,2,1,5,1,5,1,5,1,5,1,4] (aB f33)).wp prog (Exit.then K Q') ⟨l.toArray,[]⟩ wx:=by
 obtain⟨_,mG,_⟩:=h.st.ok.facts;refine aF [1,1,1,2,1,5,1,5,1,5,1,5,1,4,0] [1,1,1,2,1,5,1,5,1,5,1,5,1,4,1] (by kernel_rfl) (YH (fun _ _ _ _ e h=>hQ _ _ _ _ e h) h hl fun l1 w1 ar c h1=>?_);obtain⟨dm,sM⟩:=h1;refine aF [1,1,1,2,1,5,1,5,1,5,1,5,1,4,1,0] [1,1,1,2,1,5,1,5,1,5,1,5,1,4,1,1] (by kernel_rfl) (YI sM dm fun l2 wv fB=>?_);refine aF [1,1,1,2,1,5,1,5,1,5,1,5,1,4,1,1,0] [1,1,1,2,1,5,1,5,1,5,1,5,1,4,1,1,1] (by kernel_rfl) (YJ sM fB fun l3 c3 oe=>?_);refine aF [1,1,1,2,1,5,1,5,1,5,1,5,1,4,1,1,1,0] [1,1,1,2,1,5,1,5,1,5,1,5,1,4,1,1,1,1] (by kernel_rfl) (YK sM kj oe fun l4 w4 su v4 h4=>?_);obtain⟨px,Jt⟩:=h4;refine aF [1,1,1,2,1,5,1,5,1,5,1,5,1,4,1,1,1,1,0] [1,1,1,2,1,5,1,5,1,5,1,5,1,4,1,1,1,1,1] (by kernel_rfl) (YL Jt.st hs (by omega) px fun l5 w5 dz er b2 X h5=>?_);obtain⟨na,ub,dp,Tb⟩:=h5;have mb:=Jt.st.ok;obtain⟨t1,t2,_⟩:=mb.readT hs (by omega) c3;by_cases he:er=0
 ·refine aF [1,1,1,2,1,5,1,5,1,5,1,5,1,4,1,1,1,1,1,0] [1,1,1,2,1,5,1,5,1,5,1,5,1,4,1,1,1,1,1,1] (by kernel_rfl) (YM he na fun l6 Dh=>?_);refine YN Tb dp mb Jt.st.rn hs (by omega) ⟨t1,t2⟩ Dh fun l7 w7 hC=>hK _ _ ?_
  obtain⟨ac,G',v',ps',q1,q2,q3,q4⟩:=hC;exact⟨ac,G',v',ps',q1,q2,q3,Jt.f.ten q4⟩
 ·refine aF [1,1,1,2,1,5,1,5,1,5,1,5,1,4,1,1,1,1,1,0] [1,1,1,2,1,5,1,5,1,5,1,5,1,4,1,1,1,1,1,1] (by kernel_rfl) (SO (fun _ _ _ _ e h=>hQ _ _ _ _ e h) Tb (HS (by rw[<-ub];exact he)) hs mG h.st.ok kj he na fun l6 w6 hD=>hR _ _ ?_);obtain⟨ac,G',v',ps',q1,q2,q3,q4⟩:=hD.mono (M':=M+11) (by omega);exact⟨ac,G',v',ps',q1,q2,q3,Jt.f.ten q4⟩
end
inductive jN where
 | last (seg:List Nat)
 | one (seg:List Nat) (i:Nat) (p:jN)
 | two (seg:List Nat) (i j:Nat) (p q:jN)
 | three (seg:List Nat) (i j k:Nat) (p q r:jN)
def jN.len:jN->Nat
 | .last seg=>seg.length
 | .one seg _ p=>seg.length+(p.len+1)
 | .two seg _ _ p _=>seg.length+(p.len+1)
 | .three seg _ _ _ p _ _=>seg.length+(p.len+1)
def jN.row(l:List Oper):jN->Array Bool->Bool
 | .last seg,listed=>match ch l seg listed with
  | some r=>(Region.ready .any l.toArray r).isEmpty
  | none=>false
 | .one seg i p,listed=>match ch l seg listed with
  | some r=>Region.ready .any l.toArray r==[i]&&p.row l (r.setIfInBounds i true)
  | none=>false
 | .two seg i j p q,listed=>match ch l seg listed with
  | some r=>Region.ready .any l.toArray r==[i,j]&&(p.len==q.len)&&p.row l (r.setIfInBounds i true)&&q.row l (r.setIfInBounds j true)
  | none=>false
 | .three seg i j k p q s,listed=>match ch l seg listed with
  | some r=>Region.ready .any l.toArray r==[i,j,k]&&(p.len==q.len)&&(p.len==s.len)&&p.row l (r.setIfInBounds i true)&&q.row l (r.setIfInBounds j true)&&s.row l (r.setIfInBounds k true)
  | none=>false
def IV(l:List Oper)(p:jN):Bool:=Region.noSelect l.toArray&&(p.len==l.length)&&p.row l (Array.replicate l.length false)
section
variable {P:Program}{l:List Oper}{C:World->Prop}{Q:Exit->Act->World->Prop}
def cU(P:Program)(l:List Oper)(C:World->Prop)(Q:Exit->Act->World->Prop):jN->Act->World->Prop
 | .last seg,a,w=>wpQuiet P l.toArray C (fun a'=>Q .normal a' w) (af l seg) a
 | .one seg i p,a,w=>wpQuiet P l.toArray C (fun a'=>wpList P l.toArray (bG C (cU P l C Q p) Q) (af l [i]) a' w) (af l seg) a
 | .two seg i j p q,a,w=>wpQuiet P l.toArray C (fun a'=>wpList P l.toArray (bG C (cU P l C Q p) Q) (af l [i]) a' w/\wpList P l.toArray (bG C (cU P l C Q q) Q) (af l [j]) a' w) (af l seg) a
 | .three seg i j k p q s,a,w=>wpQuiet P l.toArray C (fun a'=>wpList P l.toArray (bG C (cU P l C Q p) Q) (af l [i]) a' w/\wpList P l.toArray (bG C (cU P l C Q q) Q) (af l [j]) a' w/\wpList P l.toArray (bG C (cU P l C Q s) Q) (af l [k]) a' w) (af l seg) a
theorem fM{seg:List Nat}{a:Act}{w:World}(h:wpQuiet P l.toArray C (fun a'=>Q .normal a' w) (af l seg) a):cU P l C Q (.last seg) a w:=h
theorem bI{seg:List Nat}{i:Nat}{p:jN}{a:Act}{w:World}
  (h:∀K:Act->World->Prop,(∀a w,cU P l C Q p a w->K a w)->wpQuiet P l.toArray C (fun a'=>wpList P l.toArray (bG C K Q) (af l [i]) a' w) (af l seg) a):cU P l C Q (.one seg i p) a w:=
 h _ fun _ _ h=>h
theorem mT{seg:List Nat}{i j:Nat}{p q:jN}{a:Act}{w:World}
  (h:∀K K':Act->World->Prop,(∀a w,cU P l C Q p a w->K a w)->(∀a w,cU P l C Q q a w->K' a w)->
   wpQuiet P l.toArray C (fun a'=>wpList P l.toArray (bG C K Q) (af l [i]) a' w/\wpList P l.toArray (bG C K' Q) (af l [j]) a' w) (af l seg) a):cU P l C Q (.two seg i j p q) a w:=
 h _ _ (fun _ _ h=>h) fun _ _ h=>h
theorem uN{seg:List Nat}{i j k:Nat}{p q s:jN}{a:Act}{w:World}
  (h:∀K K' K'':Act->World->Prop,(∀a w,cU P l C Q p a w->K a w)->(∀a w,cU P l C Q q a w->K' a w)->(∀a w,cU P l C Q s a w->K'' a w)->
   wpQuiet P l.toArray C (fun a'=>wpList P l.toArray (bG C K Q) (af l [i]) a' w/\wpList P l.toArray (bG C K' Q) (af l [j]) a' w/\wpList P l.toArray (bG C K'' Q) (af l [k]) a' w) (af l seg) a):cU P l C Q (.three seg i j k p q s) a w:=
 h _ _ _ (fun _ _ h=>h) (fun _ _ h=>h) fun _ _ h=>h
theorem FZ(hs:Region.noSelect l.toArray=true)(hQ:∀c (a b:Act) w,a.defers=b.defers->Q (.panic c) a w->Q (.panic c) b w)(p:jN) :
  ∀(listed:Array Bool) (a:Act) (w:World),p.row l listed=true->C w->cU P l C Q p a w->wpAnyH P .any l.toArray Q C p.len listed a w:=by
 induction p with
 | last seg=>
  intro listed a w hr hC h;unfold jN.row at hr;cases hc:ch l seg listed with
  | none=>rw[hc]at hr;cases hr
  | some r=>
   rw[hc]at hr;have:=eR (P:=P) (C:=C) (Q:=Q) hs hQ seg listed r a w 0 (fun a'=>Q .normal a' w) hc hC h (fun a' ha=>wpAnyH_done (by simpa using hr) ha 0);simpa[jN.len]using this
 | one seg i p ih=>
  intro listed a w hr hC h;unfold jN.row at hr;cases hc:ch l seg listed with
  | none=>rw[hc]at hr;cases hr
  | some r=>
   rw[hc]at hr;simp only[Bool.and_eq_true,beq_iff_eq]at hr;refine eR (P:=P) (C:=C) (Q:=Q) hs hQ seg listed r a w _ _ hc hC h fun a' ha=>?_
   refine wpAnyH_all hr.1 (by simp) fun k hk=>?_
   obtain rfl:k=i:=by simpa using hk
   exact eU (by rw[hr.1];exact hk) ha fun a w h1 h2=>ih _ a w hr.2 h2 h1
 | two seg i j p q ihp ihq=>
  intro listed a w hr hC h;unfold jN.row at hr;cases hc:ch l seg listed with
  | none=>rw[hc]at hr;cases hr
  | some r=>
   rw[hc]at hr;simp only[Bool.and_eq_true,beq_iff_eq]at hr;obtain⟨⟨⟨h1,h2⟩,h3⟩,h4⟩:=hr;refine eR (P:=P) (C:=C) (Q:=Q) hs hQ seg listed r a w _ _ hc hC h fun a' ha=>?_
   refine wpAnyH_all h1 (by simp) fun k hk=>?_
   have sT:k=i\/k=j:=by simpa using hk
   rcases sT with rfl|rfl
   ·exact eU (by rw[h1];exact hk) ha.1 fun a w h5 h6=>ihp _ a w h3 h6 h5
   ·exact eU (by rw[h1];exact hk) ha.2 fun a w h5 h6=>by have:=ihq _ a w h4 h6 h5;rw[<-h2]at this;exact this
 | three seg i j k p q s ihp ihq ihs=>
  intro listed a w hr hC h;unfold jN.row at hr;cases hc:ch l seg listed with
  | none=>rw[hc]at hr;cases hr
  | some r=>
   rw[hc]at hr;simp only[Bool.and_eq_true,beq_iff_eq]at hr;obtain⟨⟨⟨⟨⟨h1,h2⟩,xK⟩,h3⟩,h4⟩,h5⟩:=hr;refine eR (P:=P) (C:=C) (Q:=Q) hs hQ seg listed r a w _ _ hc hC h fun a' ha=>?_
   refine wpAnyH_all h1 (by simp) fun k' hk=>?_
   have sT:k'=i\/k'=j\/k'=k:=by simpa using hk
   rcases sT with rfl|rfl|rfl
   ·exact eU (by rw[h1];exact hk) ha.1 fun a w h6 h7=>ihp _ a w h3 h7 h6
   ·exact eU (by rw[h1];exact hk) ha.2.1 fun a w h6 h7=>by have:=ihq _ a w h4 h7 h6;rw[<-h2]at this;exact this
   ·exact eU (by rw[h1];exact hk) ha.2.2 fun a w h6 h7=>by have:=ihs _ a w h5 h7 h6;rw[<-xK]at this;exact this
theorem rJ{id:Nat}{a:Act}{w:World}(p:jN)(hm:P.follows .mixedOrders=true)(hB:IV l p=true)
  (hQ:∀c (a b:Act) w,a.defers=b.defers->Q (.panic c) a w->Q (.panic c) b w) (hC:C w.drew) (h:cU P l C Q p a w.drew):(Code.region id l.toArray true).wp P Q a w:=by
 simp only[IV,Bool.and_eq_true,beq_iff_eq]at hB;obtain⟨⟨hs,ab⟩,aD⟩:=hB;refine wp_region_held (S:=C) hm ?_;have:=FZ (P:=P) hs hQ p _ a w.drew aD hC h;rw[ab]at this;simpa using this
end
section
variable {ao aa ac ar:Nat->Nat}{g b b2 s p t n k m d i:Nat}{x:xG}{V:Option Addr}{c er wv:Int}{R':Rf}{o:Ot}{X:Ox}{G G' G1:Gp}{v v':Gv}{ps ps':List Nat}{w w0 w1 wx w':World}{K:Go.Act->World->Prop}{Q':Exit->Go.Act->World->Prop}{l:List Value}{H:Ending->World->Prop}{M M':Nat}{u:Value}
theorem zu{R:Rf}{c:En}(h:(R.propose c).1.2.1≠0):(R.propose c).2=R:=by
 unfold Rf.propose at h ⊢;split
 ·rfl
 ·rename_i h1;rw[if_neg h1]at h;simp only at h ⊢;split
  ·rename_i h2;have e:(R.track.putF R.hard.term c).2=R.track:=by
    unfold bv.putF at h2 ⊢;split
    ·rfl
    ·rename_i h3;rw[if_neg h3]at h2;split
     ·rfl
     ·rename_i h4;rw[if_neg h4]at h2;exact absurd rfl h2
   rw[e]
  ·rename_i h2;rw[if_neg h2]at h;exact absurd rfl h
theorem Kx{m d:Nat}{y:En}(h:ku M aa w g G v ps)(hs:s<G.n)(hp:ps[s]?=some p)(hM:M<=800000000)(hf:aN (aL aa 10) w (.slice V m d) y.facts) :
  Calls prog 21 #[.pointer (some ⟨p,0,none⟩),.agg #[.int .i64 y.op,.int .i64 y.sess,.int .i64 y.seq,.slice V m d]] w fun e w'=>∃X A1 n1 c1 ac,e=.returned (.tuple #[rN ((G.srv s).propose y).1.1 (.slice A1 n1 c1),.int .i64 ((G.srv s).propose y).1.2.1,.agg (aK ((G.srv s).propose y).1.2.2 X)])/\
   pa aa ac w w' g s G v ps ((G.srv s).propose y).2 ((G.srv s).propose y).1.2.2 X/\∀j,j<w.heap.size->aa j<20->ac j=aa j/\w'.heap[j]?=w.heap[j]?:=by
 obtain⟨_,mG,_,_,_,_,_,cz⟩:=h.ok.facts;obtain⟨p',rv,Ht,hr⟩:=h.sv s hs;rw[hp]at Ht;obtain rfl:=Option.some.inj Ht;have J8:20<=sb s:=by unfold sb;omega
 have hm:m<=maxLen:=by
  obtain⟨A,n,c,e,h1,h2,_⟩:=hf.form;injection e with _ e2 _;omega
 refine(xj 10 y V m d 10 hr (cz s hs).1 hM (by omega) (by omega) (by omega) hf hm).mono ?_;rintro e w' ⟨X,A1,n1,c1,rfl,hT⟩;obtain⟨ar,q1,q2,q3,q4⟩:=Dv h.gr h.sv hs mG hp hT.tpost;exact⟨X,A1,n1,c1,ar,rfl,⟨q1,q2,q3,q4.mono fun j _ hm e=>by unfold ba sb at hm;omega⟩,fun j hj hl=>q4.stay j hj fun hm=>by unfold ba sb at hm;omega⟩
theorem pa.stored{b8 b10:Nat}(h:pa ao aa w0 wx g s G v ps R' o X)(k8:ay wx b8 59 cE)(k10:ay wx b10 49 aV)(l8:aa b8=12)(l10:aa b10=12)(cH:b8≠b10)(z:Value×En) :
  pa ao aa w0 (bQ (set6 wx b8 z) b10 o X) g s G v ps R' o X/\ay (set6 wx b8 z) b10 49 aV/\ay (bQ (set6 wx b8 z) b10 o X) b10 49 (aK o X):=by
 have mq:=Fr.set6 wx b8 z;have GO:=fD (set6 wx b8 z) b10 o X;have k10':ay (set6 wx b8 z) b10 49 aV:=(mq.block _ k10.lt fun e=>cH e.symm).trans k10;exact⟨(h.set l8 mq).set l10 GO,k10',nJ o X k10'⟩
theorem pa.box{T1:TypeId}{c1:Array Value}(h:pa ao aa w0 wx g s G v ps R' o X) :
  pa ao (relab aa wx.heap.size 12) w0 (wx.alloc (.cells c1 T1)) g s G v ps R' o X/\ay (wx.alloc (.cells c1 T1)) wx.heap.size T1 c1/\relab aa wx.heap.size 12 wx.heap.size=12/\Below wx.heap.size wx (wx.alloc (.cells c1 T1)):=
 have hb:Below wx.heap.size wx (wx.alloc (.cells c1 T1)):=zb.alloc zl _
 ⟨h.below hb,ay.new wx T1 c1,aA zl,hb⟩
end
section
variable {ao aa ac ar:Nat->Nat}{g b b2 s p t n k m d i:Nat}{x:xG}{V:Option Addr}{c er wv:Int}{R':Rf}{o:Ot}{X:Ox}{G G' G1:Gp}{v v':Gv}{ps ps':List Nat}{w w0 w1 wx w':World}{K:Go.Act->World->Prop}{Q':Exit->Go.Act->World->Prop}{l:List Value}{H:Ending->World->Prop}{M M':Nat}{u:Value}
theorem cM{w w':World}{j:Nat}(h:w'.heap[j]?=w.heap[j]?)(hj:j<w.heap.size):j<w'.heap.size:=by
 rw[Array.getElem?_eq_getElem hj]at h;exact aS h
theorem YE(hQ:∀c (a b:Go.Act) w,a.defers=b.defers->Q' (.panic c) a w->Q' (.panic c) b w)(h:ju M ao aa w0 wx g b G v ps x V m d)(hs:s<G.n)(hM:M<=800000000)(hl:l.length=246/\l[0]?=some (.pointer (some ⟨g,0,none⟩))/\l[3]?=some (.pointer (some ⟨b,0,none⟩))/\l[4]?=some (.int .i64 s)/\l[25]?=some (.int .i64 k))(hK:∀(l':List Value) w' ac er b2 X,(l'.length=246/\l'[0]?=some (.pointer (some ⟨g,0,none⟩))/\l'[3]?=some (.pointer (some ⟨b,0,none⟩))/\l'[4]?=some (.int .i64 s)/\l'[9]?=some (.int .i64 er)/\l'[10]?=some (.pointer (some ⟨b2,0,none⟩)))/\er=((G.srv s).propose x.cmd).1.2.1/\ay w' b2 49 (aK ((G.srv s).propose x.cmd).1.2.2 X)/\pa ao ac w0 w' g s G v ps ((G.srv s).propose x.cmd).2 ((G.srv s).propose x.cmd).1.2.2 X/\w'.heap[b]?=wx.heap[b]?->K ⟨l'.toArray,[]⟩ w'):(bR [1,1,1,2,1,5,1,5,1,5,1,4,0] (aB f33)).wp prog (Exit.then K Q') ⟨l.toArray,[]⟩ wx:=by
 obtain⟨⟨_,gg⟩,mG,_⟩:=h.st.ok.facts;obtain⟨p,rv,hp,_⟩:=h.st.sv s hs;obtain⟨q,c,hq,jX,eW,fR,kG,aQ,ef⟩:=h.st.gr.l.form (by omega);have c1:=h.st.gr.s.cell 1;simp only[dQ,vi,Zx]at c1;rw[hq]at c1;have cp:=aQ s (kq p) (by rw[List.getElem?_map,hp];rfl);unfold kq at cp;obtain⟨y4,y5,y6,y7,-⟩:=h.k.cs [4,5,6,7];simp only[tN,vi,Zx]at y4 y5 y6 y7;have bV:=h.st.gr.s.lt;have uV:=h.k.lt;have ou:s<7:=by omega
 have bY:∀j∈[g,b,q],j<wx.heap.size/\aa j<20:=by simp;exact⟨⟨bV,by rw[h.st.gr.sl];omega⟩,⟨uV,by rw[h.l];omega⟩,kG,by omega⟩
 have hP:=fun(w2:World) (hb:Below wx.heap.size wx w2)=>show Calls prog 21 #[.pointer (some ⟨p,0,none⟩),.agg #[.int .i64 x.cmd.op,.int .i64 x.cmd.sess,.int .i64 x.cmd.seq,.slice V m d]] w2 fun e w'=>∃X A1 n1 c1 ac,e=.returned (.tuple #[rN ((G.srv s).propose x.cmd).1.1 (.slice A1 n1 c1),.int .i64 ((G.srv s).propose x.cmd).1.2.1,.agg (aK ((G.srv s).propose x.cmd).1.2.2 X)])/\pa ao ac w0 w' g s G v ps ((G.srv s).propose x.cmd).2 ((G.srv s).propose x.cmd).1.2.2 X/\wx.heap.size<=w'.heap.size/\(∀j∈[g,b,q],w'.heap[j]?=wx.heap[j]?)/\∀j,wx.heap.size<=j->j<w2.heap.size->ac j=12/\w'.heap[j]?=w2.heap[j]? from by
  have h2:=h.below 12 hb;refine(Kx h2.st hs hp hM h2.fv).mono ?_;rintro e w' ⟨X,A1,n1,c1,ar,e1,hA,hold⟩;refine⟨X,A1,n1,c1,ar,e1,⟨hA.gr,hA.sv,hA.x,h2.f.ten hA.f⟩,Nat.le_trans hb.size hA.f.size,fun j hj=>?_,fun j h1 h3=>?_⟩
  ·obtain⟨a1,a2⟩:=bY j hj;have:=(hold j (Nat.lt_of_lt_of_le a1 hb.size) (by rw[ae a1];exact a2)).2;exact this.trans (hb.block j a1)
  ·have:=hold j h3 (by rw[aA h1];omega);exact⟨this.1.trans (aA h1),this.2⟩
 generalize((G.srv s).propose x.cmd)=pr at hP hK;obtain⟨⟨y,er,o⟩,R'⟩:=pr;simp only at hP hK;unfold rN aK at hP;replace hP:=zH hP;obtain⟨k1,kp,k4,k5,k6,k7⟩:=O7 [g,b,q] c1 cp y4 y5 y6 y7;obtain⟨n,hn⟩:=zN (G.n);rw[hn]at c1 k1 jX hs;replace hK:=zH hK;replace hn:=zH hn;replace aQ:=zH aQ;replace ef:=zH ef;replace hp:=zH hp;replace mG:=zH mG;clear h hq;obtain⟨ab,ax,bb,bc,aW⟩:=hl;obtain⟨fr,rfl,ag⟩:=am ab;rw[bq,ag _ _ ax,ag _ _ bb,ag _ _ bc,ag _ _ aW];clear ab ag ax bb bc aW;refine cG [1,1,1,2,1,5,1,5,1,5,1,4,0] f33 rfl ?_;go_wp2_with fail;refine rJ (C:=cr [g,b,q] wx) (.three [0,1,2,3,4,5,6,7,8] 9 14 15 (.two [10,11,12,13] 14 15 (.one [] 15 (.one [] 16 (.one [17] 18 (.last [])))) (.one [] 14 (.one [] 16 (.one [17] 18 (.last []))))) (.two [] 9 15 (.one [10,11,12,13] 15 (.one [] 16 (.one [17] 18 (.last [])))) (.one [] 9 (.one [10,11,12,13] 16 (.one [17] 18 (.last []))))) (.two [] 9 14 (.one [10,11,12,13] 14 (.one [] 16 (.one [17] 18 (.last [])))) (.one [] 9 (.one [10,11,12,13] 16 (.one [17] 18 (.last [])))))) (by kernel_rfl) (by kernel_rfl) hQ az ?_;refine uN fun K1 K2 K3 cF jl jS=>?_
 simp only[af,Zx];repeat go_big_quiet_step(fail)
 apply wpQuiet_nil;refine⟨?_,?_,?_⟩
 ·go_wp2_with fail;refine(hP.out _ ((Below.refl _ wx).drew)).mono ?_;rintro e w2 ⟨X,A1,n1,c1,bK,rfl,hA,gn,sm,dZ⟩;go_wp2_with fail;refine⟨aT sm,cF _ _ ?_⟩;have I3:=hA;have kpw2:=sm;have szw2:=gn;obtain⟨te,Xk⟩:∃l2,bK=l2:=⟨_,rfl⟩;rw[Xk]at I3;refine mT fun K4 K5 tW Bu=>?_
  simp only[af,Zx];repeat go_big_quiet_step(fail)
  apply wpQuiet_nil;refine⟨?_,?_⟩
  ·go_wp2_with fail;obtain⟨Lz,kb3,lb3,bl3⟩:=I3.box (T1:=59) (c1:=cE);have yN:∀j∈[g,b,q],(w2.alloc (.cells #[.int .i64 0,.int .i64 0,.int .i64 0,.int .i64 0,.int .i64 0,.slice none 0 0] 59)).heap[j]?=wx.heap[j]?:=fun j hj=>(bl3.block j (Nat.lt_of_lt_of_le (bY j hj).1 szw2)).trans (kpw2 j hj)
   refine⟨aT yN,tW _ _ ?_⟩;obtain⟨w3,fX⟩:=zN ((w2.alloc (.cells #[.int .i64 0,.int .i64 0,.int .i64 0,.int .i64 0,.int .i64 0,.slice none 0 0] 59)));rw[show w2.alloc (.cells cE 59)=w3 from fX]at Lz kb3 bl3;rw[fX]at yN;rw[fX];clear fX;refine bI fun K6 Bv=>?_
   simp only[af,Zx];apply wpQuiet_nil;go_wp2_with fail;obtain⟨DV,kb4,lb4,bl4⟩:=Lz.box (T1:=49) (c1:=aV);have mF:∀j∈[g,b,q],(w3.alloc (.cells #[.bool false,.bool false,.int .i64 0,.int .i64 0,.slice none 0 0,.slice none 0 0,.pointer none,.slice none 0 0,.slice none 0 0] 49)).heap[j]?=wx.heap[j]?:=fun j hj=>(bl4.block j (Nat.lt_of_lt_of_le (bY j hj).1 (Nat.le_trans szw2 bl3.size))).trans (yN j hj)
   refine⟨aT mF,Bv _ _ ?_⟩;have s3:=bl3.size;have s23:=kb3.lt;obtain⟨w4,gi⟩:=zN ((w3.alloc (.cells #[.bool false,.bool false,.int .i64 0,.int .i64 0,.slice none 0 0,.slice none 0 0,.pointer none,.slice none 0 0,.slice none 0 0] 49)));rw[show w3.alloc (.cells aV 49)=w4 from gi]at DV kb4 bl4;rw[gi]at mF;rw[gi];clear gi;have k8:ay w4 w2.heap.size 59 cE:=kb3.kept bl4;have k10:ay w4 w3.heap.size 49 aV:=kb4;have cH:w2.heap.size≠w3.heap.size:=by omega
   have l8:(relab (relab te w2.heap.size 12) w3.heap.size 12) w2.heap.size=12:=(ae s23).trans lb3;have l10:(relab (relab te w2.heap.size 12) w3.heap.size 12) w3.heap.size=12:=lb4;have kz:∀j∈[g,b,q],w4.heap[j]?=wx.heap[j]?:=mF;have o8:wx.heap.size<=w2.heap.size:=by omega
   have o10:wx.heap.size<=w3.heap.size:=by omega
   have vY:=DV;obtain⟨nm,k10',kS⟩:=vY.stored k8 k10 l8 l10 cH (.slice A1 n1 c1,y);have kz6:∀j∈[g,b,q],(set6 w4 w2.heap.size (.slice A1 n1 c1,y)).heap[j]?=wx.heap[j]?:=fun j hj=>((Fr.set6 w4 w2.heap.size (.slice A1 n1 c1,y)).block j (cM (kz j hj) (bY j hj).1) fun e=>by have:=(bY j hj).1;omega).trans (kz j hj)
   have kz9:∀j∈[g,b,q],(bQ (set6 w4 w2.heap.size (.slice A1 n1 c1,y)) w3.heap.size o X).heap[j]?=wx.heap[j]?:=fun j hj=>((fD (set6 w4 w2.heap.size (.slice A1 n1 c1,y)) w3.heap.size o X).block j (cM (kz6 j hj) (bY j hj).1) fun e=>by have:=(bY j hj).1;omega).trans (kz6 j hj)
   replace nm:=zH nm;replace kS:=zH kS;clear vY;obtain⟨z0,z1,z2,z3,z4,z5,-⟩:=k8.cs [0,1,2,3,4,5];simp only[cE,vi,Zx]at z0 z1 z2 z3 z4 z5;obtain⟨f0,f1,f2,f3,f4,f5,-⟩:=k8.fs [0,1,2,3,4,5];refine bI fun K7 PS=>?_
   simp only[af,Zx];apply wpQuiet_nil;go_wp2_with fail;refine⟨aT kz6,PS _ _ ?_⟩;show cU _ _ _ _ _ _ (set6 w4 w2.heap.size (.slice A1 n1 c1,y));obtain⟨w6,mJ⟩:=zN (set6 w4 w2.heap.size (.slice A1 n1 c1,y));rw[mJ]at kz6 kz9 k10' nm kS;rw[mJ];clear mJ z0 z1 z2 z3 z4 z5 f0 f1 f2 f3 f4 f5 k8;obtain⟨z0,z1,z2,z3,z4,z5,z6,z7,z8,-⟩:=k10'.cs [0,1,2,3,4,5,6,7,8];simp only[aV,vi,Zx]at z0 z1 z2 z3 z4 z5 z6 z7 z8;obtain⟨f0,f1,f2,f3,f4,f5,f6,f7,f8,-⟩:=k10'.fs [0,1,2,3,4,5,6,7,8];refine bI fun K8 PT=>?_
   simp only[af,Zx];repeat go_big_quiet_step(fail)
   apply wpQuiet_nil;go_wp2_with fail;refine⟨aT kz9,PT _ _ ?_⟩;refine fM ?_;simp only[af];apply wpQuiet_nil;show Exit.then K Q' .normal _ (bQ w6 w3.heap.size o X);refine hK.out _ _ (relab (relab te w2.heap.size 12) w3.heap.size 12) er w3.heap.size X ?_;exact⟨⟨rfl,rfl,rfl,rfl,rfl,rfl⟩,rfl,kS.out,nm.out,kz9 b (by simp)⟩
  ·go_wp2_with fail;obtain⟨Lz,kb3,lb3,bl3⟩:=I3.box (T1:=49) (c1:=aV);have yN:∀j∈[g,b,q],(w2.alloc (.cells #[.bool false,.bool false,.int .i64 0,.int .i64 0,.slice none 0 0,.slice none 0 0,.pointer none,.slice none 0 0,.slice none 0 0] 49)).heap[j]?=wx.heap[j]?:=fun j hj=>(bl3.block j (Nat.lt_of_lt_of_le (bY j hj).1 szw2)).trans (kpw2 j hj)
   refine⟨aT yN,Bu _ _ ?_⟩;obtain⟨w3,fX⟩:=zN ((w2.alloc (.cells #[.bool false,.bool false,.int .i64 0,.int .i64 0,.slice none 0 0,.slice none 0 0,.pointer none,.slice none 0 0,.slice none 0 0] 49)));rw[show w2.alloc (.cells aV 49)=w3 from fX]at Lz kb3 bl3;rw[fX]at yN;rw[fX];clear fX;refine bI fun K9 Wb=>?_
   simp only[af,Zx];apply wpQuiet_nil;go_wp2_with fail;obtain⟨DV,kb4,lb4,bl4⟩:=Lz.box (T1:=59) (c1:=cE);have mF:∀j∈[g,b,q],(w3.alloc (.cells #[.int .i64 0,.int .i64 0,.int .i64 0,.int .i64 0,.int .i64 0,.slice none 0 0] 59)).heap[j]?=wx.heap[j]?:=fun j hj=>(bl4.block j (Nat.lt_of_lt_of_le (bY j hj).1 (Nat.le_trans szw2 bl3.size))).trans (yN j hj)
   refine⟨aT mF,Wb _ _ ?_⟩;have s3:=bl3.size;have s23:=kb3.lt;obtain⟨w4,gi⟩:=zN ((w3.alloc (.cells #[.int .i64 0,.int .i64 0,.int .i64 0,.int .i64 0,.int .i64 0,.slice none 0 0] 59)));rw[show w3.alloc (.cells cE 59)=w4 from gi]at DV kb4 bl4;rw[gi]at mF;rw[gi];clear gi;have k8:ay w4 w3.heap.size 59 cE:=kb4;have k10:ay w4 w2.heap.size 49 aV:=kb3.kept bl4;have cH:w3.heap.size≠w2.heap.size:=by omega
   have l8:(relab (relab te w2.heap.size 12) w3.heap.size 12) w3.heap.size=12:=lb4;have l10:(relab (relab te w2.heap.size 12) w3.heap.size 12) w2.heap.size=12:=(ae s23).trans lb3;have kz:∀j∈[g,b,q],w4.heap[j]?=wx.heap[j]?:=mF;have o8:wx.heap.size<=w3.heap.size:=by omega
   have o10:wx.heap.size<=w2.heap.size:=by omega
   have vY:=DV;obtain⟨nm,k10',kS⟩:=vY.stored k8 k10 l8 l10 cH (.slice A1 n1 c1,y);have kz6:∀j∈[g,b,q],(set6 w4 w3.heap.size (.slice A1 n1 c1,y)).heap[j]?=wx.heap[j]?:=fun j hj=>((Fr.set6 w4 w3.heap.size (.slice A1 n1 c1,y)).block j (cM (kz j hj) (bY j hj).1) fun e=>by have:=(bY j hj).1;omega).trans (kz j hj)
   have kz9:∀j∈[g,b,q],(bQ (set6 w4 w3.heap.size (.slice A1 n1 c1,y)) w2.heap.size o X).heap[j]?=wx.heap[j]?:=fun j hj=>((fD (set6 w4 w3.heap.size (.slice A1 n1 c1,y)) w2.heap.size o X).block j (cM (kz6 j hj) (bY j hj).1) fun e=>by have:=(bY j hj).1;omega).trans (kz6 j hj)
   replace nm:=zH nm;replace kS:=zH kS;clear vY;obtain⟨z0,z1,z2,z3,z4,z5,-⟩:=k8.cs [0,1,2,3,4,5];simp only[cE,vi,Zx]at z0 z1 z2 z3 z4 z5;obtain⟨f0,f1,f2,f3,f4,f5,-⟩:=k8.fs [0,1,2,3,4,5];refine bI fun K10 PA=>?_
   simp only[af,Zx];apply wpQuiet_nil;go_wp2_with fail;refine⟨aT kz6,PA _ _ ?_⟩;show cU _ _ _ _ _ _ (set6 w4 w3.heap.size (.slice A1 n1 c1,y));obtain⟨w6,mJ⟩:=zN (set6 w4 w3.heap.size (.slice A1 n1 c1,y));rw[mJ]at kz6 kz9 k10' nm kS;rw[mJ];clear mJ z0 z1 z2 z3 z4 z5 f0 f1 f2 f3 f4 f5 k8;obtain⟨z0,z1,z2,z3,z4,z5,z6,z7,z8,-⟩:=k10'.cs [0,1,2,3,4,5,6,7,8];simp only[aV,vi,Zx]at z0 z1 z2 z3 z4 z5 z6 z7 z8;obtain⟨f0,f1,f2,f3,f4,f5,f6,f7,f8,-⟩:=k10'.fs [0,1,2,3,4,5,6,7,8];refine bI fun K11 PB=>?_
   simp only[af,Zx];repeat go_big_quiet_step(fail)
   apply wpQuiet_nil;go_wp2_with fail;refine⟨aT kz9,PB _ _ ?_⟩;refine fM ?_;simp only[af];apply wpQuiet_nil;show Exit.then K Q' .normal _ (bQ w6 w2.heap.size o X);refine hK.out _ _ (relab (relab te w2.heap.size 12) w3.heap.size 12) er w2.heap.size X ?_;exact⟨⟨rfl,rfl,rfl,rfl,rfl,rfl⟩,rfl,kS.out,nm.out,kz9 b (by simp)⟩
 ·go_wp2_with fail;have qf:Below wx.heap.size wx (wx.alloc (.cells #[.int .i64 0,.int .i64 0,.int .i64 0,.int .i64 0,.int .i64 0,.slice none 0 0] 59)).drew:=((Below.refl _ wx).alloc zl _).drew;have kb1:ay (wx.alloc (.cells #[.int .i64 0,.int .i64 0,.int .i64 0,.int .i64 0,.int .i64 0,.slice none 0 0] 59)).drew wx.heap.size 59 cE:=ay.new wx 59 cE;refine⟨aT (fun j hj=>qf.block j (bY j hj).1),jl _ _ ?_⟩;obtain⟨w1,bM⟩:=zN ((wx.alloc (.cells #[.int .i64 0,.int .i64 0,.int .i64 0,.int .i64 0,.int .i64 0,.slice none 0 0] 59)).drew);rw[bM]at qf kb1;rw[bM];clear bM;have s1:=kb1.lt;refine mT fun K12 K13 PC PD=>?_
  simp only[af,Zx];apply wpQuiet_nil;refine⟨?_,?_⟩
  ·go_wp2_with fail;refine(hP.out _ qf).mono ?_;rintro e w2 ⟨X,A1,n1,c1,bK,rfl,hA,gn,sm,dZ⟩;go_wp2_with fail;refine⟨aT sm,PC _ _ ?_⟩;obtain⟨lb2,e2⟩:=dZ wx.heap.size zl s1;have kb2:ay w2 wx.heap.size 59 cE:=e2.trans kb1;refine bI fun K14 PE=>?_
   simp only[af,Zx];repeat go_big_quiet_step(fail)
   apply wpQuiet_nil;go_wp2_with fail;obtain⟨DV,kb4,lb4,bl4⟩:=hA.box (T1:=49) (c1:=aV);have mF:∀j∈[g,b,q],(w2.alloc (.cells #[.bool false,.bool false,.int .i64 0,.int .i64 0,.slice none 0 0,.slice none 0 0,.pointer none,.slice none 0 0,.slice none 0 0] 49)).heap[j]?=wx.heap[j]?:=fun j hj=>(bl4.block j (Nat.lt_of_lt_of_le (bY j hj).1 gn)).trans (sm j hj)
   refine⟨aT mF,PE _ _ ?_⟩;have s2:=kb2.lt;obtain⟨w4,gi⟩:=zN ((w2.alloc (.cells #[.bool false,.bool false,.int .i64 0,.int .i64 0,.slice none 0 0,.slice none 0 0,.pointer none,.slice none 0 0,.slice none 0 0] 49)));rw[show w2.alloc (.cells aV 49)=w4 from gi]at DV kb4 bl4;rw[gi]at mF;rw[gi];clear gi;have k8:ay w4 wx.heap.size 59 cE:=kb2.kept bl4;have k10:ay w4 w2.heap.size 49 aV:=kb4;have cH:wx.heap.size≠w2.heap.size:=by omega
   have l8:(relab bK w2.heap.size 12) wx.heap.size=12:=(ae s2).trans lb2;have l10:(relab bK w2.heap.size 12) w2.heap.size=12:=lb4;have kz:∀j∈[g,b,q],w4.heap[j]?=wx.heap[j]?:=mF;have o8:wx.heap.size<=wx.heap.size:=by omega
   have o10:wx.heap.size<=w2.heap.size:=by omega
   have vY:=DV;obtain⟨nm,k10',kS⟩:=vY.stored k8 k10 l8 l10 cH (.slice A1 n1 c1,y);have kz6:∀j∈[g,b,q],(set6 w4 wx.heap.size (.slice A1 n1 c1,y)).heap[j]?=wx.heap[j]?:=fun j hj=>((Fr.set6 w4 wx.heap.size (.slice A1 n1 c1,y)).block j (cM (kz j hj) (bY j hj).1) fun e=>by have:=(bY j hj).1;omega).trans (kz j hj)
   have kz9:∀j∈[g,b,q],(bQ (set6 w4 wx.heap.size (.slice A1 n1 c1,y)) w2.heap.size o X).heap[j]?=wx.heap[j]?:=fun j hj=>((fD (set6 w4 wx.heap.size (.slice A1 n1 c1,y)) w2.heap.size o X).block j (cM (kz6 j hj) (bY j hj).1) fun e=>by have:=(bY j hj).1;omega).trans (kz6 j hj)
   replace nm:=zH nm;replace kS:=zH kS;clear vY;obtain⟨z0,z1,z2,z3,z4,z5,-⟩:=k8.cs [0,1,2,3,4,5];simp only[cE,vi,Zx]at z0 z1 z2 z3 z4 z5;obtain⟨f0,f1,f2,f3,f4,f5,-⟩:=k8.fs [0,1,2,3,4,5];refine bI fun K15 PF=>?_
   simp only[af,Zx];apply wpQuiet_nil;go_wp2_with fail;refine⟨aT kz6,PF _ _ ?_⟩;show cU _ _ _ _ _ _ (set6 w4 wx.heap.size (.slice A1 n1 c1,y));obtain⟨w6,mJ⟩:=zN (set6 w4 wx.heap.size (.slice A1 n1 c1,y));rw[mJ]at kz6 kz9 k10' nm kS;rw[mJ];clear mJ z0 z1 z2 z3 z4 z5 f0 f1 f2 f3 f4 f5 k8;obtain⟨z0,z1,z2,z3,z4,z5,z6,z7,z8,-⟩:=k10'.cs [0,1,2,3,4,5,6,7,8];simp only[aV,vi,Zx]at z0 z1 z2 z3 z4 z5 z6 z7 z8;obtain⟨f0,f1,f2,f3,f4,f5,f6,f7,f8,-⟩:=k10'.fs [0,1,2,3,4,5,6,7,8];refine bI fun K16 PG=>?_
   simp only[af,Zx];repeat go_big_quiet_step(fail)
   apply wpQuiet_nil;go_wp2_with fail;refine⟨aT kz9,PG _ _ ?_⟩;refine fM ?_;simp only[af];apply wpQuiet_nil;show Exit.then K Q' .normal _ (bQ w6 w2.heap.size o X);refine hK.out _ _ (relab bK w2.heap.size 12) er w2.heap.size X ?_;exact⟨⟨rfl,rfl,rfl,rfl,rfl,rfl⟩,rfl,kS.out,nm.out,kz9 b (by simp)⟩
  ·go_wp2_with fail;have Am:Below wx.heap.size wx (w1.alloc (.cells #[.bool false,.bool false,.int .i64 0,.int .i64 0,.slice none 0 0,.slice none 0 0,.pointer none,.slice none 0 0,.slice none 0 0] 49)):=qf.alloc qf.size _;have kb2:ay (w1.alloc (.cells #[.bool false,.bool false,.int .i64 0,.int .i64 0,.slice none 0 0,.slice none 0 0,.pointer none,.slice none 0 0,.slice none 0 0] 49)) w1.heap.size 49 aV:=ay.new w1 49 aV;have kb3:ay (w1.alloc (.cells #[.bool false,.bool false,.int .i64 0,.int .i64 0,.slice none 0 0,.slice none 0 0,.pointer none,.slice none 0 0,.slice none 0 0] 49)) wx.heap.size 59 cE:=kb1.kept ((Below.refl _ w1).alloc zl _);refine⟨aT (fun j hj=>Am.block j (bY j hj).1),PD _ _ ?_⟩;obtain⟨w3,fX⟩:=zN ((w1.alloc (.cells #[.bool false,.bool false,.int .i64 0,.int .i64 0,.slice none 0 0,.slice none 0 0,.pointer none,.slice none 0 0,.slice none 0 0] 49)));rw[fX]at Am kb2 kb3;rw[fX];clear fX;have s3:=kb2.lt;have s4:=kb3.lt;refine bI fun K17 PH=>?_
   simp only[af,Zx];apply wpQuiet_nil;go_wp2_with fail;refine(hP.out _ Am).mono ?_;rintro e w2 ⟨X,A1,n1,c1,bK,rfl,hA,gn,sm,dZ⟩;go_wp2_with fail;refine⟨aT sm,PH _ _ ?_⟩;obtain⟨lb2,e2⟩:=dZ wx.heap.size zl s4;obtain⟨lb4,e4⟩:=dZ w1.heap.size (by omega) s3;have kb5:ay w2 wx.heap.size 59 cE:=e2.trans kb3;have kb6:ay w2 w1.heap.size 49 aV:=e4.trans kb2;have k8:ay w2 wx.heap.size 59 cE:=kb5;have k10:ay w2 w1.heap.size 49 aV:=kb6;have cH:wx.heap.size≠w1.heap.size:=by omega
   have l8:bK wx.heap.size=12:=lb2;have l10:bK w1.heap.size=12:=lb4;have kz:∀j∈[g,b,q],w2.heap[j]?=wx.heap[j]?:=sm;have o8:wx.heap.size<=wx.heap.size:=by omega
   have o10:wx.heap.size<=w1.heap.size:=by omega
   have vY:=hA;obtain⟨nm,k10',kS⟩:=vY.stored k8 k10 l8 l10 cH (.slice A1 n1 c1,y);have kz6:∀j∈[g,b,q],(set6 w2 wx.heap.size (.slice A1 n1 c1,y)).heap[j]?=wx.heap[j]?:=fun j hj=>((Fr.set6 w2 wx.heap.size (.slice A1 n1 c1,y)).block j (cM (kz j hj) (bY j hj).1) fun e=>by have:=(bY j hj).1;omega).trans (kz j hj)
   have kz9:∀j∈[g,b,q],(bQ (set6 w2 wx.heap.size (.slice A1 n1 c1,y)) w1.heap.size o X).heap[j]?=wx.heap[j]?:=fun j hj=>((fD (set6 w2 wx.heap.size (.slice A1 n1 c1,y)) w1.heap.size o X).block j (cM (kz6 j hj) (bY j hj).1) fun e=>by have:=(bY j hj).1;omega).trans (kz6 j hj)
   replace nm:=zH nm;replace kS:=zH kS;clear vY;obtain⟨z0,z1,z2,z3,z4,z5,-⟩:=k8.cs [0,1,2,3,4,5];simp only[cE,vi,Zx]at z0 z1 z2 z3 z4 z5;obtain⟨f0,f1,f2,f3,f4,f5,-⟩:=k8.fs [0,1,2,3,4,5];refine bI fun K18 PI=>?_
   simp only[af,Zx];repeat go_big_quiet_step(fail)
   apply wpQuiet_nil;go_wp2_with fail;refine⟨aT kz6,PI _ _ ?_⟩;show cU _ _ _ _ _ _ (set6 w2 wx.heap.size (.slice A1 n1 c1,y));obtain⟨w6,mJ⟩:=zN (set6 w2 wx.heap.size (.slice A1 n1 c1,y));rw[mJ]at kz6 kz9 k10' nm kS;rw[mJ];clear mJ z0 z1 z2 z3 z4 z5 f0 f1 f2 f3 f4 f5 k8;obtain⟨z0,z1,z2,z3,z4,z5,z6,z7,z8,-⟩:=k10'.cs [0,1,2,3,4,5,6,7,8];simp only[aV,vi,Zx]at z0 z1 z2 z3 z4 z5 z6 z7 z8;obtain⟨f0,f1,f2,f3,f4,f5,f6,f7,f8,-⟩:=k10'.fs [0,1,2,3,4,5,6,7,8];refine bI fun K19 PJ=>?_
   simp only[af,Zx];repeat go_big_quiet_step(fail)
   apply wpQuiet_nil;go_wp2_with fail;refine⟨aT kz9,PJ _ _ ?_⟩;refine fM ?_;simp only[af];apply wpQuiet_nil;show Exit.then K Q' .normal _ (bQ w6 w1.heap.size o X);refine hK.out _ _ bK er w1.heap.size X ?_;exact⟨⟨rfl,rfl,rfl,rfl,rfl,rfl⟩,rfl,kS.out,nm.out,kz9 b (by simp)⟩
 ·go_wp2_with fail;have qf:Below wx.heap.size wx (wx.alloc (.cells #[.bool false,.bool false,.int .i64 0,.int .i64 0,.slice none 0 0,.slice none 0 0,.pointer none,.slice none 0 0,.slice none 0 0] 49)).drew:=((Below.refl _ wx).alloc zl _).drew;have kb1:ay (wx.alloc (.cells #[.bool false,.bool false,.int .i64 0,.int .i64 0,.slice none 0 0,.slice none 0 0,.pointer none,.slice none 0 0,.slice none 0 0] 49)).drew wx.heap.size 49 aV:=ay.new wx 49 aV;refine⟨aT (fun j hj=>qf.block j (bY j hj).1),jS _ _ ?_⟩;obtain⟨w1,bM⟩:=zN ((wx.alloc (.cells #[.bool false,.bool false,.int .i64 0,.int .i64 0,.slice none 0 0,.slice none 0 0,.pointer none,.slice none 0 0,.slice none 0 0] 49)).drew);rw[bM]at qf kb1;rw[bM];clear bM;have s1:=kb1.lt;refine mT fun K20 K21 PK PL=>?_
  simp only[af,Zx];apply wpQuiet_nil;refine⟨?_,?_⟩
  ·go_wp2_with fail;refine(hP.out _ qf).mono ?_;rintro e w2 ⟨X,A1,n1,c1,bK,rfl,hA,gn,sm,dZ⟩;go_wp2_with fail;refine⟨aT sm,PK _ _ ?_⟩;obtain⟨lb2,e2⟩:=dZ wx.heap.size zl s1;have kb2:ay w2 wx.heap.size 49 aV:=e2.trans kb1;refine bI fun K22 PM=>?_
   simp only[af,Zx];repeat go_big_quiet_step(fail)
   apply wpQuiet_nil;go_wp2_with fail;obtain⟨DV,kb4,lb4,bl4⟩:=hA.box (T1:=59) (c1:=cE);have mF:∀j∈[g,b,q],(w2.alloc (.cells #[.int .i64 0,.int .i64 0,.int .i64 0,.int .i64 0,.int .i64 0,.slice none 0 0] 59)).heap[j]?=wx.heap[j]?:=fun j hj=>(bl4.block j (Nat.lt_of_lt_of_le (bY j hj).1 gn)).trans (sm j hj)
   refine⟨aT mF,PM _ _ ?_⟩;have s2:=kb2.lt;obtain⟨w4,gi⟩:=zN ((w2.alloc (.cells #[.int .i64 0,.int .i64 0,.int .i64 0,.int .i64 0,.int .i64 0,.slice none 0 0] 59)));rw[show w2.alloc (.cells cE 59)=w4 from gi]at DV kb4 bl4;rw[gi]at mF;rw[gi];clear gi;have k8:ay w4 w2.heap.size 59 cE:=kb4;have k10:ay w4 wx.heap.size 49 aV:=kb2.kept bl4;have cH:w2.heap.size≠wx.heap.size:=by omega
   have l8:(relab bK w2.heap.size 12) w2.heap.size=12:=lb4;have l10:(relab bK w2.heap.size 12) wx.heap.size=12:=(ae s2).trans lb2;have kz:∀j∈[g,b,q],w4.heap[j]?=wx.heap[j]?:=mF;have o8:wx.heap.size<=w2.heap.size:=by omega
   have o10:wx.heap.size<=wx.heap.size:=by omega
   have vY:=DV;obtain⟨nm,k10',kS⟩:=vY.stored k8 k10 l8 l10 cH (.slice A1 n1 c1,y);have kz6:∀j∈[g,b,q],(set6 w4 w2.heap.size (.slice A1 n1 c1,y)).heap[j]?=wx.heap[j]?:=fun j hj=>((Fr.set6 w4 w2.heap.size (.slice A1 n1 c1,y)).block j (cM (kz j hj) (bY j hj).1) fun e=>by have:=(bY j hj).1;omega).trans (kz j hj)
   have kz9:∀j∈[g,b,q],(bQ (set6 w4 w2.heap.size (.slice A1 n1 c1,y)) wx.heap.size o X).heap[j]?=wx.heap[j]?:=fun j hj=>((fD (set6 w4 w2.heap.size (.slice A1 n1 c1,y)) wx.heap.size o X).block j (cM (kz6 j hj) (bY j hj).1) fun e=>by have:=(bY j hj).1;omega).trans (kz6 j hj)
   replace nm:=zH nm;replace kS:=zH kS;clear vY;obtain⟨z0,z1,z2,z3,z4,z5,-⟩:=k8.cs [0,1,2,3,4,5];simp only[cE,vi,Zx]at z0 z1 z2 z3 z4 z5;obtain⟨f0,f1,f2,f3,f4,f5,-⟩:=k8.fs [0,1,2,3,4,5];refine bI fun K23 PN=>?_
   simp only[af,Zx];apply wpQuiet_nil;go_wp2_with fail;refine⟨aT kz6,PN _ _ ?_⟩;show cU _ _ _ _ _ _ (set6 w4 w2.heap.size (.slice A1 n1 c1,y));obtain⟨w6,mJ⟩:=zN (set6 w4 w2.heap.size (.slice A1 n1 c1,y));rw[mJ]at kz6 kz9 k10' nm kS;rw[mJ];clear mJ z0 z1 z2 z3 z4 z5 f0 f1 f2 f3 f4 f5 k8;obtain⟨z0,z1,z2,z3,z4,z5,z6,z7,z8,-⟩:=k10'.cs [0,1,2,3,4,5,6,7,8];simp only[aV,vi,Zx]at z0 z1 z2 z3 z4 z5 z6 z7 z8;obtain⟨f0,f1,f2,f3,f4,f5,f6,f7,f8,-⟩:=k10'.fs [0,1,2,3,4,5,6,7,8];refine bI fun K24 PO=>?_
   simp only[af,Zx];repeat go_big_quiet_step(fail)
   apply wpQuiet_nil;go_wp2_with fail;refine⟨aT kz9,PO _ _ ?_⟩;refine fM ?_;simp only[af];apply wpQuiet_nil;show Exit.then K Q' .normal _ (bQ w6 wx.heap.size o X);refine hK.out _ _ (relab bK w2.heap.size 12) er wx.heap.size X ?_;exact⟨⟨rfl,rfl,rfl,rfl,rfl,rfl⟩,rfl,kS.out,nm.out,kz9 b (by simp)⟩
  ·go_wp2_with fail;have Am:Below wx.heap.size wx (w1.alloc (.cells #[.int .i64 0,.int .i64 0,.int .i64 0,.int .i64 0,.int .i64 0,.slice none 0 0] 59)):=qf.alloc qf.size _;have kb2:ay (w1.alloc (.cells #[.int .i64 0,.int .i64 0,.int .i64 0,.int .i64 0,.int .i64 0,.slice none 0 0] 59)) w1.heap.size 59 cE:=ay.new w1 59 cE;have kb3:ay (w1.alloc (.cells #[.int .i64 0,.int .i64 0,.int .i64 0,.int .i64 0,.int .i64 0,.slice none 0 0] 59)) wx.heap.size 49 aV:=kb1.kept ((Below.refl _ w1).alloc zl _);refine⟨aT (fun j hj=>Am.block j (bY j hj).1),PL _ _ ?_⟩;obtain⟨w3,fX⟩:=zN ((w1.alloc (.cells #[.int .i64 0,.int .i64 0,.int .i64 0,.int .i64 0,.int .i64 0,.slice none 0 0] 59)));rw[fX]at Am kb2 kb3;rw[fX];clear fX;have s3:=kb2.lt;have s4:=kb3.lt;refine bI fun K25 PP=>?_
   simp only[af,Zx];apply wpQuiet_nil;go_wp2_with fail;refine(hP.out _ Am).mono ?_;rintro e w2 ⟨X,A1,n1,c1,bK,rfl,hA,gn,sm,dZ⟩;go_wp2_with fail;refine⟨aT sm,PP _ _ ?_⟩;obtain⟨lb2,e2⟩:=dZ wx.heap.size zl s4;obtain⟨lb4,e4⟩:=dZ w1.heap.size (by omega) s3;have kb5:ay w2 wx.heap.size 49 aV:=e2.trans kb3;have kb6:ay w2 w1.heap.size 59 cE:=e4.trans kb2;have k8:ay w2 w1.heap.size 59 cE:=kb6;have k10:ay w2 wx.heap.size 49 aV:=kb5;have cH:w1.heap.size≠wx.heap.size:=by omega
   have l8:bK w1.heap.size=12:=lb4;have l10:bK wx.heap.size=12:=lb2;have kz:∀j∈[g,b,q],w2.heap[j]?=wx.heap[j]?:=sm;have o8:wx.heap.size<=w1.heap.size:=by omega
   have o10:wx.heap.size<=wx.heap.size:=by omega
   have vY:=hA;obtain⟨nm,k10',kS⟩:=vY.stored k8 k10 l8 l10 cH (.slice A1 n1 c1,y);have kz6:∀j∈[g,b,q],(set6 w2 w1.heap.size (.slice A1 n1 c1,y)).heap[j]?=wx.heap[j]?:=fun j hj=>((Fr.set6 w2 w1.heap.size (.slice A1 n1 c1,y)).block j (cM (kz j hj) (bY j hj).1) fun e=>by have:=(bY j hj).1;omega).trans (kz j hj)
   have kz9:∀j∈[g,b,q],(bQ (set6 w2 w1.heap.size (.slice A1 n1 c1,y)) wx.heap.size o X).heap[j]?=wx.heap[j]?:=fun j hj=>((fD (set6 w2 w1.heap.size (.slice A1 n1 c1,y)) wx.heap.size o X).block j (cM (kz6 j hj) (bY j hj).1) fun e=>by have:=(bY j hj).1;omega).trans (kz6 j hj)
   replace nm:=zH nm;replace kS:=zH kS;clear vY;obtain⟨z0,z1,z2,z3,z4,z5,-⟩:=k8.cs [0,1,2,3,4,5];simp only[cE,vi,Zx]at z0 z1 z2 z3 z4 z5;obtain⟨f0,f1,f2,f3,f4,f5,-⟩:=k8.fs [0,1,2,3,4,5];refine bI fun K26 PQ=>?_
   simp only[af,Zx];repeat go_big_quiet_step(fail)
   apply wpQuiet_nil;go_wp2_with fail;refine⟨aT kz6,PQ _ _ ?_⟩;show cU _ _ _ _ _ _ (set6 w2 w1.heap.size (.slice A1 n1 c1,y));obtain⟨w6,mJ⟩:=zN (set6 w2 w1.heap.size (.slice A1 n1 c1,y));rw[mJ]at kz6 kz9 k10' nm kS;rw[mJ];clear mJ z0 z1 z2 z3 z4 z5 f0 f1 f2 f3 f4 f5 k8;obtain⟨z0,z1,z2,z3,z4,z5,z6,z7,z8,-⟩:=k10'.cs [0,1,2,3,4,5,6,7,8];simp only[aV,vi,Zx]at z0 z1 z2 z3 z4 z5 z6 z7 z8;obtain⟨f0,f1,f2,f3,f4,f5,f6,f7,f8,-⟩:=k10'.fs [0,1,2,3,4,5,6,7,8];refine bI fun K27 PR=>?_
   simp only[af,Zx];repeat go_big_quiet_step(fail)
   apply wpQuiet_nil;go_wp2_with fail;refine⟨aT kz9,PR _ _ ?_⟩;refine fM ?_;simp only[af];apply wpQuiet_nil;show Exit.then K Q' .normal _ (bQ w6 wx.heap.size o X);refine hK.out _ _ bK er wx.heap.size X ?_;exact⟨⟨rfl,rfl,rfl,rfl,rfl,rfl⟩,rfl,kS.out,nm.out,kz9 b (by simp)⟩
theorem YF(ub:er=0)(hl:l.length=246/\l[0]?=some (.pointer (some ⟨g,0,none⟩))/\l[3]?=some (.pointer (some ⟨b,0,none⟩))/\l[4]?=some (.int .i64 s)/\l[9]?=some (.int .i64 er)/\l[10]?=some (.pointer (some ⟨b2,0,none⟩)))(hK:∀(l':List Value),(l'.length=246/\l'[0]?=some (.pointer (some ⟨g,0,none⟩))/\l'[3]?=some (.pointer (some ⟨b,0,none⟩))/\l'[4]?=some (.int .i64 s)/\l'[9]?=some (.int .i64 er)/\l'[10]?=some (.pointer (some ⟨b2,0,none⟩))/\l'[127]?=some (.bool true))->K ⟨l'.toArray,[]⟩ wx):(bR [1,1,1,2,1,5,1,5,1,5,1,4,1,0] (aB f33)).wp prog (Exit.then K Q') ⟨l.toArray,[]⟩ wx:=by
 subst ub;replace hK:=zH hK;obtain⟨ab,ax,bb,bc,ls,lr⟩:=hl;obtain⟨fr,rfl,ag⟩:=am ab;rw[bq,ag _ _ ax,ag _ _ bb,ag _ _ bc,ag _ _ ls,ag _ _ lr];clear ab ag ax bb bc ls lr;refine cG [1,1,1,2,1,5,1,5,1,5,1,4,1,0] f33 rfl ?_;go_wp2_with fail;refine hK.out _ ?_;exact⟨rfl,rfl,rfl,rfl,rfl,rfl,rfl⟩
theorem SN(ub:er≠0)(hl:l.length=246/\l[0]?=some (.pointer (some ⟨g,0,none⟩))/\l[3]?=some (.pointer (some ⟨b,0,none⟩))/\l[4]?=some (.int .i64 s)/\l[9]?=some (.int .i64 er)/\l[10]?=some (.pointer (some ⟨b2,0,none⟩)))(hK:∀(l':List Value),(l'.length=246/\l'[0]?=some (.pointer (some ⟨g,0,none⟩))/\l'[3]?=some (.pointer (some ⟨b,0,none⟩))/\l'[4]?=some (.int .i64 s)/\l'[9]?=some (.int .i64 er)/\l'[10]?=some (.pointer (some ⟨b2,0,none⟩))/\l'[127]?=some (.bool false))->K ⟨l'.toArray,[]⟩ wx):(bR [1,1,1,2,1,5,1,5,1,5,1,4,1,0] (aB f33)).wp prog (Exit.then K Q') ⟨l.toArray,[]⟩ wx:=by
 have d1:(er==0)=false:=beq_eq_false_iff_ne.2 ub;have d2:decide (er=0)=false:=decide_eq_false ub;replace hK:=zH hK;obtain⟨ab,ax,bb,bc,ls,lr⟩:=hl;obtain⟨fr,rfl,ag⟩:=am ab;rw[bq,ag _ _ ax,ag _ _ bb,ag _ _ bc,ag _ _ ls,ag _ _ lr];clear ab ag ax bb bc ls lr;refine cG [1,1,1,2,1,5,1,5,1,5,1,4,1,0] f33 rfl ?_;go_wp2_with fail;refine hK.out _ ?_;exact⟨rfl,rfl,rfl,rfl,rfl,rfl,rfl⟩
theorem YG(h:pa ao aa w0 wx g s G v ps R' o X)(hb:ay wx b2 49 (aK o X))(dZ:wx.cell? ⟨b,3,none⟩=some (.bool x.stay))(cz:ik M G)(kj:G.rn<=1000000)(hs:s<G.n)(hM:M<=800000000)(hA:ik (M+11) (G.act s (o,R'))/\ni {G with l:=G.l.set s R'} s o)(hl:l.length=246/\l[0]?=some (.pointer (some ⟨g,0,none⟩))/\l[3]?=some (.pointer (some ⟨b,0,none⟩))/\l[4]?=some (.int .i64 s)/\l[9]?=some (.int .i64 er)/\l[10]?=some (.pointer (some ⟨b2,0,none⟩)))(hK:∀(l':List Value) w',Cx (M+11) ao w0 g G w'->K ⟨l'.toArray,[]⟩ w'):(bR [1,1,1,2,1,5,1,5,1,5,1,4,1,1,4] (aB f33)).wp prog (Exit.then K Q') ⟨l.toArray,[]⟩ wx:=by
 have hc:=h.takes cz kj hs hM hA x.stay;obtain⟨y0,y1,y2,y3,y4,y5,y6,y7,y8,-⟩:=hb.cs [0,1,2,3,4,5,6,7,8];simp only[aK,vi,Zx]at y0 y1 y2 y3 y4 y5 y6 y7 y8;unfold aK at hc;replace hK:=zH hK;clear h hb cz hA;obtain⟨ab,ax,bb,bc,ls,lr⟩:=hl;obtain⟨fr,rfl,ag⟩:=am ab;rw[bq,ag _ _ ax,ag _ _ bb,ag _ _ bc,ag _ _ ls,ag _ _ lr];clear ab ag ax bb bc ls lr;refine cG [1,1,1,2,1,5,1,5,1,5,1,4,1,1,4] f33 rfl ?_;go_wp2_with fail;refine hc.mono ?_;rintro e w3 ⟨rfl,hC⟩;replace hC:=zH hC;clear hc;go_wp2_with fail;exact hK.out _ _ hC.out
theorem yo(hQ:∀c (a b:Go.Act) w,a.defers=b.defers->Q' (.panic c) a w->Q' (.panic c) b w)(h:ju M ao aa w0 wx g b G v ps x V m d)(hs:s<G.n)(hM:M+11<=800000000)(hl:l.length=246/\l[0]?=some (.pointer (some ⟨g,0,none⟩))/\l[3]?=some (.pointer (some ⟨b,0,none⟩))/\l[4]?=some (.int .i64 s)/\l[25]?=some (.int .i64 k))(hK:∀(l':List Value) w',Dx (M+11) ao w0 g G w'->K ⟨l'.toArray,[]⟩ w'):(bR [1,1,1,2,1,5,1,5,1,5,1,4] (aB f33)).wp prog (Exit.then K Q') ⟨l.toArray,[]⟩ wx:=by
 obtain⟨_,mG,_⟩:=h.st.ok.facts;obtain⟨t1,t2,_⟩:=h.st.ok.proposeT hs (by omega) x.cmd;refine aF [1,1,1,2,1,5,1,5,1,5,1,4,0] [1,1,1,2,1,5,1,5,1,5,1,4,1] (by kernel_rfl) (YE (fun _ _ _ _ e h=>hQ _ _ _ _ e h) h hs (by omega) hl fun l1 w1 ar er b2 X h1=>?_);obtain⟨dm,ub,bH,H7,dZ⟩:=h1;by_cases he:er=0
 ·refine aF [1,1,1,2,1,5,1,5,1,5,1,4,1,0] [1,1,1,2,1,5,1,5,1,5,1,4,1,1] (by kernel_rfl) (YF he dm fun l2 h2=>?_);obtain⟨a0,a1,a2,a3,a4,a5,a6⟩:=h2;refine bW [1,1,1,2,1,5,1,5,1,5,1,4,1,1,4] [1,1,1,2,1,5,1,5,1,5,1,4,1,1,5] true (by kernel_rfl) (bT a6) ?_;have eu:ay w1 b 89 (tN x V m d):=dZ.trans h.k;refine YG H7 bH (eu.cell 3) h.st.ok h.st.rn hs (by omega) ⟨t1,t2⟩ ⟨a0,a1,a2,a3,a4,a5⟩ fun l3 w3 hC=>hK _ _ ?_
  obtain⟨ac,G',v',ps',q1,q2,q3,q4⟩:=hC;exact⟨ac,G',v',ps',q1,q2,by omega,q4⟩
 ·refine aF [1,1,1,2,1,5,1,5,1,5,1,4,1,0] [1,1,1,2,1,5,1,5,1,5,1,4,1,1] (by kernel_rfl) (SN he dm fun l2 h2=>?_);obtain⟨a0,a1,a2,a3,a4,a5,a6⟩:=h2;refine bW [1,1,1,2,1,5,1,5,1,5,1,4,1,1,4] [1,1,1,2,1,5,1,5,1,5,1,4,1,1,5] false (by kernel_rfl) (bT a6) ?_;refine pO [1,1,1,2,1,5,1,5,1,5,1,4,1,1,5] (by kernel_rfl) (hK _ _ ?_);have hR:((G.srv s).propose x.cmd).2=G.srv s:=zu (by rw[<-ub];exact he);have e0:G.l.set s ((G.srv s).propose x.cmd).2=G.l:=by
   rw[hR];refine rx ?_;unfold Gp.srv;rw[List.getElem?_eq_getElem (by omega)];rfl
  obtain⟨hg,hS,_,hf⟩:=H7;rw[e0]at hg hS;exact⟨ar,G,v,ps,⟨hg,hS,h.st.ok.mono (by omega),h.st.rn⟩,rfl,by omega,hf⟩
end
section
variable {aa:Nat->Nat}{g m d M:Nat}{x:xG}{V:Option Addr}{G:Gp}{v:Gv}{ps:List Nat}{wx:World}
theorem Bm(h:ku M aa wx g G v ps)(hx:gT x)(hf:aN (aL aa 10) wx (.slice V m d) x.cmd.facts)(oa:1<=M)(kj:G.rn+1<=1000000)(hM:M+441540<=800000000) :
  Calls prog 33 #[.pointer (some ⟨g,0,none⟩),.agg (tN x V m d)] wx fun e w'=>e=.returned (.tuple #[])/\Dx (M+441540) aa wx g G w':=by
 refine bJ (args:=[.pointer (some ⟨g,0,none⟩),.agg (tN x V m d)]) 246 func33 (by kernel_rfl) ntmps33 (by simp) fun la gF cQ=>?_
 refine tz (c:=(aB f33)) [] (by kernel_rfl) ?_;refine aF [0] [1] (by kernel_rfl) (Vc h hf ⟨gF,cQ 0 _ rfl,cQ 1 _ rfl⟩ fun l1 w1 ar b h1=>?_);obtain⟨dm,h1⟩:=h1;refine aF [1,0] [1,1] (by kernel_rfl) (Vd (fun _ _ _ _ e h=>⟨e.symm.trans h.1,h.2⟩) h1 hx dm fun l2 w2 bK s hs h2=>?_);obtain⟨fB,h2⟩:=h2;refine aF [1,1,0] [1,1,1] (by kernel_rfl) (Ve h2 hx fB fun l3 k hk oe=>?_);refine eM [1,1,1,2] rfl ?_;have fin:∀(l':List Value) w' M',M'<=M+441540->Dx M' aa wx g G w'->bodyPost prog f33 (fun e w'=>e=.returned (.tuple #[])/\Dx (M+441540) aa wx g G w') .normal ⟨l'.toArray,[]⟩ w':=fun l' w' M' fQ hD=>ai rfl rfl ⟨rfl,hD.mono fQ⟩
 have finr:∀(l':List Value) w',Dx (M+441540) aa wx g G w'->bodyPost prog f33 (fun e w'=>e=.returned (.tuple #[])/\Dx (M+441540) aa wx g G w') .ret ⟨l'.toArray,[]⟩ w':=fun l' w' hD=>bf rfl rfl ⟨rfl,hD⟩
 by_cases MU:k=0
 ·refine aF [1,1,1,2,0] [1,1,1,2,1] (by kernel_rfl) (U4 MU oe fun l4 h4=>?_);obtain⟨a0,a1,a2,a3,a4,a5⟩:=h4;refine bW [1,1,1,2,1,4] [1,1,1,2,1,5] true (by kernel_rfl) (bT a5) ?_;exact fh (GF (fun _ _ _ _ e h=>⟨e.symm.trans h.1,h.2⟩) h2 hx hs (by omega) ⟨a0,a1,a2,a3,a4⟩ fun l5 w5 h5=>fin _ _ _ (by omega) h5)
 refine aF [1,1,1,2,0] [1,1,1,2,1] (by kernel_rfl) (Vm MU oe fun m0 n0=>?_);refine bW [1,1,1,2,1,4] [1,1,1,2,1,5] false (by kernel_rfl) (bT n0.2.2.2.2.2) ?_;have p0:=(⟨n0.1,n0.2.1,n0.2.2.1,n0.2.2.2.1,n0.2.2.2.2.1⟩:_/\_/\_/\_/\_);by_cases cw:k=1
 ·refine aF [1,1,1,2,1,5,0] [1,1,1,2,1,5,1] (by kernel_rfl) (U5 cw p0 fun l4 h4=>?_);obtain⟨a0,a1,a2,a3,a4,a5⟩:=h4;refine bW [1,1,1,2,1,5,1,4] [1,1,1,2,1,5,1,5] true (by kernel_rfl) (bT a5) ?_;exact fh (yn (fun _ _ _ _ e h=>⟨e.symm.trans h.1,h.2⟩) h2 hx oa (by omega) ⟨a0,a1,a2,a3,a4⟩ fun l5 w5 h5=>fin _ _ _ (by omega) h5)
 refine aF [1,1,1,2,1,5,0] [1,1,1,2,1,5,1] (by kernel_rfl) (Vn cw p0 fun m1 n1=>?_);refine bW [1,1,1,2,1,5,1,4] [1,1,1,2,1,5,1,5] false (by kernel_rfl) (bT n1.2.2.2.2.2) ?_;have p1:=(⟨n1.1,n1.2.1,n1.2.2.1,n1.2.2.2.1,n1.2.2.2.2.1⟩:_/\_/\_/\_/\_);by_cases iq:k=2
 ·refine aF [1,1,1,2,1,5,1,5,0] [1,1,1,2,1,5,1,5,1] (by kernel_rfl) (U6 iq p1 fun l4 h4=>?_);obtain⟨a0,a1,a2,a3,a4,a5⟩:=h4;refine bW [1,1,1,2,1,5,1,5,1,4] [1,1,1,2,1,5,1,5,1,5] true (by kernel_rfl) (bT a5) ?_;exact fh (GD (fun _ _ _ _ e h=>⟨e.symm.trans h.1,h.2⟩) h2 hx ⟨a0,a1,a2,a3,a4⟩ fun l5 w5 h5=>fin _ _ _ (by omega) h5)
 refine aF [1,1,1,2,1,5,1,5,0] [1,1,1,2,1,5,1,5,1] (by kernel_rfl) (Vo iq p1 fun m2 n2=>?_);refine bW [1,1,1,2,1,5,1,5,1,4] [1,1,1,2,1,5,1,5,1,5] false (by kernel_rfl) (bT n2.2.2.2.2.2) ?_;have p2:=(⟨n2.1,n2.2.1,n2.2.2.1,n2.2.2.2.1,n2.2.2.2.2.1⟩:_/\_/\_/\_/\_);by_cases mu:k=3
 ·refine aF [1,1,1,2,1,5,1,5,1,5,0] [1,1,1,2,1,5,1,5,1,5,1] (by kernel_rfl) (U7 mu p2 fun l4 h4=>?_);obtain⟨a0,a1,a2,a3,a4,a5⟩:=h4;refine bW [1,1,1,2,1,5,1,5,1,5,1,4] [1,1,1,2,1,5,1,5,1,5,1,5] true (by kernel_rfl) (bT a5) ?_;exact fh (yo (fun _ _ _ _ e h=>⟨e.symm.trans h.1,h.2⟩) h2 hs (by omega) ⟨a0,a1,a2,a3,a4⟩ fun l5 w5 h5=>fin _ _ _ (by omega) h5)
 refine aF [1,1,1,2,1,5,1,5,1,5,0] [1,1,1,2,1,5,1,5,1,5,1] (by kernel_rfl) (Vp mu p2 fun m3 n3=>?_);refine bW [1,1,1,2,1,5,1,5,1,5,1,4] [1,1,1,2,1,5,1,5,1,5,1,5] false (by kernel_rfl) (bT n3.2.2.2.2.2) ?_;have p3:=(⟨n3.1,n3.2.1,n3.2.2.1,n3.2.2.2.1,n3.2.2.2.2.1⟩:_/\_/\_/\_/\_);by_cases JK:k=4
 ·refine aF [1,1,1,2,1,5,1,5,1,5,1,5,0] [1,1,1,2,1,5,1,5,1,5,1,5,1] (by kernel_rfl) (U8 JK p3 fun l4 h4=>?_);obtain⟨a0,a1,a2,a3,a4,a5⟩:=h4;refine bW [1,1,1,2,1,5,1,5,1,5,1,5,1,4] [1,1,1,2,1,5,1,5,1,5,1,5,1,5] true (by kernel_rfl) (bT a5) ?_;exact fh (GE (fun _ _ _ _ e h=>⟨e.symm.trans h.1,h.2⟩) (fun l5 w5 h5=>finr _ _ (h5.mono (by omega))) h2 hs kj (by omega) ⟨a0,a1,a2,a3,a4⟩ fun l5 w5 h5=>fin _ _ _ (by omega) h5)
 refine aF [1,1,1,2,1,5,1,5,1,5,1,5,0] [1,1,1,2,1,5,1,5,1,5,1,5,1] (by kernel_rfl) (Vq JK p3 fun m4 n4=>?_);refine bW [1,1,1,2,1,5,1,5,1,5,1,5,1,4] [1,1,1,2,1,5,1,5,1,5,1,5,1,5] false (by kernel_rfl) (bT n4.2.2.2.2.2) ?_;have p4:=(⟨n4.1,n4.2.1,n4.2.2.1,n4.2.2.2.1,n4.2.2.2.2.1⟩:_/\_/\_/\_/\_);by_cases Gg:k=5
 ·refine aF [1,1,1,2,1,5,1,5,1,5,1,5,1,5,0] [1,1,1,2,1,5,1,5,1,5,1,5,1,5,1] (by kernel_rfl) (U9 Gg p4 fun l4 h4=>?_);obtain⟨a0,a1,a2,a3,a4,a5⟩:=h4;refine bW [1,1,1,2,1,5,1,5,1,5,1,5,1,5,1,4] [1,1,1,2,1,5,1,5,1,5,1,5,1,5,1,5] true (by kernel_rfl) (bT a5) ?_;exact fh (ym h2 hx hs oa (by omega) ⟨a0,a1,a2,a3,a4⟩ fun l5 w5 h5=>fin _ _ _ (by omega) h5)
 refine aF [1,1,1,2,1,5,1,5,1,5,1,5,1,5,0] [1,1,1,2,1,5,1,5,1,5,1,5,1,5,1] (by kernel_rfl) (Vr Gg p4 fun m5 n5=>?_);refine bW [1,1,1,2,1,5,1,5,1,5,1,5,1,5,1,4] [1,1,1,2,1,5,1,5,1,5,1,5,1,5,1,5] false (by kernel_rfl) (bT n5.2.2.2.2.2) ?_;have p5:=(⟨n5.1,n5.2.1,n5.2.2.1,n5.2.2.2.1,n5.2.2.2.2.1⟩:_/\_/\_/\_/\_);by_cases jv:k=6
 ·refine aF [1,1,1,2,1,5,1,5,1,5,1,5,1,5,1,5,0] [1,1,1,2,1,5,1,5,1,5,1,5,1,5,1,5,1] (by kernel_rfl) (Va jv p5 fun l4 h4=>?_);obtain⟨a0,a1,a2,a3,a4,a5⟩:=h4;refine bW [1,1,1,2,1,5,1,5,1,5,1,5,1,5,1,5,1,4] [1,1,1,2,1,5,1,5,1,5,1,5,1,5,1,5,1,5] true (by kernel_rfl) (bT a5) ?_;exact fh (DQ h2 hs (by omega) ⟨a0,a1,a2,a3,a4⟩ fun l5 w5 h5=>fin _ _ _ (by omega) h5)
 refine aF [1,1,1,2,1,5,1,5,1,5,1,5,1,5,1,5,0] [1,1,1,2,1,5,1,5,1,5,1,5,1,5,1,5,1] (by kernel_rfl) (Vs jv p5 fun m6 n6=>?_);refine bW [1,1,1,2,1,5,1,5,1,5,1,5,1,5,1,5,1,4] [1,1,1,2,1,5,1,5,1,5,1,5,1,5,1,5,1,5] false (by kernel_rfl) (bT n6.2.2.2.2.2) ?_;have p6:=(⟨n6.1,n6.2.1,n6.2.2.1,n6.2.2.2.1,n6.2.2.2.2.1⟩:_/\_/\_/\_/\_);by_cases nr:k=7
 ·refine aF [1,1,1,2,1,5,1,5,1,5,1,5,1,5,1,5,1,5,0] [1,1,1,2,1,5,1,5,1,5,1,5,1,5,1,5,1,5,1] (by kernel_rfl) (Vb nr p6 fun l4 h4=>?_);obtain⟨a0,a1,a2,a3,a4,a5⟩:=h4;refine bW [1,1,1,2,1,5,1,5,1,5,1,5,1,5,1,5,1,5,1,4] [1,1,1,2,1,5,1,5,1,5,1,5,1,5,1,5,1,5,1,5] true (by kernel_rfl) (bT a5) ?_;exact fh (GC (fun _ _ _ _ e h=>⟨e.symm.trans h.1,h.2⟩) h2 hx oa (by omega) ⟨a0,a1,a2,a3,a4⟩ fun l5 w5 h5=>fin _ _ _ (by omega) h5)
 refine aF [1,1,1,2,1,5,1,5,1,5,1,5,1,5,1,5,1,5,0] [1,1,1,2,1,5,1,5,1,5,1,5,1,5,1,5,1,5,1] (by kernel_rfl) (Vu nr p6 fun m7 n7=>?_);refine bW [1,1,1,2,1,5,1,5,1,5,1,5,1,5,1,5,1,5,1,4] [1,1,1,2,1,5,1,5,1,5,1,5,1,5,1,5,1,5,1,5] false (by kernel_rfl) (bT n7.2.2.2.2.2) ?_;have p7:=(⟨n7.1,n7.2.1,n7.2.2.1,n7.2.2.2.1,n7.2.2.2.2.1⟩:_/\_/\_/\_/\_);omega
end
theorem Bp(n:Int)(w:World)(h1:-9223372036854775808<=n)(h2:n<=9223372036854775807) :
  Calls prog 79 #[.int .i64 n] w fun e w'=>e=.returned (.int .i64 (3+2*cu n 3:Nat))/\w=w':=by
 have iX:Calls prog 16 #[.int .i64 n,.int .i64 3] w fun e w'=>e=.returned (.int .i64 (cu n 3:Nat))/\w=w':=dT n 3 w h1 h2 (by omega) (by omega)
 have fU:=dH n (m:=3) (by omega);obtain⟨r,hr⟩:=zN (cu n 3);rw[hr]at iX fU ⊢;clear hr;go_enter func79,ntmps79;go_wp2_with fail;refine iX.mono ?_;rintro e w2 ⟨rfl,rfl⟩;clear iX;go_wp2_with fail;go_ret;exact⟨by go_num,rfl⟩
def cJ:Gh:=⟨fun _=>[],fun _=>0,fun _ _=>0,fun _ _=>0,fun _ _=>[],fun _ _=>[],fun _ _=>False⟩
def xb(n s:Nat):Rf:=ko (s+1) n gm ⟨0,0,[]⟩
def Gp.start(n:Nat):Gp:=⟨n,(List.range n).map (xb n),List.replicate n gm,[],[],List.replicate n 0,[],false,0⟩
section
variable {n s:Nat}
theorem Fl(h:3<=n/\n<=7)(hs:s<n):Rf.new ((s+1:Nat):Int) n gm=some (xb n s):=by
 have hm:ia ((s+1:Nat):Int) n gm:=by
  unfold ia;refine⟨by omega,by omega,⟨Int.le_refl _,?_⟩,⟨Int.le_refl _,?_⟩,rfl⟩
  ·show(0:Int)<=_;omega
  ·show(0:Int)<=_;omega
 have hp:bv.takeF (bv.mk gm.snap.idx gm.snap.term []) gm.snap.idx gm.snap.term (gm.entries.filter fun x=>decide (gm.snap.idx<x.idx))=((0,true),⟨0,0,[]⟩):=by
  rfl
 have:=uz hm hp;rw[if_neg (by simp[gm,bv.lastF])]at this;exact this
theorem Lv(n:Int):eD n cJ where
 core:=⟨fun _ h=>absurd rfl h,fun _ h=>absurd rfl h,fun _ h=>absurd rfl h,fun _ _ h=>absurd rfl h,fun _ _ h=>absurd rfl h,fun _ h=>absurd rfl h,fun _ _ h=>absurd rfl h,fun _ _ h=>absurd rfl h,fun _ _ h=>absurd rfl h⟩
 al:=fun _ _=>Nat.le_refl _
 l0:=fun _ _=>rfl
 ln:=fun _ h=>absurd rfl h
 vv:=fun _ _ h=>absurd rfl h
 vp:=fun _ _ h=>absurd rfl h
 el:=fun _ _ _ h=>absurd rfl h
 li:=fun _ j x h=>by cases h
theorem SQ(h:3<=n/\n<=7)(hs:s<n):nh 1 n cJ (s+1) (xb n s) [] gm:=by
 have nil:∀{P:Prop} {j:Nat} {x:En},([]:List En)[j]?=some x->P:=fun h=>by cases h
 have hm:ia ((s+1:Nat):Int) n gm:=by
  unfold ia;refine⟨by omega,by omega,⟨Int.le_refl _,?_⟩,⟨Int.le_refl _,?_⟩,rfl⟩
  ·show(0:Int)<=_;omega
  ·show(0:Int)<=_;omega
 refine⟨?_,rfl,⟨?_,Int.le_refl _,?_⟩,(xa hm (p:=((0,true),⟨0,0,[]⟩)) rfl).1,⟨rfl,rfl,0,Nat.zero_le _,rfl⟩,fun _=>rfl⟩
 ·refine {i0:=⟨by omega,by omega⟩,id:=rfl,nn:=rfl,tr:=⟨.inl ⟨rfl,rfl⟩,fun _ _ h=>nil h,fun x h=>(by cases h),fun _ _ h=>nil h⟩,base:=Nat.le_refl _,trL:=rfl,trT:=rfl,fm:=fun _ _ _ _ _ h=>nil h,fa:=fun _ _ h=>nil h,fi:=fun _ _ h=>nil h,ft:=fun _ h=>(by cases h),t0:=Int.le_refl _,sn:=⟨rfl,rfl⟩,cm:=Int.le_refl _,co:=.inl rfl,vh:=fun _ _=>rfl,vt:=rfl,ah:=fun _ _=>rfl,kp:=?_,ld:=?_,rl:=?_,rc:=?_}
  ·intro t0 _ k hk;have hk:k<=0:=hk;obtain rfl:k=0:=by omega
   exact .inl rfl
  ·intro t h;cases h
  ·intro h;cases h
  ·intro h;cases h
 ·show s+1<=n;omega
 ·show(0:Int)<=n;omega
theorem ik.start(h:3<=n/\n<=7):ik 1 (Gp.start n):=by
 refine⟨cJ,fun _=>[],⟨h,?_,?_,?_,Lv _,fun s hs=>?_,(fun _ h=>by cases h),Nat.zero_le _,.inl rfl,Nat.zero_le _,(fun _ _ h=>by cases h),Nat.zero_le _,rfl⟩⟩
 ·simp[Gp.start]
 ·simp[Gp.start]
 ·simp[Gp.start]
 ·have hs:s<n:=hs;have e1:(Gp.start n).srv s=xb n s:=by
   unfold Gp.srv Gp.start;simp[hs]
  have e2:(Gp.start n).dk s=gm:=by
   unfold Gp.dk Gp.start;simp[hs]
  have e3:(Gp.start n).up s=0:=by
   unfold Gp.up Gp.start;simp[hs]
  rw[e1,e2,e3];exact⟨SQ h hs,rfl,Int.le_refl _⟩
end
theorem zJ:(prog.info? 29).map (fun i=>(i.zero,i.size,i.bytes))=some (some (.agg #[.int .i64 0,.int .i64 0,.int .i64 0,.int .i64 0,.slice none 0 0,.slice none 0 0]),6,80):=by kernel_rfl
theorem zA:(prog.info? 32).map (fun i=>(i.zero,i.size,i.bytes))=some (some (.pointer none),1,8):=by kernel_rfl
theorem oI{w:World}{ops:Array Oper}{rest:List Oper}{o:Oper}{a:Go.Act}{Q:Exit->Go.Act->World->Prop}(iJ:o.guard=none)(s x:Operand)
  (ho:o.op=.call {callee:=.builtin .append,args:=#[s,x],argTypes:=#[74,74]}) {aa:Nat->Nat} {i n:Nat} {v:Value} {xs:List Value} (hs:a.eval s=v) (aJ:aX aa i w 32 1 v n xs)
  {gb d:Nat} {u:Value} (hx:a.eval x=.slice (some ⟨gb,0,none⟩) 1 d) (hb:ay w gb 32 #[u]) (h1:u.oneCell'=true) (hn:n<=1000000000000)
  (h:∀A' c' w',aX (relab aa w.heap.size i) i w' 32 1 (.slice A' (n+1) c') (n+1) (xs++[u])->Fr (aL aa i) w w'->wpList prog ops Q rest (a.put o.dst (.slice A' (n+1) c')) w'):wpList prog ops Q (o::rest) a w:=by
 obtain⟨i0,fT,gv,fC,fK⟩:=info_parts zA;have hr:cj w 1 (some ⟨gb,0,none⟩) 1 [u]:=⟨rfl,fun _=>⟨_,rfl,fun j y hy=>by
  rw[Addr.add_lit,Nat.zero_add,hb.cell j,<-hy];simp⟩⟩
 exact cO iJ s x 74 ho 32 i0 _ 1 8 underlying74 fT gv fC fK rfl (by omega) v n xs hs aJ _ 1 d [u] hx hr (fun y hy=>by rw[List.mem_singleton.1 hy];exact h1) (by unfold maxLen;omega) (by omega) h
def uO:Array Value:=#[.int .i64 0,.int .i64 0,.int .i64 0,.int .i64 0,.slice none 0 0,.slice none 0 0]
theorem oK{w:World}{ops:Array Oper}{rest:List Oper}{o:Oper}{a:Go.Act}{Q:Exit->Go.Act->World->Prop}(iJ:o.guard=none)(s x:Operand)
  (ho:o.op=.call {callee:=.builtin .append,args:=#[s,x],argTypes:=#[75,75]}) {aa:Nat->Nat} {i q n:Nat} {v:Value} {ds:List gk} (hs:a.eval s=v) (aJ:lW aa i q w v ds) (hq:q≠i)
  {gb d:Nat} (hx:a.eval x=.slice (some ⟨gb,0,none⟩) 1 d) (hb:ay w gb 29 uO) (hl:ds.length=n) (hn:n<=1000000000)
  (h:∀A' c' w',lW (relab aa w.heap.size i) i q w' (.slice A' (n+1) c') (ds++[gm])->Fr (aL aa i) w w'->wpList prog ops Q rest (a.put o.dst (.slice A' (n+1) c')) w'):wpList prog ops Q (o::rest) a w:=by
 obtain⟨i0,fT,gv,fC,fK⟩:=info_parts zJ;obtain⟨zs,h1,h2,h3⟩:=aJ;rw[hl]at h1;have hr:cj w 6 (some ⟨gb,0,none⟩) 1 (rM ((.slice none 0 0,.slice none 0 0),gm)):=⟨rfl,fun _=>⟨_,rfl,fun j y hy=>by
  rw[Addr.add_lit,Nat.zero_add,hb.cell j,<-hy];unfold uO rM;simp only[List.getElem?_toArray];rfl⟩⟩
 refine cO iJ s x 75 ho 29 i0 _ 6 80 underlying75 fT gv fC fK rfl (by omega) v n _ hs h1 _ 1 d _ hx hr (fun y hy=>by
  simp only[rM,List.mem_cons,List.not_mem_nil,or_false]at hy;rcases hy with rfl|rfl|rfl|rfl|rfl|rfl <;> rfl) (by unfold maxLen;omega) (by omega) fun A' c' w' h4 h5=>h A' c' w' ⟨zs++[((.slice none 0 0,.slice none 0 0),gm)],?_,fun z hz=>?_,by rw[List.map_append,h3];rfl⟩ h5
 ·rw[List.flatMap_append,List.length_append,hl];simpa using h4
 ·rcases List.mem_append.1 hz with hz|hz
  ·have hm:=h2 z hz;have hk:=hm.keep (w':=w') fun j e hj=>h5.block j hj fun e2=>hq (by have e2:aa j=i:=e2;omega)
   have hL:HY (relab aa w.heap.size i) q w z:=hm.relabel fun j hj e=>(ae hj).trans e
   exact hL.keep fun j e hj=>h5.block j hj fun e2=>hq (by have e2:aa j=i:=e2;rw[ae hj]at e;omega)
  ·obtain rfl:=List.mem_singleton.1 hz;exact⟨cT.nil _ _ _,none,0,0,[],rfl,cj.none_,(fun z hz=>by cases hz),rfl,Nat.le_refl _,Nat.zero_le _,fun h=>absurd h (by omega)⟩
def xJ(n:Nat)(vl vd vp:Value):Array Value:=#[vi n,vl,vd,.slice none 0 0,.slice none 0 0,.bool false,vp,.slice none 0 0,.bool false,.bool false,.slice none 0 0,.bool false,vi 0,.bool true]
structure ng(ao aa:Nat->Nat)(w0 w:World)(g n a b c e:Nat)(vl vd vp:Value)(ps qs:List Nat):Prop where
 k:ay w g 79 (xJ n vl vd vp)
 kl:aa g=1
 l:aX aa 2 w 32 1 vl a (ps.map kq)
 d:lW aa 3 10 w vd (List.replicate b gm)
 p:aX aa 6 w 3 1 vp c ((List.replicate c (0:Int)).map vi)
 sv:fS aa w e ((List.range n).map (xb n)) qs
 ql:qs.length=e
 f:bC (fun j=>ao j≠10) ao aa w0 w
section
variable {ao aa ac ar:Nat->Nat}{g n s p a b c e:Nat}{vl vd vp u:Value}{ps qs:List Nat}{w w0 w1 wx w':World}{K:Go.Act->World->Prop}{Q':Exit->Go.Act->World->Prop}{l:List Value}{H:Ending->World->Prop}{X:Nat->Prop}
theorem ng.step(h:ng ao aa w0 w g n a b c e vl vd vp ps qs)(hL:bC X aa ac w w')(hX:∀j,j<w.heap.size->aa j<7\/aa j=10->¬X j)(hS:∀j,j<w.heap.size->X j->∀t,t<e->¬ba aa (sb t) j):ng ao ac w0 w' g n a b c e vl vd vp ps qs:=by
 have k:∀i,i<7->∀j,j<w.heap.size->aa j=i->¬X j:=fun i hi j hj e=>hX j hj (.inl (by omega))
 have k10:∀j,j<w.heap.size->aa j=10->¬X j:=fun j hj e=>hX j hj (.inr e)
 obtain⟨q1,q2⟩:=hL.stay g h.k.lt (k 1 (by omega) g h.k.lt h.kl);refine⟨q2.trans h.k,q1.trans h.kl,hL.one (P:=fun aa w=>aX aa 2 w 32 1 vl a (ps.map kq)) (fun _ _ _ h1 h2=>h1.relabel h2) (fun _ _ _ h1 h2=>h1.keep h2) (k 2 (by omega)) h.l,?_,
  hL.one (P:=fun aa w=>aX aa 6 w 3 1 vp c ((List.replicate c (0:Int)).map vi)) (fun _ _ _ h1 h2=>h1.relabel h2) (fun _ _ _ h1 h2=>h1.keep h2) (k 6 (by omega)) h.p,fun t ht=>?_,h.ql,h.f.trans hL fun j hj hn e=>?_⟩
 ·exact hL.hold (P:=fun aa w=>lW aa 3 10 w vd (List.replicate b gm)) (fun k=>k=3\/k=10) 0 (by omega) (fun _ _ _ h1 h2=>h1.relabel (fun j hj e=>(h2 j hj (.inl e)).trans e) fun j hj e=>(h2 j hj (.inr e)).trans e) (fun _ _ _ h1 h2=>h1.keep (fun j e hj=>h2 j (.inl e) hj) fun j e hj=>h2 j (.inr e) hj) (fun j hj e=>by rcases e with e|e;exact k 3 (by omega) j hj e;exact k10 j hj e) h.d
 ·obtain⟨p,rv,h1,h2⟩:=h.sv t ht;exact⟨p,rv,h1,hL.raft (fun j hj hm hx=>hS j hj hx t ht hm) h2⟩
 ·have hn:¬ao j≠10:=hn;exact hX j (Nat.lt_of_lt_of_le hj h.f.size) (.inr (by omega))
theorem ng.below(h:ng ao aa w0 w g n a b c e vl vd vp ps qs)(hb:Below w.heap.size w w'):ng ao (relab aa w.heap.size 12) w0 w' g n a b c e vl vd vp ps qs:=h.step (bC.new 12 aa hb) (fun _ _ _ h=>h) (fun _ _ h=>h.elim)
theorem ng.putL{u:Value}(h:ng ao aa w0 w g n a b c e vl vd vp ps qs)(hn:aX (relab aa w.heap.size 2) 2 w1 32 1 u (a+1) ((ps++[p]).map kq))(hF:Fr (aL aa 2) w w1) :
  ay w1 g 79 (xJ n vl vd vp)/\ng ao (relab aa w.heap.size 2) w0 (w1.setCell ⟨g,1,none⟩ u) g n (a+1) b c e u vd vp (ps++[p]) qs:=by
 have bV:=h.k.lt;have hB:ay w1 g 79 (xJ n vl vd vp):=(hF.block g bV fun e=>by have e:aa g=2:=e;have:=h.kl;omega).trans h.k;have hS:=hB.set_ 1 u;have du:=Fr.set (w:=w1) g 1 u;have gn:=hF.size;have hL:bC (fun j=>aa j=2\/aa j=1) aa (relab aa w.heap.size 2) w (w1.setCell ⟨g,1,none⟩ u):=⟨by have:=du.size;omega,fun j hj hn=>⟨ae hj,(du.block j (by omega) fun e=>hn (.inr (by rw[e];exact h.kl))).trans (hF.block j hj fun e=>hn (.inl e))⟩,du.os.trans hF.os,du.tape.trans hF.tape,du.output.trans hF.output⟩;have k:∀i,i≠2->i≠1->∀j,j<w.heap.size->aa j=i->¬(aa j=2\/aa j=1):=fun i h1 h2 j _ e hn=>by omega
 refine⟨hB,⟨hS,(ae bV).trans h.kl,?_,?_,?_,fun t ht=>?_,h.ql,h.f.trans hL fun j hj hn e=>?_⟩⟩
 ·exact hn.keep fun j e hj=>du.block j hj fun e2=>by rw[e2,ae bV,h.kl]at e;omega
 ·exact hL.hold (P:=fun aa w=>lW aa 3 10 w vd (List.replicate b gm)) (fun k=>k=3\/k=10) 0 (by omega) (fun _ _ _ h1 h2=>h1.relabel (fun j hj e=>(h2 j hj (.inl e)).trans e) fun j hj e=>(h2 j hj (.inr e)).trans e) (fun _ _ _ h1 h2=>h1.keep (fun j e hj=>h2 j (.inl e) hj) fun j e hj=>h2 j (.inr e) hj) (fun j hj e=>by rcases e with e|e;exact k 3 (by omega) (by omega) j hj e;exact k 10 (by omega) (by omega) j hj e) h.d
 ·exact hL.one (P:=fun aa w=>aX aa 6 w 3 1 vp c ((List.replicate c (0:Int)).map vi)) (fun _ _ _ h1 h2=>h1.relabel h2) (fun _ _ _ h1 h2=>h1.keep h2) (k 6 (by omega) (by omega)) h.p
 ·obtain⟨p,rv,h1,h2⟩:=h.sv t ht;exact⟨p,rv,h1,hL.raft (fun j hj hm hx=>by unfold ba sb at hm;omega) h2⟩
 ·have hn:¬ao j≠10:=hn;intro hx;omega
theorem ng.putD{u:Value}(h:ng ao aa w0 w g n a b c e vl vd vp ps qs)(hn:lW (relab aa w.heap.size 3) 3 10 w1 u (List.replicate (b+1) gm))(hF:Fr (aL aa 3) w w1) :
  ay w1 g 79 (xJ n vl vd vp)/\ng ao (relab aa w.heap.size 3) w0 (w1.setCell ⟨g,2,none⟩ u) g n a (b+1) c e vl u vp ps qs:=by
 have bV:=h.k.lt;have hB:ay w1 g 79 (xJ n vl vd vp):=(hF.block g bV fun e=>by have e:aa g=3:=e;have:=h.kl;omega).trans h.k;have hS:=hB.set_ 2 u;have du:=Fr.set (w:=w1) g 2 u;have gn:=hF.size;have hL:bC (fun j=>aa j=3\/aa j=1) aa (relab aa w.heap.size 3) w (w1.setCell ⟨g,2,none⟩ u):=⟨by have:=du.size;omega,fun j hj hn=>⟨ae hj,(du.block j (by omega) fun e=>hn (.inr (by rw[e];exact h.kl))).trans (hF.block j hj fun e=>hn (.inl e))⟩,du.os.trans hF.os,du.tape.trans hF.tape,du.output.trans hF.output⟩;have k:∀i,i≠3->i≠1->∀j,j<w.heap.size->aa j=i->¬(aa j=3\/aa j=1):=fun i h1 h2 j _ e hn=>by omega
 refine⟨hB,⟨hS,(ae bV).trans h.kl,?_,?_,?_,fun t ht=>?_,h.ql,h.f.trans hL fun j hj hn e=>?_⟩⟩
 ·exact hL.one (P:=fun aa w=>aX aa 2 w 32 1 vl a (ps.map kq)) (fun _ _ _ h1 h2=>h1.relabel h2) (fun _ _ _ h1 h2=>h1.keep h2) (k 2 (by omega) (by omega)) h.l
 ·exact hn.keep (fun j e hj=>du.block j hj fun e2=>by rw[e2,ae bV,h.kl]at e;omega) fun j e hj=>du.block j hj fun e2=>by rw[e2,ae bV,h.kl]at e;omega
 ·exact hL.one (P:=fun aa w=>aX aa 6 w 3 1 vp c ((List.replicate c (0:Int)).map vi)) (fun _ _ _ h1 h2=>h1.relabel h2) (fun _ _ _ h1 h2=>h1.keep h2) (k 6 (by omega) (by omega)) h.p
 ·obtain⟨p,rv,h1,h2⟩:=h.sv t ht;exact⟨p,rv,h1,hL.raft (fun j hj hm hx=>by unfold ba sb at hm;omega) h2⟩
 ·have hn:¬ao j≠10:=hn;intro hx;omega
theorem ng.putP{u:Value}(h:ng ao aa w0 w g n a b c e vl vd vp ps qs)(hn:aX (relab aa w.heap.size 6) 6 w1 3 1 u (c+1) ((List.replicate (c+1) (0:Int)).map vi))(hF:Fr (aL aa 6) w w1) :
  ay w1 g 79 (xJ n vl vd vp)/\ng ao (relab aa w.heap.size 6) w0 (w1.setCell ⟨g,6,none⟩ u) g n a b (c+1) e vl vd u ps qs:=by
 have bV:=h.k.lt;have hB:ay w1 g 79 (xJ n vl vd vp):=(hF.block g bV fun e=>by have e:aa g=6:=e;have:=h.kl;omega).trans h.k;have hS:=hB.set_ 6 u;have du:=Fr.set (w:=w1) g 6 u;have gn:=hF.size;have hL:bC (fun j=>aa j=6\/aa j=1) aa (relab aa w.heap.size 6) w (w1.setCell ⟨g,6,none⟩ u):=⟨by have:=du.size;omega,fun j hj hn=>⟨ae hj,(du.block j (by omega) fun e=>hn (.inr (by rw[e];exact h.kl))).trans (hF.block j hj fun e=>hn (.inl e))⟩,du.os.trans hF.os,du.tape.trans hF.tape,du.output.trans hF.output⟩;have k:∀i,i≠6->i≠1->∀j,j<w.heap.size->aa j=i->¬(aa j=6\/aa j=1):=fun i h1 h2 j _ e hn=>by omega
 refine⟨hB,⟨hS,(ae bV).trans h.kl,?_,?_,?_,fun t ht=>?_,h.ql,h.f.trans hL fun j hj hn e=>?_⟩⟩
 ·exact hL.one (P:=fun aa w=>aX aa 2 w 32 1 vl a (ps.map kq)) (fun _ _ _ h1 h2=>h1.relabel h2) (fun _ _ _ h1 h2=>h1.keep h2) (k 2 (by omega) (by omega)) h.l
 ·exact hL.hold (P:=fun aa w=>lW aa 3 10 w vd (List.replicate b gm)) (fun k=>k=3\/k=10) 0 (by omega) (fun _ _ _ h1 h2=>h1.relabel (fun j hj e=>(h2 j hj (.inl e)).trans e) fun j hj e=>(h2 j hj (.inr e)).trans e) (fun _ _ _ h1 h2=>h1.keep (fun j e hj=>h2 j (.inl e) hj) fun j e hj=>h2 j (.inr e) hj) (fun j hj e=>by rcases e with e|e;exact k 3 (by omega) (by omega) j hj e;exact k 10 (by omega) (by omega) j hj e) h.d
 ·exact hn.keep fun j e hj=>du.block j hj fun e2=>by rw[e2,ae bV,h.kl]at e;omega
 ·obtain⟨p,rv,h1,h2⟩:=h.sv t ht;exact⟨p,rv,h1,hL.raft (fun j hj hm hx=>by unfold ba sb at hm;omega) h2⟩
 ·have hn:¬ao j≠10:=hn;intro hx;omega
theorem VJ(hl:l.length=50/\l[0]?=some (.int .i64 n))(hK:∀l':List Value,(l'.length=50/\l'[0]?=some (.int .i64 n))->K ⟨l'.toArray,[]⟩ wx):(bR [0] (aB f78)).wp prog (Exit.then K Q') ⟨l.toArray,[]⟩ wx:=by
 replace hK:=zH hK;obtain⟨ab,ax⟩:=hl;obtain⟨fr,rfl,ag⟩:=am ab;rw[kr,ag _ _ ax];clear ab ag ax;refine cG [0] f78 rfl ?_;go_wp2_with fail;refine hK.out _ ?_;exact⟨rfl,rfl⟩
theorem VK(hf:bC (fun j=>ao j≠10) ao aa w0 wx)(hl:l.length=50/\l[0]?=some (.int .i64 n))(hK:∀(l':List Value) w' ac g,(l'.length=50/\l'[0]?=some (.int .i64 n)/\l'[3]?=some (.pointer (some ⟨g,0,none⟩)))/\ng ao ac w0 w' g n 0 0 0 0 (.slice none 0 0) (.slice none 0 0) (.slice none 0 0) [] []->K ⟨l'.toArray,[]⟩ w'):(bR [1,0] (aB f78)).wp prog (Exit.then K Q') ⟨l.toArray,[]⟩ wx:=by
 have hb:Below wx.heap.size wx (wx.alloc (.cells (xJ n (.slice none 0 0) (.slice none 0 0) (.slice none 0 0)) 79)):=zb.alloc zl _;have hL:=bC.new 1 aa hb;have aO:=zH (show ng ao (relab aa wx.heap.size 1) w0 (wx.alloc (.cells (xJ n (.slice none 0 0) (.slice none 0 0) (.slice none 0 0)) 79)) wx.heap.size n 0 0 0 0 (.slice none 0 0) (.slice none 0 0) (.slice none 0 0) [] []from
  ⟨ay.new wx 79 _,aA zl,aX.nil _ _ _ _ _,⟨[],aX.nil _ _ _ _ _,(fun _ h=>by cases h),rfl⟩,aX.nil _ _ _ _ _,(fun t ht=>absurd ht (by omega)),rfl,hf.trans hL fun _ _ _ _ h=>h⟩)
 replace hK:=zH hK;clear hb hL hf;unfold xJ vi at aO;obtain⟨ab,ax⟩:=hl;obtain⟨fr,rfl,ag⟩:=am ab;rw[kr,ag _ _ ax];clear ab ag ax;refine cG [1,0] f78 rfl ?_;go_wp2_with fail;refine hK.out _ _ (relab aa wx.heap.size 1) wx.heap.size ?_;exact⟨⟨rfl,rfl,rfl⟩,aO.out⟩
theorem VL(hl:l.length=50/\l[0]?=some (.int .i64 n)/\l[3]?=some (.pointer (some ⟨g,0,none⟩)))(hK:∀l':List Value,(l'.length=50/\l'[0]?=some (.int .i64 n)/\l'[3]?=some (.pointer (some ⟨g,0,none⟩))/\l'[4]?=some (.int .i64 (0+1:Nat)))->K ⟨l'.toArray,[]⟩ wx):(bR [1,1,0,0] (aB f78)).wp prog (Exit.then K Q') ⟨l.toArray,[]⟩ wx:=by
 replace hK:=zH hK;obtain⟨ab,ax,bb⟩:=hl;obtain⟨fr,rfl,ag⟩:=am ab;rw[kr,ag _ _ ax,ag _ _ bb];clear ab ag ax bb;refine cG [1,1,0,0] f78 rfl ?_;go_wp2_with fail;refine hK.out _ ?_;exact⟨rfl,rfl,rfl,rfl⟩
theorem VM(hs:s<n)(hn:n<=7)(hl:l.length=50/\l[0]?=some (.int .i64 n)/\l[3]?=some (.pointer (some ⟨g,0,none⟩))/\l[4]?=some (.int .i64 (s+1:Nat)))(hK:∀l':List Value,(l'.length=50/\l'[0]?=some (.int .i64 n)/\l'[3]?=some (.pointer (some ⟨g,0,none⟩))/\l'[4]?=some (.int .i64 (s+1:Nat)))->K ⟨l'.toArray,[]⟩ wx):(bR [1,1,0,1,2,3,0] (aB f78)).wp prog (Exit.then K Q') ⟨l.toArray,[]⟩ wx:=by
 have d:decide (((s+1:Nat):Int)<=(n:Int))=true:=decide_eq_true (by omega);replace hK:=zH hK;obtain⟨ab,ax,bb,bc⟩:=hl;obtain⟨fr,rfl,ag⟩:=am ab;rw[kr,ag _ _ ax,ag _ _ bb,ag _ _ bc];clear ab ag ax bb bc;refine cG [1,1,0,1,2,3,0] f78 rfl ?_;go_wp2_with fail;refine hK.out _ ?_;exact⟨rfl,rfl,rfl,rfl⟩
theorem Pp(hs:¬s<n)(hn:n<=7)(hl:l.length=50/\l[0]?=some (.int .i64 n)/\l[3]?=some (.pointer (some ⟨g,0,none⟩))/\l[4]?=some (.int .i64 (s+1:Nat)))(hQ:∀l':List Value,(l'.length=50/\l'[0]?=some (.int .i64 n)/\l'[3]?=some (.pointer (some ⟨g,0,none⟩))/\l'[4]?=some (.int .i64 (s+1:Nat)))->Q' (.exit 0) ⟨l'.toArray,[]⟩ wx):(bR [1,1,0,1,2,3,0] (aB f78)).wp prog (Exit.then K Q') ⟨l.toArray,[]⟩ wx:=by
 have d:decide (((s+1:Nat):Int)<=(n:Int))=false:=decide_eq_false (by omega);replace hQ:=zH hQ;obtain⟨ab,ax,bb,bc⟩:=hl;obtain⟨fr,rfl,ag⟩:=am ab;rw[kr,ag _ _ ax,ag _ _ bb,ag _ _ bc];clear ab ag ax bb bc;refine cG [1,1,0,1,2,3,0] f78 rfl ?_;go_wp2_with fail;refine hQ.out _ ?_;exact⟨rfl,rfl,rfl,rfl⟩
theorem VO(h:ng ao aa w0 wx g n s s s s vl vd vp ps qs)(hs:s<n)(hn:3<=n/\n<=7)(hl:l.length=50/\l[0]?=some (.int .i64 n)/\l[3]?=some (.pointer (some ⟨g,0,none⟩))/\l[4]?=some (.int .i64 (s+1:Nat)))(hK:∀(l':List Value) w' ac p,(l'.length=50/\l'[0]?=some (.int .i64 n)/\l'[3]?=some (.pointer (some ⟨g,0,none⟩))/\l'[4]?=some (.int .i64 (s+1:Nat))/\l'[5]?=some (.pointer (some ⟨p,0,none⟩)))/\ng ao ac w0 w' g n s s s (s+1) vl vd vp ps (ps++[p])->K ⟨l'.toArray,[]⟩ w')(kG:qs=ps):(bR [1,1,0,1,2,3,1,0,2,0] (aB f78)).wp prog (Exit.then K Q') ⟨l.toArray,[]⟩ wx:=by
 subst kG;have LO:bC (ba aa (sb s)) aa (fun j=>if sb s<aa j/\aa j<=sb s+13 then 0 else aa j) wx wx:=⟨Nat.le_refl _,fun j _ hn=>⟨if_neg hn,rfl⟩,rfl,rfl,rfl⟩;have gf:=uy (aa:=(fun j=>if sb s<aa j/\aa j<=sb s+13 then 0 else aa j)) (w:=wx) (sb s) 10 ((s+1:Nat):Int) (n:Int) gm none none 0 0 0 0 ⟨none,0,0,[],rfl,cj.none_,(fun z hz=>by cases hz),rfl,Nat.le_refl _,Nat.zero_le _,fun h=>absurd h (by omega)⟩ (cT.nil _ _ _) (.inl (by unfold sb;omega)) (by omega) (by simp[gm]) rfl (fun j _ hm=>by
  unfold ba at hm;simp only at hm;split at hm <;> omega)
 rw[Fl hn hs]at gf;have aO:=zH (fun w' (e:Ending) (hP:lJ (fun j=>if sb s<aa j/\aa j<=sb s+13 then 0 else aa j) (sb s) wx (some (xb n s)) e w')=>show ∃ac p,e=.returned (.pointer (some ⟨p,0,none⟩))/\ng ao ac w0 w' g n s s s (s+1) vl vd vp qs (qs++[p])from by
  obtain⟨hb,⟨h1,_⟩|⟨R2,p,ac,v',h1,h2,h3,h4,h5⟩⟩:=hP
  ·cases h1
  ·injection h1 with h1;subst h1;have hL:bC (ba aa (sb s)) aa ac wx w':=⟨hb.size,fun j hj hn=>⟨(h4 j hj).trans (if_neg hn),hb.block j hj⟩,hb.os,hb.tape,hb.output⟩;obtain⟨k1,k2,k3,k4,k5,k6,k7,k8⟩:=h.step hL (fun j _ e hm=>by unfold ba sb at hm;omega) (fun j _ hm t ht pJ=>by unfold ba sb at hm pJ;omega);refine⟨ac,p,h2,k1,k2,k3,k4,k5,fun t ht=>?_,by rw[List.length_append,k7];rfl,k8⟩;by_cases X4:t=s
   ·subst X4;refine⟨p,v',by rw[List.getElem?_append_right (by omega),k7,Nat.sub_self];rfl,?_⟩;have e1:((List.range n).map (xb n))[t]?.getD AV=xb n t:=by simp[hs]
    rw[e1];exact h3
   ·obtain⟨p',rv,q1,q2⟩:=k6 t (by omega);exact⟨p',rv,by rw[List.getElem?_append_left (by have:=(List.getElem?_eq_some_iff.1 q1).1;omega)];exact q1,q2⟩)
 replace gf:=gf.mono fun e w' hP=>aO.out w' e hP
 replace gf:Calls prog 13 #[.int .i64 (s+1:Nat),.int .i64 n,.agg #[.int .i64 0,.int .i64 0,.int .i64 0,.int .i64 0,.slice none 0 0,.slice none 0 0]] wx _:=gf;replace hK:=zH hK;clear aO h LO;obtain⟨ab,ax,bb,bc⟩:=hl;obtain⟨fr,rfl,ag⟩:=am ab;rw[kr,ag _ _ ax,ag _ _ bb,ag _ _ bc];clear ab ag ax bb bc;refine cG [1,1,0,1,2,3,1,0,2,0] f78 rfl ?_;go_wp2_with fail;refine gf.mono ?_;rintro e w2 ⟨bK,p2,rfl,hG⟩;clear gf;replace hG:=zH hG;go_wp2_with fail;exact hK.out _ _ _ _ ⟨⟨rfl,rfl,rfl,rfl,rfl⟩,hG.out⟩
theorem VP(hl:l.length=50/\l[0]?=some (.int .i64 n)/\l[3]?=some (.pointer (some ⟨g,0,none⟩))/\l[4]?=some (.int .i64 (s+1:Nat))/\l[5]?=some (.pointer (some ⟨p,0,none⟩)))(hK:∀l':List Value,(l'.length=50/\l'[0]?=some (.int .i64 n)/\l'[3]?=some (.pointer (some ⟨g,0,none⟩))/\l'[4]?=some (.int .i64 (s+1:Nat))/\l'[5]?=some (.pointer (some ⟨p,0,none⟩)))->K ⟨l'.toArray,[]⟩ wx):(bR [1,1,0,1,2,3,1,0,2,1,0] (aB f78)).wp prog (Exit.then K Q') ⟨l.toArray,[]⟩ wx:=by
 replace hK:=zH hK;obtain⟨ab,ax,bb,bc,cP⟩:=hl;obtain⟨fr,rfl,ag⟩:=am ab;rw[kr,ag _ _ ax,ag _ _ bb,ag _ _ bc,ag _ _ cP];clear ab ag ax bb bc cP;refine cG [1,1,0,1,2,3,1,0,2,1,0] f78 rfl ?_;go_wp2_with fail;refine hK.out _ ?_;exact⟨rfl,rfl,rfl,rfl,rfl⟩
theorem VQ(h:ng ao aa w0 wx g n s s s (s+1) vl vd vp ps (ps++[p]))(hn:s<7)(hl:l.length=50/\l[0]?=some (.int .i64 n)/\l[3]?=some (.pointer (some ⟨g,0,none⟩))/\l[4]?=some (.int .i64 (s+1:Nat))/\l[5]?=some (.pointer (some ⟨p,0,none⟩)))(hK:∀(l':List Value) w' ac u,(l'.length=50/\l'[0]?=some (.int .i64 n)/\l'[3]?=some (.pointer (some ⟨g,0,none⟩))/\l'[4]?=some (.int .i64 (s+1:Nat))/\l'[5]?=some (.pointer (some ⟨p,0,none⟩)))/\ng ao ac w0 w' g n (s+1) s s (s+1) u vd vp (ps++[p]) (ps++[p])->K ⟨l'.toArray,[]⟩ w'):(bR [1,1,0,1,2,3,1,0,2,1,1,0] (aB f78)).wp prog (Exit.then K Q') ⟨l.toArray,[]⟩ wx:=by
 have aU:Below wx.heap.size wx (wx.alloc (.cells #[kq p] 32)):=zb.alloc zl _;have eu:=ay.new wx 32 #[kq p];have h2:=h.below aU;have lM:=h2.l;have ax:∃A c0,vl=.slice A s c0:=by
  obtain⟨A,c0,e,_⟩:=id lM;exact⟨A,c0,e⟩
 obtain⟨A,c0,hv⟩:=ax;have f1:=h.k.cell 1;simp only[xJ,vi,Zx]at f1;have bV:=h.k.lt;have fo:=zH (fun(A':Option Addr) (c':Nat) (w':World) hn hF=>h2.putL (p:=p) (w1:=w') (u:=.slice A' (s+1) c') hn hF);rw[hv]at f1 lM;replace hK:=zH hK;clear h h2 aU hv;obtain⟨ab,ax,bb,bc,cP⟩:=hl;obtain⟨fr,rfl,ag⟩:=am ab;rw[kr,ag _ _ ax,ag _ _ bb,ag _ _ bc,ag _ _ cP];clear ab ag ax bb bc cP;refine cG [1,1,0,1,2,3,1,0,2,1,1,0] f78 rfl ?_;go_wp2_with (at_builtin;refine oI rfl (.tmp 24) (.tmp 26) rfl rfl lM rfl eu rfl (by omega) ?_;intro A3 c3 w3 bg dW;obtain⟨ig,pp⟩:=fo.out A3 c3 w3 (by simpa using bg) dW;replace pp:=zH pp;have z1:=ig.cell 1;have f3:=ig.free 1;simp only[xJ,Zx]at z1;have ip:=ig.lt;clear fo dW bg lM eu ig);exact hK.out _ _ _ _ ⟨⟨rfl,rfl,rfl,rfl,rfl⟩,pp.out⟩
theorem VR(h:ng ao aa w0 wx g n (s+1) s s (s+1) vl vd vp ps ps)(hn:s<7)(hl:l.length=50/\l[0]?=some (.int .i64 n)/\l[3]?=some (.pointer (some ⟨g,0,none⟩))/\l[4]?=some (.int .i64 (s+1:Nat))/\l[5]?=some (.pointer (some ⟨p,0,none⟩)))(hK:∀(l':List Value) w' ac u,(l'.length=50/\l'[0]?=some (.int .i64 n)/\l'[3]?=some (.pointer (some ⟨g,0,none⟩))/\l'[4]?=some (.int .i64 (s+1:Nat))/\l'[5]?=some (.pointer (some ⟨p,0,none⟩)))/\ng ao ac w0 w' g n (s+1) (s+1) s (s+1) vl u vp ps ps->K ⟨l'.toArray,[]⟩ w'):(bR [1,1,0,1,2,3,1,0,2,1,1,1,0] (aB f78)).wp prog (Exit.then K Q') ⟨l.toArray,[]⟩ wx:=by
 have aU:Below wx.heap.size wx (wx.alloc (.cells uO 29)):=zb.alloc zl _;have eu:=ay.new wx 29 uO;have h2:=h.below aU;have lM:=h2.d;have ax:∃A c0,vd=.slice A s c0:=by
  obtain⟨zs,⟨A,c0,e,_⟩,_⟩:=id lM;rw[List.length_replicate]at e;exact⟨A,c0,e⟩
 obtain⟨A,c0,hv⟩:=ax;have f2:=h.k.cell 2;simp only[xJ,vi,Zx]at f2;have bV:=h.k.lt;have fo:=zH (fun(A':Option Addr) (c':Nat) (w':World) hn hF=>h2.putD (w1:=w') (u:=.slice A' (s+1) c') hn hF);rw[hv]at f2 lM;replace hK:=zH hK;clear h h2 aU hv;obtain⟨ab,ax,bb,bc,cP⟩:=hl;obtain⟨fr,rfl,ag⟩:=am ab;rw[kr,ag _ _ ax,ag _ _ bb,ag _ _ bc,ag _ _ cP];clear ab ag ax bb bc cP;refine cG [1,1,0,1,2,3,1,0,2,1,1,1,0] f78 rfl ?_;go_wp2_with (at_builtin;refine oK rfl (.tmp 34) (.tmp 36) rfl rfl lM (by omega) rfl eu (List.length_replicate ..) (by omega) ?_;intro A3 c3 w3 bg dW;obtain⟨ig,pp⟩:=fo.out A3 c3 w3 (by rw[List.replicate_succ'];exact bg) dW;replace pp:=zH pp;have z1:=ig.cell 2;have f3:=ig.free 2;simp only[xJ,Zx]at z1;have ip:=ig.lt;clear fo dW bg lM eu ig);exact hK.out _ _ _ _ ⟨⟨rfl,rfl,rfl,rfl,rfl⟩,pp.out⟩
theorem Pn(h:ng ao aa w0 wx g n (s+1) (s+1) s (s+1) vl vd vp ps ps)(hn:s<7)(hl:l.length=50/\l[0]?=some (.int .i64 n)/\l[3]?=some (.pointer (some ⟨g,0,none⟩))/\l[4]?=some (.int .i64 (s+1:Nat))/\l[5]?=some (.pointer (some ⟨p,0,none⟩)))(hK:∀(l':List Value) w' ac u,(l'.length=50/\l'[0]?=some (.int .i64 n)/\l'[3]?=some (.pointer (some ⟨g,0,none⟩))/\l'[4]?=some (.int .i64 (s+1:Nat))/\l'[5]?=some (.pointer (some ⟨p,0,none⟩)))/\ng ao ac w0 w' g n (s+1) (s+1) (s+1) (s+1) vl vd u ps ps->K ⟨l'.toArray,[]⟩ w'):(bR [1,1,0,1,2,3,1,0,2,1,1,1,1] (aB f78)).wp prog (Exit.then K Q') ⟨l.toArray,[]⟩ wx:=by
 have aU:Below wx.heap.size wx (wx.alloc (.cells #[.int .i64 0] 3)):=zb.alloc zl _;have eu:=ay.new wx 3 #[.int .i64 0];have h2:=h.below aU;have lM:=h2.p;have ax:∃A c0,vp=.slice A s c0:=by
  obtain⟨A,c0,e,_⟩:=id lM;exact⟨A,c0,e⟩
 obtain⟨A,c0,hv⟩:=ax;have f6:=h.k.cell 6;simp only[xJ,vi,Zx]at f6;have bV:=h.k.lt;have fo:=zH (fun(A':Option Addr) (c':Nat) (w':World) hn hF=>h2.putP (w1:=w') (u:=.slice A' (s+1) c') hn hF);rw[hv]at f6 lM;replace hK:=zH hK;clear h h2 aU hv;obtain⟨ab,ax,bb,bc,cP⟩:=hl;obtain⟨fr,rfl,ag⟩:=am ab;rw[kr,ag _ _ ax,ag _ _ bb,ag _ _ bc,ag _ _ cP];clear ab ag ax bb bc cP;refine cG [1,1,0,1,2,3,1,0,2,1,1,1,1] f78 rfl ?_;go_wp2_with (at_builtin;refine jI rfl (.tmp 44) (.tmp 45) rfl rfl lM rfl eu rfl (by omega) ?_;intro A3 c3 w3 bg dW;obtain⟨ig,pp⟩:=fo.out A3 c3 w3 (by rw[List.replicate_succ',List.map_append];exact bg) dW;replace pp:=zH pp;have z1:=ig.cell 6;have f3:=ig.free 6;simp only[xJ,Zx]at z1;have ip:=ig.lt;clear fo dW bg lM eu ig);exact hK.out _ _ _ _ ⟨⟨rfl,rfl,rfl,rfl,rfl⟩,pp.out⟩
theorem VN(hn:s<7)(hl:l.length=50/\l[0]?=some (.int .i64 n)/\l[3]?=some (.pointer (some ⟨g,0,none⟩))/\l[4]?=some (.int .i64 (s+1:Nat))/\l[5]?=some (.pointer (some ⟨p,0,none⟩)))(hK:∀l':List Value,(l'.length=50/\l'[0]?=some (.int .i64 n)/\l'[3]?=some (.pointer (some ⟨g,0,none⟩))/\l'[4]?=some (.int .i64 ((s+1)+1:Nat)))->K ⟨l'.toArray,[]⟩ wx):(bR [1,1,0,1,2,3,1,1] (aB f78)).wp prog (Exit.then K Q') ⟨l.toArray,[]⟩ wx:=by
 replace hK:=zH hK;obtain⟨ab,ax,bb,bc,cP⟩:=hl;obtain⟨fr,rfl,ag⟩:=am ab;rw[kr,ag _ _ ax,ag _ _ bb,ag _ _ bc,ag _ _ cP];clear ab ag ax bb bc cP;refine cG [1,1,0,1,2,3,1,1] f78 rfl ?_;go_wp2_with fail;refine hK.out _ ?_;exact⟨rfl,rfl,rfl,by go_num⟩
theorem Po(hl:l.length=50/\l[0]?=some (.int .i64 n)/\l[3]?=some (.pointer (some ⟨g,0,none⟩))/\l[4]?=some (.int .i64 (s+1:Nat)))(hH:H (.returned (.pointer (some ⟨g,0,none⟩))) wx):(bR [1,1,1] (aB f78)).wp prog (bodyPost prog f78 H) ⟨l.toArray,[]⟩ wx:=by
 replace hH:=zH hH;obtain⟨ab,ax,bb,bc⟩:=hl;obtain⟨fr,rfl,ag⟩:=am ab;rw[kr,ag _ _ ax,ag _ _ bb,ag _ _ bc];clear ab ag ax bb bc;refine cG [1,1,1] f78 rfl ?_;go_wp2_with fail;exact hH.out
theorem ng.gst(h:ng ao aa w0 wx g n n n n n vl vd vp ps ps)(hn:3<=n/\n<=7):∃v,ku 1 aa wx g (Gp.start n) v ps:=by
 refine⟨⟨vl,vd,.slice none 0 0,.slice none 0 0,vp,.slice none 0 0,.slice none 0 0,false,0⟩,⟨h.k,h.kl,h.l,h.d,⟨[],eP.nil _ _ _ _ _,(fun _ h=>by cases h),rfl⟩,ee.nil _ _ _ _,?_,aX.nil _ _ _ _ _,⟨[],rfl,aX.nil _ _ _ _ _⟩⟩,h.sv,ik.start hn,Nat.zero_le _⟩;have:=h.p;simpa[Gp.start]using this
theorem Bo(hf:bC (fun j=>ao j≠10) ao aa w0 wx)(hn:3<=n/\n<=7) :
  Calls prog 78 #[.int .i64 n] wx fun e w'=>∃ac g v ps,e=.returned (.pointer (some ⟨g,0,none⟩))/\ku 1 ac w' g (Gp.start n) v ps/\bC (fun j=>ao j≠10) ao ac w0 w':=by
 refine bJ (args:=[.int .i64 n]) 50 func78 (by kernel_rfl) ntmps78 (by simp) fun la gF cQ=>?_
 refine tz (c:=(aB f78)) [] (by kernel_rfl) ?_;refine aF [0] [1] (by kernel_rfl) (VJ ⟨gF,cQ 0 _ rfl⟩ fun l0 ir=>?_);refine aF [1,0] [1,1] (by kernel_rfl) (VK hf ir fun l1 w1 ar g h1=>?_);obtain⟨dm,h1⟩:=h1;refine aF [1,1,0] [1,1,1] (by kernel_rfl) (aF [1,1,0,0] [1,1,0,1] (by kernel_rfl) (VL dm fun l2 fB=>?_));refine eM [1,1,0,1,2] rfl ?_;refine nI [1,1,0,1,2,3] (by kernel_rfl) (fun k a w=>∃(l:List Value) (s:Nat) (aa:Nat->Nat) (vl vd vp:Value) (ps:List Nat),a=⟨l.toArray,[]⟩/\(l.length=50/\l[0]?=some (.int .i64 n)/\l[3]?=some (.pointer (some ⟨g,0,none⟩))/\l[4]?=some (.int .i64 (s+1:Nat)))/\s<=n/\k=n-s/\ng ao aa w0 w g n s s s s vl vd vp ps ps) n ⟨l2,0,ar,_,_,_,[],rfl,fB,Nat.zero_le _,rfl,h1⟩ ?_;rintro k a w ⟨l3,s,dX,vl,vd,vp,ps,rfl,oe,fw,rfl,h3⟩;by_cases hs:s<n
 ·have ou:s<7:=by omega
  refine aF [1,1,0,1,2,3,0] [1,1,0,1,2,3,1] (by kernel_rfl) (VM hs hn.2 oe fun l4 px=>?_);refine aF [1,1,0,1,2,3,1,0] [1,1,0,1,2,3,1,1] (by kernel_rfl) (eM [1,1,0,1,2,3,1,0,2] rfl (fh ?_));refine aF [1,1,0,1,2,3,1,0,2,0] [1,1,0,1,2,3,1,0,2,1] (by kernel_rfl) (VO h3 hs hn px (fun l5 w5 dz p h5=>?_) rfl);obtain⟨na,h5⟩:=h5;refine aF [1,1,0,1,2,3,1,0,2,1,0] [1,1,0,1,2,3,1,0,2,1,1] (by kernel_rfl) (VP na fun l6 Dh=>?_);refine aF [1,1,0,1,2,3,1,0,2,1,1,0] [1,1,0,1,2,3,1,0,2,1,1,1] (by kernel_rfl) (VQ h5 ou Dh fun l7 w7 N3 u7 h7=>?_);obtain⟨Lb,h7⟩:=h7;refine aF [1,1,0,1,2,3,1,0,2,1,1,1,0] [1,1,0,1,2,3,1,0,2,1,1,1,1] (by kernel_rfl) (VR h7 ou Lb fun l8 w8 Sx u8 h8=>?_);obtain⟨Xc,h8⟩:=h8;refine Pn h8 ou Xc fun l9 w9 Sy u9 h9=>?_
  obtain⟨Xd,h9⟩:=h9;exact VN ou Xd fun l10 Re=>⟨n-(s+1),by omega,l10,s+1,Sy,u7,u8,u9,ps++[p],rfl,Re,hs,rfl,h9⟩
 ·obtain rfl:s=n:=by omega
  refine aF [1,1,0,1,2,3,0] [1,1,0,1,2,3,1] (by kernel_rfl) (Pp hs hn.2 oe fun l4 px=>?_);obtain⟨v,hG⟩:=h3.gst hn;exact Po px ⟨dX,g,v,ps,rfl,hG,h3.f⟩
end
def Gz:gk:=⟨⟨0,0⟩,Ds,[]⟩
def qH:Rf:=Rf.mk 1 3 ⟨0,0⟩ ⟨0,0,[]⟩ Ds 0 0 0 0 0 [] [] 0 [] HZ eO
theorem Kp:Rf.new 1 3 Gz=some qH:=by rfl
def Yw(k w:Int):Rf:={qH with clock:=k,wait:=w}
def Gw(k t:Int):Mg:={fx with kind:=k,frm:=1,tgt:=t,term:=1}
def B8:Rf:={qH with role:=1,yes:=[1]}
def ow:Rf:={qH with role:=2,yes:=[1],hard:=⟨1,1⟩}
def O3:Mg:={fx with kind:=2,frm:=2,tgt:=1,term:=1}
theorem N4:B8.step O3=(⟨true,false,⟨1,1⟩,[],[],none,[],[Gw 3 2,Gw 3 3]⟩,ow):=by rfl
def Km:En:=nc 1 1 jx
def Gu:Mg:={fx with kind:=4,frm:=3,tgt:=1,term:=1}
theorem Kn:dC 3 [1,0,0]=0:=(iZ (N:=3) (by decide) _).trans (vJ (N:=3) (l:=[1,0,0]) (by decide) ⟨.inl rfl,by decide,by decide⟩).symm
theorem Ko:dC 3 [1,1,0]=1:=(iZ (N:=3) (by decide) _).trans (vJ (N:=3) (l:=[1,1,0]) (by decide) ⟨.inr ⟨0,by decide,by decide,by decide⟩,by decide,by decide⟩).symm
def gI:Rf:={qH with role:=3,leader:=1,yes:=[1,3],hard:=⟨1,1⟩,round:=1,track:=⟨0,0,[Km]⟩,peers:=[⟨1,0,0,0⟩,⟨1,0,0,0⟩,⟨1,0,0,0⟩,⟨1,0,0,0⟩]}
def O4(s:Int):Mg:={fx with kind:=5,frm:=1,tgt:=s,term:=1,entries:=[Km],round:=1}
def wS:Ot:=⟨true,false,⟨0,0⟩,[Km],[],none,[],[O4 2,O4 3]⟩
theorem N6:(({ow with yes:=[1,3]}:Rf).leads1.all)={gI with out:=wS}:=by rfl
theorem N7:({gI with out:=wS}:Rf).agrees={gI with out:=wS}:=by
 unfold Rf.agrees;have e:({gI with out:=wS}:Rf).agreesTo=0:=Kn;rw[e];rfl
theorem N8:ow.does Gu={gI with out:=wS}:=by
 have e:ow.does Gu=({ow with yes:=[1,3]}:Rf).leads1.all.agrees:=by rfl
 rw[e,N6,N7]
theorem N5:ow.step Gu=({wS with hard:=⟨1,1⟩},gI):=by
 have e:ow.step Gu=(if(ow.does Gu).role=3 then(ow.does Gu).reads else ow.does Gu).tell:=by rfl
 rw[e,N8];rfl
def vo:Mg:={fx with kind:=6,frm:=2,tgt:=1,term:=1,idx:=1}
def SE:Rf:={gI with commit:=1,peers:=[⟨1,0,0,0⟩,⟨1,0,0,0⟩,⟨2,1,0,0⟩,⟨1,0,0,0⟩],out:={eO with commits:=[Km]}}
theorem IS:gI.does vo=SE:=by
 have e:gI.does vo=({gI with peers:=[⟨1,0,0,0⟩,⟨1,0,0,0⟩,⟨2,1,0,0⟩,⟨1,0,0,0⟩]}:Rf).agrees:=by rfl
 have e2:({gI with peers:=[⟨1,0,0,0⟩,⟨1,0,0,0⟩,⟨2,1,0,0⟩,⟨1,0,0,0⟩]}:Rf).agreesTo=1:=Ko;rw[e];unfold Rf.agrees;rw[e2];rfl
theorem SF:(gI.step vo).1={eO with commits:=[Km]}:=by
 have e:gI.step vo=(if(gI.does vo).role=3 then(gI.does vo).reads else gI.does vo).tell:=by rfl
 rw[e,IS];rfl
theorem N9:(gI.step vo).2.role=3:=by
 have e:gI.step vo=(if(gI.does vo).role=3 then(gI.does vo).reads else gI.does vo).tell:=by rfl
 rw[e,IS];rfl
def O5(k:Nat):Rf:=if k=0 then qH else if k<=9 then Yw k 10 else B8
def AM(k:Nat):Ot:=if k=10 then {eO with msgs:=[Gw 1 2,Gw 1 3]}else eO
theorem wV:∀k,k<10->(O5 k).tick 0=(AM (k+1),O5 (k+1))
 | 0,_=>rfl
 | 1,_=>rfl
 | 2,_=>rfl
 | 3,_=>rfl
 | 4,_=>rfl
 | 5,_=>rfl
 | 6,_=>rfl
 | 7,_=>rfl
 | 8,_=>rfl
 | 9,_=>rfl
 | k+10,h=>absurd h (by omega)
theorem Kq:Ok 1 0 qH:=(xa (id:=1) (n:=3) (s:=Gz) (by unfold ia;decide) rfl).1
theorem Fc:∀k,k<=10->Ok (1+11*k) 0 (O5 k)
 | 0,_=>Kq
 | k+1,h=>by
  have h1:=(Fc k (by omega)).ticked 0;rw[wV k (by omega)]at h1;exact h1.mono (by omega) zl
def xY(aa:Nat->Nat)(w:World)(p:Nat)(O:Ot):Prop:=∃X,fd aa 20 w O X/\ay w p 49 (aK O X)/\aa p=30
def pS(w0:World)(ga:Nat)(R:Rf)(L:List (Nat×Ot))(w:World):Prop:=∃aa v,av aa 1 w ga R v/\(∀z∈L,xY aa w z.1 z.2)/\(∀j,j<w0.heap.size->aa j=0)/\Below w0.heap.size w0 w
section
variable {aa ac:Nat->Nat}{w w' w0:World}{ga p:Nat}{R R':Rf}{O:Ot}{L:List (Nat×Ot)}{X:Ox}{v:Rw}
theorem xY.leaves{Z:Nat->Prop}(h:xY aa w p O)(hl:bC Z aa ac w w')(hZ:∀j,j<w.heap.size->(aa j=20\/aa j=30)->¬Z j):xY ac w' p O:=by
 obtain⟨X,h1,h2,h3⟩:=h;obtain⟨Ps,KM⟩:=hl.stay p h2.lt (hZ p h2.lt (.inr h3));have h4:=KM.trans h2;have h5:=Ps.trans h3;exact⟨X,hl.outX (fun j hj e=>hZ j hj (.inl e)) h1,h4,h5⟩
theorem pS.act(hL:∀z∈L,xY aa w z.1 z.2)(h0:∀j,j<w0.heap.size->aa j=0)(hB:Below w0.heap.size w0 w)(hT:cV aa 1 20 w ga O R' X w'):pS w0 ga R' ((w'.heap.size,O)::L) (w'.alloc (.cells (aK O X) 49)):=by
 obtain⟨ac,v',q1,q2,q3,q4,q5⟩:=hT;have hl:bC (ba aa 1) aa ac w w':=bC.of_fr q5 fun j hj hn=>⟨q3 j hj hn,fun hm=>hn ⟨hm.1,by have:=hm.2;omega⟩⟩
 have hb:Below w'.heap.size w' (w'.alloc (.cells (aK O X) 49)):=zb.alloc zl _;have hn:=bC.new 30 ac hb;have RR:=hB.size;have ug:∀j,j<w0.heap.size->¬ba aa 1 j:=fun j hj hm=>by have:=h0 j hj;unfold ba at hm;omega
 refine⟨_,v',q1.fresh' 30 hb,fun z hz=>?_,fun j hj=>?_,?_⟩
 ·rcases List.mem_cons.1 hz with rfl|hz
  ·exact⟨X,hn.outX (fun _ _ _ hf=>hf) q2,ay.new _ _ _,aA zl⟩
  ·exact((hL z hz).leaves hl fun j _ e hm=>by unfold ba at hm;omega).leaves hn fun _ _ _ hf=>hf
 ·rw[ae (by have:=q5.size;omega)];exact(q3 j (by omega) (ug j hj)).trans (h0 j hj)
 ·have h1:Below w0.heap.size w0 w':=⟨q5.os.trans hB.os,q5.tape.trans hB.tape,q5.output.trans hB.output,Nat.le_trans hB.size q5.size,fun j hj=>(q5.block j (by omega) fun hm=>ug j hj ⟨hm.1,by have:=hm.2;omega⟩).trans (hB.block j hj)⟩;exact aj h1 hb zl
theorem zO{O0:Ot}{X0:Ox}{T:TypeId}(O:Ot)(X:Ox)(h:ay w p T (aK O0 X0)):ay (bQ w p O X) p T (aK O X):=by
 have s:=((((((((h.set_ 0 (.bool O.save)).set_ 1 (.bool O.reset)).set_ 2 (.int .i64 O.hard.term)).set_ 3 (.int .i64 O.hard.vote)).set_ 4 (.slice X.ea O.entries.length X.ec)).set_ 5 (.slice X.ca O.commits.length X.cc)).set_ 6 (.pointer X.sp)).set_ 7 (.slice X.ra O.reads.length X.rc)).set_ 8 (.slice X.ma O.msgs.length X.mc);simp only[aK,Zy]at s;exact s
theorem pS.tick{w2:World}{O0:Ot}(h:xY aa w p O0)(h0:∀j,j<w0.heap.size->aa j=0)(hB:Below w0.heap.size w0 w)(hT:cV aa 1 20 w ga O R' X w')(hw:bQ w' p O X=w2):pS w0 ga R' [(p,O)] w2:=by
 obtain⟨X0,_,h2,h3⟩:=h;obtain⟨ac,v',q1,q2,q3,q4,q5⟩:=hT;have e:ac p=30:=(q3 p h2.lt (by unfold ba;omega)).trans h3;have h5:ay w' p 49 (aK O0 X0):=(q5.block p h2.lt (by unfold aH;omega)).trans h2;have hF:=fD w' p O X;rw[hw]at hF;have RR:=hB.size;have ug:∀j,j<w0.heap.size->¬ba aa 1 j:=fun j hj hm=>by have:=h0 j hj;unfold ba at hm;omega
 refine⟨ac,v',q1.keep fun j hm hj=>hF.block j hj fun ej=>?_,fun z hz=>?_,fun j hj=>(q3 j (by omega) (ug j hj)).trans (h0 j hj),?_⟩
 ·subst ej;unfold ba at hm;omega
 ·rcases List.mem_cons.1 hz with rfl|hz
  ·refine⟨X,q2.keep fun j hm hj=>hF.block j hj fun ej=>?_,hw▸zO O X h5,e⟩;subst ej;omega
  ·cases hz
 ·have h1:Below w0.heap.size w0 w':=⟨q5.os.trans hB.os,q5.tape.trans hB.tape,q5.output.trans hB.output,Nat.le_trans hB.size q5.size,fun j hj=>(q5.block j (by omega) fun hm=>ug j hj ⟨hm.1,by have:=hm.2;omega⟩).trans (hB.block j hj)⟩;exact⟨hF.os.trans h1.os,hF.tape.trans h1.tape,hF.output.trans h1.output,Nat.le_trans h1.size hF.size,fun j hj=>(hF.block j (Nat.lt_of_lt_of_le hj h1.size) fun ej=>by subst ej;have:=h0 j hj;omega).trans (h1.block j hj)⟩
theorem xY.after{O0:Ot}(h:xY aa w p O0)(hT:cV aa 1 20 w ga O R' X w'):∃X0,ay w' p 49 (aK O0 X0):=by
 obtain⟨X0,_,h2,h3⟩:=h;obtain⟨ac,v',q1,q2,q3,q4,q5⟩:=hT;exact⟨X0,(q5.block p h2.lt (by unfold aH;omega)).trans h2⟩
theorem xY.below{O0:Ot}(h:xY aa w p O0)(hb:Below w.heap.size w w'):xY aa w' p O0:=h.leaves (bC.same aa hb) fun _ _ _ hf=>hf
def sw:Ot:=⟨true,false,⟨1,1⟩,[],[],none,[],[Gw 3 2,Gw 3 3]⟩
def wU:Ot:={wS with hard:=⟨1,1⟩}
def B7:Ot:={eO with commits:=[Km]}
def Fb:Rf:=(gI.step vo).2
theorem Fd:Ok 200 0 B8:=(Fc 10 (by omega)).mono (by omega) (by omega)
theorem Fe:Ok 300 0 ow:=by
 have h:=Fd.stepped (by omega) O3;rw[N4]at h;exact h.mono (by omega) (by omega)
theorem Ff:Ok 400 0 gI:=by
 have h:=Fe.stepped (by omega) Gu;rw[N5]at h;exact h.mono (by omega) (by omega)
theorem Kr:Ok 500 0 Fb:=(Ff.stepped (by omega) vo).mono (by omega) (by omega)
theorem Oa:gI.step vo=(B7,Fb):=by
 have h:=SF;rw[<-Prod.eta (gI.step vo),h];rfl
theorem tj{i q n c:Nat}{A:Option Addr}{m:Mg}{ms:List Mg}(h:gW aa i q w (.slice A n c) (m::ms)):∃g,A=some ⟨g,0,none⟩/\n=ms.length+1/\n<=c/\w.cell? ⟨g,0,none⟩=some (.int .i64 m.kind)/\w.cell? ⟨g,3,none⟩=some (.int .i64 m.term)/\w.cell? ⟨g,7,none⟩=some (.int .i64 m.round)/\g<w.heap.size:=by
 obtain⟨zs,h1,_,h3⟩:=h;obtain⟨g,c0,e,h4,_,h5,h6,_⟩:=h1.at_ (by simp);injection e with e1 e2 e3;cases zs with
 | nil=>cases h3
 | cons z zs=>
  simp only[List.map_cons,List.cons.injEq]at h3;rw[List.flatMap_cons]at h6;have hz:∀j u,(iC z)[j]?=some u->w.cell? ⟨g,j,none⟩=some u:=fun j u hu=>h6 j u (by rw[List.getElem?_append_left ((List.getElem?_eq_some_iff.1 hu).1)];exact hu)
  rw[<-h3.1];exact⟨g,e1,by rw[e2];rfl,by rw[e2,e3];exact h4,hz 0 _ rfl,hz 3 _ rfl,hz 7 _ rfl,h5⟩
theorem Bh{i q n c:Nat}{A:Option Addr}{m:En}{ms:List En}(h:ee aa i q w (.slice A n c) (m::ms)):∃g,A=some ⟨g,0,none⟩/\n=ms.length+1/\n<=c/\w.cell? ⟨g,0,none⟩=some (.int .i64 m.idx)/\g<w.heap.size:=by
 obtain⟨zs,h1,_,h3⟩:=h;obtain⟨g,c0,e,h4,_,h5,h6,_⟩:=h1.at_ (by simp);injection e with e1 e2 e3;cases zs with
 | nil=>cases h3
 | cons z zs=>
  simp only[List.map_cons,List.cons.injEq]at h3;rw[List.flatMap_cons]at h6;have hz:∀j u,(dE z)[j]?=some u->w.cell? ⟨g,j,none⟩=some u:=fun j u hu=>h6 j u (by rw[List.getElem?_append_left ((List.getElem?_eq_some_iff.1 hu).1)];exact hu)
  rw[<-h3.1];exact⟨g,e1,by rw[e2];rfl,by rw[e2,e3];exact h4,hz 0 _ rfl,h5⟩
theorem SG(h:xY aa w p (AM 10)):∃q c,2<=c/\w.cell? ⟨p,8,none⟩=some (.slice (some ⟨q,0,none⟩) 2 c)/\w.cell? ⟨q,0,none⟩=some (.int .i64 1)/\w.cell? ⟨q,3,none⟩=some (.int .i64 1)/\p<w.heap.size/\q<w.heap.size:=by
 obtain⟨X,h1,h2,_⟩:=h;obtain⟨q,e1,_,e3,e4,e5,_,e6⟩:=tj (m:=Gw 1 2) (ms:=[Gw 1 3]) h1.m;exact⟨q,X.mc,e3,(h2.cell 8).trans (by show some (Value.slice X.ma 2 X.mc)=_;rw[e1]),e4,e5,h2.lt,e6⟩
theorem SH(h:xY aa w p sw):∃A c,w.cell? ⟨p,0,none⟩=some (.bool true)/\w.cell? ⟨p,2,none⟩=some (.int .i64 1)/\w.cell? ⟨p,3,none⟩=some (.int .i64 1)/\w.cell? ⟨p,8,none⟩=some (.slice A 2 c):=by
 obtain⟨X,h1,h2,_⟩:=h;exact⟨X.ma,X.mc,h2.cell 0,h2.cell 2,h2.cell 3,h2.cell 8⟩
theorem SI(h:xY aa w p wU):∃A d q c,2<=c/\w.cell? ⟨p,4,none⟩=some (.slice A 1 d)/\w.cell? ⟨p,8,none⟩=some (.slice (some ⟨q,0,none⟩) 2 c)/\w.cell? ⟨q,7,none⟩=some (.int .i64 1):=by
 obtain⟨X,h1,h2,_⟩:=h;obtain⟨q,e1,_,e3,e4,e5,e7,e6⟩:=tj (m:=O4 2) (ms:=[O4 3]) h1.m;exact⟨X.ea,X.ec,q,X.mc,e3,h2.cell 4,(h2.cell 8).trans (by show some (Value.slice X.ma 2 X.mc)=_;rw[e1]),e7⟩
theorem SJ(h:xY aa w p B7):∃q c,1<=c/\w.cell? ⟨p,5,none⟩=some (.slice (some ⟨q,0,none⟩) 1 c)/\w.cell? ⟨q,0,none⟩=some (.int .i64 1):=by
 obtain⟨X,h1,h2,_⟩:=h;obtain⟨q,e1,_,e3,e4,e6⟩:=Bh (m:=Km) (ms:=[]) h1.c;exact⟨q,X.cc,e3,(h2.cell 5).trans (by show some (Value.slice X.ca 1 X.cc)=_;rw[e1]),e4⟩
end
end Go.Proofs.YtjcninheccmpoaaGreat
