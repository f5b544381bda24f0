import Derived.Test.YtjcninheccmpoaaGreatU9
import Derived.Deep.LoopGhost
set_option maxRecDepth 100000
set_option maxHeartbeats 8000000
set_option linter.all false
namespace Go.Proofs.YtjcninheccmpoaaGreat
open Go.RowKit Go.Proofs.Tryz
structure xI(ao aa:Nat->Nat)(w0 w:World)(g b1:Nat)(G:Gp)(v:Gv)(ps:List Nat)(o:Ot)(X:Ox):Prop where
 gr:bB aa w g G v ps
 k1:ay w b1 49 (aK o X)
 l1:aa b1=10
 x:fd aa 10 w o X
 f:bC (eK ao) ao aa w0 w
def xH(l:List Value)(g b1 s:Nat):Prop:=l.length=69/\l[0]?=some (.pointer (some ⟨g,0,none⟩))/\l[1]?=some (.int .i64 s)/\l[6]?=some (.pointer (some ⟨b1,0,none⟩))
theorem oH{w:World}{ops:Array Oper}{rest:List Oper}{o:Oper}{a:Go.Act}{Q:Exit->Go.Act->World->Prop}(iJ:o.guard=none)(s x:Operand)
  (ho:o.op=.call {callee:=.builtin .append,args:=#[s,x],argTypes:=#[47,47]}) {aa:Nat->Nat} {i n:Nat} {v:Value} {zs:List ((Value×Value)×Mg)} (hs:a.eval s=v) (aJ:eP aa i w 39 13 v n (zs.flatMap iC))
  {gb d:Nat} {z:(Value×Value)×Mg} (hx:a.eval x=.slice (some ⟨gb,0,none⟩) 1 d) (hb:ay w gb 39 (iC z).toArray) (h1:z.1.1.oneCell'=true/\z.1.2.oneCell'=true) (hn:n<=1000000)
  (h:∀A' c' w',eP (relab aa w.heap.size i) i w' 39 13 (.slice A' (n+1) c') (n+1) ((zs++[z]).flatMap iC)->Fr (aL aa i) w w'->wpList prog ops Q rest (a.put o.dst (.slice A' (n+1) c')) w'):wpList prog ops Q (o::rest) a w:=by
 obtain⟨i0,fT,gv,fC,fK⟩:=info_parts qL;have jp:∀u∈iC z,u.oneCell'=true:=fun u hu=>by
  simp only[iC,List.mem_cons,List.not_mem_nil,or_false]at hu;rcases hu with rfl|rfl|rfl|rfl|rfl|rfl|rfl|rfl|rfl|rfl|rfl|rfl|rfl <;> first|rfl|exact h1.1|exact h1.2
 refine pB iJ s x 47 ho 39 i0 _ 13 136 underlying47 fT gv fC fK rfl (by omega) v n _ hs aJ ⟨gb,0,none⟩ 1 d (iC z) hx rfl (fun j u hu=>?_) jp (by omega) (by unfold maxLen;omega) (by omega) fun A' c' w' h3 h4=>h A' c' w' ?_ h4
 ·rw[Addr.add_lit,Nat.zero_add,hb.cell j,<-hu];simp
 ·rw[List.flatMap_append,List.flatMap_cons,List.flatMap_nil,List.append_nil];exact h3
theorem RdQ.at_{w:World}{A:Option Addr}{n k:Nat}{zs:List (Int×Int)}(h:cj w 2 A n (zs.flatMap Cr))(hk:k<n) :
  ∃ad x,A=some ad/\zs[k]?=some x/\w.cell? (ad.add (k*2))=some (.int .i64 x.1)/\w.cell? ⟨(ad.add (k*2)).block,(ad.add (k*2)).off+1,none⟩=some (.int .i64 x.2):=by
 have hl:zs.length=n:=by
  have:=h.1;rw[eG (k:=2) (fun _=>rfl)]at this;omega
 obtain⟨ad,rfl,hc⟩:=h.2 (by omega);have hz:zs[k]?=some (zs[k]'(by omega)):=List.getElem?_eq_getElem (by omega);obtain⟨x,BZ⟩:∃z,z=zs[k]'(by omega):=⟨_,rfl⟩;rw[<-BZ]at hz;have key:∀j u,j<2->(Cr x)[j]?=some u->w.cell? (ad.add (k*2+j))=some u:=fun j u hj hu=>hc _ _ ((cB (k:=2) (fun _=>rfl) hj hz).trans hu)
 have c0:=key 0 _ (by omega) rfl;have c1:=key 1 _ (by omega) rfl;rw[<-fE,jy _ _ (by omega)]at c1;exact⟨ad,x,rfl,hz,c0,c1⟩
theorem RdM.at6{w:World}{A:Option Addr}{n k:Nat}{zs:List ((Value×Value)×Mg)}(h:cj w 13 A n (zs.flatMap iC))(hk:k<n) :
  ∃ad z,A=some ad/\zs[k]?=some z/\w.cell? (ad.add (k*13))=some (.int .i64 z.2.kind)/\∀j u,0<j->j<13->(iC z)[j]?=some u->w.cell? ⟨(ad.add (k*13)).block,(ad.add (k*13)).off+j,none⟩=some u:=by
 have hl:zs.length=n:=by
  have:=h.1;rw[eG je]at this;omega
 obtain⟨ad,rfl,hc⟩:=h.2 (by omega);have hz:zs[k]?=some (zs[k]'(by omega)):=List.getElem?_eq_getElem (by omega);obtain⟨z,BZ⟩:∃z,z=zs[k]'(by omega):=⟨_,rfl⟩;rw[<-BZ]at hz;have key:∀j u,j<13->(iC z)[j]?=some u->w.cell? (ad.add (k*13+j))=some u:=fun j u hj hu=>hc _ _ ((cB je hj hz).trans hu)
 refine⟨ad,z,rfl,hz,key 0 _ (by omega) rfl,fun j u h0 hj hu=>?_⟩;have:=key j u hj hu;rw[<-fE,jy _ _ h0]at this;exact this
section
variable {X':Nat->Prop}{ao aa ac:Nat->Nat}{g b1 b2 s:Nat}{G G':Gp}{v v':Gv}{ps ps':List Nat}{o:Ot}{X:Ox}{w0 wx w':World}{K:Go.Act->World->Prop}{Q':Exit->Go.Act->World->Prop}{l:List Value}{H:Ending->World->Prop}
theorem xI.step(h:xI ao aa w0 wx g b1 G v ps o X)(hG:bB ac w' g G' v' ps)(hL:bC (eK aa) aa ac wx w'):xI ao ac w0 w' g b1 G' v' ps o X:=by
 have k10:∀j,j<wx.heap.size->aa j=10->¬eK aa j:=fun j _ e hx=>Ci e hx
 have s1:=hL.stay b1 h.k1.lt (k10 b1 h.k1.lt h.l1);exact⟨hG,s1.2.trans h.k1,s1.1.trans h.l1,hL.outX k10 h.x,h.f.trans hL fun j _ hn e hx=>hn (by unfold eK at hx ⊢;rw[<-e];exact hx)⟩
theorem xI.room(h:xI ao aa w0 wx g b1 G v ps o X)(hb:Below wx.heap.size wx w'):xI ao (relab aa wx.heap.size 12) w0 w' g b1 G v ps o X:=
 have hL:=bC.new 12 aa hb
 h.step (hL.grp (fun _ _ _ hf=>hf) h.gr) (hL.mono fun _ _ hf=>hf.elim)
theorem xI.grow{A3:Option Addr}{c3 m:Nat}{w3:World}{zs:List ((Value×Value)×Mg)}{z:(Value×Value)×Mg}(h:xI ao aa w0 wx g b1 G v ps o X)(hm:G.net.length=m)(hd:∀y∈zs++[z],eA aa 10 wx y)(oV:zs.map (·.2)=G.net)
  (aD:eP (relab aa wx.heap.size 4) 4 w3 39 13 (.slice A3 (m+1) c3) (m+1) ((zs++[z]).flatMap iC)) (hF:Fr (aL aa 4) wx w3) :
  ay w3 g 79 (dQ G v)/\xI ao (relab aa wx.heap.size 4) w0 (w3.setCell ⟨g,3,none⟩ (.slice A3 (m+1) c3)) g b1 {G with net:=G.net++[z.2]} {v with net:=.slice A3 (m+1) c3} ps o X:=by
 have ig:ay w3 g 79 (dQ G v):=(hF.block g h.gr.s.lt fun e=>by have e:aa g=4:=e;have:=h.gr.sl;omega).trans h.gr.s;have hS:=ig.set_ 3 (.slice A3 (m+1) c3);have du:=Fr.set (w:=w3) g 3 (.slice A3 (m+1) c3);have bV:=h.gr.s.lt;have gn:=hF.size;have dn:∀j,j<wx.heap.size->aa j≠4->aa j≠1->(w3.setCell ⟨g,3,none⟩ (.slice A3 (m+1) c3)).heap[j]?=wx.heap[j]?:=fun j hj h5 h1=>
  (du.block j (by omega) fun e=>h1 (by rw[e];exact h.gr.sl)).trans (hF.block j hj h5)
 have hL:bC (fun j=>aa j=4\/aa j=1) aa (relab aa wx.heap.size 4) wx (w3.setCell ⟨g,3,none⟩ (.slice A3 (m+1) c3)):=⟨by have:=du.size;omega,fun j hj hn=>⟨ae hj,dn j hj (fun e=>hn (.inl e)) fun e=>hn (.inr e)⟩,du.os.trans hF.os,du.tape.trans hF.tape,du.output.trans hF.output⟩;have k10:∀j,j<wx.heap.size->aa j=10->¬(aa j=4\/aa j=1):=fun j _ e e2=>by omega
 refine⟨ig,h.step (bB.turn (fun i=>i=4) h.gr hS hL.size (fun j hj _=>ae hj) (fun j hj _ h1 h5=>dn j hj h5 h1) (by decide) (.inr ⟨by decide,rfl,rfl,rfl⟩) (.inr ⟨by decide,rfl,rfl⟩) (.inl ⟨zs++[z],?_,fun y hy=>?_,?_⟩) (.inr ⟨by decide,rfl,rfl⟩) (.inr ⟨by decide,rfl,rfl⟩) (.inr ⟨by decide,rfl,rfl⟩) (.inr ⟨by decide,rfl,rfl⟩)) (hL.mono fun j _ e=>by unfold eK;omega)⟩
 ·show eP _ 4 _ 39 13 (.slice A3 (m+1) c3) (G.net++[z.2]).length _;rw[List.length_append,hm];exact aD.keep fun j e hj=>du.block j hj fun e2=>by
   rw[e2,ae bV,h.gr.sl]at e;omega
 ·exact hL.one (P:=fun aa w=>eA aa 10 w y) (fun _ _ _ h1 h2=>h1.relabel h2) (fun _ _ _ h1 h2=>h1.keep h2) k10 (hd y hy)
 ·rw[List.map_append,oV];rfl
theorem YX(hl:l.length=69/\l[0]?=some (.pointer (some ⟨g,0,none⟩))/\l[1]?=some (.int .i64 s)/\l[2]?=some (.agg (aK o X))/\l[3]?=some (.bool false))(hK:∀l':List Value,xH l' g wx.heap.size s/\l'[3]?=some (.bool false)->K ⟨l'.toArray,[]⟩ (wx.alloc (.cells (aK o X) 49))):sQ 0 f32 K Q' l wx:=by
 unfold aK at *;obtain⟨ab,ax,aM,bE,bb⟩:=hl;obtain⟨fr,rfl,ag⟩:=am ab;rw[eZ,ag _ _ ax,ag _ _ aM,ag _ _ bE,ag _ _ bb];clear ab ag ax aM bE bb;refine lu 0 f32 rfl ?_;go_wp2_with fail;exact⟨⟨rfl,rfl,rfl,rfl⟩,rfl⟩
theorem xH.out{u:Value}(h:xH l g b1 s)(h3:l[3]?=some u):l.length=69/\l[0]?=some (.pointer (some ⟨g,0,none⟩))/\l[1]?=some (.int .i64 s)/\l[3]?=some u/\l[6]?=some (.pointer (some ⟨b1,0,none⟩)):=⟨h.1,h.2.1,h.2.2.1,h3,h.2.2.2⟩
theorem YY(hl:xH l g b1 s)(h3:l[3]?=some (.bool false))(hK:∀l':List Value,xH l' g b1 s->K ⟨l'.toArray,[]⟩ wx):sQ 1 f32 K Q' l wx:=by
 replace hK:=zH hK;obtain⟨ab,ax,aM,bb,bL⟩:=(hl.out h3);obtain⟨fr,rfl,ag⟩:=am ab;have fr0:=ag _ _ ax;have fr1:=ag _ _ aM;have fr3:=ag _ _ bb;have fr6:=ag _ _ bL;rw[eZ];clear ab ag ax aM bb bL;rw[fr0,fr1,fr3,fr6];clear fr0 fr1 fr3 fr6;refine ge (o:=IU 1 (aB f32)) rfl ?_;go_wp2_with fail;refine hK.out _ ?_;exact⟨rfl,rfl,rfl,rfl⟩
theorem KA{P:World->Prop}(hk:ay wx b1 49 (aK o X))(hc:Calls prog 34 #[.pointer (some ⟨g,0,none⟩),.int .i64 s,.agg (aK o X)] wx fun e w'=>e=.returned (.tuple #[])/\P w')(hl:xH l g b1 s)(hK:∀(l':List Value) w',xH l' g b1 s/\P w'->K ⟨l'.toArray,[]⟩ w'):sQ 2 f32 K Q' l wx:=by
 obtain⟨y0,y1,y2,y3,y4,y5,y6,y7,y8,-⟩:=hk.cs [0,1,2,3,4,5,6,7,8];simp only[aK,vi,Zx]at y0 y1 y2 y3 y4 y5 y6 y7 y8;unfold aK at hc;replace hK:=zH hK;clear hk;obtain⟨ab,ax,aM,bL⟩:=hl;obtain⟨fr,rfl,ag⟩:=am ab;rw[eZ,ag _ _ ax,ag _ _ aM,ag _ _ bL];clear ab ag ax aM bL;refine lu 2 f32 rfl ?_;go_wp2_with fail;refine hc.mono ?_;rintro e w2 ⟨rfl,hP⟩;clear hc;replace hP:=zH hP;go_wp2_with fail;refine hK.out _ _ ?_;exact⟨⟨rfl,rfl,rfl,rfl⟩,hP.out⟩
theorem YZ{P:World->Prop}(hk:ay wx b1 49 (aK o X))(hc:Calls prog 82 #[.pointer (some ⟨g,0,none⟩),.int .i64 s] wx fun e w'=>e=.returned (.tuple #[])/\P w')(hl:xH l g b1 s)(hK:∀(l':List Value) w',xH l' g b1 s/\P w'->K ⟨l'.toArray,[]⟩ w'):sQ 3 f32 K Q' l wx:=by
 replace hK:=zH hK;clear hk;obtain⟨ab,ax,aM,bL⟩:=hl;obtain⟨fr,rfl,ag⟩:=am ab;rw[eZ,ag _ _ ax,ag _ _ aM,ag _ _ bL];clear ab ag ax aM bL;refine lu 3 f32 rfl ?_;go_wp2_with fail;refine hc.mono ?_;rintro e w2 ⟨rfl,hP⟩;clear hc;replace hP:=zH hP;go_wp2_with fail;refine hK.out _ _ ?_;exact⟨⟨rfl,rfl,rfl,rfl⟩,hP.out⟩
theorem Y0{P:World->Prop}(hk:ay wx b1 49 (aK o X))(hc:Calls prog 83 #[.pointer (some ⟨g,0,none⟩),.int .i64 s,.agg (aK o X)] wx fun e w'=>e=.returned (.tuple #[])/\P w')(hl:xH l g b1 s)(hK:∀(l':List Value) w',xH l' g b1 s/\P w'->K ⟨l'.toArray,[]⟩ w'):sQ 4 f32 K Q' l wx:=by
 obtain⟨y0,y1,y2,y3,y4,y5,y6,y7,y8,-⟩:=hk.cs [0,1,2,3,4,5,6,7,8];simp only[aK,vi,Zx]at y0 y1 y2 y3 y4 y5 y6 y7 y8;unfold aK at hc;replace hK:=zH hK;clear hk;obtain⟨ab,ax,aM,bL⟩:=hl;obtain⟨fr,rfl,ag⟩:=am ab;rw[eZ,ag _ _ ax,ag _ _ aM,ag _ _ bL];clear ab ag ax aM bL;refine lu 4 f32 rfl ?_;go_wp2_with fail;refine hc.mono ?_;rintro e w2 ⟨rfl,hP⟩;clear hc;replace hP:=zH hP;go_wp2_with fail;refine hK.out _ _ ?_;exact⟨⟨rfl,rfl,rfl,rfl⟩,hP.out⟩
theorem Y1(h:xI ao aa w0 wx g b1 G v ps o X)(hl:xH l g b1 s)(hK:∀(l':List Value) w' v',xH l' g b1 s/\xI ao aa w0 w' g b1 G v' ps o X->K ⟨l'.toArray,[]⟩ w'):sQ 5 f32 K Q' l wx:=by
 obtain⟨n,hn⟩:=zN (o.reads.length);have Av:n<=maxLen:=by
  obtain⟨A,c,_,ho,_⟩:=id h.x.r;have:=aZ ho;omega
 unfold maxLen at Av;replace h:=zH h;replace hK:=zH hK;replace hn:=zH hn;obtain⟨ab,ax,aM,bL⟩:=hl;obtain⟨fr,rfl,ag⟩:=am ab;rw[eZ,ag _ _ ax,ag _ _ aM,ag _ _ bL];clear ab ag ax aM bL;refine lu 5 f32 rfl ?_;go_wp2_with fail
 go_loopw [8] (fun u8 wr=>∃(i:Nat) (v':Gv),i<=n/\u8=.int .i64 i/\xI ao aa w0 wr g b1 G v' ps o X) (fun u8 _=>n-(intOf u8).toNat)
 case atStart=>exact⟨0,v,Nat.zero_le _,rfl,h.out⟩
 case round=>
  obtain⟨i,v1,hi,rfl,eC⟩:=hrel;have y7:=eC.k1.cell 7;simp only[aK,vi,Zx]at y7;rw[hn.out]at y7;by_cases bh:i<n
  ·obtain⟨A,c,e,ho,_⟩:=id eC.x.r;injection e with e1 _ e3;subst e1 e3;rw[hn.out]at ho;have sX:=aZ ho;obtain⟨ad,x,hA,hz,c0,c1⟩:=RdQ.at_ (cj.of_own ho) bh;rw[hA]at y7;have eb:=Cu eC.gr s x.1 x.2;have bi:=zH (show n-(i+1)<n-i by omega);have dM:=zH (fun w' (e1:Bool) (t:Int) (hG:bB aa w' g G {v1 with early:=e1,told:=t} ps) (hF:Fr (fun j=>j=g) wr w')=>eC.step hG ((bC.of_fr (ac:=aa) (X:=fun j=>j=g) hF fun j _ hn=>⟨rfl,hn⟩).mono fun j _ e=>by have e:j=g:=e;unfold eK;rw[e,eC.gr.sl];omega));replace eC:=zH eC;clear ho hA hz;go_wp2_with fail;refine eb.mono ?_;rintro e w2 ⟨rfl,e1,t,hG,hF⟩;have oo:=zH (dM.out w2 e1 t hG hF);clear eb hG hF;go_wp2_with fail;exact⟨⟨i+1,_,bh,by go_num,oo.out⟩,by simp[intOf];exact bi.out⟩
  ·obtain rfl:i=n:=by omega
   replace eC:=zH eC;go_wp2_with fail;refine hK.out _ _ v1 ?_;exact⟨⟨rfl,rfl,rfl,rfl⟩,eC.out⟩
theorem Y2(h:xI ao aa w0 wx g b1 G v ps o X)(iW:G.net.length<=300)(sW:o.msgs.length<=10000000000)(hl:xH l g b1 s)(hH:∀w' ac v',xI ao ac w0 w' g b1 (G.sends o.msgs) v' ps o X->H (.returned (.tuple #[])) w'):tP 6 f32 H l wx:=by
 obtain⟨n,hn⟩:=zN (o.msgs.length);obtain⟨m0,xT⟩:=zN (G.net.length);rw[hn]at sW;rw[xT]at iW;have aO:∀i,i<=n->(i=n\/300<=m0+i)->m0+i<=300\/i=0->({G with net:=G.net++o.msgs.take i}:Gp)=G.sends o.msgs:=fun i h1 h2 h3=>by
  unfold Gp.sends;congr 2;rw[xT];rcases h2 with h2|h2
  ·rw[List.take_of_length_le (by omega)];rcases h3 with h3|h3
   ·rw[List.take_of_length_le (by omega)]
   ·rw[List.eq_nil_of_length_eq_zero (show o.msgs.length=0 by omega)];exact List.take_nil.symm
  ·rw[show 300-m0=i by omega]
 replace h:=zH h;replace hH:=zH hH;replace hn:=zH hn;replace xT:=zH xT;replace aO:=zH aO;obtain⟨ab,ax,aM,bL⟩:=hl;obtain⟨fr,rfl,ag⟩:=am ab;rw[eZ,ag _ _ ax,ag _ _ aM,ag _ _ bL];clear ab ag ax aM bL;refine Kw 6 f32 rfl ?_;go_wp2_with fail
 go_loopw [9] (fun u9 wr=>∃(i:Nat) (ac:Nat->Nat) (v':Gv),i<=n/\(m0+i<=300\/i=0)/\u9=.int .i64 i/\xI ao ac w0 wr g b1 {G with net:=G.net++o.msgs.take i} v' ps o X) (fun u9 _=>n-(intOf u9).toNat)
 case atStart=>exact⟨0,aa,v,Nat.zero_le _,.inr rfl,rfl,by rw[List.take_zero,List.append_nil];exact h.out⟩
 case round=>
  obtain⟨i,ar,v1,hi,xS,rfl,eC⟩:=hrel;obtain⟨m,hm⟩:=zN (m0+i);have EJ:(G.net++o.msgs.take i).length=m:=by rw[List.length_append,List.length_take,xT.out,hn.out];omega
  have y8:=eC.k1.cell 8;simp only[aK,vi,Zx]at y8;rw[hn.out]at y8;obtain⟨z9N,AB,EH,EF⟩:=id eC.gr.m;obtain⟨AN,cN,OZ,TC,WG⟩:=AB.form;have OZ:v1.net=.slice AN m cN:=OZ.trans (by show Value.slice AN (G.net++o.msgs.take i).length cN=_;rw[EJ]);have TC:m<=cN:=by have e:(G.net++o.msgs.take i).length<=cN:=TC;omega
  have z3:=eC.gr.s.cell 3;simp only[dQ,vi,Zx]at z3;rw[OZ]at z3;by_cases bh:i<n
  ·by_cases Lx:(m:Int)<300
   ·have d2:decide ((m:Int)<300)=true:=decide_eq_true Lx;obtain⟨zM,⟨A,c,e,ho,Xg⟩,IG,IE⟩:=id eC.x.m;injection e with e1 _ e3;subst e1 e3;rw[hn.out]at ho;have sX:=aZ ho;obtain⟨ad,z,hA,hz,c0,ck⟩:=RdM.at6 (cj.of_own ho) bh;rw[hA]at y8;have oV:=IG z (List.mem_of_getElem? hz);obtain⟨Ae,ne,ce,_,nR,_⟩:=id oV.1.1;obtain⟨Ad,cd,nQ,_⟩:=id oV.2.1;have c1:wr.cell? ⟨(ad.add (i*13)).block,(ad.add (i*13)).off+1,none⟩=some (.int .i64 z.2.frm):=ck 1 _ (by omega) (by omega) rfl;have c2:wr.cell? ⟨(ad.add (i*13)).block,(ad.add (i*13)).off+2,none⟩=some (.int .i64 z.2.tgt):=ck 2 _ (by omega) (by omega) rfl;have c3:wr.cell? ⟨(ad.add (i*13)).block,(ad.add (i*13)).off+3,none⟩=some (.int .i64 z.2.term):=ck 3 _ (by omega) (by omega) rfl;have c4:wr.cell? ⟨(ad.add (i*13)).block,(ad.add (i*13)).off+4,none⟩=some (.int .i64 z.2.idx):=ck 4 _ (by omega) (by omega) rfl;have c5:wr.cell? ⟨(ad.add (i*13)).block,(ad.add (i*13)).off+5,none⟩=some (.int .i64 z.2.logTerm):=ck 5 _ (by omega) (by omega) rfl;have c6:wr.cell? ⟨(ad.add (i*13)).block,(ad.add (i*13)).off+6,none⟩=some (.int .i64 z.2.commit):=ck 6 _ (by omega) (by omega) rfl;have c7:wr.cell? ⟨(ad.add (i*13)).block,(ad.add (i*13)).off+7,none⟩=some (.int .i64 z.2.round):=ck 7 _ (by omega) (by omega) rfl;have c8:wr.cell? ⟨(ad.add (i*13)).block,(ad.add (i*13)).off+8,none⟩=some (.bool z.2.reject):=ck 8 _ (by omega) (by omega) rfl;have c9:wr.cell? ⟨(ad.add (i*13)).block,(ad.add (i*13)).off+9,none⟩=some (.int .i64 z.2.offset):=ck 9 _ (by omega) (by omega) rfl;have c10:wr.cell? ⟨(ad.add (i*13)).block,(ad.add (i*13)).off+10,none⟩=some (.int .i64 z.2.total):=ck 10 _ (by omega) (by omega) rfl;have c11:wr.cell? ⟨(ad.add (i*13)).block,(ad.add (i*13)).off+11,none⟩=some (z.1.1):=ck 11 _ (by omega) (by omega) rfl;have c12:wr.cell? ⟨(ad.add (i*13)).block,(ad.add (i*13)).off+12,none⟩=some (z.1.2):=ck 12 _ (by omega) (by omega) rfl;obtain⟨nd,mH⟩:=zN (z.2.data.length);rw[nR]at c11;rw[nQ,mH]at c12;have Us:o.msgs[i]?=some z.2:=by rw[<-IE,List.getElem?_map,hz];rfl
    have aU:Below wr.heap.size wr (wr.drew.alloc (.cells #[.int .i64 z.2.kind,.int .i64 z.2.frm,.int .i64 z.2.tgt,.int .i64 z.2.term,.int .i64 z.2.idx,.int .i64 z.2.logTerm,.int .i64 z.2.commit,.int .i64 z.2.round,.bool z.2.reject,.int .i64 z.2.offset,.int .i64 z.2.total,.slice Ae ne ce,.slice Ad nd cd] 39)):=((Below.refl _ wr).drew).alloc (show wr.heap.size<=wr.drew.heap.size from Nat.le_refl _) _;have oo:=eC.room aU;obtain⟨zR,jc,IF,ID⟩:=id oo.gr.m;have jc:eP _ 4 _ 39 13 v1.net (G.net++o.msgs.take i).length (zR.flatMap iC):=jc;rw[EJ,OZ]at jc;have Me:=ay.new wr.drew 39 #[.int .i64 z.2.kind,.int .i64 z.2.frm,.int .i64 z.2.tgt,.int .i64 z.2.term,.int .i64 z.2.idx,.int .i64 z.2.logTerm,.int .i64 z.2.commit,.int .i64 z.2.round,.bool z.2.reject,.int .i64 z.2.offset,.int .i64 z.2.total,.slice Ae ne ce,.slice Ad nd cd];have eu:ay (wr.drew.alloc (.cells #[.int .i64 z.2.kind,.int .i64 z.2.frm,.int .i64 z.2.tgt,.int .i64 z.2.term,.int .i64 z.2.idx,.int .i64 z.2.logTerm,.int .i64 z.2.commit,.int .i64 z.2.round,.bool z.2.reject,.int .i64 z.2.offset,.int .i64 z.2.total,.slice Ae ne ce,.slice Ad nd cd] 39)) wr.drew.heap.size 39 (iC z).toArray:=by
     have e:(iC z).toArray=#[.int .i64 z.2.kind,.int .i64 z.2.frm,.int .i64 z.2.tgt,.int .i64 z.2.term,.int .i64 z.2.idx,.int .i64 z.2.logTerm,.int .i64 z.2.commit,.int .i64 z.2.round,.bool z.2.reject,.int .i64 z.2.offset,.int .i64 z.2.total,.slice Ae ne ce,.slice Ad nd cd]:=by
      unfold iC;rw[nR,nQ,mH];rfl
     rw[e];exact Me
    have jp:z.1.1.oneCell'=true/\z.1.2.oneCell'=true:=⟨by rw[nR];rfl,by rw[nQ];rfl⟩;have N1:eA (relab ar wr.heap.size 12) 10 (wr.drew.alloc (.cells #[.int .i64 z.2.kind,.int .i64 z.2.frm,.int .i64 z.2.tgt,.int .i64 z.2.term,.int .i64 z.2.idx,.int .i64 z.2.logTerm,.int .i64 z.2.commit,.int .i64 z.2.round,.bool z.2.reject,.int .i64 z.2.offset,.int .i64 z.2.total,.slice Ae ne ce,.slice Ad nd cd] 39)) z:=(bC.new 12 ar aU).one (P:=fun aa w=>eA aa 10 w z) (fun _ _ _ h1 h2=>h1.relabel h2) (fun _ _ _ h1 h2=>h1.keep h2) (fun _ _ _ hf=>hf) oV;have Wx:b1≠g:=fun e=>by have:=eC.l1;rw[e,eC.gr.sl]at this;omega
    have Qh:ar (ad.add (i*13)).block=10:=by
     rw[dD];exact Xg _ ⟨ad,hA,rfl⟩
    have Qi:(ad.add (i*13)).block<wr.heap.size:=World.block_lt_of_cell? _ _ c0;have bY:∀j∈[g,b1,(ad.add (i*13)).block],j<wr.heap.size:=by simp;exact⟨eC.gr.s.lt,eC.k1.lt,Qi⟩
    have fo:=zH (fun A3 c3 w3 aD hF=>And.intro (show ∀j∈[g,b1,(ad.add (i*13)).block],w3.heap[j]?=wr.heap[j]? from fun j hj=>by
     have h1:relab ar wr.heap.size 12 j≠4/\j<wr.heap.size:=by
      refine⟨?_,bY j hj⟩;rw[ae (bY j hj)];rcases List.mem_cons.1 hj with e|e
      ·rw[e,eC.gr.sl];omega
      ·rcases List.mem_cons.1 e with e|e
       ·rw[e,eC.l1];omega
       ·rw[List.mem_singleton.1 e,Qh];omega
     exact(Fr.block hF j (Nat.lt_of_lt_of_le h1.2 aU.size) h1.1).trans (aU.block j h1.2)) (oo.grow (A3:=A3) (c3:=c3) (m:=m) (w3:=w3) (z:=z) (zs:=zR) EJ (fun y hy=>by
      rcases List.mem_append.1 hy with hy|hy
      ·exact IF y hy
      ·rw[List.mem_singleton.1 hy];exact N1) ID aD hF))
    have eX:=zH (show({G with net:=G.net++o.msgs.take (i+1)}:Gp)={G with net:=(G.net++o.msgs.take i)++[z.2]} by
     rw[List.take_add_one,Us,List.append_assoc];rfl)
    have bi:=zH (show n-(i+1)<n-i by omega);have JH:m0+(i+1)<=300\/i+1=0:=.inl (by omega);obtain⟨j3,j8,i0,i1,i2,i3,i4,i5,i6,i7,i8,i9,i10⟩:=Aa [g,b1,(ad.add (i*13)).block] z3 y8 c0 c1 c2 c3 c4 c5 c6 c7 c8 c9 c10;obtain⟨i11,i12⟩:=rQ [g,b1,(ad.add (i*13)).block] c11 c12;replace eC:=zH eC;replace oo:=zH oo;replace hm:=zH hm;replace xS:=zH xS;have IB:m<=1000000:=by omega
    clear AB EH EF ho IG IE hz oV IF ID N1 Us Me hA ck;go_wp2_with fail;refine qY [g,b1,(ad.add (i*13)).block] wr [([0,1,2,3,4,5,6,7,8,9],10),([],11)] ([12,13],14) ?_;refine au fun K1 cF=>?_
    simp only[af,Zx];repeat go_big_quiet_step(fail)
    apply wpQuiet_nil;go_wp2_with fail;refine⟨aw bY aU,cF _ _ ?_⟩;refine au fun K3 jS=>?_
    simp only[af,Zx];apply wpQuiet_nil;go_wp2_with (at_builtin;refine oH rfl (.tmp 59) (.tmp 65) rfl rfl jc rfl eu jp IB ?_;intro A3 c3 w3 bg dW;obtain⟨fX,ig,pp⟩:=fo.out A3 c3 w3 bg dW;replace pp:=zH pp;replace fX:=zH fX;have u3:=ig.cell 3;have x3:=ig.free 3;simp only[dQ,Zx]at u3;clear fo bg dW jc eu);have ip:=ig.lt;clear ig;refine⟨aT fX.out,jS _ _ ?_⟩;refine aE ?_;simp only[af,Zx];repeat go_big_quiet_step(fail)
    apply wpQuiet_nil;go_wp2_with fail;exact⟨⟨i+1,_,{v1 with net:=.slice A3 (m+1) c3},bh,JH,by go_num,by rw[eX.out];exact pp.out⟩,by simp[intOf];exact bi.out⟩
   ·have d2:decide ((m:Int)<300)=false:=decide_eq_false Lx;have hE:=zH (hH.out wr ar v1 (by rw[<-aO.out i hi (.inr (by omega)) xS];exact eC));replace eC:=zH eC;clear AB EH EF;go_wp2_with fail;exact ai rfl rfl hE.out
  ·obtain rfl:i=n:=by omega
   have hE:=zH (hH.out wr ar v1 (by rw[<-aO.out i hi (.inl rfl) xS];exact eC));replace eC:=zH eC;clear AB EH EF;go_wp2_with fail;exact ai rfl rfl hE.out
theorem qG(G:Gp)(s:Nat):(G.looks s).n=G.n/\(G.looks s).l=G.l/\(G.looks s).disk=G.disk/\(G.looks s).net=G.net/\(G.looks s).log=G.log/\(G.looks s).pos=G.pos/\(G.looks s).rn=G.rn:=by
 unfold Gp.looks;split
 ·split
  ·exact⟨rfl,rfl,rfl,rfl,rfl,rfl,rfl⟩
  ·exact⟨rfl,rfl,rfl,rfl,rfl,rfl,rfl⟩
 ·exact⟨rfl,rfl,rfl,rfl,rfl,rfl,rfl⟩
theorem tC(h:bB aa wx g G v ps)(hS:fS aa wx G.n G.l ps)(ho:fd aa 10 wx o X)(hk:ni G s o) :
  Calls prog 32 #[.pointer (some ⟨g,0,none⟩),.int .i64 s,.agg (aK o X),.bool false] wx fun e w'=>e=.returned (.tuple #[])/\∃ac v',bB ac w' g (G.takes s o) v' ps/\bC (eK aa) aa ac wx w':=by
 refine bJ (args:=[.pointer (some ⟨g,0,none⟩),.int .i64 s,.agg (aK o X),.bool false]) 69 func32 (by kernel_rfl) ntmps32 (by simp) fun la gF cQ=>?_
 have hb:=(Below.refl wx.heap.size wx).alloc zl (.cells (aK o X) 49);have uW:=ay.new wx 49 (aK o X);refine cK (by kernel_rfl) (YX ⟨gF,cQ 0 _ rfl,cQ 1 _ rfl,cQ 2 _ rfl,cQ 3 _ rfl⟩ fun l0 h0=>?_);obtain⟨ir,JN⟩:=h0;obtain⟨w1,bM⟩:=zN (wx.alloc (.cells (aK o X) 49));rw[bM]at hb uW;rw[bM];have hL:=bC.new 10 aa hb;have hT:xI aa (relab aa wx.heap.size 10) wx w1 g wx.heap.size G v ps o X:=⟨hL.grp (fun _ _ _ h=>h) h,uW,aA zl,hL.outX (fun _ _ _ h=>h) ho,hL.mono fun _ _ h=>h.elim⟩;refine cK (by kernel_rfl) (YY ir JN fun l1 dm=>?_);refine cK (by kernel_rfl) (KA hT.k1 (yr hT.gr hT.x hk.hs hk.n7 hk.dl hk.en) dm fun l2 w2 h2=>?_);obtain⟨fB,bK,jo,BG⟩:=h2;have Jb:=hT.step jo BG;obtain⟨p,rv,hp,hr⟩:=hS s hk.hs;have vj:=Jb.f.raft (fun j _ hm hx=>by have:=uC hx;unfold ba sb at hm;omega) hr;refine cK (by kernel_rfl) (YZ Jb.k1 (B6 Jb.gr hk.hs hk.n7 hp vj hk.tr hk.tm.1 hk.tm.2 hk.lz hk.two) fB fun l3 w3 h3=>?_);obtain⟨oe,dX,v3,ip,MB⟩:=h3;have OA:=Jb.step ip MB;obtain⟨q1,q2,q3,q4,q5,q6,q7⟩:=qG (G.saves s o) s;refine cK (by kernel_rfl) (Y0 OA.k1 (tU OA.gr OA.x (by rw[q1];exact hk.hs) (by rw[q1];exact hk.n7) (by rw[q6,q1];exact hk.pl) (hk.cs.of q5 q6) (by rw[q5];exact hk.lk) (by rw[tA (G:=G) q6];exact hk.ck)) oe fun l4 w4 h4=>?_);obtain⟨px,su,v4,MK,De⟩:=h4;have Wq:=OA.step MK De;refine cK (by kernel_rfl) (Y1 Wq px fun l5 w5 v5 h5=>?_);obtain⟨na,Wr⟩:=h5;refine Y2 Wr (by show((G.saves s o).looks s).net.length<=300;rw[q4];exact hk.nl) hk.ml na fun w6 ut v6 LV=>⟨rfl,ut,v6,?_,LV.f⟩
 exact LV.gr
end
structure rS(ao aa:Nat->Nat)(w0 w:World)(g b2:Nat)(G:Gp)(v:Gv)(ps:List Nat)(d:gk)(vd ve:Value):Prop where
 gr:bB aa w g G v ps
 k2:ay w b2 29 #[.int .i64 d.hard.term,.int .i64 d.hard.vote,.int .i64 d.snap.idx,.int .i64 d.snap.term,vd,ve]
 l2:aa b2=9
 sv:fS aa w G.n G.l ps
 f:bC (fun j=>ao j≠10) ao aa w0 w
structure Ls(ao aa:Nat->Nat)(w0 w:World)(g b2 s:Nat)(G:Gp)(v:Gv)(ps:List Nat)(d:gk)(vd ve:Value)(R':Rf)(g':Nat):Prop where
 gr:bB aa w g G v ps
 k2:ay w b2 29 #[.int .i64 d.hard.term,.int .i64 d.hard.vote,.int .i64 d.snap.idx,.int .i64 d.snap.term,vd,ve]
 l2:aa b2=9
 ot:∀j,j<G.n->j≠s->∃p rv,ps[j]?=some p/\av aa (sb j) w p (G.srv j) rv
 nw:∃rv,av aa (sb s) w g' R' rv
 pl:ps.length=G.n
 f:bC (fun j=>ao j≠10) ao aa w0 w
def uQ(l:List Value)(g b2 s:Nat):Prop:=l.length=77/\l[0]?=some (.pointer (some ⟨g,0,none⟩))/\l[1]?=some (.int .i64 s)/\l[4]?=some (.pointer (some ⟨b2,0,none⟩))
theorem DA:(prog.info? 149).map (fun i=>(i.zero,i.size,i.bytes))=some (some (.agg #[.int .i64 0,.int .i64 0,.int .i64 0]),3,24):=by kernel_rfl
section
variable {X':Nat->Prop}{ao aa ac:Nat->Nat}{g g' b2 s:Nat}{G G':Gp}{v v':Gv}{ps ps':List Nat}{d:gk}{vd ve:Value}{R':Rf}{w0 wx w':World}{K:Go.Act->World->Prop}{Q':Exit->Go.Act->World->Prop}{l:List Value}{H:Ending->World->Prop}
theorem rS.step(h:rS ao aa w0 wx g b2 G v ps d vd ve)(hG:bB ac w' g G' v' ps)(hL:bC X' aa ac wx w')(hX:∀j,j<wx.heap.size->X' j->aa j<9\/(10<aa j/\aa j<20))(en:G'.n=G.n)(el:G'.l=G.l):rS ao ac w0 w' g b2 G' v' ps d vd ve:=by
 have s2:=hL.stay b2 h.k2.lt fun hx=>by have:=hX b2 h.k2.lt hx;have:=h.l2;omega
 refine⟨hG,s2.2.trans h.k2,s2.1.trans h.l2,by rw[en,el];exact hL.srvs (fun j hj hx=>by have:=hX j hj hx;omega) h.sv,h.f.trans hL fun j hj hn e hx=>hn fun e2=>?_⟩;have:=hX j (Nat.lt_of_lt_of_le hj h.f.size) hx;rw[e,e2]at this;omega
theorem bB.setL{q c n:Nat}(h:bB aa wx g G v ps)(hq:v.l=.slice (some ⟨q,0,none⟩) n c)(hn:G.n=n)(hs:s<n)(el:G'.n=G.n/\G'.disk=G.disk/\G'.net=G.net/\G'.log=G.log/\G'.pos=G.pos/\G'.leads=G.leads/\G'.two=G.two/\G'.rn=G.rn) :
  aa q=2/\q<wx.heap.size/\bB aa (wx.setCell ⟨q,s,none⟩ (kq g')) g G' v (ps.set s g'):=by
 obtain⟨q',c',xU,_,_,fR,kG,_,_⟩:=h.l.form (by omega);have aD:=h.l;rw[hq]at xU aD;injection xU with e1 _ e3;injection e1 with e1;injection e1 with e1;subst e1 e3;have hF:=Fr.set (w:=wx) q s (kq g');have bV:=h.s.lt;have cH:g≠q:=fun e=>by rw[<-e]at fR;have:=h.sl;omega
 have hS:ay (wx.setCell ⟨q,s,none⟩ (kq g')) g 79 (dQ G' v):=by
  have e:dQ G' v=dQ G v:=by unfold dQ;rw[el.1,el.2.2.2.2.2.2.1]
  rw[e];exact h.s.far (p:=⟨q,s,none⟩) cH _
 rw[hn]at aD;have vj:=aD.setAt s (kq g');refine⟨fR,kG,bB.turn (fun i=>i=2) h hS hF.size (fun _ _ _=>rfl) (fun j hj _ _ h3=>hF.block j hj fun e=>h3 (by rw[e];exact fR)) (by decide) (.inl ?_) (.inr ⟨by decide,rfl,el.2.1⟩) (.inr ⟨by decide,rfl,el.2.2.1⟩) (.inr ⟨by decide,rfl,el.2.2.2.1⟩) (.inr ⟨by decide,rfl,el.2.2.2.2.1⟩) (.inr ⟨by decide,rfl,el.2.2.2.2.2.1⟩) (.inr ⟨by decide,rfl,el.2.2.2.2.2.2.2⟩)⟩;rw[el.1,hn,hq,List.map_set];exact vj
theorem UW(h:bB aa wx g G v ps)(hS:fS aa wx G.n G.l ps)(hs:s<G.n)(gg:G.n<=7)(od:G.disk.length=G.n)(hl:l.length=77/\l[0]?=some (.pointer (some ⟨g,0,none⟩))/\l[1]?=some (.int .i64 s))(hK:∀(l':List Value) w' b2 A4 c4 A5 n5 c5,uQ l' g b2 s/\rS aa (relab aa wx.heap.size 9) wx w' g b2 G v ps (G.dk s) (.slice A4 (G.dk s).snap.data.length c4) (.slice A5 n5 c5)/\cT (relab aa wx.heap.size 9) 10 w' (.slice A4 (G.dk s).snap.data.length c4) (G.dk s).snap.data/\da (relab aa wx.heap.size 9) 10 w' (.slice A5 n5 c5) (G.dk s).entries->K ⟨l'.toArray,[]⟩ w'):sQ 0 f81 K Q' l wx:=by
 obtain⟨zs,aD,dv,bN⟩:=id h.d;obtain⟨q,c,hq,jX,eW,fR,kG,aQ,ef⟩:=aD.form (by omega);have c2:=h.s.cell 2;simp only[dQ,vi,Zx]at c2;rw[hq]at c2;obtain⟨z,hz⟩:∃z,zs[s]?=some z:=⟨_,List.getElem?_eq_getElem (by have:=congrArg List.length bN;rw[List.length_map]at this;omega)⟩;have Gs:z.2=G.dk s:=by
  unfold Gp.dk;rw[<-bN,List.getElem?_map,hz];rfl
 have key:∀j u,j<6->(rM z)[j]?=some u->wx.cell? ⟨q,s*6+j,none⟩=some u:=fun j u hj hu=>aQ _ _ ((cB ja hj hz).trans hu)
 have d0:wx.cell? ⟨q,s*6,none⟩=some (vi z.2.hard.term):=key 0 _ (by omega) rfl;have d1:wx.cell? ⟨q,s*6+1,none⟩=some (vi z.2.hard.vote):=key 1 _ (by omega) rfl;have d2:wx.cell? ⟨q,s*6+2,none⟩=some (vi z.2.snap.idx):=key 2 _ (by omega) rfl;have d3:wx.cell? ⟨q,s*6+3,none⟩=some (vi z.2.snap.term):=key 3 _ (by omega) rfl;have d4:wx.cell? ⟨q,s*6+4,none⟩=some z.1.1:=key 4 _ (by omega) rfl;have d5:wx.cell? ⟨q,s*6+5,none⟩=some z.1.2:=key 5 _ (by omega) rfl;obtain⟨AI,yX⟩:=dv z (List.mem_of_getElem? hz);rw[Gs]at d0 d1 d2 d3 AI yX;obtain⟨A4,c4,e4,_⟩:=id AI;obtain⟨A5,n5,c5,zs5,e5,_⟩:=id yX;rw[e4]at d4 AI;rw[e5]at d5 yX;simp only[vi]at d0 d1 d2 d3;have bV:=h.s.lt;obtain⟨n,hn⟩:=zN (G.disk.length);rw[hn]at c2 jX;have fw:s<n:=by omega
 have ou:s<7:=by omega
 obtain⟨n4,wq⟩:=zN ((G.dk s).snap.data.length);rw[wq]at d4;have hb:=(Below.refl wx.heap.size wx).alloc zl (.cells #[.int .i64 (G.dk s).hard.term,.int .i64 (G.dk s).hard.vote,.int .i64 (G.dk s).snap.idx,.int .i64 (G.dk s).snap.term,(.slice A4 n4 c4),(.slice A5 n5 c5)] 29);have hL:=bC.new 9 aa hb;have aO:=zH (show rS aa (relab aa wx.heap.size 9) wx (wx.alloc (.cells #[.int .i64 (G.dk s).hard.term,.int .i64 (G.dk s).hard.vote,.int .i64 (G.dk s).snap.idx,.int .i64 (G.dk s).snap.term,(.slice A4 n4 c4),(.slice A5 n5 c5)] 29)) g wx.heap.size G v ps (G.dk s) (.slice A4 n4 c4) (.slice A5 n5 c5)from
  ⟨hL.grp (fun _ _ _ h=>h) h,ay.new wx 29 _,aA zl,hL.srvs (fun _ _ hf=>hf.elim) hS,hL.mono fun _ _ hf=>hf.elim⟩)
 have WR:=zH (hL.byt (fun _ _ _ h=>h) AI);have WS:=zH (hL.ens (fun _ _ _ h=>h) yX);replace hK:=zH hK;replace hn:=zH hn;replace wq:=zH wq;replace aQ:=zH aQ;replace ef:=zH ef;replace key:=zH key;clear h hS aD dv AI yX hz Gs e4 e5 bN hq hL hb;obtain⟨ab,ax,aM⟩:=hl;obtain⟨fr,rfl,ag⟩:=am ab;rw[o6,ag _ _ ax,ag _ _ aM];clear ab ag ax aM;refine lu 0 f81 rfl ?_;go_wp2_with fail;refine hK.out _ _ wx.heap.size A4 c4 A5 n5 c5 ?_;rw[wq.out];refine⟨⟨rfl,rfl,rfl,rfl⟩,aO.out,?_,WS.out⟩;have:=WR.out;rw[wq.out]at this;exact this
theorem UX{A4 A5:Option Addr}{c4 n5 c5:Nat}(h:rS ao aa w0 wx g b2 G v ps d (.slice A4 d.snap.data.length c4) (.slice A5 n5 c5))(hs:s<G.n)(gg:G.n<=7)(jw:ps.length=G.n)(hd:cT aa 10 wx (.slice A4 d.snap.data.length c4) d.snap.data)(he:da aa 10 wx (.slice A5 n5 c5) d.entries)(uX:n5<=1200000000000)(Gj:(d.entries.filter fun x=>decide (d.snap.idx<x.idx)).length<=10000000000)(dR:Rf.new ((s+1:Nat):Int) G.n d=some R')(hl:uQ l g b2 s)(hK:∀(l':List Value) w' ac g',uQ l' g b2 s/\l'[5]?=some (.pointer (some ⟨g',0,none⟩))/\Ls ao ac w0 w' g b2 s G v ps d (.slice A4 d.snap.data.length c4) (.slice A5 n5 c5) R' g'->K ⟨l'.toArray,[]⟩ w'):sP 1 f81 K H l wx:=by
 have J8:sb s=20+20*s:=rfl;have LO:bC (ba aa (sb s)) aa (fun j=>if sb s<aa j/\aa j<=sb s+13 then 0 else aa j) wx wx.drew:=⟨Nat.le_refl _,fun j _ hn=>⟨if_neg hn,rfl⟩,rfl,rfl,rfl⟩;have qu:∀j,ba aa (sb s) j->20<aa j:=fun j hm=>by unfold ba at hm;omega
 have Kl:∀j,j<wx.heap.size->aa j=10->¬ba aa (sb s) j:=fun j _ e hm=>by have:=qu j hm;omega
 have gf:=uy (aa:=(fun j=>if sb s<aa j/\aa j<=sb s+13 then 0 else aa j)) (w:=wx.drew) (sb s) 10 ((s+1:Nat):Int) (G.n:Int) d A4 A5 d.snap.data.length c4 n5 c5 (LO.ens Kl he) (LO.byt Kl hd) (.inl (by omega)) uX Gj rfl (fun j _ hm=>by
  unfold ba at hm;simp only at hm;split at hm <;> omega)
 rw[dR]at gf;have aO:=zH (fun w' (e:Ending) (hP:lJ (fun j=>if sb s<aa j/\aa j<=sb s+13 then 0 else aa j) (sb s) wx.drew (some R') e w')=>show ∃ac g',e=.returned (.pointer (some ⟨g',0,none⟩))/\Below wx.heap.size wx w'/\Ls ao ac w0 w' g b2 s G v ps d (.slice A4 d.snap.data.length c4) (.slice A5 n5 c5) R' g' from by
  obtain⟨hb,⟨h1,_⟩|⟨R2,g',ac,v',h1,h2,h3,h4,h5⟩⟩:=hP
  ·cases h1
  ·injection h1 with h1;subst h1;have bU:Below wx.heap.size wx w':=aj ((Below.refl _ wx).drew) hb zl;have hL:bC (ba aa (sb s)) aa ac wx w':=⟨bU.size,fun j hj hn=>⟨(h4 j hj).trans (if_neg hn),bU.block j hj⟩,bU.os,bU.tape,bU.output⟩;refine⟨ac,g',h2,bU,hL.grp (fun j _ hg hm=>by have:=qu j hm;unfold cW at hg;omega) h.gr,h.k2.kept bU,((h4 b2 h.k2.lt).trans (if_neg (by have:=h.l2;omega))).trans h.l2,fun j hj hjs=>?_,⟨v',h3⟩,jw,h.f.trans hL fun j _ hn e hm=>hn fun e2=>by have:=qu j hm;omega⟩;obtain⟨p,rv,q1,q2⟩:=h.sv j hj;exact⟨p,rv,q1,hL.raft (fun i _ hm pJ=>by unfold ba sb at hm pJ;omega) q2⟩)
 have c0:=h.gr.s.cell 0;simp only[dQ,vi,Zx]at c0;obtain⟨z0,z1,z2,z3,z4,z5,-⟩:=h.k2.cs [0,1,2,3,4,5];simp only[Zx]at z0 z1 z2 z3 z4 z5;have bV:=h.gr.s.lt;have uV:=h.k2.lt;have bY:∀j∈[g,b2],j<wx.heap.size:=by simp;exact⟨bV,uV⟩
 obtain⟨k0,j0,j1,j2,j3,j4,j5⟩:=O8 [g,b2] c0 z0 z1 z2 z3 z4 z5;have ou:s<7:=by omega
 rw[show(((s+1:Nat):Int))=(s:Int)+1 by omega]at gf;replace hK:=zH hK;replace dR:=zH dR;clear h hd he LO Kl qu J8;obtain⟨ab,ax,aM,bc⟩:=hl;obtain⟨fr,rfl,ag⟩:=am ab;rw[o6,ag _ _ ax,ag _ _ aM,ag _ _ bc];clear ab ag ax aM bc;refine lu 1 f81 rfl ?_;go_wp2_with fail;refine gj [g,b2] wx [([0,1,2,3,4,5,6],7)] [8] ?_;refine aC fun K1 cF=>?_
 simp only[af,Zx];repeat go_big_quiet_step(fail)
 apply wpQuiet_nil;go_wp2_with fail;refine gf.mono ?_;intro e w5 hP;obtain⟨dz,g5,rfl,dp,hN⟩:=aO.out w5 e hP;replace hN:=zH hN;clear gf hP aO;go_wp2_with fail;refine⟨aw bY dp,cF _ _ ?_⟩;refine an ?_;simp only[af,Zx];repeat go_big_quiet_step(fail)
 apply wpQuiet_nil;go_wp2_with fail;refine hK.out _ _ dz g5 ?_;exact⟨⟨rfl,rfl,rfl,rfl⟩,rfl,hN.out⟩
theorem uQ.out{u:Value}(h:uQ l g b2 s)(h5:l[5]?=some u):l.length=77/\l[0]?=some (.pointer (some ⟨g,0,none⟩))/\l[1]?=some (.int .i64 s)/\l[4]?=some (.pointer (some ⟨b2,0,none⟩))/\l[5]?=some u:=⟨h.1,h.2.1,h.2.2.1,h.2.2.2,h5⟩
theorem Ls.seat{q c n:Nat}(h:Ls ao aa w0 wx g b2 s G v ps d vd ve R' g')(hq:v.l=.slice (some ⟨q,0,none⟩) n c)(hn:G.n=n)(hs:s<n)(mG:G.l.length=n):rS ao aa w0 (wx.setCell ⟨q,s,none⟩ (kq g')) g b2 {G with l:=G.l.set s R'} v (ps.set s g') d vd ve:=by
 obtain⟨fR,kG,hG⟩:=h.gr.setL (G':={G with l:=G.l.set s R'}) (g':=g') hq hn hs ⟨rfl,rfl,rfl,rfl,rfl,rfl,rfl,rfl⟩;have hF:=Fr.set (w:=wx) q s (kq g');have hL:bC (fun j=>j=q) aa aa wx (wx.setCell ⟨q,s,none⟩ (kq g')):=bC.of_fr hF fun j _ hn=>⟨rfl,hn⟩
 have Ql:b2≠q:=fun e=>by have:=h.l2;rw[e]at this;omega
 have jw:=h.pl;refine⟨hG,(hF.block b2 h.k2.lt Ql).trans h.k2,h.l2,fun j hj=>?_,h.f.trans hL fun j _ hn e e2=>hn fun e3=>by have e2:j=q:=e2;rw[<-e,e2]at e3;omega⟩;have hX:∀i,ba aa (sb j) i->¬i=q:=fun i hm e=>by rw[e]at hm;unfold ba sb at hm;omega
 show ∃p rv,(ps.set s g')[j]?=some p/\av aa (sb j) _ p ((G.l.set s R')[j]?.getD AV) rv;have hj:j<G.n:=hj;by_cases e:s=j
 ·subst e;obtain⟨rv,hr⟩:=h.nw;refine⟨g',rv,?_,?_⟩
  ·rw[List.getElem?_set,if_pos rfl,if_pos (by omega)]
  ·rw[List.getElem?_set,if_pos rfl,if_pos (by omega)];exact hL.raft (fun i _ hm=>hX i hm) hr
 ·obtain⟨p,rv,h1,h2⟩:=h.ot j hj (fun e2=>e e2.symm);refine⟨p,rv,?_,?_⟩
  ·rw[List.getElem?_set,if_neg e];exact h1
  ·rw[List.getElem?_set,if_neg e];exact hL.raft (fun i _ hm=>hX i hm) h2
theorem UY(hl:uQ l g b2 s)(h5:l[5]?=some (.pointer (some ⟨g',0,none⟩)))(hK:∀l':List Value,uQ l' g b2 s/\l'[5]?=some (.pointer (some ⟨g',0,none⟩))->K ⟨l'.toArray,[]⟩ wx):sQ 2 f81 K Q' l wx:=by
 replace hK:=zH hK;obtain⟨ab,ax,aM,bc,cP⟩:=(hl.out h5);obtain⟨fr,rfl,ag⟩:=am ab;have fr0:=ag _ _ ax;have fr1:=ag _ _ aM;have fr4:=ag _ _ bc;have fr5:=ag _ _ cP;rw[o6];clear ab ag ax aM bc cP;rw[fr0,fr1,fr4,fr5];clear fr0 fr1 fr4 fr5;refine ge (o:=IU 2 (aB f81)) rfl ?_;go_wp2_with fail;refine hK.out _ ?_;exact⟨⟨rfl,rfl,rfl,rfl⟩,rfl⟩
theorem UZ(h:Ls ao aa w0 wx g b2 s G v ps d vd ve R' g')(hs:s<G.n)(gg:G.n<=7)(mG:G.l.length=G.n)(hl:uQ l g b2 s)(h5:l[5]?=some (.pointer (some ⟨g',0,none⟩)))(hK:∀(l':List Value) w',uQ l' g b2 s/\rS ao aa w0 w' g b2 {G with l:=G.l.set s R'} v (ps.set s g') d vd ve->K ⟨l'.toArray,[]⟩ w'):sQ 3 f81 K Q' l wx:=by
 obtain⟨q,c,hq,jX,eW,fR,kG,aQ,ef⟩:=h.gr.l.form (by omega);have c1:=h.gr.s.cell 1;simp only[dQ,vi,Zx]at c1;rw[hq]at c1;obtain⟨n,hn⟩:=zN (G.n);have hE:=zH (h.seat hq rfl hs mG);unfold kq at hE;have fq:=ef s;have jw:=h.pl;obtain⟨y,hy⟩:∃y,ps[s]?=some y:=⟨_,List.getElem?_eq_getElem (by omega)⟩;have cq:=aQ s (kq y) (by rw[List.getElem?_map,hy];rfl);unfold kq at cq;rw[hn]at c1 jX hs;have ou:s<7:=by omega
 have bV:=h.gr.s.lt;replace hK:=zH hK;replace hn:=zH hn;replace aQ:=zH aQ;replace ef:=zH ef;clear h hq jw mG hy;obtain⟨ab,ax,aM,bc,cP⟩:=(hl.out h5);obtain⟨fr,rfl,ag⟩:=am ab;have fr0:=ag _ _ ax;have fr1:=ag _ _ aM;have fr4:=ag _ _ bc;have fr5:=ag _ _ cP;rw[o6];clear ab ag ax aM bc cP;rw[fr0,fr1,fr4,fr5];clear fr0 fr1 fr4 fr5;refine ge (o:=IU 3 (aB f81)) rfl ?_;go_wp2_with fail;refine hK.out _ _ ?_;exact⟨⟨rfl,rfl,rfl,rfl⟩,hE.out⟩
theorem U0(h:rS ao aa w0 wx g b2 G v ps d vd ve)(hs:s<G.n)(gg:G.n<=7)(jw:G.pos.length=G.n)(hl:uQ l g b2 s)(hK:∀(l':List Value) w',uQ l' g b2 s/\rS ao aa w0 w' g b2 {G with pos:=G.pos.set s d.snap.idx} v ps d vd ve->K ⟨l'.toArray,[]⟩ w'):sP 4 f81 K H l wx:=by
 obtain⟨q,c,hq,jX,eW,fR,kG,aQ,ef⟩:=h.gr.p.form (by omega);have c6:=h.gr.s.cell 6;simp only[dQ,vi,Zx]at c6;rw[hq]at c6;have z2:=h.k2.cell 2;simp only[Zx]at z2;obtain⟨n,hn⟩:=zN (G.pos.length);rw[hn]at hq jX c6;have fw:s<n:=by omega
 have ou:s<7:=by omega
 have fq:=ef s;obtain⟨y,hy⟩:∃y,G.pos[s]?=some y:=⟨_,List.getElem?_eq_getElem (by omega)⟩;have cq:=aQ s (vi y) (by rw[List.getElem?_map,hy];rfl);simp only[vi]at cq;obtain⟨RM,_,hG⟩:=h.gr.setPos hq hn fw d.snap.idx;have hE:=zH (fun w' (hb:Below wx.heap.size (wx.setCell ⟨q,s,none⟩ (.int .i64 d.snap.idx)) w')=>h.step (G':={G with pos:=G.pos.set s d.snap.idx}) (v':=v) (hG.keep fun j _ hj=>hb.block j (by
  have e:(wx.setCell ⟨q,s,none⟩ (.int .i64 d.snap.idx)).heap.size=wx.heap.size:=by simp[World.setCell]
  omega)) (bC.cell (aa:=aa) hb) (fun j _ e=>.inl (by have e:j=q:=e;rw[e];omega)) rfl rfl)
 have bV:=h.gr.s.lt;have uV:=h.k2.lt;obtain⟨k6,k2⟩:=rQ [g,b2,q] c6 z2;replace hK:=zH hK;replace hn:=zH hn;replace aQ:=zH aQ;replace ef:=zH ef;clear h hq jw hG hy;obtain⟨ab,ax,aM,bc⟩:=hl;obtain⟨fr,rfl,ag⟩:=am ab;rw[o6,ag _ _ ax,ag _ _ aM,ag _ _ bc];clear ab ag ax aM bc;refine lu 4 f81 rfl ?_;go_wp2_with fail;go_region;refine hK.out _ _ ?_;exact⟨⟨rfl,rfl,rfl,rfl⟩,hE.out _ (zb.drew)⟩
theorem jJ{w:World}{ops:Array Oper}{rest:List Oper}{o:Oper}{a:Go.Act}{Q:Exit->Go.Act->World->Prop}(iJ:o.guard=none)(s x:Operand)
  (ho:o.op=.call {callee:=.builtin .append,args:=#[s,x],argTypes:=#[77,77]}) {aa:Nat->Nat} {i n:Nat} {v:Value} (hs:a.eval s=v) (aJ:eq aa i w v n)
  {gb d:Nat} {a1 a2 a3:Int} (hx:a.eval x=.slice (some ⟨gb,0,none⟩) 1 d) (hb:ay w gb 149 #[.int .i64 a1,.int .i64 a2,.int .i64 a3]) (hn:n<=1000000000000)
  (h:∀A' c' w',eq (relab aa w.heap.size i) i w' (.slice A' (n+1) c') (n+1)->Fr (aL aa i) w w'->wpList prog ops Q rest (a.put o.dst (.slice A' (n+1) c')) w'):wpList prog ops Q (o::rest) a w:=by
 obtain⟨i0,fT,gv,fC,fK⟩:=info_parts DA;obtain⟨rs,hl,aD⟩:=aJ;have hr:cj w 3 (some ⟨gb,0,none⟩) 1 [vi a1,vi a2,vi a3]:=⟨rfl,fun _=>⟨_,rfl,fun j y hy=>by
  rw[Addr.add_lit,Nat.zero_add,hb.cell j,<-hy];simp[vi]⟩⟩
 refine cO iJ s x 77 ho 149 i0 _ 3 24 underlying77 fT gv fC fK rfl (by omega) v n _ hs aD _ 1 d _ hx hr (fun y hy=>by
  simp only[List.mem_cons,List.not_mem_nil,or_false]at hy;rcases hy with rfl|rfl|rfl <;> rfl) (by unfold maxLen;omega) (by omega) fun A' c' w' h3 h4=>h A' c' w' ⟨rs++[(a1,a2,a3)],by rw[List.length_append,hl];rfl,?_⟩ h4
 rw[List.flatMap_append];exact h3
theorem rS.room{u:Value}{k:Nat}(h:rS ao aa w0 wx g b2 G v ps d vd ve)(hA:eq aa 11 wx u k)(hb:Below wx.heap.size wx w'):rS ao (relab aa wx.heap.size 12) w0 w' g b2 G v ps d vd ve/\eq (relab aa wx.heap.size 12) 11 w' u k:=by
 have hL:=bC.new 12 aa hb;exact⟨h.step (hL.grp (fun _ _ _ hf=>hf) h.gr) hL (fun _ _ hf=>hf.elim) rfl rfl,hL.one (P:=fun aa w=>eq aa 11 w u k) (fun _ _ _ h1 h2=>h1.relabel h2) (fun _ _ _ h1 h2=>h1.keep h2) (fun _ _ _ hf=>hf) hA⟩
theorem rS.rests{A:Option Addr}{k c:Nat}(h:rS ao aa w0 wx g b2 G v ps d vd ve)(hA:eq aa 11 wx (.slice A k c) k)(hb:Below wx.heap.size (wx.setCell ⟨g,10,none⟩ (.slice A k c)) w'):rS ao (ew aa 11 8) w0 w' g b2 {G with rn:=k} {v with reads:=.slice A k c} ps d vd ve:=by
 have hS:=h.gr.s.set_ 10 (.slice A k c);have hF:=Fr.set (w:=wx) g 10 (.slice A k c);have bV:=h.gr.s.lt;have hm:∀j,aa j≠11->ew aa 11 8 j=aa j:=fun j hn=>if_neg hn
 have gn:(wx.setCell ⟨g,10,none⟩ (.slice A k c)).heap.size=wx.heap.size:=by simp[World.setCell]
 have hG:bB (ew aa 11 8) (wx.setCell ⟨g,10,none⟩ (.slice A k c)) g {G with rn:=k} {v with reads:=.slice A k c} ps:=bB.turn (fun i=>i=8) h.gr hS hF.size (fun j _ hg=>hm j (by unfold cW at hg;omega)) (fun j hj _ h1 _=>hF.block j hj fun e=>h1 (by rw[e];exact h.gr.sl)) (by decide) (.inr ⟨by decide,rfl,rfl,rfl⟩) (.inr ⟨by decide,rfl,rfl⟩) (.inr ⟨by decide,rfl,rfl⟩) (.inr ⟨by decide,rfl,rfl⟩) (.inr ⟨by decide,rfl,rfl⟩) (.inr ⟨by decide,rfl,rfl⟩) (.inl (by
  obtain⟨rs,h1,h2⟩:=hA;refine⟨rs,h1,(h2.relabel (ac:=ew aa 11 8) (k:=8) fun j _ e=>if_pos e).keep fun j e hj=>hF.block j hj fun e2=>?_⟩;rw[e2,hm g (by rw[h.gr.sl];omega),h.gr.sl]at e;omega))
 have hL:bC (fun j=>aa j=11\/j=g) aa (ew aa 11 8) wx w':=⟨by have:=hb.size;omega,fun j hj hn=>⟨hm j fun e=>hn (.inl e),(hb.block j hj).trans (hF.block j hj fun e=>hn (.inr e))⟩,hb.os,hb.tape,hb.output⟩;exact h.step (hG.keep fun j _ hj=>hb.block j (by omega)) hL (fun j _ e=>by
  rcases e with e|e
  ·omega
  ·rw[e,h.gr.sl];omega) rfl rfl
theorem uQ.out6{u:Value}(h:uQ l g b2 s)(h5:l[6]?=some u):l.length=77/\l[0]?=some (.pointer (some ⟨g,0,none⟩))/\l[1]?=some (.int .i64 s)/\l[4]?=some (.pointer (some ⟨b2,0,none⟩))/\l[6]?=some u:=⟨h.1,h.2.1,h.2.2.1,h.2.2.2,h5⟩
theorem U1(hl:uQ l g b2 s)(hK:∀l':List Value,uQ l' g b2 s/\l'[6]?=some (.slice none 0 0)->K ⟨l'.toArray,[]⟩ wx):sQ 5 f81 K Q' l wx:=by
 replace hK:=zH hK;obtain⟨ab,ax,aM,bc⟩:=hl;obtain⟨fr,rfl,ag⟩:=am ab;rw[o6,ag _ _ ax,ag _ _ aM,ag _ _ bc];clear ab ag ax aM bc;refine lu 5 f81 rfl ?_;go_wp2_with fail;refine hK.out _ ?_;exact⟨⟨rfl,rfl,rfl,rfl⟩,rfl⟩
theorem U2(h:rS ao aa w0 wx g b2 G v ps d vd ve)(kj:G.rn<=1000000)(ou:s<7)(hl:uQ l g b2 s)(h6:l[6]?=some (.slice none 0 0))(hK:∀(l':List Value) w' ac A k c,uQ l' g b2 s/\l'[6]?=some (.slice A k c)/\k<=G.rn/\rS ao ac w0 w' g b2 G v ps d vd ve/\eq ac 11 w' (.slice A k c) k->K ⟨l'.toArray,[]⟩ w'):sQ 6 f81 K Q' l wx:=by
 obtain⟨n,hn⟩:=zN (G.rn);rw[hn]at kj hK;replace h:=zH h;replace hK:=zH hK;replace hn:=zH hn;obtain⟨ab,ax,aM,bc,bL⟩:=(hl.out6 h6);obtain⟨fr,rfl,ag⟩:=am ab;have fr0:=ag _ _ ax;have fr1:=ag _ _ aM;have fr4:=ag _ _ bc;have fr6:=ag _ _ bL;rw[o6];clear ab ag ax aM bc bL;rw[fr0,fr1,fr4,fr6];clear fr0 fr1 fr4 fr6;refine ge (o:=IU 6 (aB f81)) rfl ?_;go_wp2_with fail
 go_loopw [6,7] (fun u6 u7 wr=>∃(i k:Nat) (A:Option Addr) (c:Nat) (ac:Nat->Nat),i<=n/\k<=i/\u7=.int .i64 i/\u6=.slice A k c/\eq ac 11 wr u6 k/\rS ao ac w0 wr g b2 G v ps d vd ve) (fun _ u7 _=>n-(intOf u7).toNat)
 case atStart=>exact⟨0,0,none,0,aa,Nat.zero_le _,Nat.le_refl _,rfl,rfl,⟨[],rfl,aX.nil _ _ _ _ _⟩,h.out⟩
 case round=>
  obtain⟨i,k,A,c,ar,hi,Rb,rfl,rfl,hA,eC⟩:=hrel;obtain⟨AR,cR,NT,TE,_⟩:=eC.gr.r.form;rw[hn.out]at NT TE;have z10:=eC.gr.s.cell 10;simp only[dQ,vi,Zx]at z10;rw[NT]at z10;by_cases bh:i<n
  ·obtain⟨ad,c1,a1,a2,a3,e1,e2,r0,r1,r2⟩:=eC.gr.r.at_ (k:=i) (by rw[hn.out];exact bh);rw[NT,hn.out]at e1;injection e1 with e1 _ e3;subst e1 e3;have bi:=zH (show n-(i+1)<n-i by omega);rcases Bool.eq_false_or_eq_true (a1==(s:Int))with h1|h1
   ·have h2:(a1 !=(s:Int))=false:=by rw[bne,h1];rfl
    replace eC:=zH eC;replace hA:=zH hA;go_wp2_with fail;exact⟨⟨i+1,k,A,c,ar,bh,by omega,by go_num,rfl,hA.out,eC.out⟩,by simp[intOf];exact bi.out⟩
   ·have h2:(a1 !=(s:Int))=true:=by rw[bne,h1];rfl
    have aU:Below wr.heap.size wr (wr.alloc (.cells #[.int .i64 a1,.int .i64 a2,.int .i64 a3] 149)):=zb.alloc zl _;obtain⟨oo,lM⟩:=eC.room hA aU;have eu:=ay.new wr 149 #[.int .i64 a1,.int .i64 a2,.int .i64 a3];have fo:=zH (fun w3 (hF:Fr (aL (relab ar wr.heap.size 12) 11) (wr.alloc (.cells #[.int .i64 a1,.int .i64 a2,.int .i64 a3] 149)) w3)=>by
     have hL:bC (fun j=>relab ar wr.heap.size 12 j=11) (relab ar wr.heap.size 12) (relab (relab ar wr.heap.size 12) (wr.alloc (.cells #[.int .i64 a1,.int .i64 a2,.int .i64 a3] 149)).heap.size 11) (wr.alloc (.cells #[.int .i64 a1,.int .i64 a2,.int .i64 a3] 149)) w3:=bC.of_fr hF fun j hj hn=>⟨ae hj,hn⟩
     exact oo.step (hL.grp (fun j _ hg e=>by unfold cW at hg;omega) oo.gr) hL (fun j _ e=>.inr ⟨by omega,by omega⟩) rfl rfl)
    replace eC:=zH eC;replace oo:=zH oo;replace hA:=zH hA;go_wp2_with (at_builtin;refine jJ rfl (.tmp 63) (.tmp 71) rfl rfl lM rfl eu (by omega) ?_;intro A3 c3 w3 bg dW;have iY:=zH (fo.out w3 dW);replace bg:=zH bg;clear fo dW lM eu);exact⟨⟨i+1,k+1,A3,c3,_,bh,by omega,by go_num,rfl,bg.out,iY.out⟩,by simp[intOf];exact bi.out⟩
  ·obtain rfl:i=n:=by omega
   replace eC:=zH eC;replace hA:=zH hA;go_wp2_with fail;refine hK.out _ _ ar A k c ?_;exact⟨⟨rfl,rfl,rfl,rfl⟩,rfl,Rb,eC.out,hA.out⟩
theorem U3{A:Option Addr}{k c:Nat}(h:rS ao aa w0 wx g b2 G v ps d vd ve)(hA:eq aa 11 wx (.slice A k c) k)(hl:uQ l g b2 s)(h6:l[6]?=some (.slice A k c))(hH:∀w',rS ao (ew aa 11 8) w0 w' g b2 {G with rn:=k} {v with reads:=.slice A k c} ps d vd ve->H (.returned (.tuple #[])) w'):tP 7 f81 H l wx:=by
 have f10:=h.gr.s.free 10;obtain⟨AR,cR,NT,TE,_⟩:=h.gr.r.form;have z10:=h.gr.s.cell 10;simp only[dQ,vi,Zx]at z10;rw[NT]at z10;have hE:=zH (hH _ (h.rests hA zb));have bV:=h.gr.s.lt;clear h hA hH;obtain⟨ab,ax,aM,bc,bL⟩:=(hl.out6 h6);obtain⟨fr,rfl,ag⟩:=am ab;have fr0:=ag _ _ ax;have fr1:=ag _ _ aM;have fr4:=ag _ _ bc;have fr6:=ag _ _ bL;rw[o6];clear ab ag ax aM bc bL;rw[fr0,fr1,fr4,fr6];clear fr0 fr1 fr4 fr6;refine ge (o:=KC 7 (aB f81)) rfl ?_;go_wp2_with fail;exact ai rfl rfl hE.out
theorem bB.plen(h:bB aa wx g G v ps):ps.length=G.n:=by
 obtain⟨A,c,_,ho,_⟩:=h.l;have:=ho.1;rw[List.length_map]at this;omega
theorem sF(h:bB aa wx g G v ps)(hS:fS aa wx G.n G.l ps)(hk:IZ G s) :
  Calls prog 81 #[.pointer (some ⟨g,0,none⟩),.int .i64 s] wx fun e w'=>e=.returned (.tuple #[])/\∃ac v' ps' k,k<=G.rn/\bB ac w' g {G.crash s with rn:=k} v' ps'/\fS ac w' (G.crash s).n (G.crash s).l ps'/\bC (fun j=>aa j≠10) aa ac wx w':=by
 obtain⟨R',dR⟩:=hk.nw;have yI:G.crash s={G with l:=G.l.set s R',pos:=G.pos.set s (G.dk s).snap.idx}:=by
  unfold Gp.crash;rw[dR]
 refine bJ (args:=[.pointer (some ⟨g,0,none⟩),.int .i64 s]) 77 func81 (by kernel_rfl) ntmps81 (by simp) fun la gF cQ=>?_
 refine cK (by kernel_rfl) (UW h hS hk.hs hk.n7 hk.dl ⟨gF,cQ 0 _ rfl,cQ 1 _ rfl⟩ fun l0 w1 b2 A4 c4 A5 n5 c5 h0=>?_);obtain⟨ir,fO,BF,Ep⟩:=h0;have vg:n5=(G.dk s).entries.length:=by
  obtain⟨A,n,c,zs,e,hr,_,hm,_⟩:=Ep;injection e with _ e _;rw[<-hm,List.length_map,e];exact hr.len.symm
 refine cK (by kernel_rfl) (UX fO hk.hs hk.n7 h.plen BF Ep (by have:=hk.en;omega) hk.fl dR ir fun l1 w2 bK g2 h1=>?_);obtain⟨dm,Rh,fP⟩:=h1;refine cK (by kernel_rfl) (UY dm Rh fun l2 h2=>?_);obtain⟨fB,Ri⟩:=h2;refine cK (by kernel_rfl) (UZ fP hk.hs hk.n7 hk.ll fB Ri fun l3 w3 h3=>?_);obtain⟨oe,BD⟩:=h3;refine cK (by kernel_rfl) (U0 BD hk.hs hk.n7 hk.pl oe fun l4 w4 h4=>?_);obtain⟨px,Gd⟩:=h4;refine cK (by kernel_rfl) (U1 px fun l5 h5=>?_);obtain⟨na,Rj⟩:=h5;refine cK (by kernel_rfl) (U2 Gd hk.rn (by have:=hk.hs;have:=hk.n7;omega) na Rj fun l6 w6 ut A k c h6=>?_);obtain⟨Dh,Rk,Df,OC,VW⟩:=h6;refine U3 OC VW Dh Rk fun w7 Qz=>⟨rfl,ew ut 11 8,{v with reads:=.slice A k c},ps.set s g2,k,Df,?_,?_,Qz.f⟩
 ·rw[yI];exact Qz.gr
 ·rw[yI];exact Qz.sv
end
structure ku(K:Nat)(aa:Nat->Nat)(w:World)(g:Nat)(G:Gp)(v:Gv)(ps:List Nat):Prop where
 gr:bB aa w g G v ps
 sv:fS aa w G.n G.l ps
 ok:ik K G
 rn:G.rn<=1000000
def Nx(K:Nat)(aa:Nat->Nat)(w:World)(g:Nat)(G:Gp)(e:Ending)(w':World):Prop:=
 e=.returned (.tuple #[])/\∃ac G' v' ps',ku K ac w' g G' v' ps'/\G'.n=G.n/\G'.rn<=G.rn/\bC (fun j=>aa j≠10) aa ac w w'
section
variable {X':Nat->Prop}{ao aa ac:Nat->Nat}{g b1 b2 s p:Nat}{G G':Gp}{v v':Gv}{ps ps':List Nat}{o:Ot}{X:Ox}{R':Rf}{w w0 wx w':World}{K:Go.Act->World->Prop}{Q':Exit->Go.Act->World->Prop}{l:List Value}{H:Ending->World->Prop}{P:World->Prop}{M:Nat}
theorem SS(hl:l.length=69/\l[0]?=some (.pointer (some ⟨g,0,none⟩))/\l[1]?=some (.int .i64 s)/\l[2]?=some (.agg (aK o X))/\l[3]?=some (.bool true))(hK:∀l':List Value,xH l' g wx.heap.size s/\l'[3]?=some (.bool true)->K ⟨l'.toArray,[]⟩ (wx.alloc (.cells (aK o X) 49))):sQ 0 f32 K Q' l wx:=by
 unfold aK at *;obtain⟨ab,ax,aM,bE,bb⟩:=hl;obtain⟨fr,rfl,ag⟩:=am ab;rw[eZ,ag _ _ ax,ag _ _ aM,ag _ _ bE,ag _ _ bb];clear ab ag ax aM bE bb;refine lu 0 f32 rfl ?_;go_wp2_with fail;exact⟨⟨rfl,rfl,rfl,rfl⟩,rfl⟩
theorem Y3(hc:Calls prog 81 #[.pointer (some ⟨g,0,none⟩),.int .i64 s] wx fun e w'=>e=.returned (.tuple #[])/\P w')(hl:xH l g b1 s)(h3:l[3]?=some (.bool true))(hH:∀w',P w'->H (.returned (.tuple #[])) w'):tP 1 f32 H l wx:=by
 replace hH:=zH hH;obtain⟨ab,ax,aM,bb,bL⟩:=(hl.out h3);obtain⟨fr,rfl,ag⟩:=am ab;have fr0:=ag _ _ ax;have fr1:=ag _ _ aM;have fr3:=ag _ _ bb;have fr6:=ag _ _ bL;rw[eZ];clear ab ag ax aM bb bL;rw[fr0,fr1,fr3,fr6];clear fr0 fr1 fr3 fr6;refine ge (o:=KC 1 (aB f32)) rfl ?_;go_wp2_with fail;refine hc.mono ?_;rintro e w2 ⟨rfl,hP⟩;have hE:=zH (hH.out w2 hP);clear hc hH;go_wp2_with fail;exact bf rfl rfl hE.out
theorem rA(h:bB aa wx g G v ps)(hS:fS aa wx G.n G.l ps)(hk:IZ G s) :
  Calls prog 32 #[.pointer (some ⟨g,0,none⟩),.int .i64 s,.agg (aK o X),.bool true] wx fun e w'=>e=.returned (.tuple #[])/\∃ac v' ps' k,k<=G.rn/\bB ac w' g {G.crash s with rn:=k} v' ps'/\fS ac w' (G.crash s).n (G.crash s).l ps'/\bC (fun j=>aa j≠10) aa ac wx w':=by
 refine bJ (args:=[.pointer (some ⟨g,0,none⟩),.int .i64 s,.agg (aK o X),.bool true]) 69 func32 (by kernel_rfl) ntmps32 (by simp) fun la gF cQ=>?_
 have hb:=(Below.refl wx.heap.size wx).alloc zl (.cells (aK o X) 49);refine cK (by kernel_rfl) (SS ⟨gF,cQ 0 _ rfl,cQ 1 _ rfl,cQ 2 _ rfl,cQ 3 _ rfl⟩ fun l0 h0=>?_);obtain⟨ir,JN⟩:=h0;obtain⟨w1,bM⟩:=zN (wx.alloc (.cells (aK o X) 49));rw[bM]at hb;rw[bM];have hL:=bC.new 10 aa hb;have h1:=hL.grp (fun _ _ _ h=>h) h;have uT:=hL.srvs (fun _ _ h=>h.elim) hS;refine Y3 (sF h1 uT hk) ir JN fun w' hP=>⟨rfl,?_⟩
 obtain⟨ac,v',ps',k,q1,q2,q3,q4⟩:=hP;exact⟨ac,v',ps',k,q1,q2,q3,(hL.mono (Y:=fun j=>aa j≠10) fun _ _ h=>h.elim).trans q4 fun j _ hn e hx=>by rw[e]at hx;exact hn hx⟩
theorem rB(G:Gp)(s:Nat)(o:Ot):(G.takes s o).n=G.n/\(G.takes s o).l=G.l/\(G.takes s o).rn=G.rn:=by
 obtain⟨q1,q2,_,_,_,_,q7⟩:=qG (G.saves s o) s;exact⟨q1,q2,q7⟩
theorem Dv(h:bB aa w g G v ps)(hS:fS aa w G.n G.l ps)(hs:s<G.n)(mG:G.l.length=G.n)(hp:ps[s]?=some p)(hT:cV aa (sb s) 10 w p o R' X w') :
  ∃ac,bB ac w' g {G with l:=G.l.set s R'} v ps/\fS ac w' G.n (G.l.set s R') ps/\fd ac 10 w' o X/\bC (ba aa (sb s)) aa ac w w':=by
 obtain⟨ac,v',h1,h2,h3,h4,h5⟩:=hT;have hL:bC (ba aa (sb s)) aa ac w w':=bC.of_fr h5 fun j hj hn=>⟨h3 j hj hn,fun hm=>hn ⟨hm.1,by have:=hm.2;omega⟩⟩
 have hg:bB ac w' g G v ps:=hL.grp (fun j _ hg hm=>by unfold cW at hg;unfold ba sb at hm;omega) h;refine⟨ac,⟨hg.s,hg.sl,hg.l,hg.d,hg.m,hg.e,hg.p,hg.t,hg.r⟩,fun i hi=>?_,h2,hL⟩;rw[eH (by rw[mG];exact hs)];by_cases e:s=i
 ·subst e;exact⟨p,v',hp,by rw[if_pos rfl];exact h1⟩
 ·rw[if_neg e];obtain⟨pi,vi,q1,q2⟩:=hS i hi;exact⟨pi,vi,q1,hL.raft (fun j _ hm hx=>by unfold ba sb at hm hx;omega) q2⟩
theorem AS(h:ku M aa w g G v ps)(hs:s<G.n)(hp:ps[s]?=some p)(hM:M<=800000000)(hA:ik (M+11) (G.act s (o,R'))/\ni {G with l:=G.l.set s R'} s o)(hT:cV aa (sb s) 10 w p o R' X w')(b:Bool) :
  Calls prog 32 #[.pointer (some ⟨g,0,none⟩),.int .i64 s,.agg (aK o X),.bool b] w' (Nx (M+11) aa w g G):=by
 obtain⟨_,mG,_⟩:=h.ok.facts;obtain⟨ar,q1,q2,q3,q4⟩:=Dv h.gr h.sv hs mG hp hT;have wn:∀j,j<w.heap.size->¬aa j≠10->ar j=aa j->¬ar j≠10:=fun j _ hn e hx=>by rw[e]at hx;exact hn hx
 have q5:bC (fun j=>aa j≠10) aa ar w w':=q4.mono fun j _ hm e=>by unfold ba sb at hm;omega
 cases b with
 | false=>
  refine(tC q1 q2 q3 hA.2).mono ?_;rintro e w2 ⟨rfl,bK,v2,h1,h2⟩;obtain⟨e1,e2,e3⟩:=rB {G with l:=G.l.set s R'} s o;have e1:(G.act s (o,R')).n=G.n:=e1;have e2:(G.act s (o,R')).l=G.l.set s R':=e2;have e3:(G.act s (o,R')).rn=G.rn:=e3;exact⟨rfl,bK,G.act s (o,R'),v2,ps,⟨h1,by rw[e1,e2];exact h2.srvs (fun j _ hx=>uC hx) q2,hA.1,by rw[e3];exact h.rn⟩,e1,by rw[e3];exact Nat.le_refl _,q5.trans (h2.mono (Y:=fun j=>ar j≠10) fun j _ hx=>hx.2) wn⟩
 | true=>
  have kW:=h.ok.crOk hs hM h.rn;have yI:=h.ok.crash hs;have e0:=sG G s R' yI.1;refine(rA q1 q2 ⟨kW.hs,kW.n7,by show(G.l.set s R').length=G.n;rw[List.length_set];exact kW.ll,kW.dl,kW.pl,kW.nw,kW.en,kW.fl,kW.rn⟩).mono ?_;rintro e w2 ⟨rfl,bK,v2,ps2,k,hk,h1,h2,h3⟩;rw[e0]at h1 h2;have hk:k<=G.rn:=hk;have kj:=h.rn;have e1:(G.crash s).n=G.n:=by
   unfold Gp.crash;split <;> rfl
  exact⟨rfl,bK,{G.crash s with rn:=k},v2,ps2,⟨h1,h2,(yI.2.mono (by omega)).setRn k,by show k<=_;omega⟩,e1,hk,q5.trans h3 wn⟩
theorem cV.old{c i:Nat}(h:cV aa c i w p o R' X w')(hc:20<=c):∀j,j<w.heap.size->aa j<20->w'.heap[j]?=w.heap[j]?:=fun j hj hl=>by
 obtain⟨_,_,_,_,_,_,hF⟩:=h;exact hF.block j hj fun hm=>by unfold aH at hm;omega
theorem FW(d:Int)(h:ku M aa w g G v ps)(hs:s<G.n)(hp:ps[s]?=some p)(hM:M<=800000000)(sM:-9223372036854775808<=d)(sN:d<=9223372036854775807) :
  Calls prog 17 #[.pointer (some ⟨p,0,none⟩),.int .i64 d] w fun e w'=>∃o X,e=.returned (.agg (aK o X))/\(∀j,j<w.heap.size->aa j<20->w'.heap[j]?=w.heap[j]?)/\∀b,Calls prog 32 #[.pointer (some ⟨g,0,none⟩),.int .i64 s,.agg (aK o X),.bool b] w' (Nx (M+11) aa w g G):=by
 obtain⟨h1,h2,h3⟩:=h.ok.tickT hs hM d;obtain⟨p',rv,Ht,hr⟩:=h.sv s hs;rw[hp]at Ht;obtain rfl:=Option.some.inj Ht;have J8:20<=sb s:=by unfold sb;omega
 refine(xA 10 d hr h3 (by omega) (by omega) (by omega) sM sN).mono ?_;rintro e w' ⟨X,rfl,hT⟩;exact⟨_,X,rfl,hT.old J8,AS h hs hp hM ⟨h1,h2⟩ hT⟩
theorem FQ{m:Mg}{A1 A2:Option Addr}{n1 c1 n2 c2:Nat}(h:ku M aa w g G v ps)(hs:s<G.n)(hp:ps[s]?=some p)(oa:1<=M)(hM:M<=800000000)(hA:ik (M+11) (G.step s m)/\ni {G with l:=G.l.set s ((G.srv s).step m).2} s ((G.srv s).step m).1/\Ok M 0 (G.srv s))(he:da aa 10 w (.slice A1 n1 c1) m.entries)(hd:cT aa 10 w (.slice A2 n2 c2) m.data)
  (oh:n1=m.entries.length) (uZ:n2=m.data.length) :
  Calls prog 19 #[.pointer (some ⟨p,0,none⟩),iw m (.slice A1 n1 c1) (.slice A2 n2 c2)] w fun e w'=>∃o X,e=.returned (.agg (aK o X))/\(∀j,j<w.heap.size->aa j<20->w'.heap[j]?=w.heap[j]?)/\∀b,Calls prog 32 #[.pointer (some ⟨g,0,none⟩),.int .i64 s,.agg (aK o X),.bool b] w' (Nx (M+11) aa w g G):=by
 obtain⟨h1,h2,h3⟩:=hA;obtain⟨p',rv,Ht,hr⟩:=h.sv s hs;rw[hp]at Ht;obtain rfl:=Option.some.inj Ht;have J8:20<=sb s:=by unfold sb;omega
 refine(nL 10 m A1 A2 n1 c1 n2 c2 10 hr h3 oa (by omega) (by omega) (by omega) (by omega) he hd oh uZ).mono ?_;rintro e w' ⟨X,rfl,hT⟩;exact⟨_,X,rfl,hT.old J8,AS h hs hp hM ⟨h1,h2⟩ hT⟩
end
def CF:List Nat->Code->Option Code
 | [],c=>some c
 | 0::r,.seq a _=>CF r a
 | 1::r,.seq _ b=>CF r b
 | 2::r,.block _ b=>CF r b
 | 3::r,.loop b=>CF r b
 | 4::r,.cond _ a _=>CF r a
 | 5::r,.cond _ _ b=>CF r b
 | _,_=>none
def bR(p:List Nat)(c:Code):Code:=(CF p c).getD .skip
section
variable {P:Program}{Q:Exit->Act->World->Prop}{a:Act}{w:World}{c:Code}{p:List Nat}
theorem tz{c':Code}(p:List Nat)(h:c'=bR p c)(hw:(bR p c).wp P Q a w):c'.wp P Q a w:=h▸hw
theorem aF(p0 p1:List Nat)(h:CF p c=some (.seq (bR p0 c) (bR p1 c)))(hw:(bR p0 c).wp P (Exit.then ((bR p1 c).wp P Q) Q) a w):(bR p c).wp P Q a w:=by
 unfold bR;rw[h];exact wp_seq hw
theorem eM(p':List Nat){id:Nat}(h:CF p c=some (.block id (bR p' c)))(hw:(bR p' c).wp P (Exit.inBlock id Q) a w):(bR p c).wp P Q a w:=by
 unfold bR;rw[h];exact wp_block hw
theorem bW(p4 p5:List Nat){o:Operand}(t:Bool)(h:CF p c=some (.cond o (bR p4 c) (bR p5 c)))(hc:a.eval o=.bool t)(hw:(if t then bR p4 c else bR p5 c).wp P Q a w):(bR p c).wp P Q a w:=by
 unfold bR;rw[h];exact wp_cond hc hw
theorem nI(p':List Nat)(h:CF p c=some (.loop (bR p' c)))(I:Nat->Act->World->Prop)(n₀:Nat)(h₀:I n₀ a w)
  (round:∀n a w,I n a w->(bR p' c).wp P (Exit.then (fun a' w'=>∃n',n'<n/\I n' a' w') Q) a w):(bR p c).wp P Q a w:=by
 unfold bR;rw[h];exact wp_loop_ghost I n₀ h₀ round
theorem fh{Q0:Exit->Act->World->Prop}{c:Code}(h:c.wp P (Exit.then (Q0 .normal) Q0) a w):c.wp P Q0 a w:=by
 have e:Exit.then (Q0 .normal) Q0=Q0:=by
  funext e a w;cases e <;> rfl
 rw[e]at h;exact h
end
theorem cG {P:Program}{Q:Exit->Act->World->Prop}{a:Act}{w:World}(p:List Nat)(F:Func){c:Code}(h:CF p (aB F)=some c)(hw:c.wp P Q a w):(bR p (aB F)).wp P Q a w:=ge h hw

def Cx(M:Nat)(aa:Nat->Nat)(w:World)(g:Nat)(G:Gp)(w':World):Prop:=
 ∃ac G' v' ps',ku M ac w' g G' v' ps'/\G'.n=G.n/\G'.rn<=G.rn/\bC (fun j=>aa j≠10) aa ac w w'
structure vx(M:Nat)(aa:Nat->Nat)(w:World)(g b:Nat)(G:Gp)(v:Gv)(ps:List Nat)(z:(Value×Value)×Mg):Prop where
 st:ku M aa w g G v ps
 k:ay w b 39 (iC z).toArray
 l:aa b=10
 m:eA aa 10 w z
 a:∀s,s<G.n->ik (M+11) (G.step s z.2)/\ni {G with l:=G.l.set s ((G.srv s).step z.2).2} s ((G.srv s).step z.2).1/\Ok M 0 (G.srv s)
def LC(l:List Value)(g r k i:Nat):Prop:=l.length=90/\l[0]?=some (.pointer (some ⟨g,0,none⟩))/\l[1]?=some (.int .i64 r)/\l[2]?=some (.int .i64 k)/\l[6]?=some (.int .i64 i)
def C9(l:List Value)(g r k i t:Nat):Prop:=LC l g r k i/\l[8]?=some (.int .i64 t)
def KG(l:List Value)(g r k i t b:Nat):Prop:=LC l g r k i/\l[8]?=some (.int .i64 t)/\l[9]?=some (.pointer (some ⟨b,0,none⟩))
theorem da.formL{aa:Nat->Nat}{q:Nat}{w:World}{u:Value}{L:List En}(h:da aa q w u L):∃A c,u=.slice A L.length c:=by
 obtain⟨A,n,c,zs,e,hr,_,hm,_⟩:=h;have:=hr.len;have e2:n=L.length:=by rw[<-hm,List.length_map];exact this.symm
 exact⟨A,c,by rw[e,e2]⟩
section
variable {ao aa ac ar:Nat->Nat}{g b s p i r k t:Nat}{G G' G1:Gp}{v v':Gv}{ps ps':List Nat}{z:(Value×Value)×Mg}{w w0 w1 wx w':World}{K:Go.Act->World->Prop}{Q':Exit->Go.Act->World->Prop}{l:List Value}{H:Ending->World->Prop}{M M':Nat}
theorem C9.out(h:C9 l g r k i t):l.length=90/\l[0]?=some (.pointer (some ⟨g,0,none⟩))/\l[1]?=some (.int .i64 r)/\l[2]?=some (.int .i64 k)/\l[6]?=some (.int .i64 i)/\l[8]?=some (.int .i64 t):=⟨h.1.1,h.1.2.1,h.1.2.2.1,h.1.2.2.2.1,h.1.2.2.2.2,h.2⟩
theorem KG.out(h:KG l g r k i t b):l.length=90/\l[0]?=some (.pointer (some ⟨g,0,none⟩))/\l[1]?=some (.int .i64 r)/\l[2]?=some (.int .i64 k)/\l[6]?=some (.int .i64 i)/\l[8]?=some (.int .i64 t)/\l[9]?=some (.pointer (some ⟨b,0,none⟩)):=⟨h.1.1,h.1.2.1,h.1.2.2.1,h.1.2.2.2.1,h.1.2.2.2.2,h.2.1,h.2.2⟩
theorem Cx.mono(h:Cx M aa w g G w')(hM:M<=M'):Cx M' aa w g G w':=by
 obtain⟨ac,G',v',ps',h1,h2⟩:=h;exact⟨ac,G',v',ps',⟨h1.gr,h1.sv,h1.ok.mono hM,h1.rn⟩,h2⟩
theorem ku.cx(h:ku M aa w g G v ps):Cx M aa w g G w:=⟨aa,G,v,ps,h,rfl,Nat.le_refl _,bC.refl _ _ _⟩
theorem Nx.cx{e:Ending}(h:Nx M aa w g G e w'):Cx M aa w g G w':=h.2
theorem bC.ten{w2:World}(h1:bC (fun j=>aa j≠10) aa ar w w1)(h2:bC (fun j=>ar j≠10) ar ac w1 w2):bC (fun j=>aa j≠10) aa ac w w2:=h1.trans h2 fun j _ hn e hx=>by rw[e]at hx;exact hn hx
theorem Cx.next{w2:World}(e1:G1.n=G.n)(e2:G1.rn<=G.rn)(e3:bC (fun j=>aa j≠10) aa ar w w1)(h:Cx M ar w1 g G1 w2):Cx M aa w g G w2:=by
 obtain⟨ac,G',v',ps',h1,h2,h3,h4⟩:=h;exact⟨ac,G',v',ps',h1,h2.trans e1,Nat.le_trans h3 e2,e3.ten h4⟩
theorem ku.below(i:Nat)(h:ku M aa w g G v ps)(hb:Below w.heap.size w w'):ku M (relab aa w.heap.size i) w' g G v ps/\bC (fun j=>aa j≠10) aa (relab aa w.heap.size i) w w':=
 have hL:=bC.new i aa hb
 ⟨⟨hL.grp (fun _ _ _ h=>h) h.gr,hL.srvs (fun _ _ h=>h.elim) h.sv,h.ok,h.rn⟩,hL.mono fun _ _ h=>h.elim⟩
theorem vx.below(h:vx M aa w g b G v ps z)(hb:Below w.heap.size w w'):vx M (relab aa w.heap.size 12) w' g b G v ps z:=
 have hL:=bC.new 12 aa hb
 ⟨(h.st.below 12 hb).1,h.k.kept hb,(ae h.k.lt).trans h.l,hL.one (P:=fun aa w=>eA aa 10 w z) (fun _ _ _ h1 h2=>h1.relabel h2) (fun _ _ _ h1 h2=>h1.keep h2) (fun _ _ _ hf=>hf) h.m,h.a⟩
theorem UB(h:Cx M aa w0 g G wx)(hk:k<=G.n)(gg:G.n<=7)(hM:M+77<=800000000)(hl:LC l g r k i)(hK:∀(l':List Value) w',LC l' g r k i/\Cx (M+77) aa w0 g G w'->K ⟨l'.toArray,[]⟩ w'):(bR [1,2,3,1,0,2,0] (aB f30)).wp prog (Exit.then K Q') ⟨l.toArray,[]⟩ wx:=by
 replace hK:=zH hK;obtain⟨ab,ax,aM,bE,bL⟩:=hl;obtain⟨fr,rfl,ag⟩:=am ab;rw[ii,ag _ _ ax,ag _ _ aM,ag _ _ bE,ag _ _ bL];clear ab ag ax aM bE bL;refine cG [1,2,3,1,0,2,0] f30 rfl ?_;go_wp2_with fail
 go_loopw [7] (fun u7 wr=>∃s:Nat,s<=k/\u7=.int .i64 s/\Cx (M+11*s) aa w0 g G wr) (fun u7 _=>k-(intOf u7).toNat)
 case atStart=>exact⟨0,Nat.zero_le _,rfl,h⟩
 case round=>
  obtain⟨s,hs,rfl,ar,G1,v1,ps1,h1,e1,e2,e3⟩:=hrel;by_cases bh:s<k
  ·have eC:s<G1.n:=by omega
   obtain⟨p,rv,hp,_⟩:=h1.sv s eC;obtain⟨q,c,hq,jX,eW,fR,kG,aQ,ef⟩:=h1.gr.l.form (by omega);have c1:=h1.gr.s.cell 1;simp only[dQ,vi,Zx]at c1;rw[hq]at c1;have cp:=aQ s (kq p) (by rw[List.getElem?_map,hp];rfl);unfold kq at cp;have ou:s<7:=by omega
   have dw:=FW (2*s:Int) h1 eC hp (by omega) (by omega) (by omega);have dM:=zH (fun e w' (hN:Nx (M+11*s+11) ar wr g G1 e w')=>(Cx.next e1 e2 e3 hN.cx).mono (M':=M+11*(s+1)) (by omega));have bi:=zH (show k-(s+1)<k-s by omega);have e0:∀w' e,Nx (M+11*s+11) ar wr g G1 e w'->e=.returned (.tuple #[]):=fun _ _ h=>h.1
   replace e0:=zH e0;obtain⟨n,hn⟩:=zN (G1.n);rw[hn]at c1 jX eC;replace hn:=zH hn;replace aQ:=zH aQ;replace ef:=zH ef;replace hp:=zH hp;replace hk:=zH hk;clear h h1 e1 e2 e3 hq;go_wp2_with fail;refine dw.mono ?_;rintro e w2 ⟨o,X,rfl,_,hT⟩;replace hT:=hT false;clear dw;go_wp2_with fail;refine hT.mono ?_;intro e w3 hN;obtain rfl:=e0.out _ _ hN;have hC:=zH (dM.out _ w3 hN);clear hT hN dM e0;go_wp2_with fail;exact⟨⟨s+1,bh,by go_num,hC.out⟩,by simp[intOf];exact bi.out⟩
  ·obtain rfl:s=k:=by omega
   have hC:=zH (Cx.next e1 e2 e3 (h1.cx.mono (M':=M+77) (by omega)));clear h h1 e1 e2 e3 hk;go_wp2_with fail;refine hK.out _ _ ?_;exact⟨⟨rfl,rfl,rfl,rfl,rfl⟩,hC.out⟩
theorem UD(h:ku M aa wx g G v ps)(oa:1<=M)(hM:M+11<=800000000)(hn:0<G.net.length)(hl:C9 l g r k i t)(hK:∀(l':List Value) w' z,KG l' g r k i t wx.heap.size/\G.net[0]?=some z.2/\ku M (relab aa wx.heap.size 10) w' g G v ps/\ay w' wx.heap.size 39 (iC z).toArray/\eA (relab aa wx.heap.size 10) 10 w' z/\Below wx.heap.size wx w'->K ⟨l'.toArray,[]⟩ w'):(bR [1,2,3,1,0,2,1,1,2,3,1,0,2,0] (aB f30)).wp prog (Exit.then K Q') ⟨l.toArray,[]⟩ wx:=by
 obtain⟨zs,aD,dv,bN⟩:=h.gr.m;obtain⟨A,c,hv,gu,⟨_,h0,_⟩|⟨gq,oq,cur,rfl,fR,jX,lO,eW,om,Mr⟩⟩:=id aD
 ·omega
 ·obtain⟨m,hm⟩:=zN (G.net.length);rw[hm]at hv hn lO gu Mr aD;have eb:cj wx 13 (some ⟨gq,oq,none⟩) m (zs.flatMap iC):=by
   rw[hv]at aD;exact aD.rds
  have E6:zs.length=m:=by
   rw[<-hm,<-bN,List.length_map]
  obtain⟨z,hz⟩:∃z,zs[0]?=some z:=⟨_,List.getElem?_eq_getElem (by omega)⟩;have key:∀j u,j<13->(iC z)[j]?=some u->wx.cell? ⟨gq,oq+j,none⟩=some u:=fun j u hj hu=>by
   obtain⟨ad,e,hc⟩:=eb.2 hn;injection e with e;subst e;have:=hc (0*13+j) u ((cB je hj hz).trans hu);rw[Nat.zero_mul,Nat.zero_add,Addr.add_lit]at this;exact this
  have c0:wx.cell? ⟨gq,oq,none⟩=some (.int .i64 z.2.kind):=key 0 _ (by omega) rfl;have c1:wx.cell? ⟨gq,oq+1,none⟩=some (.int .i64 z.2.frm):=key 1 _ (by omega) rfl;have c2:wx.cell? ⟨gq,oq+2,none⟩=some (.int .i64 z.2.tgt):=key 2 _ (by omega) rfl;have c3m:wx.cell? ⟨gq,oq+3,none⟩=some (.int .i64 z.2.term):=key 3 _ (by omega) rfl;have c4:wx.cell? ⟨gq,oq+4,none⟩=some (.int .i64 z.2.idx):=key 4 _ (by omega) rfl;have c5:wx.cell? ⟨gq,oq+5,none⟩=some (.int .i64 z.2.logTerm):=key 5 _ (by omega) rfl;have c6:wx.cell? ⟨gq,oq+6,none⟩=some (.int .i64 z.2.commit):=key 6 _ (by omega) rfl;have c7:wx.cell? ⟨gq,oq+7,none⟩=some (.int .i64 z.2.round):=key 7 _ (by omega) rfl;have c8:wx.cell? ⟨gq,oq+8,none⟩=some (.bool z.2.reject):=key 8 _ (by omega) rfl;have c9:wx.cell? ⟨gq,oq+9,none⟩=some (.int .i64 z.2.offset):=key 9 _ (by omega) rfl;have c10:wx.cell? ⟨gq,oq+10,none⟩=some (.int .i64 z.2.total):=key 10 _ (by omega) rfl;have c11:wx.cell? ⟨gq,oq+11,none⟩=some z.1.1:=key 11 _ (by omega) rfl;have c12:wx.cell? ⟨gq,oq+12,none⟩=some z.1.2:=key 12 _ (by omega) rfl;have oV:=dv z (List.mem_of_getElem? hz);obtain⟨Ae,ne,ce,_,nR,_⟩:=id oV.1.1;obtain⟨Ad,cd,nQ,_⟩:=id oV.2.1;obtain⟨nd,mH⟩:=zN (z.2.data.length);rw[nR]at c11;rw[nQ,mH]at c12;have gv:G.net[0]?=some z.2:=by rw[<-bN,List.getElem?_map,hz];rfl
  have hb:Below wx.heap.size wx (wx.alloc (.cells #[.int .i64 z.2.kind,.int .i64 z.2.frm,.int .i64 z.2.tgt,.int .i64 z.2.term,.int .i64 z.2.idx,.int .i64 z.2.logTerm,.int .i64 z.2.commit,.int .i64 z.2.round,.bool z.2.reject,.int .i64 z.2.offset,.int .i64 z.2.total,.slice Ae ne ce,.slice Ad nd cd] 39)):=(Below.refl _ wx).alloc zl _;have e:(iC z).toArray=#[.int .i64 z.2.kind,.int .i64 z.2.frm,.int .i64 z.2.tgt,.int .i64 z.2.term,.int .i64 z.2.idx,.int .i64 z.2.logTerm,.int .i64 z.2.commit,.int .i64 z.2.round,.bool z.2.reject,.int .i64 z.2.offset,.int .i64 z.2.total,.slice Ae ne ce,.slice Ad nd cd]:=by
   unfold iC;rw[nR,nQ,mH];rfl
  have eu:ay (wx.alloc (.cells #[.int .i64 z.2.kind,.int .i64 z.2.frm,.int .i64 z.2.tgt,.int .i64 z.2.term,.int .i64 z.2.idx,.int .i64 z.2.logTerm,.int .i64 z.2.commit,.int .i64 z.2.round,.bool z.2.reject,.int .i64 z.2.offset,.int .i64 z.2.total,.slice Ae ne ce,.slice Ad nd cd] 39)) wx.heap.size 39 (iC z).toArray:=by
   rw[e];exact ay.new wx 39 _
  have aO:=zH (And.intro gv (And.intro (h.below 10 hb).1 (And.intro eu (And.intro ((bC.new 10 aa hb).one (P:=fun aa w=>eA aa 10 w z) (fun _ _ _ h1 h2=>h1.relabel h2) (fun _ _ _ h1 h2=>h1.keep h2) (fun _ _ _ hf=>hf) oV) hb))));have f3:=h.gr.s.cell 3;simp only[dQ,vi,Zx]at f3;rw[hv]at f3;replace hK:=zH hK;replace hm:=zH hm;clear h aD dv bN eb hz key oV hb eu jX Mr gu om fR mH gv e nR nQ;obtain⟨ab,ax,aM,bE,bL,dy⟩:=hl.out;obtain⟨fr,rfl,ag⟩:=am ab;rw[ii,ag _ _ ax,ag _ _ aM,ag _ _ bE,ag _ _ bL,ag _ _ dy];clear ab ag ax aM bE bL dy;refine cG [1,2,3,1,0,2,1,1,2,3,1,0,2,0] f30 rfl ?_;go_wp2_with fail;refine hK.out _ _ z ?_;exact⟨⟨⟨rfl,rfl,rfl,rfl,rfl⟩,rfl,rfl⟩,aO.out⟩
theorem UE(h:ku M aa wx g G v ps)(oa:1<=M)(hM:M+11<=800000000)(hz:G.net[0]?=some z.2)(hb:ay wx b 39 (iC z).toArray)(Dj:aa b=10)(hm:eA aa 10 wx z)(hl:KG l g r k i t b)(hK:∀(l':List Value) w' v',KG l' g r k i t b/\vx M aa w' g b {G with net:=G.net.drop 1} v' ps z/\bC (fun j=>aa j≠10) aa aa wx w'->K ⟨l'.toArray,[]⟩ w'):(bR [1,2,3,1,0,2,1,1,2,3,1,0,2,1,0] (aB f30)).wp prog (Exit.then K Q') ⟨l.toArray,[]⟩ wx:=by
 obtain⟨zs,aD,dv,bN⟩:=id h.gr.m;have ug:0<G.net.length:=by
  obtain⟨bh,_⟩:=List.getElem?_eq_some_iff.1 hz;exact bh
 obtain⟨m,iW⟩:∃m,G.net.length=m+1:=⟨G.net.length-1,by omega⟩;have iN:G.net.length<=300:=by
  obtain⟨_,_,_,_,q,_⟩:=h.ok.facts;exact q
 have IB:m<300:=by omega
 rw[iW]at aD;obtain⟨A,c,hv,lO,eW⟩:=aD.form;rw[hv]at aD;obtain⟨ad,rfl,uo⟩:=aD.tail;have f3:=h.gr.s.cell 3;simp only[dQ,vi,Zx]at f3;have fz:=h.gr.s.free 3;rw[hv]at f3;have bV:=h.gr.s.lt;have L0:∀s,s<G.n->ik (M+11) (({G with net:=G.net.drop 1}:Gp).step s z.2)/\ni {G with net:=G.net.drop 1,l:=G.l.set s ((G.srv s).step z.2).2} s ((G.srv s).step z.2).1/\Ok M 0 (G.srv s):=fun s hs=>h.ok.stepN oa hs (by omega) (List.mem_of_getElem? hz) (fun x hx=>List.mem_of_mem_drop hx) (by rw[List.length_drop];omega)
 have aO:=zH (fun(u:Value) (hu:u=.slice (if c=1 then some ad else some (ad.add 13)) m (c-1))=>show vx M aa (wx.setCell ⟨g,3,none⟩ u) g b {G with net:=G.net.drop 1} {v with net:=u} ps z/\bC (fun j=>aa j≠10) aa aa wx (wx.setCell ⟨g,3,none⟩ u)from by
  have hS:=h.gr.s.set_ 3 u;have hF:=Fr.set (w:=wx) g 3 u;have dn:∀j,j<wx.heap.size->aa j≠1->(wx.setCell ⟨g,3,none⟩ u).heap[j]?=wx.heap[j]?:=fun j hj h1=>hF.block j hj fun e=>h1 (by rw[e];exact h.gr.sl)
  have hL:bC (fun j=>aa j=1) aa aa wx (wx.setCell ⟨g,3,none⟩ u):=⟨hF.size,fun j hj hn=>⟨rfl,dn j hj hn⟩,hF.os,hF.tape,hF.output⟩;have k10:∀j,j<wx.heap.size->aa j=10->¬aa j=1:=fun j _ e e2=>by omega
  refine⟨⟨⟨bB.turn (fun i=>i=4) h.gr hS hF.size (fun _ _ _=>rfl) (fun j hj _ h1 _=>dn j hj h1) (by decide) (.inr ⟨by decide,rfl,rfl,rfl⟩) (.inr ⟨by decide,rfl,rfl⟩) (.inl ⟨zs.drop 1,?_,fun y hy=>?_,?_⟩) (.inr ⟨by decide,rfl,rfl⟩) (.inr ⟨by decide,rfl,rfl⟩) (.inr ⟨by decide,rfl,rfl⟩) (.inr ⟨by decide,rfl,rfl⟩),hL.srvs (fun j _ e=>by omega) h.sv,h.ok.fewer (fun x hx=>List.mem_of_mem_drop hx) (by rw[List.length_drop];omega),h.rn⟩,(dn b hb.lt (by omega)).trans hb,Dj,hL.one (P:=fun aa w=>eA aa 10 w z) (fun _ _ _ h1 h2=>h1.relabel h2) (fun _ _ _ h1 h2=>h1.keep h2) k10 hm,L0⟩,hL.mono fun j _ e=>by omega⟩
  ·show eP aa 4 _ 39 13 u (G.net.drop 1).length _;rw[List.length_drop,iW,Nat.add_sub_cancel];have e:(zs.drop 1).flatMap iC=(zs.flatMap iC).drop 13:=by
    cases zs with
    | nil=>rfl
    | cons y zs=>rfl
   rw[e];have uo:eP aa 4 wx 39 13 u m ((zs.flatMap iC).drop 13):=by rw[hu];exact uo
   exact uo.keep fun j e hj=>dn j hj (by omega)
  ·exact hL.one (P:=fun aa w=>eA aa 10 w y) (fun _ _ _ h1 h2=>h1.relabel h2) (fun _ _ _ h1 h2=>h1.keep h2) k10 (dv y (List.mem_of_mem_drop hy))
  ·rw[List.map_drop,bN])
 replace hK:=zH hK;have fP:1<=c:=by omega
 clear h aD dv bN hz hb hm iN L0 uo iW hv Dj;obtain⟨ab,ax,aM,bE,bL,dy,ls⟩:=hl.out;obtain⟨fr,rfl,ag⟩:=am ab;rw[ii,ag _ _ ax,ag _ _ aM,ag _ _ bE,ag _ _ bL,ag _ _ dy,ag _ _ ls];clear ab ag ax aM bE bL dy ls;refine cG [1,2,3,1,0,2,1,1,2,3,1,0,2,1,0] f30 rfl ?_;go_wp2_with fail
 ·refine hK.out _ _ _ ⟨⟨⟨rfl,rfl,rfl,rfl,rfl⟩,rfl,rfl⟩,aO.out _ ?_⟩;rw[if_pos h,h]
 ·refine hK.out _ _ _ ⟨⟨⟨rfl,rfl,rfl,rfl,rfl⟩,rfl,rfl⟩,aO.out _ ?_⟩;rw[if_neg h];rfl
theorem UF(hQ:∀c (a b:Go.Act) w,a.defers=b.defers->Q' (.panic c) a w->Q' (.panic c) b w)(h:vx M aa wx g b G v ps z)(oa:1<=M)(hM:M<=800000000)(hk:k<=G.n)(gg:G.n<=7)(hl:KG l g r k i t b)(hK:∀(l':List Value) w',C9 l' g r k i t/\Cx (M+11) aa wx g G w'->K ⟨l'.toArray,[]⟩ w'):(bR [1,2,3,1,0,2,1,1,2,3,1,0,2,1,1] (aB f30)).wp prog (Exit.then K Q') ⟨l.toArray,[]⟩ wx:=by
 obtain⟨Ae,ce,nR⟩:=da.formL h.m.1.1;obtain⟨Ad,cd,nQ,_⟩:=id h.m.2.1;obtain⟨ne,cH⟩:=zN (z.2.entries.length);obtain⟨nd,mH⟩:=zN (z.2.data.length);rw[cH]at nR;rw[mH]at nQ;have eu:=h.k;rw[show(iC z).toArray=#[.int .i64 z.2.kind,.int .i64 z.2.frm,.int .i64 z.2.tgt,.int .i64 z.2.term,.int .i64 z.2.idx,.int .i64 z.2.logTerm,.int .i64 z.2.commit,.int .i64 z.2.round,.bool z.2.reject,.int .i64 z.2.offset,.int .i64 z.2.total,.slice Ae ne ce,.slice Ad nd cd] by
  unfold iC;rw[nR,nQ];rfl]at eu
 obtain⟨y0,y1,y2,y3,y4,y5,y6,y7,y8,y9,y10,y11,y12,-⟩:=eu.cs [0,1,2,3,4,5,6,7,8,9,10,11,12];simp only[Zx]at y0 y1 y2 y3 y4 y5 y6 y7 y8 y9 y10 y11 y12;replace hK:=zH hK;by_cases pL:1<=z.2.tgt
 ·by_cases ss:z.2.tgt<=k
  ·by_cases hf:z.2.frm<=k
   ·obtain⟨s,hs⟩:∃s:Nat,z.2.tgt=(s:Int)+1:=⟨(z.2.tgt-1).toNat,by omega⟩;have fw:s<G.n:=by omega
    have ou:s<7:=by omega
    obtain⟨p,rv,hp,_⟩:=h.st.sv s fw;obtain⟨q,c,hq,jX,eW,fR,kG,aQ,ef⟩:=h.st.gr.l.form (by omega);have c1:=h.st.gr.s.cell 1;simp only[dQ,vi,Zx]at c1;rw[hq]at c1;have cp:=aQ s (kq p) (by rw[List.getElem?_map,hp];rfl);unfold kq at cp;have pv:Below wx.heap.size wx wx.drew:=(Below.refl _ wx).drew;have hd:=h.below pv;have bP:=FQ (m:=z.2) hd.st fw hp oa hM (hd.a s fw) (by rw[<-nR];exact hd.m.1.1) (by rw[<-nQ];exact hd.m.2.1) cH.symm mH.symm;unfold iw vi at bP;rw[hs]at bP y2 pL ss;have d1:decide ((1:Int)<=(s:Int)+1)=true:=decide_eq_true pL;have d2:decide ((s:Int)+1<=(k:Int))=true:=decide_eq_true ss;have d3:decide (z.2.frm<=(k:Int))=true:=decide_eq_true hf;have H8:bC (fun j=>aa j≠10) aa (relab aa wx.heap.size 12) wx wx.drew:=(h.st.below 12 pv).2;have dM:=zH (fun e w' (hN:Nx (M+11) (relab aa wx.heap.size 12) wx.drew g G e w')=>show e=.returned (.tuple #[])/\Cx (M+11) aa wx g G w' from⟨hN.1,Cx.next rfl zl H8 hN.cx⟩);have bV:=h.st.gr.s.lt;have uV:=h.k.lt;have bY:∀j∈[g,b,q],j<wx.heap.size:=by simp;exact⟨bV,uV,kG⟩
    have iK:=zH (fun(w2:World) (hold:∀j,j<wx.drew.heap.size->relab aa wx.heap.size 12 j<20->w2.heap[j]?=wx.drew.heap[j]?)=>show ∀j∈[g,b,q],w2.heap[j]?=wx.heap[j]? from fun j hj=>hold j (bY j hj) (by
     rw[ae (bY j hj)];rcases List.mem_cons.1 hj with e|e
     ·rw[e,h.st.gr.sl];omega
     ·rcases List.mem_cons.1 e with e|e
      ·rw[e,h.l];omega
      ·rw[List.mem_singleton.1 e,fR];omega))
    obtain⟨k1,kp,j0,j1,j2,j3,j4,j5,j6,j7,j8,j9,j10⟩:=Aa [g,b,q] c1 cp y0 y1 y2 y3 y4 y5 y6 y7 y8 y9 y10;obtain⟨j11,j12⟩:=rQ [g,b,q] y11 y12;obtain⟨n,hn⟩:=zN (G.n);rw[hn]at c1 k1 jX fw;replace hn:=zH hn;replace aQ:=zH aQ;replace ef:=zH ef;replace hp:=zH hp;replace hk:=zH hk;replace hs:=zH hs;replace cH:=zH cH;replace mH:=zH mH;clear h hd nR nQ eu pv H8 hq pL ss hf;obtain⟨ab,ax,aM,bE,bL,dy,ls⟩:=hl.out;obtain⟨fr,rfl,ag⟩:=am ab;rw[ii,ag _ _ ax,ag _ _ aM,ag _ _ bE,ag _ _ bL,ag _ _ dy,ag _ _ ls];clear ab ag ax aM bE bL dy ls;refine cG [1,2,3,1,0,2,1,1,2,3,1,0,2,1,1] f30 rfl ?_;go_wp2_with fail;refine bz (C:=cr [g,b,q] wx) [([0,1,2,3,4,5,6,7,8,9,10,11,12,13],14)] ([],15) (by kernel_rfl) (by kernel_rfl) hQ az ?_;refine au fun K1 cF=>?_
    simp only[af,Zx];repeat go_big_quiet_step(fail)
    apply wpQuiet_nil;go_wp2_with fail;refine bP.mono ?_;rintro e w2 ⟨o,X,rfl,hold,hT⟩;replace hT:=hT false;have hold:=zH (iK.out w2 hold);clear bP iK;go_wp2_with fail;refine⟨aT hold.out,cF _ _ ?_⟩;refine aE ?_;apply wpQuiet_nil;go_wp2_with fail;refine hT.mono ?_;intro e w3 hN;obtain⟨rfl,hC⟩:=dM.out _ w3 hN;replace hC:=zH hC;clear hT hN dM;go_wp2_with fail;refine hK.out _ _ ?_;exact⟨⟨⟨rfl,rfl,rfl,rfl,rfl⟩,rfl⟩,hC.out⟩
   ·have hC:=zH (h.st.cx.mono (M':=M+11) (by omega));have d1:decide ((1:Int)<=z.2.tgt)=true:=decide_eq_true pL;have d2:decide (z.2.tgt<=(k:Int))=true:=decide_eq_true ss;have d3:decide (z.2.frm<=(k:Int))=false:=decide_eq_false hf;clear h eu nR nQ cH mH;obtain⟨ab,ax,aM,bE,bL,dy,ls⟩:=hl.out;obtain⟨fr,rfl,ag⟩:=am ab;rw[ii,ag _ _ ax,ag _ _ aM,ag _ _ bE,ag _ _ bL,ag _ _ dy,ag _ _ ls];clear ab ag ax aM bE bL dy ls;refine cG [1,2,3,1,0,2,1,1,2,3,1,0,2,1,1] f30 rfl ?_;go_wp2_with fail;refine hK.out _ _ ?_;exact⟨⟨⟨rfl,rfl,rfl,rfl,rfl⟩,rfl⟩,hC.out⟩
  ·have hC:=zH (h.st.cx.mono (M':=M+11) (by omega));have d1:decide ((1:Int)<=z.2.tgt)=true:=decide_eq_true pL;have d2:decide (z.2.tgt<=(k:Int))=false:=decide_eq_false ss;clear h eu nR nQ cH mH;obtain⟨ab,ax,aM,bE,bL,dy,ls⟩:=hl.out;obtain⟨fr,rfl,ag⟩:=am ab;rw[ii,ag _ _ ax,ag _ _ aM,ag _ _ bE,ag _ _ bL,ag _ _ dy,ag _ _ ls];clear ab ag ax aM bE bL dy ls;refine cG [1,2,3,1,0,2,1,1,2,3,1,0,2,1,1] f30 rfl ?_;go_wp2_with fail;refine hK.out _ _ ?_;exact⟨⟨⟨rfl,rfl,rfl,rfl,rfl⟩,rfl⟩,hC.out⟩
 ·have hC:=zH (h.st.cx.mono (M':=M+11) (by omega));have d1:decide ((1:Int)<=z.2.tgt)=false:=decide_eq_false pL;clear h eu nR nQ cH mH;obtain⟨ab,ax,aM,bE,bL,dy,ls⟩:=hl.out;obtain⟨fr,rfl,ag⟩:=am ab;rw[ii,ag _ _ ax,ag _ _ aM,ag _ _ bE,ag _ _ bL,ag _ _ dy,ag _ _ ls];clear ab ag ax aM bE bL dy ls;refine cG [1,2,3,1,0,2,1,1,2,3,1,0,2,1,1] f30 rfl ?_;go_wp2_with fail;refine hK.out _ _ ?_;exact⟨⟨⟨rfl,rfl,rfl,rfl,rfl⟩,rfl⟩,hC.out⟩
theorem UJ(hl:l.length=90/\l[0]?=some (.pointer (some ⟨g,0,none⟩))/\l[1]?=some (.int .i64 r)/\l[2]?=some (.int .i64 k))(hK:∀l':List Value,LC l' g r k 0->K ⟨l'.toArray,[]⟩ wx):(bR [0] (aB f30)).wp prog (Exit.then K Q') ⟨l.toArray,[]⟩ wx:=by
 replace hK:=zH hK;obtain⟨ab,ax,aM,bE⟩:=hl;obtain⟨fr,rfl,ag⟩:=am ab;rw[ii,ag _ _ ax,ag _ _ aM,ag _ _ bE];clear ab ag ax aM bE;refine cG [0] f30 rfl ?_;go_wp2_with fail;refine hK.out _ ?_;exact⟨rfl,rfl,rfl,rfl,rfl⟩
theorem UK(hi:i<r)(hr:r<=1000000)(hl:LC l g r k i)(hK:∀l':List Value,LC l' g r k i->K ⟨l'.toArray,[]⟩ wx):(bR [1,2,3,0] (aB f30)).wp prog (Exit.then K Q') ⟨l.toArray,[]⟩ wx:=by
 have d:decide ((i:Int)<(r:Int))=true:=decide_eq_true (by omega);replace hK:=zH hK;obtain⟨ab,ax,aM,bE,bL⟩:=hl;obtain⟨fr,rfl,ag⟩:=am ab;rw[ii,ag _ _ ax,ag _ _ aM,ag _ _ bE,ag _ _ bL];clear ab ag ax aM bE bL;refine cG [1,2,3,0] f30 rfl ?_;go_wp2_with fail;refine hK.out _ ?_;exact⟨rfl,rfl,rfl,rfl,rfl⟩
theorem Pe(hi:¬i<r)(hr:r<=1000000)(hl:LC l g r k i)(hQ:∀l':List Value,LC l' g r k i->Q' (.exit 0) ⟨l'.toArray,[]⟩ wx):(bR [1,2,3,0] (aB f30)).wp prog (Exit.then K Q') ⟨l.toArray,[]⟩ wx:=by
 have d:decide ((i:Int)<(r:Int))=false:=decide_eq_false (by omega);replace hQ:=zH hQ;obtain⟨ab,ax,aM,bE,bL⟩:=hl;obtain⟨fr,rfl,ag⟩:=am ab;rw[ii,ag _ _ ax,ag _ _ aM,ag _ _ bE,ag _ _ bL];clear ab ag ax aM bE bL;refine cG [1,2,3,0] f30 rfl ?_;go_wp2_with fail;refine hQ.out _ ?_;exact⟨rfl,rfl,rfl,rfl,rfl⟩
theorem UL(hi:i<1000000)(hl:LC l g r k i)(hK:∀l':List Value,LC l' g r k (i+1)->K ⟨l'.toArray,[]⟩ wx):(bR [1,2,3,1,1] (aB f30)).wp prog (Exit.then K Q') ⟨l.toArray,[]⟩ wx:=by
 replace hK:=zH hK;obtain⟨ab,ax,aM,bE,bL⟩:=hl;obtain⟨fr,rfl,ag⟩:=am ab;rw[ii,ag _ _ ax,ag _ _ aM,ag _ _ bE,ag _ _ bL];clear ab ag ax aM bE bL;refine cG [1,2,3,1,1] f30 rfl ?_;go_wp2_with fail;refine hK.out _ ?_;exact⟨rfl,rfl,rfl,rfl,by go_num⟩
theorem UG(hl:LC l g r k i)(hK:∀l':List Value,C9 l' g r k i 0->K ⟨l'.toArray,[]⟩ wx):(bR [1,2,3,1,0,2,1,0] (aB f30)).wp prog (Exit.then K Q') ⟨l.toArray,[]⟩ wx:=by
 replace hK:=zH hK;obtain⟨ab,ax,aM,bE,bL⟩:=hl;obtain⟨fr,rfl,ag⟩:=am ab;rw[ii,ag _ _ ax,ag _ _ aM,ag _ _ bE,ag _ _ bL];clear ab ag ax aM bE bL;refine cG [1,2,3,1,0,2,1,0] f30 rfl ?_;go_wp2_with fail;refine hK.out _ ?_;exact⟨⟨rfl,rfl,rfl,rfl,rfl⟩,rfl⟩
theorem UI(ht:t<2000)(hl:C9 l g r k i t)(hK:∀l':List Value,C9 l' g r k i (t+1)->K ⟨l'.toArray,[]⟩ wx):(bR [1,2,3,1,0,2,1,1,2,3,1,1] (aB f30)).wp prog (Exit.then K Q') ⟨l.toArray,[]⟩ wx:=by
 replace hK:=zH hK;obtain⟨ab,ax,aM,bE,bL,dy⟩:=hl.out;obtain⟨fr,rfl,ag⟩:=am ab;rw[ii,ag _ _ ax,ag _ _ aM,ag _ _ bE,ag _ _ bL,ag _ _ dy];clear ab ag ax aM bE bL dy;refine cG [1,2,3,1,0,2,1,1,2,3,1,1] f30 rfl ?_;go_wp2_with fail;refine hK.out _ ?_;exact⟨⟨rfl,rfl,rfl,rfl,rfl⟩,by go_num⟩
theorem UH(h:bB aa wx g G v ps)(ht:t<2000)(hn:0<G.net.length)(yP:G.net.length<=300)(hl:C9 l g r k i t)(hK:∀l':List Value,C9 l' g r k i t->K ⟨l'.toArray,[]⟩ wx):(bR [1,2,3,1,0,2,1,1,2,3,0] (aB f30)).wp prog (Exit.then K Q') ⟨l.toArray,[]⟩ wx:=by
 obtain⟨zs,aD,_⟩:=id h.m;obtain⟨A,c,hv,_⟩:=aD.form;obtain⟨m,hm⟩:=zN (G.net.length);rw[hm]at hv;have c3:=h.s.cell 3;simp only[dQ,vi,Zx]at c3;rw[hv]at c3;have d1:decide ((t:Int)<2000)=true:=decide_eq_true (by omega);have d2:decide ((0:Int)<(m:Int))=true:=decide_eq_true (by omega);rw[hm]at hn yP;replace hm:=zH hm;clear h aD hv;replace hK:=zH hK;obtain⟨ab,ax,aM,bE,bL,dy⟩:=hl.out;obtain⟨fr,rfl,ag⟩:=am ab;rw[ii,ag _ _ ax,ag _ _ aM,ag _ _ bE,ag _ _ bL,ag _ _ dy];clear ab ag ax aM bE bL dy;refine cG [1,2,3,1,0,2,1,1,2,3,0] f30 rfl ?_;go_wp2_with fail;refine hK.out _ ?_;exact⟨⟨rfl,rfl,rfl,rfl,rfl⟩,rfl⟩
theorem Pd(h:bB aa wx g G v ps)(ht:t<=2000)(hn:¬(t<2000/\0<G.net.length))(yP:G.net.length<=300)(hl:C9 l g r k i t)(hQ:∀l':List Value,C9 l' g r k i t->Q' (.exit 4) ⟨l'.toArray,[]⟩ wx):(bR [1,2,3,1,0,2,1,1,2,3,0] (aB f30)).wp prog (Exit.then K Q') ⟨l.toArray,[]⟩ wx:=by
 obtain⟨zs,aD,_⟩:=id h.m;obtain⟨A,c,hv,_⟩:=aD.form;obtain⟨m,hm⟩:=zN (G.net.length);rw[hm]at hv;have c3:=h.s.cell 3;simp only[dQ,vi,Zx]at c3;rw[hv]at c3;rw[hm]at hn yP;replace hm:=zH hm;clear h aD hv;replace hQ:=zH hQ;by_cases ss:t<2000
 ·have d1:decide ((t:Int)<2000)=true:=decide_eq_true (by omega);have d2:decide ((0:Int)<(m:Int))=false:=decide_eq_false (by omega);obtain⟨ab,ax,aM,bE,bL,dy⟩:=hl.out;obtain⟨fr,rfl,ag⟩:=am ab;rw[ii,ag _ _ ax,ag _ _ aM,ag _ _ bE,ag _ _ bL,ag _ _ dy];clear ab ag ax aM bE bL dy;refine cG [1,2,3,1,0,2,1,1,2,3,0] f30 rfl ?_;go_wp2_with fail;refine hQ.out _ ?_;exact⟨⟨rfl,rfl,rfl,rfl,rfl⟩,rfl⟩
 have d1:decide ((t:Int)<2000)=false:=decide_eq_false (by omega);replace hQ:=hQ.out;replace hQ:=zH hQ;obtain⟨ab,ax,aM,bE,bL,dy⟩:=hl.out;obtain⟨fr,rfl,ag⟩:=am ab;rw[ii,ag _ _ ax,ag _ _ aM,ag _ _ bE,ag _ _ bL,ag _ _ dy];clear ab ag ax aM bE bL dy;refine cG [1,2,3,1,0,2,1,1,2,3,0] f30 rfl ?_;go_wp2_with fail;refine hQ.out _ ?_;exact⟨⟨rfl,rfl,rfl,rfl,rfl⟩,rfl⟩
theorem UC(hQ:∀c (a b:Go.Act) w,a.defers=b.defers->Q' (.panic c) a w->Q' (.panic c) b w)(h:Cx M aa w0 g G wx)(hk:k<=G.n)(gg:G.n<=7)(oa:1<=M)(hM:M+22000<=800000000)(hl:LC l g r k i)(hK:∀(l':List Value) w',LC l' g r k i->Cx (M+22000) aa w0 g G w'->K ⟨l'.toArray,[]⟩ w'):(bR [1,2,3,1,0,2,1] (aB f30)).wp prog (Exit.then K Q') ⟨l.toArray,[]⟩ wx:=by
 refine aF [1,2,3,1,0,2,1,0] [1,2,3,1,0,2,1,1] (by kernel_rfl) (UG hl fun l1 h1=>?_);refine eM [1,2,3,1,0,2,1,1,2] rfl ?_;refine nI [1,2,3,1,0,2,1,1,2,3] (by kernel_rfl) (fun n a w=>∃(l:List Value) (t:Nat),a=⟨l.toArray,[]⟩/\C9 l g r k i t/\t<=2000/\n=2000-t/\Cx (M+11*t) aa w0 g G w) 2000 ⟨l1,0,rfl,h1,Nat.zero_le _,rfl,h⟩ ?_;rintro n a w ⟨l2,t,rfl,h2,ht,rfl,ar,G1,v1,ps1,q1,e1,e2,e3⟩;have yP:G1.net.length<=300:=by
  obtain⟨_,_,_,_,q,_⟩:=q1.ok.facts;exact q
 by_cases fo:t<2000/\0<G1.net.length
 ·obtain⟨ss,Nj⟩:=fo;refine aF [1,2,3,1,0,2,1,1,2,3,0] [1,2,3,1,0,2,1,1,2,3,1] (by kernel_rfl) (UH q1.gr ss Nj yP h2 fun l3 h3=>?_);refine aF [1,2,3,1,0,2,1,1,2,3,1,0] [1,2,3,1,0,2,1,1,2,3,1,1] (by kernel_rfl) (eM [1,2,3,1,0,2,1,1,2,3,1,0,2] rfl (fh ?_));refine aF [1,2,3,1,0,2,1,1,2,3,1,0,2,0] [1,2,3,1,0,2,1,1,2,3,1,0,2,1] (by kernel_rfl) (UD q1 (by omega) (by omega) Nj h3 fun l4 w4 z h4=>?_);obtain⟨px,hz,qv,eu,JP,uV⟩:=h4;refine aF [1,2,3,1,0,2,1,1,2,3,1,0,2,1,0] [1,2,3,1,0,2,1,1,2,3,1,0,2,1,1] (by kernel_rfl) (UE qv (by omega) (by omega) hz eu (aA zl) JP px fun l5 w5 v5 h5=>?_);obtain⟨na,Rq,Wd⟩:=h5;have Wc:=(q1.below 10 uV).2;refine UF (fun _ _ _ _ e h=>hQ _ _ _ _ e h) Rq (by omega) (by omega) (by show k<=G1.n;omega) (by show G1.n<=7;omega) na fun l6 w6 h6=>?_
  obtain⟨Dh,hC⟩:=h6;have V0:Cx (M+11*(t+1)) aa w0 g G w6:=(Cx.next e1 e2 (e3.ten (Wc.ten Wd)) (show Cx (M+11*t+11) _ w5 g G1 w6 from hC)).mono (by omega);exact UI ss Dh fun l7 h7=>⟨2000-(t+1),by omega,l7,t+1,rfl,h7,ss,rfl,V0⟩
 ·refine aF [1,2,3,1,0,2,1,1,2,3,0] [1,2,3,1,0,2,1,1,2,3,1] (by kernel_rfl) (Pd q1.gr ht fo yP h2 fun l3 h3=>?_);exact hK _ _ h3.1 (Cx.next e1 e2 e3 (q1.cx.mono (by omega)))
theorem DF(h:ku M aa wx g G v ps)(hk:k<=G.n)(oa:1<=M)(hr:r<=1000)(hM:M+22077*r<=800000000) :
  Calls prog 30 #[.pointer (some ⟨g,0,none⟩),.int .i64 r,.int .i64 k] wx (Nx (M+22077*r) aa wx g G):=by
 have gg:G.n<=7:=by
  obtain⟨q,_⟩:=h.ok.facts;exact q.2
 refine bJ (args:=[.pointer (some ⟨g,0,none⟩),.int .i64 r,.int .i64 k]) 90 func30 (by kernel_rfl) ntmps30 (by simp) fun la gF cQ=>?_
 refine tz (c:=(aB f30)) [] (by kernel_rfl) ?_;refine fh (aF [0] [1] (by kernel_rfl) (UJ ⟨gF,cQ 0 _ rfl,cQ 1 _ rfl,cQ 2 _ rfl⟩ fun l1 h1=>?_));refine eM [1,2] rfl ?_;refine nI [1,2,3] (by kernel_rfl) (fun n a w=>∃(l:List Value) (i:Nat),a=⟨l.toArray,[]⟩/\LC l g r k i/\i<=r/\n=r-i/\Cx (M+22077*i) aa wx g G w) r ⟨l1,0,rfl,h1,Nat.zero_le _,rfl,h.cx⟩ ?_;rintro n a w ⟨l2,i,rfl,h2,hi,rfl,hC⟩;by_cases fo:i<r
 ·have hb:M+22077*(i+1)<=800000000:=by omega
  refine aF [1,2,3,0] [1,2,3,1] (by kernel_rfl) (UK fo (by omega) h2 fun l3 h3=>?_);refine aF [1,2,3,1,0] [1,2,3,1,1] (by kernel_rfl) (eM [1,2,3,1,0,2] rfl (fh ?_));refine aF [1,2,3,1,0,2,0] [1,2,3,1,0,2,1] (by kernel_rfl) (UB hC hk gg (by omega) h3 fun l4 w4 h4=>?_);refine UC (fun _ _ _ _ e h=>⟨e.symm.trans h.1,h.2⟩) h4.2 hk gg (by omega) (by omega) h4.1 fun l5 w5 h5 V3=>?_
  exact UL (by omega) h5 fun l6 h6=>⟨r-(i+1),by omega,l6,i+1,rfl,h6,fo,rfl,V3.mono (by omega)⟩
 ·obtain rfl:i=r:=by omega
  refine aF [1,2,3,0] [1,2,3,1] (by kernel_rfl) (Pe fo (by omega) h2 fun l3 h3=>?_);exact ai rfl rfl ⟨rfl,hC⟩
end
def pR(M:Nat)(ao aa:Nat->Nat)(w0 w:World)(g:Nat)(G:Gp)(v:Gv)(ps:List Nat)(u:Value)(ms:List Mg):Prop:=
 ku M aa w g G v ps/\gW aa 11 10 w u ms/\bC (fun j=>ao j≠10) ao aa w0 w
theorem Ks{aa:Nat->Nat}{w:World}{zs:List ((Value×Value)×Mg)}(h:∀z∈zs,eA aa 10 w z):∀u∈zs.flatMap iC,u.oneCell'=true:=fun u hu=>by
 obtain⟨z,hz,hu⟩:=List.mem_flatMap.1 hu;obtain⟨Ae,ne,ce,_,nR,_⟩:=id (h z hz).1.1;obtain⟨Ad,cd,nQ,_⟩:=id (h z hz).2.1;simp only[iC,List.mem_cons,List.not_mem_nil,or_false]at hu;rcases hu with rfl|rfl|rfl|rfl|rfl|rfl|rfl|rfl|rfl|rfl|rfl|rfl|rfl <;> first|rfl|(rw[nR];rfl)|(rw[nQ];rfl)
theorem dh{w:World}{ops:Array Oper}{rest:List Oper}{o:Oper}{a:Go.Act}{Q:Exit->Go.Act->World->Prop}(iJ:o.guard=none)(s x:Operand)
  (ho:o.op=.call {callee:=.builtin .append,args:=#[s,x],argTypes:=#[47,47]}) {aa:Nat->Nat} {u:Value} {ms ms2:List Mg} {zs:List ((Value×Value)×Mg)} (hs:a.eval s=u) (aJ:gW aa 11 10 w u ms)
  {A:Option Addr} {m c n:Nat} (hx:a.eval x=.slice A m c) (hr:cj w 13 A m (zs.flatMap iC)) (hz:∀z∈zs,eA aa 10 w z) (hm:zs.map (·.2)=ms2) (hn:ms.length=n) (uZ:n+m<=1000000)
  (h:∀A' c' w',gW (relab aa w.heap.size 11) 11 10 w' (.slice A' (n+m) c') (ms++ms2)->Fr (aL aa 11) w w'->wpList prog ops Q rest (a.put o.dst (.slice A' (n+m) c')) w'):wpList prog ops Q (o::rest) a w:=by
 obtain⟨i0,fT,gv,fC,fK⟩:=info_parts qL;obtain⟨zm,aD,dv,bN⟩:=aJ;rw[hn]at aD;have fB:zs.length=m:=by
  have:=hr.1;rw[eG je]at this;omega
 refine cO iJ s x 47 ho 39 i0 _ 13 136 underlying47 fT gv fC fK rfl (by omega) u n _ hs aD A m c _ hx hr (Ks hz) (by unfold maxLen;omega) (by omega) fun A' c' w' h3 h4=>h A' c' w' ⟨zm++zs,?_,fun z BZ=>?_,?_⟩ h4
 ·rw[List.length_append,hn,<-hm,List.length_map,fB,List.flatMap_append];exact h3
 ·have k:eA aa 10 w z:=by
   rcases List.mem_append.1 BZ with BZ|BZ
   ·exact dv z BZ
   ·exact hz z BZ
  have k1:eA (relab aa w.heap.size 11) 10 w z:=k.relabel fun j hj e=>(ae hj).trans e
  exact k1.keep fun j e hj=>h4.block j hj fun e2=>by
   have e2:aa j=11:=e2;rw[ae hj]at e;omega
 ·rw[List.map_append,bN,hm]
section
variable {ao aa ac ar:Nat->Nat}{g b s p m t n:Nat}{G G' G1:Gp}{v v':Gv}{ps ps':List Nat}{z:(Value×Value)×Mg}{w w0 w1 wx w':World}{K:Go.Act->World->Prop}{Q':Exit->Go.Act->World->Prop}{l:List Value}{H:Ending->World->Prop}{M M':Nat}{ms ms2:List Mg}{u:Value}{sy lo:Bool}
theorem pR.done(h:pR M ao aa w0 wx g G v ps u ms)(Kd:∀x∈ms,x∈G.net)(hl:ms.length<=G.net.length)(hk:(wx.setCell ⟨g,3,none⟩ u)=w'):ku M (ew aa 11 4) w' g {G with net:=ms} {v with net:=u} ps/\bC (fun j=>ao j≠10) ao (ew aa 11 4) w0 w':=by
 obtain⟨bP,⟨zs,aD,dv,bN⟩,hf⟩:=h;subst hk;have hS:=bP.gr.s.set_ 3 u;have hF:=Fr.set (w:=wx) g 3 u;have bV:=bP.gr.s.lt;have hm:∀j,aa j≠11->ew aa 11 4 j=aa j:=fun j hn=>if_neg hn
 have dn:∀j,j<wx.heap.size->aa j≠1->(wx.setCell ⟨g,3,none⟩ u).heap[j]?=wx.heap[j]?:=fun j hj h1=>hF.block j hj fun e=>h1 (by rw[e];exact bP.gr.sl)
 have hL:bC (fun j=>aa j=11\/aa j=1) aa (ew aa 11 4) wx (wx.setCell ⟨g,3,none⟩ u):=⟨hF.size,fun j hj hn=>⟨hm j fun e=>hn (.inl e),dn j hj fun e=>hn (.inr e)⟩,hF.os,hF.tape,hF.output⟩;have k10:∀j,j<wx.heap.size->aa j=10->¬(aa j=11\/aa j=1):=fun j _ e e2=>by omega
 refine⟨⟨bB.turn (fun i=>i=4) bP.gr hS hF.size (fun j _ hg=>hm j (by unfold cW at hg;omega)) (fun j hj _ h1 _=>dn j hj h1) (by decide) (.inr ⟨by decide,rfl,rfl,rfl⟩) (.inr ⟨by decide,rfl,rfl⟩) (.inl ⟨zs,?_,fun y hy=>?_,bN⟩) (.inr ⟨by decide,rfl,rfl⟩) (.inr ⟨by decide,rfl,rfl⟩) (.inr ⟨by decide,rfl,rfl⟩) (.inr ⟨by decide,rfl,rfl⟩),hL.srvs (fun j _ e=>by omega) bP.sv,bP.ok.fewer Kd hl,bP.rn⟩,hf.trans hL fun j _ hn e hx=>by rw[e]at hx;exact hn (by omega)⟩
 ·show eP (ew aa 11 4) 4 _ 39 13 u ms.length _;refine eP.of_row ((aD.relabel (ac:=ew aa 11 4) (k:=4) fun j _ e=>if_pos e).keep fun j e hj=>hF.block j hj fun e2=>?_);rw[e2,hm g (by rw[bP.gr.sl];omega),bP.gr.sl]at e;omega
 ·exact hL.one (P:=fun aa w=>eA aa 10 w y) (fun _ _ _ h1 h2=>h1.relabel h2) (fun _ _ _ h1 h2=>h1.keep h2) k10 (dv y hy)
theorem pR.start(h:ku M aa wx g G v ps)(h0:bC (fun j=>ao j≠10) ao aa w0 wx):pR M ao aa w0 wx g G v ps (.slice none 0 0) []:=⟨h,⟨[],aX.nil _ _ _ _ _,(fun _ h=>by cases h),rfl⟩,h0⟩
theorem pR.more(h:pR M ao aa w0 wx g G v ps u ms){u':Value}(hn:gW (relab aa wx.heap.size 11) 11 10 w' u' ms2)(hF:Fr (aL aa 11) wx w'):pR M ao (relab aa wx.heap.size 11) w0 w' g G v ps u' ms2:=by
 obtain⟨bP,_,hf⟩:=h;have hL:bC (fun j=>aa j=11) aa (relab aa wx.heap.size 11) wx w':=bC.of_fr hF fun j hj hn=>⟨ae hj,hn⟩
 exact⟨⟨hL.grp (fun j _ hg e=>by unfold cW at hg;omega) bP.gr,hL.srvs (fun j _ e=>by omega) bP.sv,bP.ok,bP.rn⟩,hn,hf.trans hL fun j _ hn e hx=>by rw[e]at hx;exact hn (by omega)⟩
theorem Vh(hl:l.length=69/\l[0]?=some (.pointer (some ⟨g,0,none⟩))/\l[1]?=some (.int .i64 t)/\l[2]?=some (.bool sy)/\l[3]?=some (.bool lo)/\l[8]?=some (.pointer (some ⟨b,0,none⟩)))(hK:∀l':List Value,l'.length=69/\l'[0]?=some (.pointer (some ⟨g,0,none⟩))/\l'[1]?=some (.int .i64 t)/\l'[2]?=some (.bool sy)/\l'[3]?=some (.bool lo)/\l'[8]?=some (.pointer (some ⟨b,0,none⟩))/\l'[9]?=some (.slice none 0 0)->K ⟨l'.toArray,[]⟩ wx):(bR [1,0,1,4,0] (aB f85)).wp prog (Exit.then K Q') ⟨l.toArray,[]⟩ wx:=by
 replace hK:=zH hK;obtain⟨ab,ax,aM,bE,bb,dy⟩:=hl;obtain⟨fr,rfl,ag⟩:=am ab;rw[eZ,ag _ _ ax,ag _ _ aM,ag _ _ bE,ag _ _ bb,ag _ _ dy];clear ab ag ax aM bE bb dy;refine cG [1,0,1,4,0] f85 rfl ?_;go_wp2_with fail;refine hK.out _ ?_;exact⟨rfl,rfl,rfl,rfl,rfl,rfl,rfl⟩
theorem Vi(h:pR M ao aa w0 wx g G v ps (.slice none 0 0) [])(xP:t<G.net.length)(hl:l.length=69/\l[0]?=some (.pointer (some ⟨g,0,none⟩))/\l[1]?=some (.int .i64 t)/\l[2]?=some (.bool sy)/\l[3]?=some (.bool lo)/\l[8]?=some (.pointer (some ⟨b,0,none⟩))/\l[9]?=some (.slice none 0 0))(hK:∀(l':List Value) w' ac u,(l'.length=69/\l'[0]?=some (.pointer (some ⟨g,0,none⟩))/\l'[1]?=some (.int .i64 t)/\l'[2]?=some (.bool sy)/\l'[3]?=some (.bool lo)/\l'[8]?=some (.pointer (some ⟨b,0,none⟩))/\l'[9]?=some (u))/\pR M ao ac w0 w' g G v ps u (G.net.take t)->K ⟨l'.toArray,[]⟩ w'):(bR [1,0,1,4,1,0] (aB f85)).wp prog (Exit.then K Q') ⟨l.toArray,[]⟩ wx:=by
 have iN:G.net.length<=300:=by
  obtain⟨_,_,_,_,q,_⟩:=h.1.ok.facts;exact q
 obtain⟨zs,aD,dv,bN⟩:=id h.1.gr.m;obtain⟨m,iW⟩:=zN (G.net.length);rw[iW]at aD xP iN;have E6:zs.length=m:=by
  rw[<-iW,<-bN,List.length_map]
 obtain⟨A,c,hv,lO,eW⟩:=aD.form;rw[hv]at aD;have eb:=aD.rds;obtain⟨ad,rfl,_⟩:=eb.2 (by omega);have f3:=h.1.gr.s.cell 3;simp only[dQ,vi,Zx]at f3;rw[hv]at f3;have iM:=h.2.1;have gu:=eb.take (k:=t) (by omega);rw[<-jB je]at gu;have fC:∀z∈zs.take t,eA aa 10 wx z:=fun z hz=>dv z (List.mem_of_mem_take hz)
 have uX:(zs.take t).map (·.2)=G.net.take t:=by rw[List.map_take,bN]
 have fo:=zH (fun(A':Option Addr) (c':Nat) (w':World) (hn:gW (relab aa wx.heap.size 11) 11 10 w' (.slice A' (0+t) c') ([]++G.net.take t)) (hF:Fr (aL aa 11) wx w')=>show pR M ao (relab aa wx.heap.size 11) w0 w' g G v ps (.slice A' t c') (G.net.take t)from by rw[Nat.zero_add]at hn;exact h.more hn hF);have R3:t<=c:=by omega
 replace hK:=zH hK;replace iW:=zH iW;clear h aD dv bN eb hv;obtain⟨ab,ax,aM,bE,bb,dy,ls⟩:=hl;obtain⟨fr,rfl,ag⟩:=am ab;rw[eZ,ag _ _ ax,ag _ _ aM,ag _ _ bE,ag _ _ bb,ag _ _ dy,ag _ _ ls];clear ab ag ax aM bE bb dy ls;refine cG [1,0,1,4,1,0] f85 rfl ?_;go_wp2_with (at_builtin;refine dh rfl (.tmp 19) (.tmp 25) rfl rfl iM rfl gu fC uX rfl (by show 0+t<=1000000;omega) ?_;intro A3 c3 w3 bg dW;have iY:=zH (fo.out A3 c3 w3 bg dW);clear fo dW bg iM);refine hK.out _ _ (relab aa wx.heap.size 11) (.slice A3 t c3) ?_;exact⟨⟨rfl,rfl,rfl,rfl,rfl,rfl,rfl⟩,iY.out⟩
theorem Vj(h:pR M ao aa w0 wx g G v ps u (G.net.take t))(xP:t<G.net.length)(hl:l.length=69/\l[0]?=some (.pointer (some ⟨g,0,none⟩))/\l[1]?=some (.int .i64 t)/\l[2]?=some (.bool sy)/\l[3]?=some (.bool lo)/\l[8]?=some (.pointer (some ⟨b,0,none⟩))/\l[9]?=some (u))(hK:∀(l':List Value) w' ac u,(l'.length=69/\l'[0]?=some (.pointer (some ⟨g,0,none⟩))/\l'[1]?=some (.int .i64 t)/\l'[2]?=some (.bool sy)/\l'[3]?=some (.bool lo)/\l'[8]?=some (.pointer (some ⟨b,0,none⟩))/\l'[9]?=some (u))/\pR M ao ac w0 w' g G v ps u (G.net.eraseIdx t)->K ⟨l'.toArray,[]⟩ w'):(bR [1,0,1,4,1,1,0] (aB f85)).wp prog (Exit.then K Q') ⟨l.toArray,[]⟩ wx:=by
 have iN:G.net.length<=300:=by
  obtain⟨_,_,_,_,q,_⟩:=h.1.ok.facts;exact q
 obtain⟨zs,aD,dv,bN⟩:=id h.1.gr.m;obtain⟨m,iW⟩:=zN (G.net.length);rw[iW]at aD xP iN;have E6:zs.length=m:=by
  rw[<-iW,<-bN,List.length_map]
 obtain⟨A,c,hv,lO,eW⟩:=aD.form;rw[hv]at aD;have eb:=aD.rds;obtain⟨ad,rfl,_⟩:=eb.2 (by omega);have f3:=h.1.gr.s.cell 3;simp only[dQ,vi,Zx]at f3;rw[hv]at f3;have iM:=h.2.1;have gu:=eb.cut (k:=t+1) (by omega) lO;rw[<-jz je]at gu;have fC:∀z∈zs.drop (t+1),eA aa 10 wx z:=fun z hz=>dv z (List.mem_of_mem_drop hz)
 have uX:(zs.drop (t+1)).map (·.2)=G.net.drop (t+1):=by rw[List.map_drop,bN]
 have uo:(G.net.take t).length=t:=by rw[List.length_take];omega
 have fo:=zH (fun(A':Option Addr) (c':Nat) (w':World) (hn:gW (relab aa wx.heap.size 11) 11 10 w' (.slice A' (t+(m-(t+1))) c') (G.net.take t++G.net.drop (t+1))) (hF:Fr (aL aa 11) wx w')=>show pR M ao (relab aa wx.heap.size 11) w0 w' g G v ps (.slice A' (t+(m-(t+1))) c') (G.net.eraseIdx t)from h.more (by rw[List.eraseIdx_eq_take_drop_succ];exact hn) hF);have R3:t+1<=c:=by omega
 have IN:t+1<=m:=by omega
 replace hK:=zH hK;replace iW:=zH iW;replace uo:=zH uo;clear h aD dv bN eb hv;by_cases fP:c=t+1
 ·rw[if_pos fP]at gu;have d1:(c=t+1)=True:=eq_true fP;obtain⟨ab,ax,aM,bE,bb,dy,ls⟩:=hl;obtain⟨fr,rfl,ag⟩:=am ab;rw[eZ,ag _ _ ax,ag _ _ aM,ag _ _ bE,ag _ _ bb,ag _ _ dy,ag _ _ ls];clear ab ag ax aM bE bb dy ls;refine cG [1,0,1,4,1,1,0] f85 rfl ?_;go_wp2_with (at_builtin;refine dh rfl (.tmp 27) (.tmp 34) rfl rfl iM rfl gu fC uX uo.out (by omega) ?_;intro A3 c3 w3 bg dW;have iY:=zH (fo.out A3 c3 w3 bg dW);clear fo dW bg iM);refine hK.out _ _ (relab aa wx.heap.size 11) (.slice A3 (t+(m-(t+1))) c3) ?_;exact⟨⟨rfl,rfl,rfl,rfl,rfl,rfl,rfl⟩,iY.out⟩
 ·rw[if_neg fP]at gu;have d1:(c=t+1)=False:=eq_false fP;obtain⟨ab,ax,aM,bE,bb,dy,ls⟩:=hl;obtain⟨fr,rfl,ag⟩:=am ab;rw[eZ,ag _ _ ax,ag _ _ aM,ag _ _ bE,ag _ _ bb,ag _ _ dy,ag _ _ ls];clear ab ag ax aM bE bb dy ls;refine cG [1,0,1,4,1,1,0] f85 rfl ?_;go_wp2_with (at_builtin;refine dh rfl (.tmp 27) (.tmp 34) rfl rfl iM rfl gu fC uX uo.out (by omega) ?_;intro A3 c3 w3 bg dW;have iY:=zH (fo.out A3 c3 w3 bg dW);clear fo dW bg iM);refine hK.out _ _ (relab aa wx.heap.size 11) (.slice A3 (t+(m-(t+1))) c3) ?_;exact⟨⟨rfl,rfl,rfl,rfl,rfl,rfl,rfl⟩,iY.out⟩
theorem Vk(h:pR M ao aa w0 wx g G v ps u (G.net.eraseIdx t))(hl:l.length=69/\l[0]?=some (.pointer (some ⟨g,0,none⟩))/\l[1]?=some (.int .i64 t)/\l[2]?=some (.bool sy)/\l[3]?=some (.bool lo)/\l[8]?=some (.pointer (some ⟨b,0,none⟩))/\l[9]?=some (u))(hK:∀(l':List Value) w' ac v',(l'.length=69/\l'[0]?=some (.pointer (some ⟨g,0,none⟩))/\l'[1]?=some (.int .i64 t)/\l'[2]?=some (.bool sy)/\l'[3]?=some (.bool lo)/\l'[8]?=some (.pointer (some ⟨b,0,none⟩)))/\ku M ac w' g {G with net:=G.net.eraseIdx t} v' ps/\bC (fun j=>ao j≠10) ao ac w0 w'->K ⟨l'.toArray,[]⟩ w'):(bR [1,0,1,4,1,1,1] (aB f85)).wp prog (Exit.then K Q') ⟨l.toArray,[]⟩ wx:=by
 have bV:=h.1.gr.s.lt;have ff:=h.1.gr.s.free 3;have f3:=h.1.gr.s.cell 3;simp only[dQ,vi,Zx]at f3;obtain⟨A,c,hu,_⟩:∃A c,u=.slice A (G.net.eraseIdx t).length c/\True:=by
  obtain⟨zs,⟨A,c,e,_⟩,_⟩:=id h.2.1;exact⟨A,c,e,trivial⟩
 have aO:=zH (h.done (fun x hx=>ox hx) (List.length_eraseIdx_le ..) rfl);obtain⟨mm,og⟩:=zN ((G.net.eraseIdx t).length);rw[og]at hu;subst hu;replace hK:=zH hK;replace og:=zH og;clear h;obtain⟨ab,ax,aM,bE,bb,dy,ls⟩:=hl;obtain⟨fr,rfl,ag⟩:=am ab;rw[eZ,ag _ _ ax,ag _ _ aM,ag _ _ bE,ag _ _ bb,ag _ _ dy,ag _ _ ls];clear ab ag ax aM bE bb dy ls;refine cG [1,0,1,4,1,1,1] f85 rfl ?_;go_wp2_with fail;exact hK.out _ _ _ _ ⟨⟨rfl,rfl,rfl,rfl,rfl,rfl⟩,aO.out⟩
theorem bT{l:List Value}{i:Nat}{v:Value}(h:l[i]?=some v):(⟨l.toArray,[]⟩:Go.Act).eval (.tmp i)=v:=by
 show l.toArray.getD i undef=v;rw[Array.getD_eq_getD_getElem?,List.getElem?_toArray,h];rfl
theorem pO{P:Program}{Q:Exit->Go.Act->World->Prop}{a:Go.Act}{c:Code}(p:List Nat)(h:CF p c=some .skip)(hw:Q .normal a wx):(bR p c).wp P Q a wx:=by
 unfold bR;rw[h];exact wp_skip hw
theorem Vf(h:ku M aa wx g G v ps)(hn:t<G.net.length)(hl:l.length=69/\l[0]?=some (.pointer (some ⟨g,0,none⟩))/\l[1]?=some (.int .i64 t)/\l[2]?=some (.bool sy)/\l[3]?=some (.bool lo))(hK:∀(l':List Value) w' z,(l'.length=69/\l'[0]?=some (.pointer (some ⟨g,0,none⟩))/\l'[1]?=some (.int .i64 t)/\l'[2]?=some (.bool sy)/\l'[3]?=some (.bool lo)/\l'[8]?=some (.pointer (some ⟨wx.heap.size,0,none⟩)))/\G.net[t]?=some z.2/\ku M (relab aa wx.heap.size 10) w' g G v ps/\ay w' wx.heap.size 39 (iC z).toArray/\eA (relab aa wx.heap.size 10) 10 w' z/\Below wx.heap.size wx w'->K ⟨l'.toArray,[]⟩ w'):(bR [0] (aB f85)).wp prog (Exit.then K Q') ⟨l.toArray,[]⟩ wx:=by
 obtain⟨zs,aD,dv,bN⟩:=h.gr.m;have iN:G.net.length<=300:=by
  obtain⟨_,_,_,_,q,_⟩:=h.ok.facts;exact q
 obtain⟨m,hm⟩:=zN (G.net.length);rw[hm]at hn aD iN;obtain⟨A,c,hv,lO,eW⟩:=aD.form;rw[hv]at aD;obtain⟨ad,z,rfl,hz,c0,ck⟩:=RdM.at6 aD.rds hn;have c1:wx.cell? ⟨(ad.add (t*13)).block,(ad.add (t*13)).off+1,none⟩=some (.int .i64 z.2.frm):=ck 1 _ (by omega) (by omega) rfl;have c2:wx.cell? ⟨(ad.add (t*13)).block,(ad.add (t*13)).off+2,none⟩=some (.int .i64 z.2.tgt):=ck 2 _ (by omega) (by omega) rfl;have c3:wx.cell? ⟨(ad.add (t*13)).block,(ad.add (t*13)).off+3,none⟩=some (.int .i64 z.2.term):=ck 3 _ (by omega) (by omega) rfl;have c4:wx.cell? ⟨(ad.add (t*13)).block,(ad.add (t*13)).off+4,none⟩=some (.int .i64 z.2.idx):=ck 4 _ (by omega) (by omega) rfl;have c5:wx.cell? ⟨(ad.add (t*13)).block,(ad.add (t*13)).off+5,none⟩=some (.int .i64 z.2.logTerm):=ck 5 _ (by omega) (by omega) rfl;have c6:wx.cell? ⟨(ad.add (t*13)).block,(ad.add (t*13)).off+6,none⟩=some (.int .i64 z.2.commit):=ck 6 _ (by omega) (by omega) rfl;have c7:wx.cell? ⟨(ad.add (t*13)).block,(ad.add (t*13)).off+7,none⟩=some (.int .i64 z.2.round):=ck 7 _ (by omega) (by omega) rfl;have c8:wx.cell? ⟨(ad.add (t*13)).block,(ad.add (t*13)).off+8,none⟩=some (.bool z.2.reject):=ck 8 _ (by omega) (by omega) rfl;have c9:wx.cell? ⟨(ad.add (t*13)).block,(ad.add (t*13)).off+9,none⟩=some (.int .i64 z.2.offset):=ck 9 _ (by omega) (by omega) rfl;have c10:wx.cell? ⟨(ad.add (t*13)).block,(ad.add (t*13)).off+10,none⟩=some (.int .i64 z.2.total):=ck 10 _ (by omega) (by omega) rfl;have c11:wx.cell? ⟨(ad.add (t*13)).block,(ad.add (t*13)).off+11,none⟩=some z.1.1:=ck 11 _ (by omega) (by omega) rfl;have c12:wx.cell? ⟨(ad.add (t*13)).block,(ad.add (t*13)).off+12,none⟩=some z.1.2:=ck 12 _ (by omega) (by omega) rfl;have oV:=dv z (List.mem_of_getElem? hz);obtain⟨Ae,ne,ce,_,nR,_⟩:=id oV.1.1;obtain⟨Ad,cd,nQ,_⟩:=id oV.2.1;obtain⟨nd,mH⟩:=zN (z.2.data.length);rw[nR]at c11;rw[nQ,mH]at c12;have gv:G.net[t]?=some z.2:=by rw[<-bN,List.getElem?_map,hz];rfl
 have hb:Below wx.heap.size wx (wx.alloc (.cells #[.int .i64 z.2.kind,.int .i64 z.2.frm,.int .i64 z.2.tgt,.int .i64 z.2.term,.int .i64 z.2.idx,.int .i64 z.2.logTerm,.int .i64 z.2.commit,.int .i64 z.2.round,.bool z.2.reject,.int .i64 z.2.offset,.int .i64 z.2.total,.slice Ae ne ce,.slice Ad nd cd] 39)):=(Below.refl _ wx).alloc zl _;have e:(iC z).toArray=#[.int .i64 z.2.kind,.int .i64 z.2.frm,.int .i64 z.2.tgt,.int .i64 z.2.term,.int .i64 z.2.idx,.int .i64 z.2.logTerm,.int .i64 z.2.commit,.int .i64 z.2.round,.bool z.2.reject,.int .i64 z.2.offset,.int .i64 z.2.total,.slice Ae ne ce,.slice Ad nd cd]:=by
  unfold iC;rw[nR,nQ,mH];rfl
 have eu:ay (wx.alloc (.cells #[.int .i64 z.2.kind,.int .i64 z.2.frm,.int .i64 z.2.tgt,.int .i64 z.2.term,.int .i64 z.2.idx,.int .i64 z.2.logTerm,.int .i64 z.2.commit,.int .i64 z.2.round,.bool z.2.reject,.int .i64 z.2.offset,.int .i64 z.2.total,.slice Ae ne ce,.slice Ad nd cd] 39)) wx.heap.size 39 (iC z).toArray:=by
  rw[e];exact ay.new wx 39 _
 have aO:=zH (And.intro gv (And.intro (h.below 10 hb).1 (And.intro eu (And.intro ((bC.new 10 aa hb).one (P:=fun aa w=>eA aa 10 w z) (fun _ _ _ h1 h2=>h1.relabel h2) (fun _ _ _ h1 h2=>h1.keep h2) (fun _ _ _ hf=>hf) oV) hb))));have f3:=h.gr.s.cell 3;simp only[dQ,vi,Zx]at f3;rw[hv]at f3;have Uk:t<300:=by omega
 replace hK:=zH hK;replace hm:=zH hm;clear h aD dv bN hz ck oV hb eu mH gv e nR nQ hv;obtain⟨ab,ax,aM,bE,bb⟩:=hl;obtain⟨fr,rfl,ag⟩:=am ab;rw[eZ,ag _ _ ax,ag _ _ aM,ag _ _ bE,ag _ _ bb];clear ab ag ax aM bE bb;refine cG [0] f85 rfl ?_;go_wp2_with fail;refine hK.out _ _ z ?_;exact⟨⟨rfl,rfl,rfl,rfl,rfl,rfl⟩,aO.out⟩
theorem Vg(hl:l.length=69/\l[0]?=some (.pointer (some ⟨g,0,none⟩))/\l[1]?=some (.int .i64 t)/\l[2]?=some (.bool sy)/\l[3]?=some (.bool lo)/\l[8]?=some (.pointer (some ⟨b,0,none⟩)))(hK:∀(l':List Value),(l'.length=69/\l'[0]?=some (.pointer (some ⟨g,0,none⟩))/\l'[1]?=some (.int .i64 t)/\l'[2]?=some (.bool sy)/\l'[3]?=some (.bool lo)/\l'[8]?=some (.pointer (some ⟨b,0,none⟩)))/\l'[18]?=some (.bool (!sy))->K ⟨l'.toArray,[]⟩ wx):(bR [1,0,0] (aB f85)).wp prog (Exit.then K Q') ⟨l.toArray,[]⟩ wx:=by
 replace hK:=zH hK;obtain⟨ab,ax,aM,bE,bb,dy⟩:=hl;obtain⟨fr,rfl,ag⟩:=am ab;rw[eZ,ag _ _ ax,ag _ _ aM,ag _ _ bE,ag _ _ bb,ag _ _ dy];clear ab ag ax aM bE bb dy;refine cG [1,0,0] f85 rfl ?_;go_wp2_with fail;refine hK.out _ ?_;exact⟨⟨rfl,rfl,rfl,rfl,rfl,rfl⟩,rfl⟩
theorem Vl(hQ:∀c (a b:Go.Act) w,a.defers=b.defers->Q' (.panic c) a w->Q' (.panic c) b w)(h:vx M aa wx g b G v ps z)(oa:1<=M)(hM:M<=800000000)(gg:G.n<=7)(hl:l.length=69/\l[0]?=some (.pointer (some ⟨g,0,none⟩))/\l[1]?=some (.int .i64 t)/\l[2]?=some (.bool sy)/\l[3]?=some (.bool lo)/\l[8]?=some (.pointer (some ⟨b,0,none⟩)))(hK:∀(l':List Value) w',l'.length=69/\Cx (M+11) aa wx g G w'->K ⟨l'.toArray,[]⟩ w'):(bR [1,1] (aB f85)).wp prog (Exit.then K Q') ⟨l.toArray,[]⟩ wx:=by
 obtain⟨Ae,ce,nR⟩:=da.formL h.m.1.1;obtain⟨Ad,cd,nQ,_⟩:=id h.m.2.1;obtain⟨ne,cH⟩:=zN (z.2.entries.length);obtain⟨nd,mH⟩:=zN (z.2.data.length);rw[cH]at nR;rw[mH]at nQ;have eu:=h.k;rw[show(iC z).toArray=#[.int .i64 z.2.kind,.int .i64 z.2.frm,.int .i64 z.2.tgt,.int .i64 z.2.term,.int .i64 z.2.idx,.int .i64 z.2.logTerm,.int .i64 z.2.commit,.int .i64 z.2.round,.bool z.2.reject,.int .i64 z.2.offset,.int .i64 z.2.total,.slice Ae ne ce,.slice Ad nd cd] by
  unfold iC;rw[nR,nQ];rfl]at eu
 obtain⟨y0,y1,y2,y3,y4,y5,y6,y7,y8,y9,y10,y11,y12,-⟩:=eu.cs [0,1,2,3,4,5,6,7,8,9,10,11,12];simp only[Zx]at y0 y1 y2 y3 y4 y5 y6 y7 y8 y9 y10 y11 y12;obtain⟨c0,c1,-⟩:=h.st.gr.s.cs [0,1];simp only[dQ,vi,Zx]at c0 c1;have bV:=h.st.gr.s.lt;have uV:=h.k.lt;obtain⟨k0,i1,i2⟩:=C3 [g,b] c0 y1 y2;obtain⟨n,hn⟩:=zN (G.n);rw[hn]at c0 k0;have Xq:n<=7:=by omega
 have sR:=zH (show Cx (M+11) aa wx g G wx.drew from Cx.next rfl zl (h.st.below 12 ((Below.refl _ wx).drew)).2 ((h.st.below 12 ((Below.refl _ wx).drew)).1.cx.mono (by omega)));replace hK:=zH hK;by_cases pL:1<=z.2.tgt
 ·by_cases ss:z.2.tgt<=n
  ·obtain⟨s,hs⟩:∃s:Nat,z.2.tgt=(s:Int)+1:=⟨(z.2.tgt-1).toNat,by omega⟩;have fw:s<G.n:=by omega
   have ou:s<7:=by omega
   obtain⟨p,rv,hp,_⟩:=h.st.sv s fw;obtain⟨q,c,hq,jX,eW,fR,kG,aQ,ef⟩:=h.st.gr.l.form (by omega);rw[hq]at c1;have cp:=aQ s (kq p) (by rw[List.getElem?_map,hp];rfl);unfold kq at cp;have pv:Below wx.heap.size wx wx.drew.drew:=(Below.refl _ wx).drew.drew;have hd:=h.below pv;have bP:=FQ (m:=z.2) hd.st fw hp oa hM (hd.a s fw) (by rw[<-nR];exact hd.m.1.1) (by rw[<-nQ];exact hd.m.2.1) cH.symm mH.symm;unfold iw vi at bP;rw[hs]at bP y2 pL ss;have i2':=i2;rw[hs]at i2';clear i2;have d1:decide ((1:Int)<=(s:Int)+1)=true:=decide_eq_true pL;have d2:decide ((s:Int)+1<=(n:Int))=true:=decide_eq_true ss;have H8:bC (fun j=>aa j≠10) aa (relab aa wx.heap.size 12) wx wx.drew.drew:=(h.st.below 12 pv).2;have dM:=zH (fun e w' (hN:Nx (M+11) (relab aa wx.heap.size 12) wx.drew.drew g G e w')=>show e=.returned (.tuple #[])/\Cx (M+11) aa wx g G w' from⟨hN.1,Cx.next rfl zl H8 hN.cx⟩);have bY:∀j∈[g,b,q],j<wx.heap.size:=by simp;exact⟨bV,uV,kG⟩
   have iK:=zH (fun(w2:World) (hold:∀j,j<wx.drew.drew.heap.size->relab aa wx.heap.size 12 j<20->w2.heap[j]?=wx.drew.drew.heap[j]?)=>show ∀j∈[g,b,q],w2.heap[j]?=wx.drew.heap[j]? from fun j hj=>hold j (bY j hj) (by
     rw[ae (bY j hj)];rcases List.mem_cons.1 hj with e|e
     ·rw[e,h.st.gr.sl];omega
     ·rcases List.mem_cons.1 e with e|e
      ·rw[e,h.l];omega
      ·rw[List.mem_singleton.1 e,fR];omega))
   have k1:=zK [g,b,q] (w:=wx.drew) c1 (by simp);have kp:=zK [g,b,q] (w:=wx.drew) cp (by simp);have j0:=zK [g,b,q] (w:=wx.drew) y0 (by simp);have j1:=zK [g,b,q] (w:=wx.drew) y1 (by simp);have j2:=zK [g,b,q] (w:=wx.drew) y2 (by simp);have j3:=zK [g,b,q] (w:=wx.drew) y3 (by simp);have j4:=zK [g,b,q] (w:=wx.drew) y4 (by simp);have j5:=zK [g,b,q] (w:=wx.drew) y5 (by simp);have j6:=zK [g,b,q] (w:=wx.drew) y6 (by simp);have j7:=zK [g,b,q] (w:=wx.drew) y7 (by simp);have j8:=zK [g,b,q] (w:=wx.drew) y8 (by simp);have j9:=zK [g,b,q] (w:=wx.drew) y9 (by simp);have j10:=zK [g,b,q] (w:=wx.drew) y10 (by simp);have j11:=zK [g,b,q] (w:=wx.drew) y11 (by simp);have j12:=zK [g,b,q] (w:=wx.drew) y12 (by simp);rw[hn]at c1 k1 jX fw;replace hn:=zH hn;replace aQ:=zH aQ;replace ef:=zH ef;replace hp:=zH hp;replace hs:=zH hs;replace cH:=zH cH;replace mH:=zH mH;clear h hd nR nQ eu pv H8 hq pL ss sR;obtain⟨ab,ax,aM,bE,bb,dy⟩:=hl;obtain⟨fr,rfl,ag⟩:=am ab;rw[eZ,ag _ _ ax,ag _ _ aM,ag _ _ bE,ag _ _ bb,ag _ _ dy];clear ab ag ax aM bE bb dy;refine cG [1,1] f85 rfl ?_;go_wp2_with fail;refine bo (C:=cr [g,b] wx) [] [0,1,2,3,4,5,6,7,8,9,10,11] (by kernel_rfl) (by kernel_rfl) hQ az ?_;refine an ?_;simp only[af,Zx];repeat go_big_quiet_step(fail)
   apply wpQuiet_nil;go_wp2_with fail;refine bz (C:=cr [g,b,q] wx.drew) [([0,1,2,3,4,5,6,7,8,9,10,11,12,13,15],14)] ([],16) (by kernel_rfl) (by kernel_rfl) hQ az ?_;refine au fun K1 cF=>?_
   simp only[af,Zx];repeat go_big_quiet_step(fail)
   apply wpQuiet_nil;go_wp2_with fail;refine bP.mono ?_;rintro e w2 ⟨o,X,rfl,hold,hT⟩;replace hT:=hT lo;have hold:=zH (iK.out w2 hold);clear bP iK;go_wp2_with fail;refine⟨aT hold.out,cF _ _ ?_⟩;refine aE ?_;apply wpQuiet_nil;go_wp2_with fail;refine hT.mono ?_;intro e w3 hN;obtain⟨rfl,hC⟩:=dM.out _ w3 hN;replace hC:=zH hC;clear hT hN dM;go_wp2_with fail;refine hK.out _ _ ?_;exact⟨rfl,hC.out⟩
  ·have d1:decide ((1:Int)<=z.2.tgt)=true:=decide_eq_true pL;have d2:decide (z.2.tgt<=(n:Int))=false:=decide_eq_false ss;replace hn:=zH hn;clear h eu nR nQ cH mH;obtain⟨ab,ax,aM,bE,bb,dy⟩:=hl;obtain⟨fr,rfl,ag⟩:=am ab;rw[eZ,ag _ _ ax,ag _ _ aM,ag _ _ bE,ag _ _ bb,ag _ _ dy];clear ab ag ax aM bE bb dy;refine cG [1,1] f85 rfl ?_;go_wp2_with fail;refine bo (C:=cr [g,b] wx) [] [0,1,2,3,4,5,6,7,8,9,10,11] (by kernel_rfl) (by kernel_rfl) hQ az ?_;refine an ?_;simp only[af,Zx];repeat go_big_quiet_step(fail)
   apply wpQuiet_nil;go_wp2_with fail;refine hK.out _ _ ?_;exact⟨rfl,sR.out⟩
 ·have d1:decide ((1:Int)<=z.2.tgt)=false:=decide_eq_false pL;replace hn:=zH hn;clear h eu nR nQ cH mH;obtain⟨ab,ax,aM,bE,bb,dy⟩:=hl;obtain⟨fr,rfl,ag⟩:=am ab;rw[eZ,ag _ _ ax,ag _ _ aM,ag _ _ bE,ag _ _ bb,ag _ _ dy];clear ab ag ax aM bE bb dy;refine cG [1,1] f85 rfl ?_;go_wp2_with fail;refine bo (C:=cr [g,b] wx) [] [0,1,2,3,4,5,6,7,8,9,10,11] (by kernel_rfl) (by kernel_rfl) hQ az ?_;refine an ?_;simp only[af,Zx];repeat go_big_quiet_step(fail)
  apply wpQuiet_nil;go_wp2_with fail;refine hK.out _ _ ?_;exact⟨rfl,sR.out⟩
theorem vQ(h:ku M aa wx g G v ps)(ht:t<G.net.length)(oa:1<=M)(hM:M+11<=800000000) :
  Calls prog 85 #[.pointer (some ⟨g,0,none⟩),.int .i64 t,.bool sy,.bool lo] wx (Nx (M+11) aa wx g G):=by
 obtain⟨⟨_,gg⟩,_⟩:=h.ok.facts;refine bJ (args:=[.pointer (some ⟨g,0,none⟩),.int .i64 t,.bool sy,.bool lo]) 69 func85 (by kernel_rfl) ntmps85 (by simp) fun la gF cQ=>?_
 refine tz (c:=(aB f85)) [] (by kernel_rfl) ?_;refine fh (aF [0] [1] (by kernel_rfl) (Vf h ht ⟨gF,cQ 0 _ rfl,cQ 1 _ rfl,cQ 2 _ rfl,cQ 3 _ rfl⟩ fun l1 w1 z h1=>?_));obtain⟨dm,hz,bP,eu,JP,uV⟩:=h1;have pm:=(h.below 10 uV).2;have pE:relab aa wx.heap.size 10 wx.heap.size=10:=aA zl;refine aF [1,0] [1,1] (by kernel_rfl) (aF [1,0,0] [1,0,1] (by kernel_rfl) (Vg dm fun l2 h2=>?_));obtain⟨fB,S4⟩:=h2;have fin:∀(bK:Nat->Nat) (w2:World) (G2:Gp) (v2:Gv) (l3:List Value),G2.n=G.n->G2.rn=G.rn->vx M bK w2 g wx.heap.size G2 v2 ps z->bC (fun j=>relab aa wx.heap.size 10 j≠10) (relab aa wx.heap.size 10) bK w1 w2->(l3.length=69/\l3[0]?=some (.pointer (some ⟨g,0,none⟩))/\l3[1]?=some (.int .i64 t)/\l3[2]?=some (.bool sy)/\l3[3]?=some (.bool lo)/\l3[8]?=some (.pointer (some ⟨wx.heap.size,0,none⟩)))->(bR [1,1] (aB f85)).wp prog (Exit.then (bodyPost prog f85 (Nx (M+11) aa wx g G) .normal) (bodyPost prog f85 (Nx (M+11) aa wx g G))) ⟨l3.toArray,[]⟩ w2:=fun bK w2 G2 v2 l3 e1 e2 Rq hL oe=>
  Vl (fun _ _ _ _ e h=>⟨e.symm.trans h.1,h.2⟩) Rq oa (by omega) (by omega) oe fun l4 w4 h4=>ai rfl rfl ⟨rfl,Cx.next e1 (by omega) (pm.ten hL) h4.2⟩
 cases sy with
 | true=>
  refine bW [1,0,1,4] [1,0,1,5] false (by kernel_rfl) (bT S4) ?_;exact pO [1,0,1,5] (by kernel_rfl) (fin _ _ G v _ rfl rfl ⟨bP,eu,pE,JP,fun s hs=>h.ok.stepN oa hs (by omega) (List.mem_of_getElem? hz) (fun _ hx=>hx) zl⟩ (bC.refl _ _ _) fB)
 | false=>
  refine bW [1,0,1,4] [1,0,1,5] true (by kernel_rfl) (bT S4) ?_;refine aF [1,0,1,4,0] [1,0,1,4,1] (by kernel_rfl) (Vh fB fun l3 h3=>?_);refine aF [1,0,1,4,1,0] [1,0,1,4,1,1] (by kernel_rfl) (Vi (pR.start bP (bC.refl _ _ _)) ht h3 fun l4 w4 su u4 h4=>?_);refine aF [1,0,1,4,1,1,0] [1,0,1,4,1,1,1] (by kernel_rfl) (Vj h4.2 ht h4.1 fun l5 w5 dz u5 h5=>?_);refine Vk h5.2 h5.1 fun l6 w6 ut v6 h6=>?_
  obtain⟨Dh,Kc,LM⟩:=h6;have KV:wx.heap.size<w1.heap.size:=eu.lt;have Ly:∀j,j<w1.heap.size->relab aa wx.heap.size 10 j=10->¬relab aa wx.heap.size 10 j≠10:=fun _ _ e hn=>hn e
  obtain⟨k1,k2⟩:=LM.stay wx.heap.size KV (Ly _ KV pE);refine fin _ _ {G with net:=G.net.eraseIdx t} v6 _ rfl rfl ⟨Kc,k2.trans eu,k1.trans pE,LM.one (P:=fun aa w=>eA aa 10 w z) (fun _ _ _ h1 h2=>h1.relabel h2) (fun _ _ _ h1 h2=>h1.keep h2) Ly JP,fun s hs=>?_⟩ LM Dh;exact h.ok.stepN oa hs (by omega) (List.mem_of_getElem? hz) (fun _ hx=>ox hx) (List.length_eraseIdx_le ..)
end
section
open Go.MapKept
def fc(l:List Pr)(k:Nat):List Pr:=(l.take k).map (fun p=>{p with offset:=0})++l.drop k
theorem Ah(l:List Pr):fc l 0=l:=rfl
theorem tG(l:List Pr)(k:Nat):(fc l k).length=l.length:=by
 unfold fc;rw[List.length_append,List.length_map,List.length_take,List.length_drop];omega
theorem C6(l:List Pr){k:Nat}(h:l.length<=k):fc l k=l.map fun p=>{p with offset:=0}:=by
 unfold fc;rw[List.take_of_length_le h,List.drop_eq_nil_of_le h,List.append_nil]
theorem F7(l:List Pr){k:Nat}(h:k<l.length):(fc l k)[k]?=l[k]?:=by
 unfold fc;rw[List.getElem?_append_right (by rw[List.length_map,List.length_take];omega),List.length_map,List.length_take,List.getElem?_drop];congr 1;omega
theorem Ag(l:List Pr){k:Nat}{p:Pr}(h:l[k]?=some p):(fc l k).set k {p with offset:=0}=fc l (k+1):=by
 have hk:=(List.getElem?_eq_some_iff.1 h).1;have e1:l.drop k=p::l.drop (k+1):=iG h;have hl:((l.take k).map fun p=>({p with offset:=0}:Pr)).length=k:=by rw[List.length_map,List.length_take];omega
 unfold fc;rw[e1,List.set_append_right _ _ (by omega),hl,Nat.sub_self,List.set_cons_zero,List.take_add_one,h,List.map_append,List.append_assoc];rfl
section
variable {aa:Nat->Nat}{b g n c:Nat}{w:World}{R:Rf}{v:Rw}{A:Option Addr}
theorem vL{K M:Nat}(index:Int)(l:List UInt8)(h:av aa b w g R v)(hk:Ok K M R)(hK:K<=1000000000)(hr:Rd w A n l)(T9:n<=1000000000000) :
  Calls prog 76 #[.pointer (some ⟨g,0,none⟩),.int .i64 index,.slice A n c] w fun e w'=>e=.returned (.int .i64 (R.compact index l).1)/\aq aa b w g (R.compact index l).2 w':=by
 have bV:=h.s.lt;have yO:=hr.len;have hN:R.track.L.length<=100000000000:=by have:=hk.trk;omega
 have bD:=nM h.t;have eW:=hk.cm;have c8:=h.s.cell 8;simp only[bt,vi,Zx]at c8;have jw:∃m,R.peers.length=m:=⟨_,rfl⟩;have d7:R.compact index l=if ¬(1<=l.length/\l.length<=65536)then(1,R)else if R.commit<index then(33,R)else if index<=R.track.index then(0,R)else(0,{R with snap:=⟨index,(R.track.termF index).1,l⟩,track:=(R.track.dropF index).2,peers:=R.peers.map fun p=>{p with offset:=0}}):=rfl
 have hH:=zH h;replace hk:=zH hk;by_cases h1:1<=l.length/\l.length<=65536
 ·rw[if_neg (by simpa using h1)]at d7;have e1:decide (1<=(n:Int)/\(n:Int)<=65536)=true:=decide_eq_true (by omega);have Le:n<=65536:=by omega
  have ug:0<n:=by omega
  by_cases h2:R.commit<index
  ·rw[if_pos h2]at d7;replace d7:=zH d7;clear h;go_enter func76,ntmps76;go_wp2_with fail;refine bD.mono ?_;rintro e w1 ⟨rfl,bH⟩;have sa:=hH.out.below bH;have d12:=sa.s.cell 12;simp only[bt,vi,Zx]at d12;have kX:=mg e1 w1;have hQ:=zH (show aq aa b w g R w1 from⟨aa,v,sa,fun _ _ _=>rfl,fun _ _ h=>h,Fr.of_below bH⟩);clear sa bD;go_wp2_with fail;refine kX.mono ?_;rintro e w9 ⟨rfl,rfl⟩;go_wp2_with fail;go_ret;exact⟨by rw[d7.out];rfl,by rw[d7.out];exact hQ.out⟩
  ·rw[if_neg h2]at d7;replace h2:=Int.not_lt.1 h2;by_cases h3:index<=R.track.index
   ·rw[if_pos h3]at d7;replace d7:=zH d7;clear h;go_enter func76,ntmps76;go_wp2_with fail;refine bD.mono ?_;rintro e w1 ⟨rfl,bH⟩;have sa:=hH.out.below bH;have d12:=sa.s.cell 12;simp only[bt,vi,Zx]at d12;have kX:=mg e1 w1;have hQ:=zH (show aq aa b w g R w1 from⟨aa,v,sa,fun _ _ _=>rfl,fun _ _ h=>h,Fr.of_below bH⟩);clear sa bD;go_wp2_with fail;refine kX.mono ?_;rintro e w9 ⟨rfl,rfl⟩;go_wp2_with fail;go_ret;exact⟨by rw[d7.out];rfl,by rw[d7.out];exact hQ.out⟩
   ·rw[if_neg h3]at d7;replace h3:=Int.not_le.1 h3;replace d7:=zH d7;clear h;go_enter func76,ntmps76;go_wp2_with fail;refine bD.mono ?_;rintro e w1 ⟨rfl,bH⟩;have sa:=hH.out.below bH;obtain⟨d8,d12,-⟩:=sa.s.cs [8,12];simp only[bt,vi,Zx]at d8 d12;have kX:=mg e1 w1;have cl:=lG index sa.t hN;clear bD;go_wp2_with fail;refine kX.mono ?_;rintro e w9 ⟨rfl,rfl⟩;go_wp2_with fail;refine cl.mono ?_;rintro e w2 ⟨rfl,bU⟩;clear cl kX;have dS:=aj bH bU zl;have gf:=nV A n c l w2 (hr.below dS) T9;go_wp2_with fail;refine gf.mono ?_;rintro e w3 ⟨A3,c3,rfl,bS,cv⟩;clear gf d8 d12 sa;have eI:=aj dS cv zl;have yt:=hH.out.fresh' (b+6) eI;obtain⟨tt,pM⟩:=zN ((R.track.termF index).1);have sX:=aZ bS;obtain⟨w4,gi⟩:=zN (((w3.setCell ⟨g,9,none⟩ (.int .i64 index)).setCell ⟨g,10,none⟩ (.int .i64 tt)).setCell ⟨g,11,none⟩ (.slice A3 n c3));have mo:Fr (fun j=>j=g) w3 w4:=by rw[<-gi];exact((Fr.set g 9 _).trans (Fr.set g 10 _) fun _ h=>.inl h).trans (Fr.set g 11 _) fun _ h=>.inl h
    have Dd:ay w4 g 107 (bt {R with snap:=⟨index,tt,l⟩} {v with dat:=.slice A3 n c3}):=by
     rw[<-gi];have s:=((yt.s.set_ 9 (.int .i64 index)).set_ 10 (.int .i64 tt)).set_ 11 (.slice A3 n c3);simp only[bt,Zy]at s;exact s
    have ip:g<w3.heap.size:=yt.s.lt;have h4:av (relab aa w.heap.size (b+6)) b w4 g {R with snap:=⟨index,tt,l⟩} {v with dat:=.slice A3 n c3}:=by
     refine yt.turn [6] Dd (fun _ _ _ _ _ _ e=>e) (by simp) (mo.mono fun j e=>.inl e) tI tI tI tI (.inl ?_) tI tI tI tI tI tI;have gp:=dG bS fun j hj hl=>mo.block j hl fun e=>by
      have:=(aI bS A3 c3 rfl j hj).2.1;have:=dS.size;omega
     refine⟨A3,c3,(show Value.slice A3 n c3=.slice A3 l.length c3 by rw[yO]),?_,by show l.length<=c3;rw[yO];exact sX.1,sX.2,fun _ ad e=>aA ?_⟩
     ·show cj w4 1 A3 l.length (l.map vb);rw[yO];exact cj.of_own gp
     ·have:=(aI bS A3 c3 rfl _ ⟨ad,e,rfl⟩).2.1;have:=dS.size;omega
    obtain⟨d8,d9,d10,d11,-⟩:=yt.s.cs [8,9,10,11];simp only[bt,vi,Zx]at d8 d9 d10 d11;obtain⟨f9,f10,f11,-⟩:=yt.s.fs [9,10,11];have Ii:w4.cell? ⟨g,8,none⟩=some v.trk:=by
     have:=h4.s.cell 8;simp only[bt,Zx]at this;exact this
    have sR:=zU index h4 hN;have LH:Fr (aH aa b) w w4:=(Fr.of_below (X:=aH aa b) eI).trans (mo.mono (X':=aH aa b) fun j e=>by rw[e];have:=hH.out.sl;exact⟨by omega,by omega⟩) fun j hj=>.inl hj
    clear yt h4 Dd bS mo;go_wp2_with fail;refine sR.mono ?_;rintro e w5 ⟨rfl,dz,v5,h5,q1,q2,q3⟩;clear sR d8 d9 d10 d11 f9 f10 f11 Ii;obtain⟨R5,uS⟩:=zN (({R with snap:=⟨index,tt,l⟩,track:=(R.track.dropF index).2}:Rf));have KM:av dz b w5 g R5 v5:=by rw[<-uS];exact h5
    have kE:(R.compact index l)=(0,{R5 with peers:=R5.peers.map fun p=>{p with offset:=0}}):=by rw[d7.out,<-uS,pM]
    obtain⟨P,hP⟩:=zN (R5.peers);obtain⟨m,hm⟩:=zN (P.length);obtain⟨Ap,cp,Sh,II,_⟩:=id KM.p;have Ef:=aZ II;unfold maxLen at Ef;rw[hP,hm]at Ef;clear II;have d0:w5.cell? ⟨g,0,none⟩=some (.slice Ap m cp):=by
     have:=KM.s.cell 0;simp only[bt,Zx]at this;rw[this,Sh,hP,hm]
    have S9:av dz b w5 g {R5 with peers:=fc P 0} v5:=by rw[Ah,<-hP];exact KM
    replace kE:=zH kE;replace hm:=zH hm;clear uS h5 pM gi KM;go_wp2_with fail
    go_loopw [65] (fun i wr=>∃k:Nat,k<=m/\i=.int .i64 k/\av dz b wr g {R5 with peers:=fc P k} v5/\Fr (aH dz b) w5 wr) (fun i _=>m-(intOf i).toNat)
    case atStart=>exact⟨0,Nat.zero_le _,rfl,S9,Fr.refl _ _⟩
    case round=>
     clear S9;obtain⟨k,TW,rfl,I9,DY⟩:=hrel;by_cases bh:k<m
     ·have nb:k<({R5 with peers:=fc P k}:Rf).peers.length:=by show k<(fc P k).length;rw[tG,hm.out];exact bh
      obtain⟨q,cq,AH,so,fR,p0,p1,p2,p3,pf⟩:=I9.peer_at nb;have P3:P[k]?=some (P[k]'(by rw[hm.out];exact bh)):=List.getElem?_eq_getElem _;have iX:({R5 with peers:=fc P k}:Rf).peer k=P[k]'(by rw[hm.out];exact bh):=by
       unfold Rf.peer;show((fc P k)[k]?).getD Dr=_;rw[F7 P (by rw[hm.out];exact bh),P3];rfl
      have km:Value.slice Ap m cp=.slice (some ⟨q,0,none⟩) m cq:=by
       rw[Sh]at AH;have e1:({R5 with peers:=fc P k}:Rf).peers.length=m:=by show(fc P k).length=m;rw[tG,hm.out]
       have e2:R5.peers.length=m:=by rw[hP,hm.out]
       rw[e1,e2]at AH;exact AH
      obtain⟨KQ,V4,_⟩:=I9.setPeer (s:=k) (j:=2) (u:=.int .i64 0) (p':={P[k]'(by rw[hm.out];exact bh)with offset:=0}) nb AH (by omega) (by rw[iX];rfl);have P4:av dz b (wr.setCell ⟨q,k*4+2,none⟩ (.int .i64 0)) g {R5 with peers:=fc P (k+1)} v5:=by
       have e:({R5 with peers:=fc P k}:Rf).setPeer k {P[k]'(by rw[hm.out];exact bh)with offset:=0}={R5 with peers:=fc P (k+1)}:=by
        unfold Rf.setPeer;show({R5 with peers:=(fc P k).set k _}:Rf)=_;rw[Ag P P3]
       rw[e]at KQ;exact KQ
      have Px:Fr (aH dz b) w5 (wr.setCell ⟨q,k*4+2,none⟩ (.int .i64 0)):=DY.trans (V4.mono (X':=aH dz b) fun j e=>by rw[e];exact⟨by omega,by omega⟩) fun j hj=>.inl hj
      have d0':wr.cell? ⟨g,0,none⟩=some (.slice (some ⟨q,0,none⟩) m cq):=by
       have:=I9.s.cell 0;simp only[bt,Zx]at this;rw[this,Sh,hP,hm.out,km]
      have pf2:=pf (k*4+2);have bi:=zH (show m-(k+1)<m-k by omega);clear KQ I9 km iX P3 AH p0 p1 p3 nb;go_wp2_with fail;exact⟨⟨k+1,bh,by go_num,P4,Px⟩,by simp[intOf];exact bi.out⟩
     ·obtain rfl:m=k:=by omega
      have XQ:=LH.size;have hQ:=zH (show aq aa b w g (R.compact index l).2 wr by
       rw[kE.out];rw[C6 P (by rw[hm.out];exact Nat.le_refl _)]at I9;rw[hP];refine aq.next (ar:=dz) (w':=w5) ⟨dz,v5,I9,fun _ _ _=>rfl,fun _ _ h=>h,DY⟩ (fun j hj hx=>?_) (fun j hj hx=>?_) (LH.trans q3 fun j hj=>?_)
       ·rw[q1 j (by omega) fun hh=>hx (by unfold aH at hh ⊢;rw[ae hj]at hh;exact hh)];exact ae hj
       ·exact q2 j (by omega) (by unfold aH at hx ⊢;rw[ae hj];exact hx)
       ·rcases Nat.lt_or_ge j w.heap.size with hl|hl
        ·unfold aH at hj;rw[ae hl]at hj;exact .inl hj
        ·exact .inr hl)
      clear I9;go_wp2_with fail;go_ret;exact⟨by rw[kE.out];rfl,hQ.out⟩
 ·rw[if_pos (by simpa using h1)]at d7;replace d7:=zH d7;have e1:decide (1<=(n:Int)/\(n:Int)<=65536)=false:=decide_eq_false (by omega);clear h;go_enter func76,ntmps76;go_wp2_with fail;refine bD.mono ?_;rintro e w1 ⟨rfl,bH⟩;have sa:=hH.out.below bH;have kX:=mg e1 w1;have hQ:=zH (show aq aa b w g R w1 from⟨aa,v,sa,fun _ _ _=>rfl,fun _ _ h=>h,Fr.of_below bH⟩);clear sa bD;go_wp2_with fail;refine kX.mono ?_;rintro e w9 ⟨rfl,rfl⟩;go_wp2_with fail;go_ret;exact⟨by rw[d7.out];rfl,by rw[d7.out];exact hQ.out⟩
end
end
end Go.Proofs.YtjcninheccmpoaaGreat
