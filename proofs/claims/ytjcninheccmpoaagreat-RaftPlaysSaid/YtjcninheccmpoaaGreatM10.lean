import Derived.Test.YtjcninheccmpoaaGreatM9
set_option maxRecDepth 100000
set_option maxHeartbeats 8000000
set_option linter.all false
namespace Go.Proofs.YtjcninheccmpoaaGreat
open Go.RowKit Go.Proofs.Tryz
section
variable {aa cx:Nat->Nat}{c q g b gb n1 c1 n2 c2:Nat}{A1 A2:Option Addr}{w1 wx w':World}{R:Rf}{v:Aw}{mc:Array Value}{G:Gt}{gv vd:Value}{mD:List UInt8}{K:Act->World->Prop}{Q':Exit->Act->World->Prop}{l:List Value}{m:Mg}{H:World->Prop}
theorem Jc{A:Option Addr}{B:Nat}(h:∀j,az A j->az none j\/B<=j):∀j,az A j->B<=j:=fun j hj=>by
 rcases h j hj with hh|hh
 ·obtain⟨_,e,_⟩:=hh;cases e
 ·exact hh
theorem J2{w w':World}(h:Fr (az none) w w'):Below w.heap.size w w':=⟨h.os,h.tape,h.output,h.size,fun k hk=>h.block k hk fun hh=>by obtain⟨_,e,_⟩:=hh;cases e⟩
theorem JL{A:Option Addr}{w w6 w7:World}(h:Below w.heap.size w w6)(hF:Fr (az A) w6 w7)(hr:∀j,az A j->w.heap.size<=j):Below w.heap.size w w7:=
 ⟨hF.os.trans h.os,hF.tape.trans h.tape,hF.output.trans h.output,Nat.le_trans h.size hF.size,fun k hk=>(hF.block k (by have:=h.size;omega) fun hh=>by have:=hr k hh;omega).trans (h.block k hk)⟩
theorem Lh{w:World}(h:ar w b 39 (cC m A1 A2 n1 c1 n2 c2)):w.cell? ⟨b,12,none⟩=some (.slice A2 n2 c2):=h.cell 12
theorem OV{w:World}(h:ar w gb 120 (qS G gv)):w.cell? ⟨gb,4,none⟩=some gv:=h.cell 4
theorem Zv(aE:lj cx c q w1 g R v b (cC m A1 A2 n1 c1 n2 c2) (.slice A2 n2 c2) mD gb G gv aa wx)(AA:b≠gb)(hl:LG l g b gb)(hK:∀l' gv' w',LG l' g b gb->lj cx c q w1 g R v b (cC m A1 A2 n1 c1 n2 c2) (.slice A2 n2 c2) mD gb ((if G.frm=m.frm/\G.idx=m.idx/\G.term=m.logTerm/\G.total=m.total/\m.offset≠0 then G else⟨m.frm,m.idx,m.logTerm,m.total,[]⟩:Gt)) gv' aa w'->K ⟨l'.toArray,[]⟩ w'):sQ 4 f118 K Q' l wx:=by
 obtain⟨y1,y4,y5,y9,y10,-⟩:=aE.m.cs [1,4,5,9,10];simp only[cC,Zx]at y1 y4 y5 y9 y10;obtain⟨x0,x1,x2,x3,x4,-⟩:=aE.k.cs [0,1,2,3,4];simp only[qS,Zx]at x0 x1 x2 x3 x4;obtain⟨e0,e1,e2,e3,e4,-⟩:=aE.k.fs [0,1,2,3,4];by_cases hc:G.frm=m.frm/\G.idx=m.idx/\G.term=m.logTerm/\G.total=m.total/\m.offset≠0
 ·rw[if_pos hc]at hK;have a1:(G.frm !=m.frm)=false:=by simp[hc.1]
  have a2:(G.idx !=m.idx)=false:=by simp[hc.2.1]
  have a3:(G.term !=m.logTerm)=false:=by simp[hc.2.2.1]
  have a4:(G.total !=m.total)=false:=by simp[hc.2.2.2.1]
  have a5:(m.offset==0)=false:=by simp[hc.2.2.2.2]
  replace hc:=zH hc;replace aE:=zH aE;obtain⟨ah,aS,be,bW⟩:=hl;obtain⟨fr,rfl,am⟩:=an ah;rw[dR,am _ _ aS,am _ _ be,am _ _ bW];clear ah am aS be bW;refine cI 4 f118 rfl ?_;go_wp2_with fail;exact hK _ _ _ ⟨rfl,rfl,rfl,rfl⟩ aE.out
 ·rw[if_neg hc]at hK;obtain⟨W,hW⟩:=zN (((((wx.setCell ⟨gb,0,none⟩ (.int .i64 m.frm)).setCell ⟨gb,1,none⟩ (.int .i64 m.idx)).setCell ⟨gb,2,none⟩ (.int .i64 m.logTerm)).setCell ⟨gb,3,none⟩ (.int .i64 m.total)).setCell ⟨gb,4,none⟩ (.slice none 0 0));have hF:Fr (fun j=>j=gb) wx W:=by
   have e:∀{a b:World},Fr (fun j=>j=gb) wx a->Fr (fun j=>j=gb) a b->Fr (fun j=>j=gb) wx b:=fun h h'=>h.trans h' fun _ h=>.inl h
   rw[<-hW];exact e (e (e (e (Fr.set (w:=wx) gb 0 _) (Fr.set gb 1 _)) (Fr.set gb 2 _)) (Fr.set gb 3 _)) (Fr.set gb 4 _)
  have VF:ar W gb 120 (qS ⟨m.frm,m.idx,m.logTerm,m.total,[]⟩ (.slice none 0 0)):=by
   have s:=((((aE.k.set_ 0 (.int .i64 m.frm)).set_ 1 (.int .i64 m.idx)).set_ 2 (.int .i64 m.logTerm)).set_ 3 (.int .i64 m.total)).set_ 4 (.slice none 0 0);simp only[qS,Zy]at s;rw[<-hW];exact s
  have hS:=zH (aE.turn hF AA VF (bM.nil _ _ _));have cu:(G.frm !=m.frm)=true\/((G.frm !=m.frm)=false/\(G.idx !=m.idx)=true)\/((G.frm !=m.frm)=false/\(G.idx !=m.idx)=false/\(G.term !=m.logTerm)=true)\/((G.frm !=m.frm)=false/\(G.idx !=m.idx)=false/\(G.term !=m.logTerm)=false/\(G.total !=m.total)=true)\/((G.frm !=m.frm)=false/\(G.idx !=m.idx)=false/\(G.term !=m.logTerm)=false/\(G.total !=m.total)=false/\(m.offset==0)=true):=by
   simp only[bne_iff_ne,bne_eq_false_iff_eq,beq_iff_eq];omega
  clear VF hF;replace hW:=zH hW;replace hc:=zH hc;replace aE:=zH aE;obtain⟨ah,aS,be,bW⟩:=hl;obtain⟨fr,rfl,am⟩:=an ah;rw[dR,am _ _ aS,am _ _ be,am _ _ bW];clear ah am aS be bW;refine cI 4 f118 rfl ?_;rcases cu with a1|⟨a1,a2⟩|⟨a1,a2,a3⟩|⟨a1,a2,a3,a4⟩|⟨a1,a2,a3,a4,a5⟩
  all_goals
   go_wp2_with fail;rw[hW.out];exact hK _ _ _ ⟨rfl,rfl,rfl,rfl⟩ hS.out
theorem YW(aE:lj cx c q w1 g R v b (cC m A1 A2 n1 c1 n2 c2) (.slice A2 n2 c2) mD gb G gv aa wx)(AA:b≠gb)(hn:n2=mD.length)(Fy:n2<=160)(hg:G.data.length<=65536)(hl:LG l g b gb)(hK:∀l' gv' ak w',LG l' g b gb->lj cx c q w1 g R v b (cC m A1 A2 n1 c1 n2 c2) (.slice A2 n2 c2) mD gb (if m.offset=G.data.length/\G.data.length+mD.length<=m.total then {G with data:=G.data++mD}else G:Gt) gv' ak w'->K ⟨l'.toArray,[]⟩ w'):sP 5 f118 K (rT H) l wx:=by
 obtain⟨y9,y10,y12,-⟩:=aE.m.cs [9,10,12];simp only[cC,Zx]at y9 y10 y12;have x4:=aE.k.cell 4;simp only[qS,Zx]at x4;have e4:=aE.k.free 4;have Iz:=aE.k.lt;obtain⟨Ag,cg,qc,Uu⟩:∃Ag cg,gv=.slice Ag G.data.length cg/\Rd wx Ag G.data.length G.data:=by
  obtain⟨Ag,cg,h1,h2,_⟩:=id aE.d;exact⟨Ag,cg,h1,h2⟩
 obtain⟨N,hN⟩:=zN (G.data.length);rw[hN]at qc Uu;have KP:Rd wx A2 n2 mD:=by
  obtain⟨A,c',h1,h2,_⟩:=id aE.md;injection h1 with e1 e2 e3;subst e1;subst e2;exact h2
 by_cases hc:m.offset=G.data.length/\G.data.length+mD.length<=m.total
 ·rw[if_pos hc]at hK;have a1:(m.offset==(N:Int))=true:=by rw[beq_iff_eq,<-hN];exact hc.1
  have a2:(N:Int)+n2<=m.total:=by rw[<-hN,hn];exact hc.2
  have Xr:N<=65536:=by omega
  have kl:=aE;have Lr:=zH aE;have ZQ:=aE.m;have rH:=aE.k;have aF:∀A7 c7 w7,w7.ownsRow wx.heap.size 5 1 (.slice A7 (N+n2) c7) (N+n2) ((G.data++mD).map vb)->Below wx.heap.size wx w7->lj cx c q w1 g R v b (cC m A1 A2 n1 c1 n2 c2) (.slice A2 n2 c2) mD gb {G with data:=G.data++mD} (.slice A7 (N+n2) c7) (ai aa wx.heap.size q) (w7.setCell ⟨gb,4,none⟩ (.slice A7 (N+n2) c7)):=fun A7 c7 w7 ho hb=>by
   have h7:=kl.below hb;have hF:=Fr.set (w:=w7) gb 4 (.slice A7 (N+n2) c7);have s:=h7.k.set_ 4 (.slice A7 (N+n2) c7);simp only[qS,Zy]at s;have rp:∀j,dC (ai aa wx.heap.size q) c q j->j<wx.heap.size->dC aa c q j:=fun j hj hl=>by
    unfold dC at hj ⊢;rw[ac hl]at hj;exact hj
   have I3:gb<wx.heap.size:=kl.k.lt;have eK:b<wx.heap.size:=kl.m.lt;refine⟨(kl.a.fresh q hb).keep fun j hj hl=>hF.block j hl fun e=>?_,fun j hj=>(ac (by have:=kl.f.size;omega)).trans (kl.l j hj),h7.f.trans hF fun j e=>.inr (by have:=kl.w1g;omega),(hF.block b h7.m.lt AA).trans h7.m,s,fun hh=>kl.kn (rp _ hh I3),fun hh=>kl.mn (rp _ hh eK),kl.w1g,?_,?_⟩
   ·subst e;exact kl.kn (rp _ hj I3)
   ·have hl:(G.data++mD).length=N+n2:=by rw[List.length_append];omega
    unfold bM;rw[hl];have dL:Sl (aQ (ai aa wx.heap.size q) q) w7 1 (.slice A7 (N+n2) c7) (N+n2) ((G.data++mD).map vb):=Sl.of_own ho fun j hj _ _=>ay hj
    refine Sl.keep dL fun j hj aU=>hF.block j aU fun e=>?_
    subst e;exact kl.kn (rp _ (.inr hj) I3)
   ·have h8:bM (ai aa wx.heap.size q) q w7 (.slice A2 n2 c2) mD:=(kl.md.keep fun j _ hl=>hb.block j hl).relabel (ak:=ai aa wx.heap.size q) fun j aU e=>by
     rcases Nat.lt_or_ge j wx.heap.size with h9|h9
     ·rw[ac h9];exact e
     ·exact ay h9
    refine h8.keep fun j hj aU=>hF.block j aU fun e=>?_
    subst e;exact kl.kn (rp _ (.inr hj) I3)
  have na:=zH aF;have CW:=zH hK;replace hc:=zH hc;replace aE:=zH aE;replace kl:=zH kl;replace hn:=zH hn;replace hN:=zH hN;clear aF hK hg;rw[qc]at x4;replace qc:=zH qc;obtain⟨ah,aS,be,bW⟩:=hl;obtain⟨fr,rfl,am⟩:=an ah;rw[dR,am _ _ aS,am _ _ be,am _ _ bW];clear ah am aS be bW;refine cI 5 f118 rfl ?_;have bs:N+0<=1000000000:=by omega
  go_wp2_with (at_builtin;first
   | (refine g8 rfl (.tmp 106) (.tmp 108) rfl wx.heap.size rfl (l:=[]) (b9 _ _) rfl Uu (by omega) zl ?_;intro A6 c6 w6 oP jb nT;have gz:=J2 jb;have z12:=Lh (ZQ.kept gz);rw[Nat.zero_add]at oP ⊢;rw[List.nil_append]at oP;have LK:=Jc nT;have O6:Rd w6 A2 n2 mD:=cn.below KP gz;have Jd:=gz.size;clear y9 y10 y12 x4 e4 Uu jb nT;replace LK:=zH LK;replace gz:=zH gz)
   | (go_loud (refine g8 rfl (.tmp 110) (.tmp 112) rfl wx.heap.size rfl oP rfl O6 (by omega) Jd ?_;intro A7 c7 w7 ho7 CY Sa;have io:=JL gz.out CY LK.out;have x4:=OV (rH.kept io);have x4f:=(rH.kept io).free 4;have hQ:=zH (na.out A7 c7 w7 ho7 io);clear oP CY Sa ho7 O6 z12)))
  exact CW.out _ _ _ _ ⟨rfl,rfl,rfl,rfl⟩ hQ.out
 ·rw[if_neg hc]at hK;have cu:(m.offset==(N:Int))=false\/((m.offset==(N:Int))=true/\m.total<(N:Int)+n2):=by
   simp only[beq_iff_eq,beq_eq_false_iff_ne];omega
  have Xr:N<=65536:=by omega
  replace hc:=zH hc;replace aE:=zH aE;replace hn:=zH hn;rw[qc]at x4;replace qc:=zH qc;replace hN:=zH hN;obtain⟨ah,aS,be,bW⟩:=hl;obtain⟨fr,rfl,am⟩:=an ah;rw[dR,am _ _ aS,am _ _ be,am _ _ bW];clear ah am aS be bW;refine cI 5 f118 rfl ?_;rcases cu with a1|⟨a1,a2⟩
  ·go_wp2_with fail;exact hK _ _ _ _ ⟨rfl,rfl,rfl,rfl⟩ aE.out
  ·go_wp2_with fail;exact hK _ _ _ _ ⟨rfl,rfl,rfl,rfl⟩ aE.out
end
def LT(l:List Value)(g b gb:Nat)(tm er:Int):Prop:=l.length=221/\l[0]?=some (.pointer (some ⟨g,0,none⟩))/\l[3]?=some (.pointer (some ⟨b,0,none⟩))/\l[4]?=some (.pointer (some ⟨gb,0,none⟩))/\l[6]?=some (.int .i64 tm)/\l[7]?=some (.int .i64 er)
section
variable {aa cx:Nat->Nat}{c q g b gb n1 c1 n2 c2:Nat}{A1 A2:Option Addr}{w1 wx w':World}{R:Rf}{v:Aw}{mc:Array Value}{G:Gt}{gv vd:Value}{mD:List UInt8}{K:Act->World->Prop}{Q':Exit->Act->World->Prop}{l:List Value}{m:Mg}{H:World->Prop}{tm er:Int}
theorem lj.struct{R':Rf}{v':Aw}(h:lj cx c q w1 g R v b mc vd mD gb G gv aa wx)(hF:Fr (fun j=>j=g) wx w')(ha:aJ aa c q w' g R' v')(O8:cx g=c+1)(cQ:g<w1.heap.size)(Ml:aL c q):lj cx c q w1 g R' v' b mc vd mD gb G gv aa w':=by
 have hs:=h.f.size;have hg:aa g=c+1:=h.a.sl;have hm:dC aa c q g:=.inl (by omega);have hq:∀j,aa j=q->j≠g:=fun j hj e=>by subst e;unfold aL at Ml;omega
 exact⟨ha,h.l,h.f.trans (hF.mono (X':=aT cx c) fun j e=>by rw[e];exact⟨by omega,by omega⟩) fun j e=>.inl e,(hF.block b h.m.lt fun e=>h.mn (e▸hm)).trans h.m,(hF.block gb h.k.lt fun e=>h.kn (e▸hm)).trans h.k,h.kn,h.mn,h.w1g,h.d.keep fun j hj hl=>hF.block j hl (hq j hj),h.md.keep fun j hj hl=>hF.block j hl (hq j hj)⟩
theorem Xu(ha:aL c q)(cT:cx g=c+1)(cQ:g<w1.heap.size)(aE:lj cx c q w1 g R v b (cC m A1 A2 n1 c1 n2 c2) (.slice A2 n2 c2) mD gb G gv aa wx)(hl:LG l g b gb)(hK:∀l' w',LG l' g b gb->lj cx c q w1 g {R with gath:=G} {v with gat:=gv} b (cC m A1 A2 n1 c1 n2 c2) (.slice A2 n2 c2) mD gb G gv aa w'->K ⟨l'.toArray,[]⟩ w'):sQ 6 f118 K Q' l wx:=by
 obtain⟨x0,x1,x2,x3,x4,-⟩:=aE.k.cs [0,1,2,3,4];simp only[qS,Zx]at x0 x1 x2 x3 x4;obtain⟨z17,z18,z19,z20,z21,-⟩:=aE.a.s.cs [17,18,19,20,21];simp only[bj,Zx]at z17 z18 z19 z20 z21;obtain⟨e17,e18,e19,e20,e21,-⟩:=aE.a.s.fs [17,18,19,20,21];obtain⟨Ag,cg,qc,_⟩:=id aE.d;obtain⟨N,hN⟩:=zN (G.data.length);rw[hN]at qc;obtain⟨Ah,ch,UW,_⟩:=id aE.a.gd;obtain⟨M,hM⟩:=zN (R.gath.data.length);rw[hM]at UW;rw[UW]at z21;obtain⟨W,hW⟩:=zN ((((((wx).setCell ⟨g,17,none⟩ (.int .i64 G.frm)).setCell ⟨g,18,none⟩ (.int .i64 G.idx)).setCell ⟨g,19,none⟩ (.int .i64 G.term)).setCell ⟨g,20,none⟩ (.int .i64 G.total)).setCell ⟨g,21,none⟩ (gv));have zJ:=aE.a.s.lt;have hF:Fr (fun j=>j=g) wx W:=by
   have e:∀{a b:World},Fr (fun j=>j=g) wx a->Fr (fun j=>j=g) a b->Fr (fun j=>j=g) wx b:=fun h h'=>h.trans h' fun _ h=>.inl h
   rw[<-hW];exact e (e (e (e (Fr.set (w:=wx) g 17 _) (Fr.set g 18 _)) (Fr.set g 19 _)) (Fr.set g 20 _)) (Fr.set g 21 _)
 have hs:ar W g 122 (bj {R with gath:=G} {v with gat:=gv}):=by
  have s:=(((((aE.a.s.set_ 17 (.int .i64 G.frm)).set_ 18 (.int .i64 G.idx)).set_ 19 (.int .i64 G.term)).set_ 20 (.int .i64 G.total)).set_ 21 (gv));simp only[bj,Zy]at s;rw[<-hW];exact s
 have hq:∀j,aa j=q->j≠g:=fun j hj e=>by subst e;have:=aE.a.sl;unfold aL at ha;omega
 have hA:aJ aa c q W g {R with gath:=G} {v with gat:=gv}:=aE.a.turn [] ha hs (fun _ _=>rfl) (by simp) (hF.mono fun j e=>.inl e) tI tI tI tI (.inr ⟨rfl,rfl⟩) (.inl (aE.d.keep fun j hj hl=>hF.block j hl (hq j hj))) tI tI (.inr ⟨rfl,rfl⟩) tI tI;have hS:=zH (aE.struct hF hA cT cQ ha);clear hF hs hA hq;rw[qc]at x4 hW;replace hW:=zH hW;replace aE:=zH aE;replace qc:=zH qc;clear UW;obtain⟨ah,aS,be,bW⟩:=hl;obtain⟨fr,rfl,am⟩:=an ah;rw[dR,am _ _ aS,am _ _ be,am _ _ bW];clear ah am aS be bW;refine cI 6 f118 rfl ?_;go_wp2_with fail;rw[hW.out];exact hK _ _ ⟨rfl,rfl,rfl,rfl⟩ hS.out
theorem ID(ha:aL c q)(aE:lj cx c q w1 g R v b (cC m A1 A2 n1 c1 n2 c2) (.slice A2 n2 c2) mD gb G gv aa wx)(h0:(G.data.length:Int)<m.total)(hn:R.out.msgs.length<=100000)(hl:LG l g b gb)(hH:∀w',au aa c q wx g (R.send {cZ with kind:=8,tgt:=m.frm,idx:=m.idx,round:=m.round,offset:=G.data.length,total:=m.total}) w'->H w'):sP 7 f118 K (rT H) l wx:=by
 obtain⟨y1,y4,y7,y10,-⟩:=aE.m.cs [1,4,7,10];simp only[cC,Zx]at y1 y4 y7 y10;have x4:=aE.k.cell 4;simp only[qS,Zx]at x4;obtain⟨Ag,cg,qc,_⟩:=id aE.d;obtain⟨N,hN⟩:=zN (G.data.length);rw[hN]at qc;rw[qc]at x4;have gA:=dj {cZ with kind:=8,tgt:=m.frm,idx:=m.idx,round:=m.round,offset:=G.data.length,total:=m.total} rfl rfl ha aE.a hn;rw[hN]at h0;unfold eH at gA;simp only[cZ,vi]at gA;rw[hN]at gA;have aF:=zH (fun w5 (hp:au aa c q wx g (R.send {cZ with kind:=8,tgt:=m.frm,idx:=m.idx,round:=m.round,offset:=N,total:=m.total}) w5)=>hH w5 (by rw[hN];exact hp));clear hH hn;replace aE:=zH aE;replace qc:=zH qc;replace hN:=zH hN;obtain⟨ah,aS,be,bW⟩:=hl;obtain⟨fr,rfl,am⟩:=an ah;rw[dR,am _ _ aS,am _ _ be,am _ _ bW];clear ah am aS be bW;refine cI 7 f118 rfl ?_;go_wp2_with fail;refine gA.mono ?_;rintro e w5 ⟨rfl,hp⟩;have hQ:=zH (aF.out w5 hp);clear gA hp;go_wp2_with fail;exact aO rfl rfl ⟨rfl,hQ.out⟩
theorem MH(aE:lj cx c q w1 g R v b (cC m A1 A2 n1 c1 n2 c2) (.slice A2 n2 c2) mD gb G gv aa wx)(h0:m.total<=(G.data.length:Int))(hl:LG l g b gb)(hK:∀l',LG l' g b gb->K ⟨l'.toArray,[]⟩ wx):sQ 7 f118 K Q' l wx:=by
 obtain⟨y1,y4,y7,y10,-⟩:=aE.m.cs [1,4,7,10];simp only[cC,Zx]at y1 y4 y7 y10;have x4:=aE.k.cell 4;simp only[qS,Zx]at x4;obtain⟨Ag,cg,qc,_⟩:=id aE.d;obtain⟨N,hN⟩:=zN (G.data.length);rw[hN]at qc;rw[qc]at x4;rw[hN]at h0;replace aE:=zH aE;replace qc:=zH qc;replace hN:=zH hN;obtain⟨ah,aS,be,bW⟩:=hl;obtain⟨fr,rfl,am⟩:=an ah;rw[dR,am _ _ aS,am _ _ be,am _ _ bW];clear ah am aS be bW;refine cI 7 f118 rfl ?_;go_wp2_with fail;exact⟨rfl,rfl,rfl,rfl⟩
theorem YP(aE:lj cx c q w1 g R v b (cC m A1 A2 n1 c1 n2 c2) (.slice A2 n2 c2) mD gb G gv aa wx)(hN:R.track.L.length<=1000000)(ht:R.track.termF m.idx=(tm,er))(hl:LG l g b gb)(hK:∀l' w',LT l' g b gb tm er->lj cx c q w1 g R v b (cC m A1 A2 n1 c1 n2 c2) (.slice A2 n2 c2) mD gb G gv aa w'->K ⟨l'.toArray,[]⟩ w'):sP 8 f118 K (rT H) l wx:=by
 have y4:=aE.m.cell 4;simp only[cC,Zx]at y4;have z4:=aE.a.s.cell 4;simp only[bj,Zx]at z4;have hS:=zH (aE.below (w':=wx.drew) (zb.drew));have qX:=mb m.idx hS.out.a.t hN;rw[ht]at qX;obtain⟨gt,gM,_⟩:=aE.a.trk_at;rw[gM]at qX z4;obtain⟨k4,kz⟩:=nY [g,b] y4 z4;replace aE:=zH aE;clear gM;replace ht:=zH ht;obtain⟨ah,aS,be,bW⟩:=hl;obtain⟨fr,rfl,am⟩:=an ah;rw[dR,am _ _ aS,am _ _ be,am _ _ bW];clear ah am aS be bW;refine cI 8 f118 rfl ?_;go_wp2_with fail;refine dV [g,b] wx [([0,1,2,3,4,5],6)] [7,8,9,10,11] ?_;refine av fun K1 ct=>?_
 simp only[af,Zx];repeat go_big_quiet_step(fail)
 apply wpQuiet_nil;go_wp2_with fail;refine qX.mono ?_;rintro e w5 ⟨rfl,rfl⟩;go_wp2_with fail;refine⟨aR,ct _ _ ?_⟩;refine aj ?_;simp only[af,Zx];repeat go_big_quiet_step(fail)
 apply wpQuiet_nil;go_wp2_with fail;exact hK _ _ ⟨rfl,rfl,rfl,rfl,rfl,rfl⟩ hS.out
end
def Bt(R:Rf)(idx term:Int):Rf:=if R.track.termF idx=(term,0)then {R with track:=(R.track.dropF idx).2}else {R with track:=⟨idx,term,[]⟩,out:={R.out with reset:=true}}
def Op(R:Rf)(x:uw):Rf:={R with snap:=x,commit:=x.idx,gath:=F2,out:={R.out with snap:=some x,save:=true}}
theorem yt(R:Rf)(x:uw):R.install x=Op (Bt R x.idx x.term) x:=by
 unfold Rf.install Bt Op;split <;> rfl
theorem bM.relabel_of{aa ak:Nat->Nat}{q:Nat}{w w':World}{v:Value}{l:List UInt8}(h:bM aa q w' v l)(hs:w.heap.size<=w'.heap.size)(hl:∀j,j<w.heap.size->ak j=aa j)(h0:bM aa q w v l):bM ak q w' v l:=by
 obtain⟨A,c,e,h1,h2,h3,_⟩:=h;obtain⟨A0,c0,e0,g1,_,_,g4⟩:=h0;rw[e]at e0;injection e0 with e1 e2 e3;subst e1;exact⟨A,c,e,h1,h2,h3,fun h9 ad ea=>(hl _ (cn.lt g1 h9 (by omega) ea)).trans (g4 h9 ad ea)⟩
section
variable {aa cx:Nat->Nat}{c q g b gb n1 c1 n2 c2:Nat}{A1 A2:Option Addr}{w w1 w2 wx w':World}{R:Rf}{v:Aw}{mc:Array Value}{G:Gt}{gv vd:Value}{mD:List UInt8}{K:Act->World->Prop}{Q':Exit->Act->World->Prop}{l:List Value}{m:Mg}{H:World->Prop}{tm er:Int}
theorem aJ.anew{idx term:Int}(ha:aL c q)(h:aJ aa c q w g R v)(hi:1<=idx/\idx<=1099511627776)(ht:1<=term/\term<=1099511627776)(hk:ar w2 w.heap.size 138 #[.int .i64 idx,.int .i64 term,.slice none 0 0])(hb:Below w.heap.size w w2) :
  aJ (ai aa w.heap.size (c+2)) c q ((w2.setCell ⟨g,4,none⟩ (.pointer (some ⟨w.heap.size,0,none⟩))).setCell ⟨g,23,none⟩ (.bool true)) g {R with track:=⟨idx,term,[]⟩,out:={R.out with reset:=true}} {v with trk:=.pointer (some ⟨w.heap.size,0,none⟩)}:=by
 have cQ:=h.s.lt;have h2:=h.s.kept hb;have s:=(h2.set_ 4 (.pointer (some ⟨w.heap.size,0,none⟩))).set_ 23 (.bool true);simp only[bj,Zy]at s;have di:Fr (fun j=>j=g) w2 ((w2.setCell ⟨g,4,none⟩ (.pointer (some ⟨w.heap.size,0,none⟩))).setCell ⟨g,23,none⟩ (.bool true)):=(Fr.set (w:=w2) g 4 _).trans (Fr.set g 23 _) fun _ h=>.inl h
 have hF:Fr (fun j=>j=g\/∃i,i∈[2]/\aa j=c+i) w ((w2.setCell ⟨g,4,none⟩ (.pointer (some ⟨w.heap.size,0,none⟩))).setCell ⟨g,23,none⟩ (.bool true)):=(Fr.of_below hb).trans (di.mono (X':=fun j=>j=g\/∃i,i∈[2]/\aa j=c+i) fun j e=>.inl e) fun j e=>.inl e
 refine h.turn [2] ha s (fun j hj=>ac hj) (by simp) hF (.inl ?_) tI tI tI (.inr ⟨rfl,rfl⟩) (.inr ⟨rfl,rfl⟩) tI tI (.inr ⟨rfl,rfl⟩) tI tI;have CW:ar ((w2.setCell ⟨g,4,none⟩ (.pointer (some ⟨w.heap.size,0,none⟩))).setCell ⟨g,23,none⟩ (.bool true)) w.heap.size 138 #[.int .i64 idx,.int .i64 term,.slice none 0 0]:=(di.block _ hk.lt (by omega)).trans hk;refine⟨w.heap.size,none,0,0,[],rfl,⟨CW,b9 _ _,fun z hz=>(by cases hz),rfl,?_⟩,fun j hj=>?_⟩
 ·exact⟨.inr ⟨hi.1,hi.2,ht.1,ht.2⟩,fun i x hx=>(by simp at hx),fun x hx=>(by cases hx),fun i x hx=>(by simp at hx)⟩
 ·rcases hj with rfl|⟨_,e,_⟩
  ·exact ay zl
  ·cases e
theorem Zl(ha:aL c q)(cT:cx g=c+1)(cQ:g<w1.heap.size)(aE:lj cx c q w1 g R v b (cC m A1 A2 n1 c1 n2 c2) (.slice A2 n2 c2) mD gb G gv aa wx)(hN:R.track.L.length<=1000000)(hi:1<=m.idx/\m.idx<=1099511627776)(ht:1<=m.logTerm/\m.logTerm<=1099511627776)(qX:R.track.termF m.idx=(tm,er))(hl:LT l g b gb tm er)(hK:∀l' ak v' w',LG l' g b gb->lj cx c q w1 g (Bt R m.idx m.logTerm) v' b (cC m A1 A2 n1 c1 n2 c2) (.slice A2 n2 c2) mD gb G gv ak w'->K ⟨l'.toArray,[]⟩ w'):sP 9 f118 K (rT H) l wx:=by
 obtain⟨y4,y5,-⟩:=aE.m.cs [4,5];simp only[cC,Zx]at y4 y5;obtain⟨z4,z23,-⟩:=aE.a.s.cs [4,23];simp only[bj,Zx]at z4 z23;obtain⟨e4,e23,-⟩:=aE.a.s.fs [4,23];obtain⟨gt,gM,ye,pI,ua⟩:=aE.a.trk_at;have Pg:¬dC cx c q gb->True:=fun _=>trivial
 clear Pg;have zJ:=aE.a.s.lt;have jZ:=aE.m.lt;have Iz:=aE.k.lt;have gu:=aE.f.size;have pl:∀ak:Nat->Nat,(∀j,j<wx.heap.size->ak j=aa j)->∀j,j<wx.heap.size->dC ak c q j->dC aa c q j:=fun ak Nj j hj hm=>by
  unfold dC at hm ⊢;rw[Nj j hj]at hm;exact hm
 by_cases hc:R.track.termF m.idx=(m.logTerm,0)
 ·have e:Bt R m.idx m.logTerm={R with track:=(R.track.dropF m.idx).2}:=if_pos hc;rw[e]at hK;rw[qX]at hc;injection hc with c1' c2';have a1:(er==0)=true:=by simp[c2']
  have a2:(tm==m.logTerm)=true:=by simp[c1']
  have hd:=vx m.idx ha (aE.a.below (w':=wx.drew) (zb.drew)) hN;rw[gM]at hd z4;obtain⟨k4,kz⟩:=nY [g,b] y4 z4;have aF:∀w5,nI aa c q wx.drew g {R with track:=(R.track.dropF m.idx).2} v w5->∃ak,lj cx c q w1 g {R with track:=(R.track.dropF m.idx).2} v b (cC m A1 A2 n1 c1 n2 c2) (.slice A2 n2 c2) mD gb G gv ak w5:=fun w5 hp=>by
   obtain⟨cV,p1,p2,p3⟩:=hp;have p3':Fr (aT aa c) wx w5:=(Fr.of_below (X:=aT aa c) (zb.drew)).trans p3 fun _ h=>.inl h
   have dt:∀j,¬dC aa c q j->¬aT aa c j:=fun j h1 h2=>h1 (.inl h2)
   have WK:∀j,aa j=q->¬aT aa c j:=fun j e h2=>by unfold aT at h2;unfold aL at ha;omega
   refine⟨cV,p1,fun j hj=>(p2 j (by show j<wx.heap.size;omega)).trans (aE.l j hj),aE.f.trans p3' fun j hj=>?_,(p3'.block b jZ (dt b aE.mn)).trans aE.m,(p3'.block gb Iz (dt gb aE.kn)).trans aE.k,fun hm=>aE.kn (pl cV p2 gb Iz hm),fun hm=>aE.mn (pl cV p2 b jZ hm),aE.w1g,?_,?_⟩
   ·rcases Nat.lt_or_ge j w1.heap.size with h9|h9
    ·left;unfold aT at hj ⊢;rw[aE.l j h9]at hj;exact hj
    ·exact .inr h9
   ·exact(aE.d.keep fun j hj hl=>p3'.block j hl (WK j hj)).relabel_of p3'.size p2 aE.d
   ·exact(aE.md.keep fun j hj hl=>p3'.block j hl (WK j hj)).relabel_of p3'.size p2 aE.md
  replace aF:=zH aF;replace aE:=zH aE;clear e c1' c2';replace qX:=zH qX;replace gM:=zH gM;obtain⟨ah,aS,be,bW,fP,fU⟩:=hl;obtain⟨fr,rfl,am⟩:=an ah;rw[dR,am _ _ aS,am _ _ be,am _ _ bW,am _ _ fP,am _ _ fU];clear ah am aS be bW fP fU;refine cI 9 f118 rfl ?_;go_wp2_with fail;refine mI [g,b] wx [] ([0,1,2,3,4,5],6) ?_;refine aC ?_;simp only[af,Zx];repeat go_big_quiet_step(fail)
  apply wpQuiet_nil;go_wp2_with fail;refine hd.mono ?_;rintro e w5 ⟨rfl,hp⟩;obtain⟨cV,h5⟩:=aF.out w5 hp;replace h5:=zH h5;clear hd hp;go_wp2_with fail;exact hK _ _ _ _ ⟨rfl,rfl,rfl,rfl⟩ h5.out
 ·have e:Bt R m.idx m.logTerm={R with track:=⟨m.idx,m.logTerm,[]⟩,out:={R.out with reset:=true}}:=if_neg hc;rw[e]at hK;rw[qX]at hc;have cu:(er==0)=false\/((er==0)=true/\(tm==m.logTerm)=false):=by
   by_cases h0:er=0
   ·refine .inr ⟨by simp[h0],?_⟩;rw[beq_eq_false_iff_ne];intro h1;exact hc (by rw[h0,h1])
   ·exact .inl (by rw[beq_eq_false_iff_ne];exact h0)
  have gp:=C8 (i:=m.idx) (tm:=m.logTerm) (by unfold iR eC;rw[Bool.or_eq_true];right;simp;omega) wx;have aF:∀w2,ar w2 wx.heap.size 138 #[.int .i64 m.idx,.int .i64 m.logTerm,.slice none 0 0]->Below wx.heap.size wx w2->lj cx c q w1 g {R with track:=⟨m.idx,m.logTerm,[]⟩,out:={R.out with reset:=true}} {v with trk:=.pointer (some ⟨wx.heap.size,0,none⟩)} b (cC m A1 A2 n1 c1 n2 c2) (.slice A2 n2 c2) mD gb G gv (ai aa wx.heap.size (c+2)) ((w2.setCell ⟨g,4,none⟩ (.pointer (some ⟨wx.heap.size,0,none⟩))).setCell ⟨g,23,none⟩ (.bool true)):=fun w2 eb bJ=>by
   have hA:=aE.a.anew ha hi ht eb bJ;have h2:=aE.below bJ;have di:Fr (fun j=>j=g) w2 ((w2.setCell ⟨g,4,none⟩ (.pointer (some ⟨wx.heap.size,0,none⟩))).setCell ⟨g,23,none⟩ (.bool true)):=(Fr.set (w:=w2) g 4 _).trans (Fr.set g 23 _) fun _ h=>.inl h
   have hg:aa g=c+1:=aE.a.sl;have hm:dC aa c q g:=.inl (by omega);have hq:∀j,aa j=q->j≠g:=fun j hj e=>by subst e;unfold aL at ha;omega
   refine⟨hA,fun j hj=>(ac (by omega)).trans (aE.l j hj),h2.f.trans (di.mono (X':=aT cx c) fun j e=>by rw[e];exact⟨by omega,by omega⟩) fun j e=>.inl e,(di.block b h2.m.lt fun e=>aE.mn (e▸hm)).trans h2.m,(di.block gb h2.k.lt fun e=>aE.kn (e▸hm)).trans h2.k,fun hh=>aE.kn (pl _ (fun j hj=>ac hj) gb Iz hh),fun hh=>aE.mn (pl _ (fun j hj=>ac hj) b jZ hh),aE.w1g,?_,?_⟩
   ·exact(h2.d.keep fun j hj hl=>di.block j hl (hq j hj)).relabel_of (Nat.le_trans bJ.size di.size) (fun j hj=>ac hj) aE.d
   ·exact(h2.md.keep fun j hj hl=>di.block j hl (hq j hj)).relabel_of (Nat.le_trans bJ.size di.size) (fun j hj=>ac hj) aE.md
  have Og:∀w2,Below wx.heap.size wx w2->w2.heap[g]?=wx.heap[g]?:=fun w2 hb=>hb.block g zJ
  have MK:=aE;replace aF:=zH aF;replace aE:=zH aE;replace MK:=zH MK;clear e;replace hc:=zH hc;replace qX:=zH qX;replace Og:=zH Og;rw[gM]at z4;replace gM:=zH gM;obtain⟨ah,aS,be,bW,fP,fU⟩:=hl;obtain⟨fr,rfl,am⟩:=an ah;rw[dR,am _ _ aS,am _ _ be,am _ _ bW,am _ _ fP,am _ _ fU];clear ah am aS be bW fP fU;refine cI 9 f118 rfl ?_;rcases cu with a1|⟨a1,a2⟩
  all_goals
   go_wp2_with fail;refine gp.mono ?_;rintro e w5 ⟨rfl,yV,cD⟩;have hQ:=zH (aF.out w5 yV cD);have MA:=MK.out.a.s.kept cD;obtain⟨z4,z23,-⟩:=MA.cs [4,23];simp only[bj,Zx]at z4 z23;rw[gM.out]at z4;obtain⟨e4,e23,-⟩:=MA.fs [4,23];clear gp yV cD MA;go_wp2_with fail;exact hK _ _ _ _ ⟨rfl,rfl,rfl,rfl⟩ hQ.out
end
section
variable {aa cx:Nat->Nat}{c q g b gb n1 c1 n2 c2:Nat}{A1 A2:Option Addr}{w w1 w2 wx w':World}{R:Rf}{v:Aw}{mc:Array Value}{G:Gt}{gv vd:Value}{mD:List UInt8}{K:Act->World->Prop}{Q':Exit->Act->World->Prop}{l:List Value}{m:Mg}{H:World->Prop}{tm er:Int}
theorem Uz(ha:aL c q)(cT:cx g=c+1)(cQ:g<w1.heap.size)(aE:lj cx c q w1 g R v b (cC m A1 A2 n1 c1 n2 c2) (.slice A2 n2 c2) mD gb G gv aa wx)(hl:LG l g b gb)(hK:∀l' w',LG l' g b gb->lj cx c q w1 g {R with snap:=⟨m.idx,m.logTerm,G.data⟩} {v with dat:=gv} b (cC m A1 A2 n1 c1 n2 c2) (.slice A2 n2 c2) mD gb G gv aa w'->K ⟨l'.toArray,[]⟩ w'):sQ 10 f118 K Q' l wx:=by
 obtain⟨y1,y4,y5,y7,-⟩:=aE.m.cs [1,4,5,7];simp only[cC,Zx]at y1 y4 y5 y7;have x4:=aE.k.cell 4;simp only[qS,Zx]at x4;obtain⟨z5,z6,z7,-⟩:=aE.a.s.cs [5,6,7];simp only[bj,vi,Zx]at z5 z6 z7;obtain⟨e5,e6,e7,-⟩:=aE.a.s.fs [5,6,7];obtain⟨A0x,c0x,tN,_⟩:=id aE.d;obtain⟨N0x,FY⟩:∃N,G.data.length=N:=⟨_,rfl⟩;rw[FY]at tN;rw[tN]at x4;obtain⟨A1x,c1x,Fi,_⟩:=id aE.a.d;obtain⟨N1x,MP⟩:∃N,R.snap.data.length=N:=⟨_,rfl⟩;rw[MP]at Fi;rw[Fi]at z7;obtain⟨W,hW⟩:=zN ((((wx).setCell ⟨g,5,none⟩ (.int .i64 m.idx)).setCell ⟨g,6,none⟩ (.int .i64 m.logTerm)).setCell ⟨g,7,none⟩ (gv));have zJ:=aE.a.s.lt;have hF:Fr (fun j=>j=g) wx W:=by
   have e:∀{a b:World},Fr (fun j=>j=g) wx a->Fr (fun j=>j=g) a b->Fr (fun j=>j=g) wx b:=fun h h'=>h.trans h' fun _ h=>.inl h
   rw[<-hW];exact e (e (Fr.set (w:=wx) g 5 _) (Fr.set g 6 _)) (Fr.set g 7 _)
 have hs:ar W g 122 (bj {R with snap:=⟨m.idx,m.logTerm,G.data⟩} {v with dat:=gv}):=by
  have s:=(((aE.a.s.set_ 5 (.int .i64 m.idx)).set_ 6 (.int .i64 m.logTerm)).set_ 7 (gv));simp only[bj,Zy]at s;rw[<-hW];exact s
 have hq:∀j,aa j=q->j≠g:=fun j hj e=>by subst e;have:=aE.a.sl;unfold aL at ha;omega
 have hA:aJ aa c q W g {R with snap:=⟨m.idx,m.logTerm,G.data⟩} {v with dat:=gv}:=aE.a.turn [] ha hs (fun _ _=>rfl) (by simp) (hF.mono fun j e=>.inl e) tI tI tI tI (.inl (aE.d.keep fun j hj hl=>hF.block j hl (hq j hj))) (.inr ⟨rfl,rfl⟩) tI tI (.inr ⟨rfl,rfl⟩) tI tI;have hS:=zH (aE.struct hF hA cT cQ ha);clear hF hs hA hq;rw[tN]at hW;replace hW:=zH hW;replace aE:=zH aE;obtain⟨ah,aS,be,bW⟩:=hl;obtain⟨fr,rfl,am⟩:=an ah;rw[dR,am _ _ aS,am _ _ be,am _ _ bW];clear ah am aS be bW;refine cI 10 f118 rfl ?_;go_wp2_with fail;rw[hW.out];exact hK _ _ ⟨rfl,rfl,rfl,rfl⟩ hS.out
theorem Sw(ha:aL c q)(cT:cx g=c+1)(cQ:g<w1.heap.size)(aE:lj cx c q w1 g R v b (cC m A1 A2 n1 c1 n2 c2) (.slice A2 n2 c2) mD gb G gv aa wx)(hl:LG l g b gb)(hK:∀l' w',LG l' g b gb->lj cx c q w1 g {R with out:={R.out with snap:=some ⟨ju R.out.snap,jt R.out.snap,ns R.out.snap⟩}} v b (cC m A1 A2 n1 c1 n2 c2) (.slice A2 n2 c2) mD gb G gv aa w'->K ⟨l'.toArray,[]⟩ w'):sQ 11 f118 K Q' l wx:=by
 obtain⟨y1,y4,y5,y7,-⟩:=aE.m.cs [1,4,5,7];simp only[cC,Zx]at y1 y4 y5 y7;have x4:=aE.k.cell 4;simp only[qS,Zx]at x4;have z28:=aE.a.s.cell 28;simp only[bj,vi,Zx]at z28;have e28:=aE.a.s.free 28;obtain⟨W,hW⟩:=zN ((wx).setCell ⟨g,28,none⟩ (.bool true));have zJ:=aE.a.s.lt;have hF:Fr (fun j=>j=g) wx W:=by
   have e:∀{a b:World},Fr (fun j=>j=g) wx a->Fr (fun j=>j=g) a b->Fr (fun j=>j=g) wx b:=fun h h'=>h.trans h' fun _ h=>.inl h
   rw[<-hW];exact Fr.set (w:=wx) g 28 _
 have hs:ar W g 122 (bj {R with out:={R.out with snap:=some ⟨ju R.out.snap,jt R.out.snap,ns R.out.snap⟩}} v):=by
  have s:=(aE.a.s.set_ 28 (.bool true));simp only[bj,Zy]at s;rw[<-hW];exact s
 have hq:∀j,aa j=q->j≠g:=fun j hj e=>by subst e;have:=aE.a.sl;unfold aL at ha;omega
 have hA:aJ aa c q W g {R with out:={R.out with snap:=some ⟨ju R.out.snap,jt R.out.snap,ns R.out.snap⟩}} v:=aE.a.turn [] ha hs (fun _ _=>rfl) (by simp) (hF.mono fun j e=>.inl e) tI tI tI tI (.inr ⟨rfl,rfl⟩) (.inr ⟨rfl,rfl⟩) tI tI (.inl (aE.a.sd.keep fun j hj hl=>hF.block j hl (hq j hj))) tI tI;have hS:=zH (aE.struct hF hA cT cQ ha);clear hF hs hA hq;replace hW:=zH hW;replace aE:=zH aE;obtain⟨ah,aS,be,bW⟩:=hl;obtain⟨fr,rfl,am⟩:=an ah;rw[dR,am _ _ aS,am _ _ be,am _ _ bW];clear ah am aS be bW;refine cI 11 f118 rfl ?_;go_wp2_with fail;rw[hW.out];exact hK _ _ ⟨rfl,rfl,rfl,rfl⟩ hS.out
theorem TR(PM:R.out.snap.isSome=true)(ha:aL c q)(cT:cx g=c+1)(cQ:g<w1.heap.size)(aE:lj cx c q w1 g R v b (cC m A1 A2 n1 c1 n2 c2) (.slice A2 n2 c2) mD gb G gv aa wx)(hl:LG l g b gb)(hK:∀l' w',LG l' g b gb->lj cx c q w1 g {R with out:={R.out with snap:=some R.snap}} {v with sd:=v.dat} b (cC m A1 A2 n1 c1 n2 c2) (.slice A2 n2 c2) mD gb G gv aa w'->K ⟨l'.toArray,[]⟩ w'):sQ 12 f118 K Q' l wx:=by
 obtain⟨y1,y4,y5,y7,-⟩:=aE.m.cs [1,4,5,7];simp only[cC,Zx]at y1 y4 y5 y7;have x4:=aE.k.cell 4;simp only[qS,Zx]at x4;obtain⟨z5,z6,z7,z29,z30,z31,-⟩:=aE.a.s.cs [5,6,7,29,30,31];simp only[bj,vi,Zx]at z5 z6 z7 z29 z30 z31;obtain⟨e29,e30,e31,-⟩:=aE.a.s.fs [29,30,31];obtain⟨A0x,c0x,tN,_⟩:=id aE.a.d;obtain⟨N0x,FY⟩:∃N,R.snap.data.length=N:=⟨_,rfl⟩;rw[FY]at tN;rw[tN]at z7;obtain⟨A1x,c1x,Fi,_⟩:=id aE.a.sd;obtain⟨N1x,MP⟩:∃N,(ns R.out.snap).length=N:=⟨_,rfl⟩;rw[MP]at Fi;rw[Fi]at z31;obtain⟨W,hW⟩:=zN ((((wx).setCell ⟨g,29,none⟩ (.int .i64 R.snap.idx)).setCell ⟨g,30,none⟩ (.int .i64 R.snap.term)).setCell ⟨g,31,none⟩ (v.dat));have zJ:=aE.a.s.lt;have hF:Fr (fun j=>j=g) wx W:=by
   have e:∀{a b:World},Fr (fun j=>j=g) wx a->Fr (fun j=>j=g) a b->Fr (fun j=>j=g) wx b:=fun h h'=>h.trans h' fun _ h=>.inl h
   rw[<-hW];exact e (e (Fr.set (w:=wx) g 29 _) (Fr.set g 30 _)) (Fr.set g 31 _)
 have hs:ar W g 122 (bj {R with out:={R.out with snap:=some R.snap}} {v with sd:=v.dat}):=by
  have s:=(((aE.a.s.set_ 29 (.int .i64 R.snap.idx)).set_ 30 (.int .i64 R.snap.term)).set_ 31 (v.dat));simp only[bj,Zy]at s;rw[PM]at s;rw[<-hW];exact s
 have hq:∀j,aa j=q->j≠g:=fun j hj e=>by subst e;have:=aE.a.sl;unfold aL at ha;omega
 have hA:aJ aa c q W g {R with out:={R.out with snap:=some R.snap}} {v with sd:=v.dat}:=aE.a.turn [] ha hs (fun _ _=>rfl) (by simp) (hF.mono fun j e=>.inl e) tI tI tI tI (.inr ⟨rfl,rfl⟩) (.inr ⟨rfl,rfl⟩) tI tI (.inl (aE.a.d.keep fun j hj hl=>hF.block j hl (hq j hj))) tI tI;have hS:=zH (aE.struct hF hA cT cQ ha);clear hF hs hA hq;rw[tN]at hW;replace hW:=zH hW;replace aE:=zH aE;obtain⟨ah,aS,be,bW⟩:=hl;obtain⟨fr,rfl,am⟩:=an ah;rw[dR,am _ _ aS,am _ _ be,am _ _ bW];clear ah am aS be bW;refine cI 12 f118 rfl ?_;go_wp2_with fail;rw[hW.out];exact hK _ _ ⟨rfl,rfl,rfl,rfl⟩ hS.out
theorem UE(ha:aL c q)(cT:cx g=c+1)(cQ:g<w1.heap.size)(aE:lj cx c q w1 g R v b (cC m A1 A2 n1 c1 n2 c2) (.slice A2 n2 c2) mD gb G gv aa wx)(hl:LG l g b gb)(hK:∀l' w',LG l' g b gb->lj cx c q w1 g {R with out:={R.out with save:=true}} v b (cC m A1 A2 n1 c1 n2 c2) (.slice A2 n2 c2) mD gb G gv aa w'->K ⟨l'.toArray,[]⟩ w'):sQ 13 f118 K Q' l wx:=by
 obtain⟨y1,y4,y5,y7,-⟩:=aE.m.cs [1,4,5,7];simp only[cC,Zx]at y1 y4 y5 y7;have x4:=aE.k.cell 4;simp only[qS,Zx]at x4;have z22:=aE.a.s.cell 22;simp only[bj,vi,Zx]at z22;have e22:=aE.a.s.free 22;obtain⟨W,hW⟩:=zN ((wx).setCell ⟨g,22,none⟩ (.bool true));have zJ:=aE.a.s.lt;have hF:Fr (fun j=>j=g) wx W:=by
   have e:∀{a b:World},Fr (fun j=>j=g) wx a->Fr (fun j=>j=g) a b->Fr (fun j=>j=g) wx b:=fun h h'=>h.trans h' fun _ h=>.inl h
   rw[<-hW];exact Fr.set (w:=wx) g 22 _
 have hs:ar W g 122 (bj {R with out:={R.out with save:=true}} v):=by
  have s:=(aE.a.s.set_ 22 (.bool true));simp only[bj,Zy]at s;rw[<-hW];exact s
 have hq:∀j,aa j=q->j≠g:=fun j hj e=>by subst e;have:=aE.a.sl;unfold aL at ha;omega
 have hA:aJ aa c q W g {R with out:={R.out with save:=true}} v:=aE.a.turn [] ha hs (fun _ _=>rfl) (by simp) (hF.mono fun j e=>.inl e) tI tI tI tI (.inr ⟨rfl,rfl⟩) (.inr ⟨rfl,rfl⟩) tI tI (.inr ⟨rfl,rfl⟩) tI tI;have hS:=zH (aE.struct hF hA cT cQ ha);clear hF hs hA hq;replace hW:=zH hW;replace aE:=zH aE;obtain⟨ah,aS,be,bW⟩:=hl;obtain⟨fr,rfl,am⟩:=an ah;rw[dR,am _ _ aS,am _ _ be,am _ _ bW];clear ah am aS be bW;refine cI 13 f118 rfl ?_;go_wp2_with fail;rw[hW.out];exact hK _ _ ⟨rfl,rfl,rfl,rfl⟩ hS.out
theorem TF(ha:aL c q)(cT:cx g=c+1)(cQ:g<w1.heap.size)(aE:lj cx c q w1 g R v b (cC m A1 A2 n1 c1 n2 c2) (.slice A2 n2 c2) mD gb G gv aa wx)(hl:LG l g b gb)(hK:∀l' w',LG l' g b gb->lj cx c q w1 g {R with commit:=m.idx} v b (cC m A1 A2 n1 c1 n2 c2) (.slice A2 n2 c2) mD gb G gv aa w'->K ⟨l'.toArray,[]⟩ w'):sQ 14 f118 K Q' l wx:=by
 obtain⟨y1,y4,y5,y7,-⟩:=aE.m.cs [1,4,5,7];simp only[cC,Zx]at y1 y4 y5 y7;have x4:=aE.k.cell 4;simp only[qS,Zx]at x4;have z8:=aE.a.s.cell 8;simp only[bj,vi,Zx]at z8;have e8:=aE.a.s.free 8;obtain⟨W,hW⟩:=zN ((wx).setCell ⟨g,8,none⟩ (.int .i64 m.idx));have zJ:=aE.a.s.lt;have hF:Fr (fun j=>j=g) wx W:=by
   have e:∀{a b:World},Fr (fun j=>j=g) wx a->Fr (fun j=>j=g) a b->Fr (fun j=>j=g) wx b:=fun h h'=>h.trans h' fun _ h=>.inl h
   rw[<-hW];exact Fr.set (w:=wx) g 8 _
 have hs:ar W g 122 (bj {R with commit:=m.idx} v):=by
  have s:=(aE.a.s.set_ 8 (.int .i64 m.idx));simp only[bj,Zy]at s;rw[<-hW];exact s
 have hq:∀j,aa j=q->j≠g:=fun j hj e=>by subst e;have:=aE.a.sl;unfold aL at ha;omega
 have hA:aJ aa c q W g {R with commit:=m.idx} v:=aE.a.turn [] ha hs (fun _ _=>rfl) (by simp) (hF.mono fun j e=>.inl e) tI tI tI tI (.inr ⟨rfl,rfl⟩) (.inr ⟨rfl,rfl⟩) tI tI (.inr ⟨rfl,rfl⟩) tI tI;have hS:=zH (aE.struct hF hA cT cQ ha);clear hF hs hA hq;replace hW:=zH hW;replace aE:=zH aE;obtain⟨ah,aS,be,bW⟩:=hl;obtain⟨fr,rfl,am⟩:=an ah;rw[dR,am _ _ aS,am _ _ be,am _ _ bW];clear ah am aS be bW;refine cI 14 f118 rfl ?_;go_wp2_with fail;rw[hW.out];exact hK _ _ ⟨rfl,rfl,rfl,rfl⟩ hS.out
theorem Uk(ha:aL c q)(cT:cx g=c+1)(cQ:g<w1.heap.size)(aE:lj cx c q w1 g R v b (cC m A1 A2 n1 c1 n2 c2) (.slice A2 n2 c2) mD gb G gv aa wx)(hl:LG l g b gb)(hK:∀l' w',LG l' g b gb->lj cx c q w1 g {R with gath:=F2} {v with gat:=.slice none 0 0} b (cC m A1 A2 n1 c1 n2 c2) (.slice A2 n2 c2) mD gb G gv aa w'->K ⟨l'.toArray,[]⟩ w'):sQ 15 f118 K Q' l wx:=by
 obtain⟨y1,y4,y5,y7,-⟩:=aE.m.cs [1,4,5,7];simp only[cC,Zx]at y1 y4 y5 y7;have x4:=aE.k.cell 4;simp only[qS,Zx]at x4;obtain⟨z17,z18,z19,z20,z21,-⟩:=aE.a.s.cs [17,18,19,20,21];simp only[bj,vi,Zx]at z17 z18 z19 z20 z21;obtain⟨e17,e18,e19,e20,e21,-⟩:=aE.a.s.fs [17,18,19,20,21];obtain⟨A0x,c0x,tN,_⟩:=id aE.a.gd;obtain⟨N0x,FY⟩:∃N,R.gath.data.length=N:=⟨_,rfl⟩;rw[FY]at tN;rw[tN]at z21;obtain⟨W,hW⟩:=zN ((((((wx).setCell ⟨g,17,none⟩ (.int .i64 0)).setCell ⟨g,18,none⟩ (.int .i64 0)).setCell ⟨g,19,none⟩ (.int .i64 0)).setCell ⟨g,20,none⟩ (.int .i64 0)).setCell ⟨g,21,none⟩ (.slice none 0 0));have zJ:=aE.a.s.lt;have hF:Fr (fun j=>j=g) wx W:=by
   have e:∀{a b:World},Fr (fun j=>j=g) wx a->Fr (fun j=>j=g) a b->Fr (fun j=>j=g) wx b:=fun h h'=>h.trans h' fun _ h=>.inl h
   rw[<-hW];exact e (e (e (e (Fr.set (w:=wx) g 17 _) (Fr.set g 18 _)) (Fr.set g 19 _)) (Fr.set g 20 _)) (Fr.set g 21 _)
 have hs:ar W g 122 (bj {R with gath:=F2} {v with gat:=.slice none 0 0}):=by
  have s:=(((((aE.a.s.set_ 17 (.int .i64 0)).set_ 18 (.int .i64 0)).set_ 19 (.int .i64 0)).set_ 20 (.int .i64 0)).set_ 21 (.slice none 0 0));simp only[bj,Zy]at s;rw[<-hW];exact s
 have hq:∀j,aa j=q->j≠g:=fun j hj e=>by subst e;have:=aE.a.sl;unfold aL at ha;omega
 have hA:aJ aa c q W g {R with gath:=F2} {v with gat:=.slice none 0 0}:=aE.a.turn [] ha hs (fun _ _=>rfl) (by simp) (hF.mono fun j e=>.inl e) tI tI tI tI (.inr ⟨rfl,rfl⟩) (.inl (bM.nil _ _ _)) tI tI (.inr ⟨rfl,rfl⟩) tI tI;have hS:=zH (aE.struct hF hA cT cQ ha);clear hF hs hA hq;replace hW:=zH hW;replace aE:=zH aE;obtain⟨ah,aS,be,bW⟩:=hl;obtain⟨fr,rfl,am⟩:=an ah;rw[dR,am _ _ aS,am _ _ be,am _ _ bW];clear ah am aS be bW;refine cI 15 f118 rfl ?_;go_wp2_with fail;rw[hW.out];exact hK _ _ ⟨rfl,rfl,rfl,rfl⟩ hS.out
theorem Vc(ha:aL c q)(aE:lj cx c q w1 g R v b (cC m A1 A2 n1 c1 n2 c2) (.slice A2 n2 c2) mD gb G gv aa wx)(hn:R.out.msgs.length<=100000)(hl:LG l g b gb)(hH:∀w',au aa c q wx g (R.send {cZ with kind:=8,tgt:=m.frm,idx:=m.idx,round:=m.round}) w'->H w'):tP 16 f118 (rT H) l wx:=by
 obtain⟨y1,y4,y7,-⟩:=aE.m.cs [1,4,7];simp only[cC,Zx]at y1 y4 y7;have gA:=dj {cZ with kind:=8,tgt:=m.frm,idx:=m.idx,round:=m.round} rfl rfl ha aE.a hn;unfold eH at gA;simp only[cZ,vi]at gA;have aF:=zH hH;clear hH hn;replace aE:=zH aE;obtain⟨ah,aS,be,bW⟩:=hl;obtain⟨fr,rfl,am⟩:=an ah;rw[dR,am _ _ aS,am _ _ be,am _ _ bW];clear ah am aS be bW;refine F0 16 f118 rfl ?_;go_wp2_with fail;refine gA.mono ?_;rintro e w5 ⟨rfl,hp⟩;have hQ:=zH (aF.out w5 hp);clear gA hp;go_wp2_with fail;exact al rfl rfl ⟨rfl,hQ.out⟩
theorem BD{K M:Nat}(m:Mg)(A1 A2:Option Addr)(n1 c1 n2 c2:Nat)(ha:aL c q)(h:aJ aa c q w g R v)(hk:Ok K M R)(hK:K<=100000)(hM:M<=60000)(hd:bM aa q w (.slice A2 n2 c2) m.data)(hn:n2=m.data.length)(Fy:n2<=160)
  (Kx:0<=m.idx) (om:m.idx<=1099511627776) (ua:0<=m.logTerm) (NR:m.logTerm<=1099511627776) :
  Calls prog 118 #[.pointer (some ⟨g,0,none⟩),eH m (.slice A1 n1 c1) (.slice A2 n2 c2)] w fun e w'=>e=.returned (.tuple #[])/\au aa c q w g (R.piece m) w':=by
 have I5:eH m (.slice A1 n1 c1) (.slice A2 n2 c2)=.agg (cC m A1 A2 n1 c1 n2 c2):=rfl;rw[I5];have xu:=hk.ms;have cf:=hk.trk;have zf:=hk.gat;have aI:Below w.heap.size w (w.alloc (.cells (cC m A1 A2 n1 c1 n2 c2) 39)):=zb.alloc zl _;have bN:=ar.new w 39 (cC m A1 A2 n1 c1 n2 c2);obtain⟨w1,bV⟩:=zN (w.alloc (.cells (cC m A1 A2 n1 c1 n2 c2) 39));rw[bV]at aI bN;have h1:=h.fresh (q+c+10) aI;have zo:bM (ai aa w.heap.size (q+c+10)) q w1 (.slice A2 n2 c2) m.data:=(hd.keep fun j _ hl=>aI.block j hl).relabel_of aI.size (fun j hj=>ac hj) hd;obtain⟨ag,eV⟩:=zN (ai aa w.heap.size (q+c+10));rw[eV]at h1 zo;have cy:∀j,j<w.heap.size->ag j=aa j:=fun j hj=>by rw[<-eV];exact ac hj
 have KD:∀j,w.heap.size<=j->¬dC ag c q j:=fun j hj hm=>by
  unfold dC at hm;rw[<-eV,ay hj]at hm;omega
 have cR:∀R' w',au ag c q w1 g R' w'->au aa c q w g R' w':=fun R' w' hp=>hp.next cy (Fr.of_below aI)
 have iQ:ag g=c+1:=h1.sl;have tW:=h1.s.lt;have rl:=aI.size;refine cP (args:=[.pointer (some ⟨g,0,none⟩),.agg (cC m A1 A2 n1 c1 n2 c2)]) 221 func118 (by kernel_rfl) ntmps118 (by simp) fun la jO fD=>?_
 refine aK (by kernel_rfl) (ZX ⟨jO,fD 0 _ rfl,fD 1 _ rfl⟩ fun l0 jq=>?_);rw[bV];unfold Rf.piece;by_cases g0:m.idx=0\/m.logTerm=0\/¬(1<=m.total/\m.total<=65536)
 ·rw[if_pos g0];exact aK (by kernel_rfl) (IE bN g0 jq (cR _ _ (au.refl h1)))
 ·rw[if_neg g0];refine aK (by kernel_rfl) (Mj bN g0 jq fun l1 qH=>?_);by_cases g1:m.idx<=R.commit
  ·rw[if_pos g1];exact aK (by kernel_rfl) (Ix ha h1 bN g1 (by omega) qH fun w' hp=>cR _ _ hp)
  ·rw[if_neg g1];simp only;refine aK (by kernel_rfl) (Mk h1 bN (by omega) qH fun l2 dM=>?_);have N6:aJ ag c q w1.drew g R v:=h1.below (zb.drew);refine aK (by kernel_rfl) (XZ N6 dM fun l3 kr=>?_);have ZA:Below w1.drew.heap.size w1.drew (w1.drew.alloc (.cells (qS R.gath v.gat) 120)):=zb.alloc zl _;have YJ:=ar.new w1.drew 120 (qS R.gath v.gat);have IK:Below w1.heap.size w1 (w1.drew.alloc (.cells (qS R.gath v.gat) 120)):=(zb.drew).alloc zl _;have vK:lj ag c q w1 g R v w.heap.size (cC m A1 A2 n1 c1 n2 c2) (.slice A2 n2 c2) m.data w1.drew.heap.size R.gath v.gat ag (w1.drew.alloc (.cells (qS R.gath v.gat) 120)):=
    ⟨N6.below ZA,fun _ _=>rfl,Fr.of_below IK,bN.kept IK,YJ,KD _ (by show w.heap.size<=w1.heap.size;omega),KD _ zl,Nat.le_refl _,h1.gd.keep fun j _ hl=>IK.block j hl,zo.keep fun j _ hl=>IK.block j hl⟩
   have AA:w.heap.size≠w1.drew.heap.size:=by have:=bN.lt;show w.heap.size≠w1.heap.size;omega
   obtain⟨gb,O8⟩:=zN (w1.drew.heap.size);rw[O8]at vK AA kr;obtain⟨w3,iU⟩:=zN (w1.drew.alloc (.cells (qS R.gath v.gat) 120));rw[iU]at vK ⊢;refine aK (by kernel_rfl) (Zv vK AA kr fun l4 gv4 w4 nG kT=>?_);have T5:((if R.gath.frm=m.frm/\R.gath.idx=m.idx/\R.gath.term=m.logTerm/\R.gath.total=m.total/\m.offset≠0 then R.gath else⟨m.frm,m.idx,m.logTerm,m.total,[]⟩:Gt)).data.length<=65536:=by
    split
    ·exact zf
    ·exact Nat.zero_le _
   refine aK (by kernel_rfl) (YW kT AA hn Fy T5 nG fun l5 gv5 cV w5 oA hst5=>?_);have eg:(if m.offset=((if R.gath.frm=m.frm/\R.gath.idx=m.idx/\R.gath.term=m.logTerm/\R.gath.total=m.total/\m.offset≠0 then R.gath else⟨m.frm,m.idx,m.logTerm,m.total,[]⟩:Gt)).data.length/\((if R.gath.frm=m.frm/\R.gath.idx=m.idx/\R.gath.term=m.logTerm/\R.gath.total=m.total/\m.offset≠0 then R.gath else⟨m.frm,m.idx,m.logTerm,m.total,[]⟩:Gt)).data.length+m.data.length<=m.total then {(if R.gath.frm=m.frm/\R.gath.idx=m.idx/\R.gath.term=m.logTerm/\R.gath.total=m.total/\m.offset≠0 then R.gath else⟨m.frm,m.idx,m.logTerm,m.total,[]⟩:Gt)with data:=((if R.gath.frm=m.frm/\R.gath.idx=m.idx/\R.gath.term=m.logTerm/\R.gath.total=m.total/\m.offset≠0 then R.gath else⟨m.frm,m.idx,m.logTerm,m.total,[]⟩:Gt)).data++m.data}else(if R.gath.frm=m.frm/\R.gath.idx=m.idx/\R.gath.term=m.logTerm/\R.gath.total=m.total/\m.offset≠0 then R.gath else⟨m.frm,m.idx,m.logTerm,m.total,[]⟩:Gt):Gt)=R.gath1 m:=rfl;rw[eg]at hst5;obtain⟨G,hG⟩:=zN (R.gath1 m);rw[hG]at hst5 ⊢;refine aK (by kernel_rfl) (Xu ha iQ tW hst5 oA fun l6 w6 rf hst6=>?_);have eB:∀j,j<w1.heap.size->cV j=ag j:=hst6.l;by_cases g2:(G.data.length:Int)<m.total
   ·rw[if_pos g2];exact aK (by kernel_rfl) (ID ha hst6 g2 (by show R.out.msgs.length<=_;omega) rf fun w' hp=>cR _ _ (hp.next hst6.l hst6.f))
   ·rw[if_neg g2];refine aK (by kernel_rfl) (MH hst6 (by omega) rf fun l7 xv=>?_);obtain⟨⟨tm,er⟩,VB⟩:∃p,R.track.termF m.idx=p:=⟨_,rfl⟩;refine aK (by kernel_rfl) (YP hst6 (by show R.track.L.length<=_;omega) VB xv fun l8 w8 Md hst8=>?_);refine aK (by kernel_rfl) (Zl ha iQ tW hst8 (by show R.track.L.length<=_;omega) ⟨by omega,om⟩ ⟨by omega,NR⟩ VB Md fun l9 Yu v9 w9 Nr hst9=>?_);have PY:(Bt {R with gath:=G} m.idx m.logTerm).out.msgs.length<=100000:=by
     unfold Bt;split <;> (show R.out.msgs.length<=_;omega)
    refine aK (by kernel_rfl) (Uz ha iQ tW hst9 Nr fun l10 w10 hl10 hst10=>?_);refine aK (by kernel_rfl) (Sw ha iQ tW hst10 hl10 fun l11 w11 FI hst11=>?_);refine aK (by kernel_rfl) (TR rfl ha iQ tW hst11 FI fun l12 w12 hl12 hst12=>?_);refine aK (by kernel_rfl) (UE ha iQ tW hst12 hl12 fun l13 w13 hl13 hst13=>?_);refine aK (by kernel_rfl) (TF ha iQ tW hst13 hl13 fun l14 w14 hl14 hst14=>?_);refine aK (by kernel_rfl) (Uk ha iQ tW hst14 hl14 fun l15 w15 hl15 hst15=>?_);refine Vc ha hst15 PY hl15 fun w' hp=>?_
    rw[yt];exact cR _ _ (hp.next hst15.l hst15.f)
end
def LD(l:List Value)(g b:Nat)(nw:Bool):Prop:=l.length=236/\l[0]?=some (.pointer (some ⟨g,0,none⟩))/\l[3]?=some (.pointer (some ⟨b,0,none⟩))/\l[6]?=some (.bool nw)
section
variable {aa:Nat->Nat}{c q g b n1 c1 n2 c2:Nat}{A1 A2:Option Addr}{wx w':World}{R:Rf}{v:Aw}{K:Act->World->Prop}{Q':Exit->Act->World->Prop}{l:List Value}{m:Mg}{H:World->Prop}{nw:Bool}{li lt:Int}
theorem Xb(hl:l.length=236/\l[0]?=some (.pointer (some ⟨g,0,none⟩))/\l[1]?=some (.agg (cC m A1 A2 n1 c1 n2 c2)))(hK:∀l':List Value,l'.length=236/\l'[0]?=some (.pointer (some ⟨g,0,none⟩))/\l'[3]?=some (.pointer (some ⟨wx.heap.size,0,none⟩))->K ⟨l'.toArray,[]⟩ (wx.alloc (.cells (cC m A1 A2 n1 c1 n2 c2) 39))):sQ 0 f64 K Q' l wx:=by
 unfold cC at *;obtain⟨ah,aS,bH⟩:=hl;obtain⟨fr,rfl,am⟩:=an ah;rw[fd,am _ _ aS,am _ _ bH];clear ah am aS bH;refine cI 0 f64 rfl ?_;go_wp2_with fail;exact⟨rfl,rfl,rfl⟩
theorem YE(h:aJ aa c q wx g R v)(hN:R.track.L.length<=1000000)(hi:R.track.lastF.1=li)(ht:R.track.lastF.2=lt)(hl:l.length=236/\l[0]?=some (.pointer (some ⟨g,0,none⟩))/\l[3]?=some (.pointer (some ⟨b,0,none⟩)))(hK:∀(l':List Value) w',l'.length=236/\l'[0]?=some (.pointer (some ⟨g,0,none⟩))/\l'[3]?=some (.pointer (some ⟨b,0,none⟩))/\l'[4]?=some (.int .i64 li)/\l'[5]?=some (.int .i64 lt)->Below wx.heap.size wx w'->K ⟨l'.toArray,[]⟩ w'):sQ 1 f64 K Q' l wx:=by
 have z4:=h.s.cell 4;simp only[bj,Zx]at z4;have bI:=jE h.t hN;rw[hi,ht]at bI;clear h hi ht;obtain⟨ah,aS,be⟩:=hl;obtain⟨fr,rfl,am⟩:=an ah;rw[fd,am _ _ aS,am _ _ be];clear ah am aS be;refine cI 1 f64 rfl ?_;go_wp2_with fail;refine bI.mono ?_;rintro e w2 ⟨rfl,hb⟩;replace hb:=zH hb;clear bI;go_wp2_with fail;exact hK _ _ ⟨rfl,rfl,rfl,rfl,rfl⟩ hb.out
theorem XI(hb:ar wx b 39 (cC m A1 A2 n1 c1 n2 c2))(hl:l.length=236/\l[0]?=some (.pointer (some ⟨g,0,none⟩))/\l[3]?=some (.pointer (some ⟨b,0,none⟩))/\l[4]?=some (.int .i64 li)/\l[5]?=some (.int .i64 lt))(hK:∀l',LD l' g b (gf m.idx m.logTerm li lt)->K ⟨l'.toArray,[]⟩ wx):sQ 2 f64 K Q' l wx:=by
 obtain⟨y4,y5,-⟩:=hb.cs [4,5];simp only[cC,Zx]at y4 y5;have nV:=wv m.idx m.logTerm li lt wx;obtain⟨nw,fp⟩:∃x,gf m.idx m.logTerm li lt=x:=⟨_,rfl⟩;rw[fp]at nV hK;clear hb fp;obtain⟨ah,aS,be,bW,cA⟩:=hl;obtain⟨fr,rfl,am⟩:=an ah;rw[fd,am _ _ aS,am _ _ be,am _ _ bW,am _ _ cA];clear ah am aS be bW cA;refine cI 2 f64 rfl ?_;go_wp2_with fail;refine nV.mono ?_;rintro e w2 ⟨rfl,rfl⟩;clear nV;go_wp2_with fail;exact⟨rfl,rfl,rfl,rfl⟩
theorem NA(hb:ar wx b 39 (cC m A1 A2 n1 c1 n2 c2))(h0:m.kind≠1)(hl:LD l g b nw)(hK:∀l',LD l' g b nw->K ⟨l'.toArray,[]⟩ wx):sQ 3 f64 K Q' l wx:=by
 have y0:=hb.cell 0;simp only[cC,Zx]at y0;have a1:(m.kind==1)=false:=by simpa using h0
 replace h0:=zH h0;clear hb;obtain⟨ah,aS,be,fP⟩:=hl;obtain⟨fr,rfl,am⟩:=an ah;rw[fd,am _ _ aS,am _ _ be,am _ _ fP];clear ah am aS be fP;refine cI 3 f64 rfl ?_;go_wp2_with fail;exact⟨rfl,rfl,rfl,rfl⟩
theorem IR(ha:aL c q)(h:aJ aa c q wx g R v)(hb:ar wx b 39 (cC m A1 A2 n1 c1 n2 c2))(h0:m.kind=1)(nV:R.newer m=nw)(hn:R.out.msgs.length<=100000)(hl:LD l g b nw)(hH:∀w',au aa c q wx g (R.asked m) w'->H w'):sP 3 f64 K (rT H) l wx:=by
 obtain⟨y0,y1,y3,-⟩:=hb.cs [0,1,3];simp only[cC,Zx]at y0 y1 y3;obtain⟨z2,z9,z10,z11,-⟩:=h.s.cs [2,9,10,11];simp only[bj,vi,Zx]at z2 z9 z10 z11;have a1:(m.kind==1)=true:=by simp[h0]
 have LI:(R.role≠3/\(R.leader=0\/10<=R.clock))/\R.hard.term<m.term/\nw=true->∀w',au aa c q wx.drew g (R.send {cZ with kind:=2,tgt:=m.frm,term:=m.term}) w'->H w':=fun hc w' hp=>hH w' (by
  have e:R.asked m=R.send {cZ with kind:=2,tgt:=m.frm,term:=m.term}:=if_pos (by rw[nV];exact hc);rw[e];exact hp.behind (w:=wx) (zb.drew))
 have xm:¬((R.role≠3/\(R.leader=0\/10<=R.clock))/\R.hard.term<m.term/\nw=true)->∀w',au aa c q wx.drew g (R.send {cZ with kind:=2,tgt:=m.frm,reject:=true}) w'->H w':=fun hc w' hp=>hH w' (by
  have e:R.asked m=R.send {cZ with kind:=2,tgt:=m.frm,reject:=true}:=if_neg (by rw[nV];exact hc);rw[e];exact hp.behind (w:=wx) (zb.drew))
 have EK:=dj {cZ with kind:=2,tgt:=m.frm,term:=m.term} rfl rfl ha (h.below (w':=wx.drew) (zb.drew)) hn;have tM:=dj {cZ with kind:=2,tgt:=m.frm,reject:=true} rfl rfl ha (h.below (w':=wx.drew) (zb.drew)) hn;unfold eH at EK tM;simp only[cZ,vi]at EK tM;obtain⟨k3,kz2,kz9,kz10,kz11⟩:=MZ [g,b] y3 z2 z9 z10 z11;have cu:((decide (R.hard.term<m.term)=false)\/(decide (R.hard.term<m.term)=true/\nw=false)\/(decide (R.hard.term<m.term)=true/\nw=true/\(R.role !=3)=false)\/(decide (R.hard.term<m.term)=true/\nw=true/\(R.role !=3)=true/\(R.leader==0)=false/\decide (10<=R.clock)=false))\/((decide (R.hard.term<m.term)=true/\nw=true/\(R.role !=3)=true/\(R.leader==0)=true)\/(decide (R.hard.term<m.term)=true/\nw=true/\(R.role !=3)=true/\(R.leader==0)=false/\decide (10<=R.clock)=true)):=by
  simp only[bne_iff_ne,bne_eq_false_iff_eq,beq_iff_eq,beq_eq_false_iff_ne,decide_eq_true_eq,decide_eq_false_iff_not];cases nw <;> simp <;> omega
 clear h hb nV hH;replace h0:=zH h0;rcases cu with cu|cu
 ·have hc:¬((R.role≠3/\(R.leader=0\/10<=R.clock))/\R.hard.term<m.term/\nw=true):=by
   simp only[bne_iff_ne,bne_eq_false_iff_eq,beq_iff_eq,beq_eq_false_iff_ne,decide_eq_true_eq,decide_eq_false_iff_not]at cu;cases nw <;> simp at cu ⊢ <;> omega
  have aF:=zH (xm hc);clear LI xm EK hc;obtain⟨ah,aS,be,fP⟩:=hl;obtain⟨fr,rfl,am⟩:=an ah;rw[fd,am _ _ aS,am _ _ be,am _ _ fP];clear ah am aS be fP;refine cI 3 f64 rfl ?_;rcases cu with e1|⟨e1,e2⟩|⟨e1,e2,e3⟩|⟨e1,e2,e3,e4,e5⟩
  all_goals
   try subst e2
   go_wp2_with fail;refine dV [g,b] wx [] [0,1,2,3,4,5,6,7,8,9,10,11,12,13,14,15,16,17,18,19,20,21,22,23,24,25,26,27,28,29,30,31,32] ?_;refine aj ?_;simp only[af,Zx];repeat go_big_quiet_step(fail)
   apply wpQuiet_nil;go_wp2_with fail;refine tM.mono ?_;rintro e w5 ⟨rfl,hp⟩;have hQ:=zH (aF.out w5 hp);clear tM hp;go_wp2_with fail;exact aO rfl rfl ⟨rfl,hQ.out⟩
 ·have hc:(R.role≠3/\(R.leader=0\/10<=R.clock))/\R.hard.term<m.term/\nw=true:=by
   simp only[bne_iff_ne,bne_eq_false_iff_eq,beq_iff_eq,beq_eq_false_iff_ne,decide_eq_true_eq,decide_eq_false_iff_not]at cu;cases nw <;> simp at cu ⊢ <;> omega
  have aF:=zH (LI hc);clear LI xm tM hc;obtain⟨ah,aS,be,fP⟩:=hl;obtain⟨fr,rfl,am⟩:=an ah;rw[fd,am _ _ aS,am _ _ be,am _ _ fP];clear ah am aS be fP;refine cI 3 f64 rfl ?_;rcases cu with⟨e1,e2,e3,e4⟩|⟨e1,e2,e3,e4,e5⟩
  all_goals
   subst e2;go_wp2_with fail;refine dV [g,b] wx [] [0,1,2,3,4,5,6,7,8,9,10,11,12,13,14,15,16,17,18,19,20,21,22,23,24,25,26,27,28,29,30,31,32] ?_;refine aj ?_;simp only[af,Zx];repeat go_big_quiet_step(fail)
   apply wpQuiet_nil;go_wp2_with fail;refine EK.mono ?_;rintro e w5 ⟨rfl,hp⟩;have hQ:=zH (aF.out w5 hp);clear EK hp;go_wp2_with fail;exact aO rfl rfl ⟨rfl,hQ.out⟩
theorem F7(h:aJ aa c q wx g R v)(hb:ar wx b 39 (cC m A1 A2 n1 c1 n2 c2))(h0:¬(m.kind=2/\m.reject=false/\R.role=1/\m.term=R.hard.term+1))(V5:0<=R.hard.term/\R.hard.term<=1099511627776)(hl:LD l g b nw)(hK:∀l',LD l' g b nw->K ⟨l'.toArray,[]⟩ wx.drew):sP 4 f64 K (rT H) l wx:=by
 obtain⟨y0,y3,y8,-⟩:=hb.cs [0,3,8];simp only[cC,Zx]at y0 y3 y8;obtain⟨z2,z9,-⟩:=h.s.cs [2,9];simp only[bj,vi,Zx]at z2 z9;obtain⟨k0,k3,kz2,kz9⟩:=GD [g,b] y0 y3 z2 z9;obtain⟨rj,lh⟩:∃x,m.reject=x:=⟨_,rfl⟩;rw[lh]at y8 h0;have k8:=CV [g,b] y8;have cu:(m.kind==2)=false\/((m.kind==2)=true/\rj=true)\/((m.kind==2)=true/\rj=false/\(R.role==1)=false)\/((m.kind==2)=true/\rj=false/\(R.role==1)=true/\(m.term==R.hard.term+1)=false):=by
  simp only[beq_iff_eq,beq_eq_false_iff_ne];cases rj <;> simp at h0 ⊢ <;> omega
 clear h hb lh;replace h0:=zH h0;obtain⟨ah,aS,be,fP⟩:=hl;obtain⟨fr,rfl,am⟩:=an ah;rw[fd,am _ _ aS,am _ _ be,am _ _ fP];clear ah am aS be fP;refine cI 4 f64 rfl ?_;rcases cu with e1|⟨e1,e2⟩|⟨e1,e2,e3⟩|⟨e1,e2,e3,e4⟩
 all_goals
  try subst e2
  go_wp2_with fail;refine dV [g,b] wx [] [0,1,2,3,4,5,6,7,8,9,10,11,12,13,14,15,16,17,18,19,20,21,22,23,24,25] ?_;refine aj ?_;simp only[af,Zx];repeat go_big_quiet_step(fail)
  apply wpQuiet_nil;go_wp2_with fail;exact⟨rfl,rfl,rfl,rfl⟩
theorem JY(h:aJ aa c q wx g R v)(hb:ar wx b 39 (cC m A1 A2 n1 c1 n2 c2))(h0:m.kind=2/\m.reject=false/\R.role=1/\m.term=R.hard.term+1)(V5:0<=R.hard.term/\R.hard.term<=1099511627776){J:World->Prop}{won:Bool}(hy:Calls prog 101 #[.pointer (some ⟨g,0,none⟩),.int .i64 m.frm] wx.drew fun e w'=>e=.returned (.bool won)/\J w')(aE:won=true->∀w',J w'->Calls prog 102 #[.pointer (some ⟨g,0,none⟩)] w' fun e w''=>e=.returned (.tuple #[])/\H w'')(dt:won=false->∀w',J w'->H w')(hl:LD l g b nw)(hK:∀l' w',LD l' g b nw->H w'->K ⟨l'.toArray,[]⟩ w'):sP 4 f64 K (rT H) l wx:=by
 obtain⟨y0,y1,y3,y8,-⟩:=hb.cs [0,1,3,8];simp only[cC,Zx]at y0 y1 y3 y8;obtain⟨z2,z9,-⟩:=h.s.cs [2,9];simp only[bj,vi,Zx]at z2 z9;obtain⟨g1,g2,g3,g4⟩:=h0;have e1:(m.kind==2)=true:=by simp[g1]
 have e3:(R.role==1)=true:=by simp[g3]
 have e4:(m.term==R.hard.term+1)=true:=by simp[g4]
 rw[g2]at y8;obtain⟨k0,k3,k8,kz2,kz9⟩:=MZ [g,b] y0 y3 y8 z2 z9;clear h hb g1 g2 g3;replace g4:=zH g4;replace aE:=zH aE;replace dt:=zH dt;obtain⟨ah,aS,be,fP⟩:=hl;obtain⟨fr,rfl,am⟩:=an ah;rw[fd,am _ _ aS,am _ _ be,am _ _ fP];clear ah am aS be fP;refine cI 4 f64 rfl ?_;go_wp2_with fail;refine dV [g,b] wx [] [0,1,2,3,4,5,6,7,8,9,10,11,12,13,14,15,16,17,18,19,20,21,22,23,24,25] ?_;refine aj ?_;simp only[af,Zx];repeat go_big_quiet_step(fail)
 apply wpQuiet_nil;go_wp2_with fail;refine hy.mono ?_;rintro e w5 ⟨rfl,hJ⟩;clear hy;cases won with
 | true=>
  have eB:=aE.out rfl w5 hJ;clear hJ aE dt;go_wp2_with fail;refine eB.mono ?_;rintro e w6 ⟨rfl,hQ⟩;replace hQ:=zH hQ;clear eB;go_wp2_with fail;exact hK _ _ ⟨rfl,rfl,rfl,rfl⟩ hQ.out
 | false=>
  have hQ:=zH (dt.out rfl w5 hJ);clear hJ aE dt;go_wp2_with fail;exact hK _ _ ⟨rfl,rfl,rfl,rfl⟩ hQ.out
end
section
variable {aa:Nat->Nat}{c q g b n1 c1 n2 c2:Nat}{A1 A2:Option Addr}{wx w':World}{R:Rf}{v:Aw}{K:Act->World->Prop}{Q':Exit->Act->World->Prop}{l:List Value}{m:Mg}{H:World->Prop}{nw:Bool}{li lt:Int}
theorem HO(hb:ar wx b 39 (cC m A1 A2 n1 c1 n2 c2))(h0:m.kind≠3)(hl:LD l g b nw)(hK:∀l',LD l' g b nw->K ⟨l'.toArray,[]⟩ wx):sQ 5 f64 K Q' l wx:=by
 have y0:=hb.cell 0;simp only[cC,Zx]at y0;have a1:(m.kind==3)=false:=by simpa using h0
 replace h0:=zH h0;clear hb;obtain⟨ah,aS,be,fP⟩:=hl;obtain⟨fr,rfl,am⟩:=an ah;rw[fd,am _ _ aS,am _ _ be,am _ _ fP];clear ah am aS be fP;refine cI 5 f64 rfl ?_;go_wp2_with fail;exact⟨rfl,rfl,rfl,rfl⟩
theorem JI(ha:aL c q)(h:aJ aa c q wx g R v)(hb:ar wx b 39 (cC m A1 A2 n1 c1 n2 c2))(h0:m.kind=3)(hc:(R.hard.vote=0\/R.hard.vote=m.frm)/\nw=true)(nV:R.newer m=nw)(hn:R.out.msgs.length<=100000)(hl:LD l g b nw)(hK:∀l' w',LD l' g b nw->au aa c q wx g (R.votes m) w'->K ⟨l'.toArray,[]⟩ w'):sP 5 f64 K (rT H) l wx:=by
 obtain⟨y0,y1,-⟩:=hb.cs [0,1];simp only[cC,Zx]at y0 y1;obtain⟨z3,z11,z12,z22,-⟩:=h.s.cs [3,11,12,22];simp only[bj,vi,Zx]at z3 z11 z12 z22;obtain⟨f3,f11,f12,f22,-⟩:=h.s.fs [3,11,12,22];have a1:(m.kind==3)=true:=by simp[h0]
 obtain⟨k1,kz3⟩:=nY [g,b] y1 z3;obtain⟨W,hW⟩:=zN (((((wx).setCell ⟨g,3,none⟩ (.int .i64 m.frm)).setCell ⟨g,22,none⟩ (.bool true)).setCell ⟨g,11,none⟩ (.int .i64 0)).setCell ⟨g,12,none⟩ (.int .i64 0));have hF:Fr (fun j=>j=g) wx W:=by
   have e:∀{a b:World},Fr (fun j=>j=g) wx a->Fr (fun j=>j=g) a b->Fr (fun j=>j=g) wx b:=fun h h'=>h.trans h' fun _ h=>.inl h
   rw[<-hW];exact e (e (e (Fr.set (w:=wx) g 3 _) (Fr.set g 22 _)) (Fr.set g 11 _)) (Fr.set g 12 _)
 have hs:ar W g 122 (bj {R.rest with hard:=⟨R.hard.term,m.frm⟩,out:={R.out with save:=true}} v):=by
  have s:=((((h.s.set_ 3 (.int .i64 m.frm)).set_ 22 (.bool true)).set_ 11 (.int .i64 0)).set_ 12 (.int .i64 0));simp only[bj,Zy]at s;rw[<-hW];exact s
 have hA:aJ aa c q W.drew g {R.rest with hard:=⟨R.hard.term,m.frm⟩,out:={R.out with save:=true}} v:=(h.nums ha hs hF rfl rfl rfl rfl rfl rfl rfl rfl rfl rfl rfl).below (zb.drew);have gA:=dj {cZ with kind:=4,tgt:=m.frm,reject:=false} rfl rfl ha hA hn;unfold eH at gA;simp only[cZ,vi]at gA;have dL:=h.sl;have aF:=zH (fun l' w5 (Nj:LD l' g b nw) (hp:au aa c q W.drew g (Rf.send {R.rest with hard:=⟨R.hard.term,m.frm⟩,out:={R.out with save:=true}} {cZ with kind:=4,tgt:=m.frm,reject:=false}) w5)=>hK l' w5 Nj (by
  have e:R.votes m=Rf.send {R.rest with hard:=⟨R.hard.term,m.frm⟩,out:={R.out with save:=true}} {cZ with kind:=4,tgt:=m.frm,reject:=false}:=if_pos (by rw[nV];exact hc);rw[e];exact(hp.behind (w:=W) (zb.drew)).next (fun _ _=>rfl) (hF.mono (X':=aT aa c) fun j e=>by rw[e];exact⟨by omega,by omega⟩)))
 have hYW:W.drew.cell? ⟨b,1,none⟩=some (.int .i64 m.frm):=by
  have AA:b≠g:=fun e=>by
   have h1:=hb;rw[e]at h1;have h2:=h.s;unfold ar at h1 h2;rw[h2]at h1;injection h1 with h1;injection h1 with _ h1 _;exact absurd h1 (by decide)
  exact(World.cell?_of_block (hF.block b hb.lt AA)).trans y1
 have cu:((R.hard.vote==0)=true)\/((R.hard.vote==0)=false/\(R.hard.vote==m.frm)=true):=by
  simp only[beq_iff_eq,beq_eq_false_iff_ne];omega
 obtain⟨_,YH⟩:=hc;subst YH;clear hF hs hA h hb hn hK nV;replace hW:=zH (show((((wx).setCell ⟨g,3,none⟩ (.int .i64 m.frm)).setCell ⟨g,22,none⟩ (.bool true)).setCell ⟨g,11,none⟩ (.int .i64 0)).setCell ⟨g,12,none⟩ (.int .i64 0)=W from hW);replace h0:=zH h0;obtain⟨ah,aS,be,fP⟩:=hl;obtain⟨fr,rfl,am⟩:=an ah;rw[fd,am _ _ aS,am _ _ be,am _ _ fP];clear ah am aS be fP;refine cI 5 f64 rfl ?_;rcases cu with e1|⟨e1,e2⟩
 all_goals
  go_wp2_with fail;refine dV [g,b] wx [] [0,1,2,3,4,5,6,7,8,9,10,11,12,13,14,15,16,17,18,19] ?_;refine aj ?_;simp only[af,Zx];repeat go_big_quiet_step(fail)
  apply wpQuiet_nil;go_wp2_with fail;rw[hW.out];refine gA.mono ?_;rintro e w5 ⟨rfl,hp⟩;replace hp:=zH hp;clear gA;go_wp2_with fail;exact aF.out _ _ ⟨rfl,rfl,rfl,rfl⟩ hp.out
theorem IC(ha:aL c q)(h:aJ aa c q wx g R v)(hb:ar wx b 39 (cC m A1 A2 n1 c1 n2 c2))(h0:m.kind=3)(hc:¬((R.hard.vote=0\/R.hard.vote=m.frm)/\nw=true))(nV:R.newer m=nw)(hn:R.out.msgs.length<=100000)(hl:LD l g b nw)(hK:∀l' w',LD l' g b nw->au aa c q wx g (R.votes m) w'->K ⟨l'.toArray,[]⟩ w'):sP 5 f64 K (rT H) l wx:=by
 obtain⟨y0,y1,-⟩:=hb.cs [0,1];simp only[cC,Zx]at y0 y1;obtain⟨z3,z11,z12,z22,-⟩:=h.s.cs [3,11,12,22];simp only[bj,vi,Zx]at z3 z11 z12 z22;obtain⟨f3,f11,f12,f22,-⟩:=h.s.fs [3,11,12,22];have a1:(m.kind==3)=true:=by simp[h0]
 obtain⟨k1,kz3⟩:=nY [g,b] y1 z3;have gA:=dj {cZ with kind:=4,tgt:=m.frm,reject:=true} rfl rfl ha (h.below (w':=wx.drew) (zb.drew)) hn;unfold eH at gA;simp only[cZ,vi]at gA;have aF:=zH (fun l' w5 (Nj:LD l' g b nw) (hp:au aa c q wx.drew g (R.send {cZ with kind:=4,tgt:=m.frm,reject:=true}) w5)=>hK l' w5 Nj (by
  have e:R.votes m=R.send {cZ with kind:=4,tgt:=m.frm,reject:=true}:=if_neg (by rw[nV];exact hc);rw[e];exact hp.behind (w:=wx) (zb.drew)))
 have cu:((R.hard.vote==0)=true/\nw=false)\/((R.hard.vote==0)=false/\nw=false/\(R.hard.vote==m.frm)=true)\/((R.hard.vote==0)=false/\(nw=nw)/\(R.hard.vote==m.frm)=false):=by
  simp only[beq_iff_eq,beq_eq_false_iff_ne];cases nw <;> simp at hc ⊢ <;> omega
 clear h hb hn hK nV;replace hc:=zH hc;replace h0:=zH h0;obtain⟨ah,aS,be,fP⟩:=hl;obtain⟨fr,rfl,am⟩:=an ah;rw[fd,am _ _ aS,am _ _ be,am _ _ fP];clear ah am aS be fP;refine cI 5 f64 rfl ?_;rcases cu with⟨e1,e2⟩|⟨e1,e2,e3⟩|⟨e1,e2,e3⟩
 all_goals
  try subst e2
  go_wp2_with fail;refine dV [g,b] wx [] [0,1,2,3,4,5,6,7,8,9,10,11,12,13,14,15,16,17,18,19] ?_;refine aj ?_;simp only[af,Zx];repeat go_big_quiet_step(fail)
  apply wpQuiet_nil;go_wp2_with fail;refine gA.mono ?_;rintro e w5 ⟨rfl,hp⟩;replace hp:=zH hp;clear gA;go_wp2_with fail;exact aF.out _ _ ⟨rfl,rfl,rfl,rfl⟩ hp.out
theorem Cc(h:aJ aa c q wx g R v)(hb:ar wx b 39 (cC m A1 A2 n1 c1 n2 c2))(h0:¬(m.kind=4/\m.reject=false/\R.role=2))(hl:LD l g b nw)(hK:∀l',LD l' g b nw->K ⟨l'.toArray,[]⟩ wx):sQ 6 f64 K Q' l wx:=by
 obtain⟨y0,y8,-⟩:=hb.cs [0,8];simp only[cC,Zx]at y0 y8;have z9:=h.s.cell 9;simp only[bj,vi,Zx]at z9;obtain⟨rj,lh⟩:∃x,m.reject=x:=⟨_,rfl⟩;rw[lh]at y8 h0;have cu:(m.kind==4)=false\/((m.kind==4)=true/\rj=true)\/((m.kind==4)=true/\rj=false/\(R.role==2)=false):=by
  simp only[beq_iff_eq,beq_eq_false_iff_ne];cases rj <;> simp at h0 ⊢ <;> omega
 clear lh;replace h0:=zH h0;clear h;clear hb;obtain⟨ah,aS,be,fP⟩:=hl;obtain⟨fr,rfl,am⟩:=an ah;rw[fd,am _ _ aS,am _ _ be,am _ _ fP];clear ah am aS be fP;refine cI 6 f64 rfl ?_;rcases cu with e1|⟨e1,e2⟩|⟨e1,e2,e3⟩
 all_goals
  try subst e2
  go_wp2_with fail;exact⟨rfl,rfl,rfl,rfl⟩
theorem IJ(h:aJ aa c q wx g R v)(hb:ar wx b 39 (cC m A1 A2 n1 c1 n2 c2))(h0:m.kind=4/\m.reject=false/\R.role=2){J:World->Prop}{won:Bool}(hy:Calls prog 101 #[.pointer (some ⟨g,0,none⟩),.int .i64 m.frm] wx fun e w'=>e=.returned (.bool won)/\J w')(aE:won=true->∀w',J w'->Calls prog 116 #[.pointer (some ⟨g,0,none⟩)] w' fun e w''=>e=.returned (.tuple #[])/\H w'')(dt:won=false->∀w',J w'->H w')(hl:LD l g b nw):sP 6 f64 K (rT H) l wx:=by
 obtain⟨y0,y1,y8,-⟩:=hb.cs [0,1,8];simp only[cC,Zx]at y0 y1 y8;have z9:=h.s.cell 9;simp only[bj,vi,Zx]at z9;obtain⟨g1,g2,g3⟩:=h0;have e1:(m.kind==4)=true:=by simp[g1]
 have e3:(R.role==2)=true:=by simp[g3]
 rw[g2]at y8;clear h hb g1 g2 g3;replace aE:=zH aE;replace dt:=zH dt;obtain⟨ah,aS,be,fP⟩:=hl;obtain⟨fr,rfl,am⟩:=an ah;rw[fd,am _ _ aS,am _ _ be,am _ _ fP];clear ah am aS be fP;refine cI 6 f64 rfl ?_;go_wp2_with fail;refine hy.mono ?_;rintro e w5 ⟨rfl,hJ⟩;clear hy;cases won with
 | true=>
  have eB:=aE.out rfl w5 hJ;clear hJ aE dt;go_wp2_with fail;refine eB.mono ?_;rintro e w6 ⟨rfl,hQ⟩;replace hQ:=zH hQ;clear eB;go_wp2_with fail;exact aO rfl rfl ⟨rfl,hQ.out⟩
 | false=>
  have hQ:=zH (dt.out rfl w5 hJ);clear hJ aE dt;go_wp2_with fail;exact aO rfl rfl ⟨rfl,hQ.out⟩
theorem sK(h:aJ aa c q wx g R v)(hb:ar wx b 39 (cC m A1 A2 n1 c1 n2 c2))(h0:¬((m.kind=5\/m.kind=7)/\R.role≠3))(hl:LD l g b nw)(hK:∀l',LD l' g b nw->K ⟨l'.toArray,[]⟩ wx):sQ 7 f64 K Q' l wx:=by
 have y0:=hb.cell 0;simp only[cC,Zx]at y0;have z9:=h.s.cell 9;simp only[bj,vi,Zx]at z9;have cu:((m.kind==5)=false/\(m.kind==7)=false)\/((m.kind==5)=true/\(R.role !=3)=false)\/((m.kind==5)=false/\(m.kind==7)=true/\(R.role !=3)=false):=by
  simp only[beq_iff_eq,beq_eq_false_iff_ne,bne_eq_false_iff_eq];omega
 replace h0:=zH h0;clear h;clear hb;obtain⟨ah,aS,be,fP⟩:=hl;obtain⟨fr,rfl,am⟩:=an ah;rw[fd,am _ _ aS,am _ _ be,am _ _ fP];clear ah am aS be fP;refine cI 7 f64 rfl ?_;rcases cu with⟨e1,e3⟩|⟨e1,e3⟩|⟨e1,e3,e4⟩
 all_goals
  try subst e2
  go_wp2_with fail;exact⟨rfl,rfl,rfl,rfl⟩
theorem Qq(ha:aL c q)(h:aJ aa c q wx g R v)(hb:ar wx b 39 (cC m A1 A2 n1 c1 n2 c2))(h0:m.kind=5/\R.role≠3)(eB:∀W,aJ aa c q W g (R.hears m) v->Fr (fun j=>j=g) wx W->Calls prog 117 #[.pointer (some ⟨g,0,none⟩),.agg (cC m A1 A2 n1 c1 n2 c2)] W fun e w''=>e=.returned (.tuple #[])/\H w'')(hl:LD l g b nw):sP 7 f64 K (rT H) l wx:=by
 obtain⟨y0,y1,y2,y3,y4,y5,y6,y7,y8,y9,y10,y11,y12,-⟩:=hb.cs [0,1,2,3,4,5,6,7,8,9,10,11,12];simp only[cC,Zx]at y0 y1 y2 y3 y4 y5 y6 y7 y8 y9 y10 y11 y12;obtain⟨z9,z10,z11,z12,-⟩:=h.s.cs [9,10,11,12];simp only[bj,vi,Zx]at z9 z10 z11 z12;obtain⟨f9,f10,f11,f12,-⟩:=h.s.fs [9,10,11,12];obtain⟨W,hW⟩:=zN (((((wx).setCell ⟨g,9,none⟩ (.int .i64 0)).setCell ⟨g,10,none⟩ (.int .i64 m.frm)).setCell ⟨g,11,none⟩ (.int .i64 0)).setCell ⟨g,12,none⟩ (.int .i64 0));have hF:Fr (fun j=>j=g) wx W:=by
   have e:∀{a b:World},Fr (fun j=>j=g) wx a->Fr (fun j=>j=g) a b->Fr (fun j=>j=g) wx b:=fun h h'=>h.trans h' fun _ h=>.inl h
   rw[<-hW];exact e (e (e (Fr.set (w:=wx) g 9 _) (Fr.set g 10 _)) (Fr.set g 11 _)) (Fr.set g 12 _)
 have hs:ar W g 122 (bj (R.hears m) v):=by
  have s:=((((h.s.set_ 9 (.int .i64 0)).set_ 10 (.int .i64 m.frm)).set_ 11 (.int .i64 0)).set_ 12 (.int .i64 0));simp only[bj,Zy]at s;rw[<-hW];exact s
 have hA:aJ aa c q W g (R.hears m) v:=h.nums ha hs hF rfl rfl rfl rfl rfl rfl rfl rfl rfl rfl rfl;have aH:=eB W hA hF;have AA:b≠g:=fun e=>by
  have h1:=hb;rw[e]at h1;have h2:=h.s;unfold ar at h1 h2;rw[h2]at h1;injection h1 with h1;injection h1 with _ h1 _;exact absurd h1 (by decide)
 have e1:(m.kind==5)=true:=by simp[h0.1]
 have e2:(m.kind==7)=false:=by simp[h0.1]
 have e3:(R.role !=3)=true:=by simp[h0.2]
 unfold cC at aH;clear hF hs hA h hb eB;replace hW:=zH hW;replace h0:=zH h0;obtain⟨ah,aS,be,fP⟩:=hl;obtain⟨fr,rfl,am⟩:=an ah;rw[fd,am _ _ aS,am _ _ be,am _ _ fP];clear ah am aS be fP;refine cI 7 f64 rfl ?_;go_wp2_with fail;rw[hW.out];refine aH.mono ?_;rintro e w5 ⟨rfl,hp⟩;replace hp:=zH hp;clear aH;go_wp2_with fail;exact aO rfl rfl ⟨rfl,hp.out⟩
theorem PH(ha:aL c q)(h:aJ aa c q wx g R v)(hb:ar wx b 39 (cC m A1 A2 n1 c1 n2 c2))(h0:m.kind=7/\R.role≠3)(eB:∀W,aJ aa c q W g (R.hears m) v->Fr (fun j=>j=g) wx W->Calls prog 118 #[.pointer (some ⟨g,0,none⟩),.agg (cC m A1 A2 n1 c1 n2 c2)] W fun e w''=>e=.returned (.tuple #[])/\H w'')(hl:LD l g b nw):sP 7 f64 K (rT H) l wx:=by
 obtain⟨y0,y1,y2,y3,y4,y5,y6,y7,y8,y9,y10,y11,y12,-⟩:=hb.cs [0,1,2,3,4,5,6,7,8,9,10,11,12];simp only[cC,Zx]at y0 y1 y2 y3 y4 y5 y6 y7 y8 y9 y10 y11 y12;obtain⟨z9,z10,z11,z12,-⟩:=h.s.cs [9,10,11,12];simp only[bj,vi,Zx]at z9 z10 z11 z12;obtain⟨f9,f10,f11,f12,-⟩:=h.s.fs [9,10,11,12];obtain⟨W,hW⟩:=zN (((((wx).setCell ⟨g,9,none⟩ (.int .i64 0)).setCell ⟨g,10,none⟩ (.int .i64 m.frm)).setCell ⟨g,11,none⟩ (.int .i64 0)).setCell ⟨g,12,none⟩ (.int .i64 0));have hF:Fr (fun j=>j=g) wx W:=by
   have e:∀{a b:World},Fr (fun j=>j=g) wx a->Fr (fun j=>j=g) a b->Fr (fun j=>j=g) wx b:=fun h h'=>h.trans h' fun _ h=>.inl h
   rw[<-hW];exact e (e (e (Fr.set (w:=wx) g 9 _) (Fr.set g 10 _)) (Fr.set g 11 _)) (Fr.set g 12 _)
 have hs:ar W g 122 (bj (R.hears m) v):=by
  have s:=((((h.s.set_ 9 (.int .i64 0)).set_ 10 (.int .i64 m.frm)).set_ 11 (.int .i64 0)).set_ 12 (.int .i64 0));simp only[bj,Zy]at s;rw[<-hW];exact s
 have hA:aJ aa c q W g (R.hears m) v:=h.nums ha hs hF rfl rfl rfl rfl rfl rfl rfl rfl rfl rfl rfl;have aH:=eB W hA hF;have AA:b≠g:=fun e=>by
  have h1:=hb;rw[e]at h1;have h2:=h.s;unfold ar at h1 h2;rw[h2]at h1;injection h1 with h1;injection h1 with _ h1 _;exact absurd h1 (by decide)
 have e1:(m.kind==5)=false:=by simp[h0.1]
 have e2:(m.kind==7)=true:=by simp[h0.1]
 have e3:(R.role !=3)=true:=by simp[h0.2]
 unfold cC at aH;clear hF hs hA h hb eB;replace hW:=zH hW;replace h0:=zH h0;obtain⟨ah,aS,be,fP⟩:=hl;obtain⟨fr,rfl,am⟩:=an ah;rw[fd,am _ _ aS,am _ _ be,am _ _ fP];clear ah am aS be fP;refine cI 7 f64 rfl ?_;go_wp2_with fail;rw[hW.out];refine aH.mono ?_;rintro e w5 ⟨rfl,hp⟩;replace hp:=zH hp;clear aH;go_wp2_with fail;exact aO rfl rfl ⟨rfl,hp.out⟩
theorem pe(h:aJ aa c q wx g R v)(hb:ar wx b 39 (cC m A1 A2 n1 c1 n2 c2))(h0:¬(R.role=3/\(m.kind=6\/(m.kind=8/\m.reject=false))))(hl:LD l g b nw)(hH:H wx):tP 8 f64 (rT H) l wx:=by
 obtain⟨y0,y8,-⟩:=hb.cs [0,8];simp only[cC,Zx]at y0 y8;have z9:=h.s.cell 9;simp only[bj,vi,Zx]at z9;obtain⟨rj,lh⟩:∃x,m.reject=x:=⟨_,rfl⟩;rw[lh]at y8 h0;have cu:(R.role==3)=false\/((R.role==3)=true/\rj=rj/\(m.kind==6)=false/\(m.kind==8)=false)\/((R.role==3)=true/\rj=true/\(m.kind==6)=false/\(m.kind==8)=true):=by
  simp only[beq_iff_eq,beq_eq_false_iff_ne];cases rj <;> simp at h0 ⊢ <;> omega
 clear lh h hb;replace h0:=zH h0;replace hH:=zH hH;obtain⟨ah,aS,be,fP⟩:=hl;obtain⟨fr,rfl,am⟩:=an ah;rw[fd,am _ _ aS,am _ _ be,am _ _ fP];clear ah am aS be fP;refine F0 8 f64 rfl ?_;rcases cu with e1|⟨e1,e2,e3,e4⟩|⟨e1,e2,e3,e4⟩
 all_goals
  try subst e2
  go_wp2_with fail;exact al rfl rfl ⟨rfl,hH.out⟩
theorem JO(h:aJ aa c q wx g R v)(hb:ar wx b 39 (cC m A1 A2 n1 c1 n2 c2))(h0:R.role=3/\(m.kind=6\/(m.kind=8/\m.reject=false)))(aH:Calls prog 119 #[.pointer (some ⟨g,0,none⟩),.agg (cC m A1 A2 n1 c1 n2 c2)] wx fun e w''=>e=.returned (.tuple #[])/\H w'')(hl:LD l g b nw):tP 8 f64 (rT H) l wx:=by
 obtain⟨y0,y1,y2,y3,y4,y5,y6,y7,y8,y9,y10,y11,y12,-⟩:=hb.cs [0,1,2,3,4,5,6,7,8,9,10,11,12];simp only[cC,Zx]at y0 y1 y2 y3 y4 y5 y6 y7 y8 y9 y10 y11 y12;have z9:=h.s.cell 9;simp only[bj,vi,Zx]at z9;have e1:(R.role==3)=true:=by simp[h0.1]
 have cu:((m.kind==6)=true)\/((m.kind==6)=false/\(m.kind==8)=true/\m.reject=false):=by
  rcases h0.2 with h|⟨h,h'⟩
  ·exact .inl (by simp[h])
  ·exact .inr ⟨by simp[h],by simp[h],h'⟩
 unfold cC at aH;clear h hb;replace h0:=zH h0;obtain⟨ah,aS,be,fP⟩:=hl;obtain⟨fr,rfl,am⟩:=an ah;rw[fd,am _ _ aS,am _ _ be,am _ _ fP];clear ah am aS be fP;refine F0 8 f64 rfl ?_;rcases cu with e2|⟨e2,e3,e4⟩
 ·go_wp2_with fail;refine aH.mono ?_;rintro e w5 ⟨rfl,hp⟩;replace hp:=zH hp;clear aH;go_wp2_with fail;exact al rfl rfl ⟨rfl,hp.out⟩
 ·rw[e4]at y8 aH;replace e4:=zH e4;go_wp2_with fail;refine aH.mono ?_;rintro e w5 ⟨rfl,hp⟩;replace hp:=zH hp;clear aH;go_wp2_with fail;exact al rfl rfl ⟨rfl,hp.out⟩
end
section
variable {aa:Nat->Nat}{c q g b n1 c1 n2 c2:Nat}{A1 A2:Option Addr}{w wx w':World}{R:Rf}{v:Aw}{K:Act->World->Prop}{Q':Exit->Act->World->Prop}{l:List Value}{m:Mg}{H:World->Prop}{nw:Bool}{li lt:Int}
theorem yg(h:aJ aa c q wx g R v)(hb:ar wx b 39 (cC m A1 A2 n1 c1 n2 c2))(h0:m.kind=2\/m.kind=3)(hl:LD l g b nw)(hH:H wx):tP 6 f64 (rT H) l wx:=
 aK (by kernel_rfl) (Cc h hb (by omega) hl fun _ cy=>aK (by kernel_rfl) (sK h hb (by omega) cy fun _ dM=>pe h hb (by omega) dM hH))
theorem zg(h:aJ aa c q wx g R v)(hb:ar wx b 39 (cC m A1 A2 n1 c1 n2 c2))(h0:m.kind=2)(hl:LD l g b nw)(hH:H wx):tP 5 f64 (rT H) l wx:=
 aK (by kernel_rfl) (HO hb (by omega) hl fun _ cy=>yg h hb (.inl h0) cy hH)
theorem EF{K M:Nat}(m:Mg)(A1 A2:Option Addr)(n1 c1 n2 c2:Nat)(ha:aL c q)(h:aJ aa c q w g R v)(hk:Ok K M R)(ct:1<=K)(hK:K<=9000)(hM:M<=15000)(hi:cW R)(he:cN aa q w (.slice A1 n1 c1) m.entries)(hd:bM aa q w (.slice A2 n2 c2) m.data)(lB:n2=m.data.length)(hm:xP R m) :
  Calls prog 64 #[.pointer (some ⟨g,0,none⟩),eH m (.slice A1 n1 c1) (.slice A2 n2 c2)] w fun e w'=>e=.returned (.tuple #[])/\au aa c q w g (R.does m) w':=by
 have I5:eH m (.slice A1 n1 c1) (.slice A2 n2 c2)=.agg (cC m A1 A2 n1 c1 n2 c2):=rfl;rw[I5];have xu:=hk.ms;have cf:=hk.trk;have qX:=hk.tm;have xf:=hk.yl;have aI:Below w.heap.size w (w.alloc (.cells (cC m A1 A2 n1 c1 n2 c2) 39)):=zb.alloc zl _;have bN:=ar.new w 39 (cC m A1 A2 n1 c1 n2 c2);obtain⟨w1,bV⟩:=zN (w.alloc (.cells (cC m A1 A2 n1 c1 n2 c2) 39));rw[bV]at aI bN;have h1:=h.fresh (q+c+10) aI;have zo:bM (ai aa w.heap.size (q+c+10)) q w1 (.slice A2 n2 c2) m.data:=(hd.keep fun j _ hl=>aI.block j hl).relabel_of aI.size (fun j hj=>ac hj) hd;have NV:cN (ai aa w.heap.size (q+c+10)) q w1 (.slice A1 n1 c1) m.entries:=(he.relabel (ak:=ai aa w.heap.size (q+c+10)) fun j hj e=>(ac hj).trans e).keep fun j _ hl=>aI.block j hl
 obtain⟨ag,eV⟩:=zN (ai aa w.heap.size (q+c+10));rw[eV]at h1 zo NV;have cy:∀j,j<w.heap.size->ag j=aa j:=fun j hj=>by rw[<-eV];exact ac hj
 have fA:¬aT ag c w.heap.size:=fun hh=>by
  unfold aT at hh;rw[<-eV,ay zl]at hh;omega
 have Bi:∀j,ag j=q->j≠g:=fun j hj e=>by subst e;have:=h1.sl;unfold aL at ha;omega
 have cR:∀R' w',au ag c q w1 g R' w'->au aa c q w g R' w':=fun R' w' hp=>hp.next cy (Fr.of_below aI)
 refine Calls.mono (R:=fun e w'=>e=.returned (.tuple #[])/\au ag c q w1 g (R.does m) w') ?_ (fun e w' hh=>⟨hh.1,cR _ _ hh.2⟩);refine cP (args:=[.pointer (some ⟨g,0,none⟩),.agg (cC m A1 A2 n1 c1 n2 c2)]) 236 func64 (by kernel_rfl) ntmps64 (by simp) fun la jO fD=>?_
 refine aK (by kernel_rfl) (Xb ⟨jO,fD 0 _ rfl,fD 1 _ rfl⟩ fun l0 jq=>?_);rw[bV];refine aK (by kernel_rfl) (YE h1 (by omega) rfl rfl ⟨jq.1,jq.2.1,jq.2.2⟩ fun l1 w2 qH bJ=>?_);have h2:=h1.below bJ;have mN:=bN.kept bJ;have B9:bM ag q w2 (.slice A2 n2 c2) m.data:=zo.keep fun j _ hl=>bJ.block j hl
 have Pm:cN ag q w2 (.slice A1 n1 c1) m.entries:=NV.keep fun j _ hl=>bJ.block j hl
 refine aK (by kernel_rfl) (XI mN qH fun l2 dM=>?_);obtain⟨nw,nV⟩:∃x,R.newer m=x:=⟨_,rfl⟩;rw[show gf m.idx m.logTerm R.track.lastF.1 R.track.lastF.2=nw from nV]at dM;have gN:∀R' w',au ag c q w2 g R' w'->au ag c q w1 g R' w':=fun R' w' hp=>hp.behind bJ
 have jZ:∀R' w',au ag c q w2 g R' w'->ar w' w.heap.size 39 (cC m A1 A2 n1 c1 n2 c2):=fun R' w' hp=>hp.blk fA mN
 unfold Rf.does;by_cases k1:m.kind=1
 ·rw[if_pos k1];exact aK (by kernel_rfl) (IR ha h2 mN k1 nV (by omega) dM fun w' hp=>gN _ _ hp)
 rw[if_neg k1];refine aK (by kernel_rfl) (NA mN k1 dM fun l3 kr=>?_);have Vt:=hk.says m.frm;have gB:∀wy,au ag c q w2 g R wy->Calls prog 101 #[.pointer (some ⟨g,0,none⟩),.int .i64 m.frm] wy fun e w'=>e=.returned (.bool (R.says m.frm).won)/\au ag c q w2 g (R.says m.frm) w':=fun wy hy=>by
  obtain⟨cM,v3,q1,q2,q3⟩:=hy;refine(sT m.frm ha q1 (by omega)).mono ?_;rintro e w' ⟨rfl,hp⟩;exact⟨rfl,hp.next q2 q3⟩
 by_cases k2:m.kind=2
 ·rw[if_pos k2];by_cases c2':m.reject=false/\m.term=R.hard.term+1/\R.role=1
  ·rw[if_pos c2'];have pI:R.hard.term<1099511627776:=by have:=hm.term;omega
   refine aK (by kernel_rfl) (JY (J:=fun w'=>au ag c q w2 g (R.says m.frm) w') (won:=(R.says m.frm).won) h2 mN ⟨k2,c2'.1,c2'.2.2,c2'.2.1⟩ qX (gB _ ((au.refl h2).below (zb.drew))) (fun hw w' hJ=>?_) (fun hw w' hJ=>?_) kr fun l4 w4 nG U9=>?_)
   ·rw[if_pos hw];refine(hJ.call fun cM v3 h3=>pU ha h3 Vt (by omega) (by omega) (by omega) (hi.says m.frm) pI).mono ?_;rintro e w'' ⟨rfl,hp⟩;exact⟨rfl,gN _ _ hp⟩
   ·rw[if_neg (by rw[hw];simp)];exact gN _ _ hJ
   ·obtain⟨Ra,v4,q1,q2,q3⟩:=id U9;exact zg q1 (U9.blk fA bN) k2 nG U9
  ·rw[if_neg c2'];refine aK (by kernel_rfl) (F7 h2 mN (fun hh=>c2' ⟨hh.2.1,hh.2.2.2,hh.2.2.1⟩) qX kr fun l4 nG=>?_);exact zg (h2.below (zb.drew)) mN.drew k2 nG (gN _ _ ((au.refl h2).below (zb.drew)))
 rw[if_neg k2];refine aK (by kernel_rfl) (F7 h2 mN (fun hh=>k2 hh.1) qX kr fun l4 nG=>?_);have h4:aJ ag c q w2.drew g R v:=h2.below (zb.drew);have lx:=mN.drew;have yE:au ag c q w2 g R w2.drew:=(au.refl h2).below (zb.drew);have Ld:∀R' w',au ag c q w2.drew g R' w'->au ag c q w2 g R' w':=fun R' w' hp=>hp.behind (zb.drew)
 by_cases k3:m.kind=3
 ·rw[if_pos k3];have Kq:∀(l':List Value) w',LD l' g w.heap.size nw->au ag c q w2.drew g (R.votes m) w'->(HI 6 (fl f64)).wp prog (bodyPost prog f64 fun e w''=>e=.returned (.tuple #[])/\au ag c q w1 g (R.votes m) w'') ⟨l'.toArray,[]⟩ w':=fun l' w' Nj hp=>by
   have QD:=Ld _ _ hp;obtain⟨cV,v5,q1,q2,q3⟩:=id QD;exact yg q1 (jZ _ _ QD) (.inr k3) Nj (gN _ _ QD)
  by_cases hc:(R.hard.vote=0\/R.hard.vote=m.frm)/\nw=true
  ·exact aK (by kernel_rfl) (JI ha h4 lx k3 hc nV (by omega) nG Kq)
  ·exact aK (by kernel_rfl) (IC ha h4 lx k3 hc nV (by omega) nG Kq)
 rw[if_neg k3];refine aK (by kernel_rfl) (HO lx k3 nG fun l5 oA=>?_);by_cases k4:m.kind=4
 ·rw[if_pos k4];by_cases c4:m.reject=false/\R.role=2
  ·rw[if_pos c4];refine aK (by kernel_rfl) (IJ (J:=fun w'=>au ag c q w2 g (R.says m.frm) w') (won:=(R.says m.frm).won) h4 lx ⟨k4,c4⟩ (gB _ yE) (fun hw w' hJ=>?_) (fun hw w' hJ=>?_) oA)
   ·rw[if_pos hw];refine(hJ.call fun cM v3 h3=>sC ha h3 Vt (by omega) (by omega) (by omega) (hi.says m.frm)).mono ?_;rintro e w'' ⟨rfl,hp⟩;exact⟨rfl,gN _ _ hp⟩
   ·rw[if_neg (by rw[hw];simp)];exact gN _ _ hJ
  ·rw[if_neg c4];refine aK (by kernel_rfl) (Cc h4 lx (fun hh=>c4 hh.2) oA fun l6 rf=>?_);refine aK (by kernel_rfl) (sK h4 lx (by omega) rf fun l7 xv=>?_);exact pe h4 lx (by omega) xv (gN _ _ yE)
 rw[if_neg k4];refine aK (by kernel_rfl) (Cc h4 lx (fun hh=>k4 hh.1) oA fun l6 rf=>?_);have Wq:∀W,Fr (fun j=>j=g) w2.drew W->cN ag q W (.slice A1 n1 c1) m.entries/\bM ag q W (.slice A2 n2 c2) m.data:=fun W hF=>
  ⟨Pm.keep fun j hj hl=>hF.block j hl (Bi j hj),B9.keep fun j hj hl=>hF.block j hl (Bi j hj)⟩
 have aF:∀W R',Fr (fun j=>j=g) w2.drew W->∀w',au ag c q W g R' w'->au ag c q w1 g R' w':=fun W R' hF w' hp=>gN _ _ (Ld _ _ (hp.next (fun _ _=>rfl) (hF.mono (X':=aT ag c) fun j e=>by have:=h1.sl;rw[e];exact⟨by omega,by omega⟩)))
 by_cases k5:m.kind=5
 ·rw[if_pos k5];by_cases c5:R.role≠3
  ·rw[if_pos c5];refine aK (by kernel_rfl) (Qq ha h4 lx ⟨k5,c5⟩ (fun W hW hF=>?_) rf);refine(xd m A1 A2 n1 c1 n2 c2 ha hW (hk.hears m) (by omega) (by omega) hi (Wq W hF).1 hm.el hm.idx hm.cmt.2).mono ?_;rintro e w' ⟨rfl,hp⟩;exact⟨rfl,aF W _ hF w' hp⟩
  ·rw[if_neg c5];refine aK (by kernel_rfl) (sK h4 lx (fun hh=>c5 hh.2) rf fun l7 xv=>?_);exact pe h4 lx (by omega) xv (gN _ _ yE)
 rw[if_neg k5];by_cases k7:m.kind=7
 ·rw[if_pos k7];by_cases c7:R.role≠3
  ·rw[if_pos c7];refine aK (by kernel_rfl) (PH ha h4 lx ⟨k7,c7⟩ (fun W hW hF=>?_) rf);refine(BD m A1 A2 n1 c1 n2 c2 ha hW (hk.hears m) (by omega) (by omega) (Wq W hF).2 lB (by have:=hm.dl;omega) hm.idx.1 hm.idx.2 hm.lgt.1 hm.lgt.2).mono ?_;rintro e w' ⟨rfl,hp⟩;exact⟨rfl,aF W _ hF w' hp⟩
  ·rw[if_neg c7];refine aK (by kernel_rfl) (sK h4 lx (fun hh=>c7 hh.2) rf fun l7 xv=>?_);exact pe h4 lx (by omega) xv (gN _ _ yE)
 rw[if_neg k7];refine aK (by kernel_rfl) (sK h4 lx (by omega) rf fun l7 xv=>?_);by_cases c8:m.kind=8/\m.reject=true
 ·rw[if_pos c8];exact pe h4 lx (fun hh=>hh.2.elim (fun e=>by omega) fun e=>by have e:=e.2;rw[c8.2]at e;cases e) xv (gN _ _ yE)
 rw[if_neg c8];by_cases cr:R.role=3
 ·rw[if_pos cr];have uH:m.kind=6\/(m.kind=8/\m.reject=false):=by
   have:=hm.kind;by_cases e:m.kind=8
   ·exact .inr ⟨e,by simpa using fun hh=>c8 ⟨e,hh⟩⟩
   ·exact .inl (by omega)
  refine JO h4 lx ⟨cr,uH⟩ ?_ xv;have am:=hm.frm;refine(uh m m.frm.toNat A1 A2 n1 c1 n2 c2 ha h4 hk cr (by omega) (by omega) hi (by omega) (by omega) uH hm.idx hm.off.1).mono ?_;rintro e w' ⟨rfl,hp⟩;exact⟨rfl,gN _ _ (Ld _ _ hp)⟩
 ·rw[if_neg cr];exact pe h4 lx (fun hh=>cr hh.1) xv (gN _ _ yE)
end
theorem B4:(prog.info? 173).map (fun i=>(i.zero,i.size,i.bytes))=some (some (.agg #[.int .i64 0,.int .i64 0,.int .i64 0]),3,24):=by kernel_rfl
theorem Af:(prog.info? 135).map (fun i=>(i.zero,i.size,i.bytes))=some (some (.agg #[.int .i64 0,.int .i64 0]),2,16):=by kernel_rfl
theorem j9{w:World}{ops:Array Oper}{rest:List Oper}{o:Oper}{a:Act}{Q:Exit->Act->World->Prop}(kt:o.guard=none)(s x:Operand)
  (ho:o.op=.call {callee:=.builtin .append,args:=#[s,x],argTypes:=#[118,118]})
  (base:Nat) {A:Option Addr} {n c:Nat} {l:List Wt} (hs:a.eval s=.slice A n c) (aD:w.ownsRow base 173 3 (.slice A n c) n (l.flatMap pH))
  {B:Option Addr} {m d:Nat} {r:List Wt} (hx:a.eval x=.slice B m d) (hr:cn w 3 B m (r.flatMap pH)) (hb:n+m<=1000000000) (bl:base<=w.heap.size)
  (h:∀A' c' w',w'.ownsRow base 173 3 (.slice A' (n+m) c') (n+m) ((l++r).flatMap pH)->Fr (az A) w w'->(∀j,az A' j->az A j\/w.heap.size<=j)->wpList prog ops Q rest (a.put o.dst (.slice A' (n+m) c')) w'):wpList prog ops Q (o::rest) a w:=by
 obtain⟨i0,iy,jK,iL,gL⟩:=info_parts B4;refine bb w kt s x 118 ho base 173 i0 _ 3 24 underlying118 iy jK iL gL rfl (by omega) (.slice A n c) n _ hs aD B m d _ hx hr (fun u hu=>?_) (by unfold maxLen;omega) (by omega) bl fun A' c' w' h3 h4 h5=>?_
 ·obtain⟨z,_,hz⟩:=List.mem_flatMap.1 hu;unfold pH at hz;simp only[List.mem_cons,List.not_mem_nil,or_false]at hz;rcases hz with rfl|rfl|rfl <;> rfl
 ·rw[<-List.flatMap_append]at h3;exact h A' c' w' h3 (Fr.grown h4) (gE h5)
theorem pk{w:World}{ops:Array Oper}{rest:List Oper}{o:Oper}{a:Act}{Q:Exit->Act->World->Prop}(kt:o.guard=none)(s x:Operand)
  (ho:o.op=.call {callee:=.builtin .append,args:=#[s,x],argTypes:=#[50,50]})
  (base:Nat) {A:Option Addr} {n c:Nat} {l:List (Int×Int)} (hs:a.eval s=.slice A n c) (aD:w.ownsRow base 135 2 (.slice A n c) n (l.flatMap qW))
  {B:Option Addr} {m d:Nat} {r:List (Int×Int)} (hx:a.eval x=.slice B m d) (hr:cn w 2 B m (r.flatMap qW)) (hb:n+m<=1000000000) (bl:base<=w.heap.size)
  (h:∀A' c' w',w'.ownsRow base 135 2 (.slice A' (n+m) c') (n+m) ((l++r).flatMap qW)->Fr (az A) w w'->(∀j,az A' j->az A j\/w.heap.size<=j)->wpList prog ops Q rest (a.put o.dst (.slice A' (n+m) c')) w'):wpList prog ops Q (o::rest) a w:=by
 obtain⟨i0,iy,jK,iL,gL⟩:=info_parts Af;refine bb w kt s x 50 ho base 135 i0 _ 2 16 underlying50 iy jK iL gL rfl (by omega) (.slice A n c) n _ hs aD B m d _ hx hr (fun u hu=>?_) (by unfold maxLen;omega) (by omega) bl fun A' c' w' h3 h4 h5=>?_
 ·obtain⟨z,_,hz⟩:=List.mem_flatMap.1 hu;unfold qW at hz;simp only[List.mem_cons,List.not_mem_nil,or_false]at hz;rcases hz with rfl|rfl <;> rfl
 ·rw[<-List.flatMap_append]at h3;exact h A' c' w' h3 (Fr.grown h4) (gE h5)
theorem vL{w:World}{g size:Nat}{T:TypeId}{l:List Value}(hg:ar w g T l.toArray)(hl:l.length=size):cn w size (some ⟨g,0,none⟩) 1 l:=
 ⟨by rw[hl];omega,fun _=>⟨_,rfl,fun j y hy=>by
  have e:(⟨g,0,none⟩:Addr).add j=⟨g,j,none⟩:=by unfold Addr.add;split <;> simp[*]
  rw[e,hg.cell j,<-hy];simp⟩⟩
def fK(R:Rf)(k:Int)(j:Nat):Rf:={R with out:={R.out with reads:=R.out.reads++fh k (R.waits.take j)}}
section
variable {aa:Nat->Nat}{c q g:Nat}{w:World}{R:Rf}{v:Aw}
def qM(aa:Nat->Nat)(c q:Nat)(w:World)(g:Nat)(R':Rf)(A:Option Addr)(d:Nat)(l:List Wt)(wr:World):Prop:=
 ∃(ag:Nat->Nat) (v1:Aw),aJ ag c q wr g R' v1/\(∀j,j<w.heap.size->ag j=aa j)/\Fr (aT aa c) w wr/\wr.ownsRow w.heap.size 173 3 (.slice A l.length d) l.length (l.flatMap pH)/\∀j,az A j->ag j=q+c+10
variable {w2 w3 wr:World}{R' R2:Rf}{A A':Option Addr}{d d':Nat}{l:List Wt}{x:Wt}
theorem qM.grow(h:qM aa c q w g R' A d l wr)(hb:Below wr.heap.size wr w2)(ho:w3.ownsRow w.heap.size 173 3 (.slice A' (l.length+1) d') (l.length+1) ((l++[x]).flatMap pH))(hF:Fr (az A) w2 w3)(hr:∀j,az A' j->az A j\/w2.heap.size<=j):qM aa c q w g R' A' d' (l++[x]) w3:=by
 obtain⟨ag,v1,h1,h2,h3,h4,h5⟩:=h;have mJ:=h3.size;have RT:=hb.size;have h6:=h1.fresh (q+c+10) hb;have aU:∀j,az A j->j<wr.heap.size:=fun j hj=>(aB h4 A d rfl j hj).1
 have h7:=h6.keep (w':=w3) fun j hj hl=>hF.block j hl fun hh=>by
  unfold dC at hj;rw[ac (aU j hh),h5 j hh]at hj;omega
 refine⟨ai ag wr.heap.size (q+c+10),v1,h7,fun j hj=>(ac (by omega)).trans (h2 j hj),(h3.trans (Fr.of_below (X:=aT aa c) hb) fun _ h=>.inl h).trans hF fun j hj=>.inr (aB h4 A d rfl j hj).2.1,by rw[List.length_append];exact ho,fun j hj=>?_⟩;rcases hr j hj with h|h
 ·exact(ac (aU j h)).trans (h5 j h)
 ·exact ay (by omega)
theorem qM.act(h:qM aa c q w g R' A d l wr):∃ag v1,aJ ag c q wr g R' v1/\wr.ownsRow w.heap.size 173 3 (.slice A l.length d) l.length (l.flatMap pH)/\∀R2 w3,au ag c q wr g R2 w3->qM aa c q w g R2 A d l w3:=by
 obtain⟨ag,v1,h1,h2,h3,h4,h5⟩:=h;refine⟨ag,v1,h1,h4,fun R2 w3 hP=>?_⟩;obtain⟨bu,v2,q1,q2,q3⟩:=hP;have mJ:=h3.size;have aU:∀j,az A j->j<wr.heap.size:=fun j hj=>(aB h4 A d rfl j hj).1
 refine⟨bu,v2,q1,fun j hj=>(q2 j (by omega)).trans (h2 j hj),h3.trans q3 fun j hj=>fH h2 hj,cH h4 fun j hj hl=>q3.block j hl fun hh=>?_,fun j hj=>(q2 j (aU j hj)).trans (h5 j hj)⟩;unfold aT at hh;rw[h5 j hj]at hh;omega
theorem qM.done(ha:aL c q)(h:qM aa c q w g R' A d l wr)(cQ:g<w.heap.size):au aa c q w g {R' with waits:=l} (wr.setCell ⟨g,16,none⟩ (.slice A l.length d)):=by
 obtain⟨ag,v1,h1,h2,h3,h4,h5⟩:=h;have mJ:=h3.size;have aU:∀j,az A j->j<wr.heap.size/\w.heap.size<=j:=fun j hj=>⟨(aB h4 A d rfl j hj).1,(aB h4 A d rfl j hj).2.1⟩
 classical
 have hrel:=h1.relabel (ak:=fun j=>if az A j then c+5 else ag j) fun j hj hm=>if_neg fun hh=>by
  unfold dC at hm;rw[h5 j hh]at hm;omega
 have vZ:¬az A g:=fun hh=>by have:=(aU g hh).2;omega
 have hS:=h1.s.set_ 16 (.slice A l.length d);simp only[bj,Zy]at hS;have hF:=Fr.set (w:=wr) g 16 (.slice A l.length d);have bP:bQ (fun j=>if az A j then c+5 else ag j) (c+5) (wr.setCell ⟨g,16,none⟩ (.slice A l.length d)) 173 3 (.slice A l.length d) l.length (l.flatMap pH):=
  ⟨A,d,rfl,ed (cH h4 fun j hj hl=>hF.block j hl fun e=>vZ (e▸hj)) zz,fun j hj=>if_pos hj⟩
 have hX:∀i∈[5],1<i/\i<=9:=by simp
 have di:Fr (fun j=>j=g\/∃i,i∈[5]/\(fun j=>if az A j then c+5 else ag j) j=c+i) wr (wr.setCell ⟨g,16,none⟩ (.slice A l.length d)):=hF.mono fun j e=>.inl e
 have h9:=hrel.turn (R':={R' with waits:=l}) (v':={v1 with waits:=.slice A l.length d}) [5] ha hS (fun j hj=>rfl) hX di tI tI tI (.inl bP) (.inr ⟨rfl,rfl⟩) (.inr ⟨rfl,rfl⟩) tI tI (.inr ⟨rfl,rfl⟩) tI tI;refine⟨_,_,h9,fun j hj=>(if_neg fun hh=>by have:=(aU j hh).2;omega).trans (h2 j hj),h3.trans (hF.mono (X':=aT ag c) fun j e=>?_) fun j hj=>fH h2 hj⟩;rw[e];have:=h1.sl;exact⟨by omega,by omega⟩
theorem sh{K M:Nat}(ha:aL c q)(h:aJ aa c q w g R v)(hk:Ok K M R)(hr:R.role=3)(hM:M<=90000) :
  Calls prog 65 #[.pointer (some ⟨g,0,none⟩)] w fun e w'=>e=.returned (.tuple #[])/\au aa c q w g R.reads w':=by
 have cQ:=h.s.lt;have qk:=hk.id.2.2;have hp:R.peers.length=R.n+1:=(hk.ld hr).1;have fO:=hk.ws;have JH:=hk.rs;have hH:=zH h;have Tp:=Below.refl w.heap.size w;replace hk:=zH hk;clear h;go_enter func65,ntmps65;go_wp2_with fail
 go_loopw [2,3] (fun o s' wr=>∃(k:Nat) (A:Option Addr) (d:Nat),k<=R.n/\s'=.int .i64 ((k:Int)+1)/\o=.slice A k d/\wr.ownsRow w.heap.size 3 1 (.slice A k d) k ((fE R R.round Pr.round k).map vi)/\Below w.heap.size w wr) (fun _ s' _=>R.n+1-(intOf s').toNat)
 case atStart=>exact⟨0,none,0,Nat.zero_le _,rfl,rfl,b9 _ _,Tp⟩
 case round=>
  obtain⟨k,A,d,hk,rfl,rfl,aD,hb⟩:=hrel;have jX:=hH.out.below hb;obtain⟨c0,c1,c14,c15,-⟩:=jX.s.cs [0,1,14,15];simp only[bj,vi,Zx]at c0 c1 c14 c15;by_cases aU:k<R.n
  ·have aP:=zH (show R.n+1-(k+1+1)<R.n+1-(k+1) by omega);have fo:(k:Int)+1<=R.n:=by omega
   have ci:=iZ R R.round Pr.round k;have fi:k+1<=1000000000:=by omega
   by_cases jg:k+1=R.id
   ·rw[if_pos jg]at ci;have jm:(R.id:Int)=(k:Int)+1:=by omega
    rw[jm]at c0;have UD:=fB.one wr R.round;have aI:Below wr.heap.size wr (wr.alloc (.cells #[.int .i64 R.round] 3)):=zb.alloc zl _;have cv:=bf aD aI;have bJ:=ab hb aI zl;replace ci:=zH ci;clear jm jg jX aD;go_wp2_with (at_builtin;refine bi rfl (.tmp 21) (.tmp 26) rfl w.heap.size rfl cv rfl UD fi bJ.size ?_;intro A3 c3 w3 bF gK bS);exact⟨⟨k+1,A3,c3,aU,by go_num,rfl,by rw[ci.out];exact bF,bJ.trans bS⟩,by simp[intOf];have:=aP.out;omega⟩
   ·rw[if_neg jg]at ci;obtain⟨p,dp,hv,mx,Qy,p0,p1,p2,p3,qj⟩:=jX.peer_at (s:=k+1) (by omega);clear qj;rw[hv,hp]at c14;obtain⟨mt,Da⟩:∃m,(R.peer (k+1)).round=m:=⟨_,rfl⟩;rw[Da]at p3 ci;have UD:=fB.one wr mt;have aI:Below wr.heap.size wr (wr.alloc (.cells #[.int .i64 mt] 3)):=zb.alloc zl _;have cv:=bf aD aI;have bJ:=ab hb aI zl;have i1:(((k:Int)+1)==(R.id:Int))=false:=beq_eq_false_iff_ne.2 (by omega);replace ci:=zH ci;replace Da:=zH Da;clear jg jX aD p0 p1 p2;go_wp2_with (at_builtin;refine bi rfl (.tmp 28) (.tmp 37) rfl w.heap.size rfl cv rfl UD fi bJ.size ?_;intro A3 c3 w3 bF gK bS);exact⟨⟨k+1,A3,c3,aU,by go_num,rfl,by rw[ci.out];exact bF,bJ.trans bS⟩,by simp[intOf];have:=aP.out;omega⟩
  ·obtain rfl:k=R.n:=by omega
   have ku:¬((R.n:Int)+1<=R.n):=by omega
   have qt:=nd (R.n:Int) A R.n d (fE R R.round Pr.round R.n) wr (fB.of_own aD);obtain⟨N,ER⟩:=zN (eO R.n (fE R R.round Pr.round R.n));rw[ER]at qt;have Il:R.readsTo=N:=by rw[<-ER];rfl
   clear aD jX;go_wp2_with fail;refine qt.mono ?_;rintro e w5 ⟨rfl,cD⟩;clear qt;have kw:=ab hb cD zl;have Eg:qM aa c q w g (fK R N 0) none 0 (dD N (R.waits.take 0)) w5:=by
    have e:fK R N 0=R:=by unfold fK fh;simp
    rw[e];exact⟨ai aa w.heap.size (q+c+10),v,hH.out.fresh (q+c+10) kw,fun j hj=>ac hj,Fr.of_below kw,b9 _ _,fun j hj=>by obtain⟨_,e,_⟩:=hj;cases e⟩
   replace Il:=zH Il;replace ER:=zH ER;clear c0 c1 c14 c15;go_wp2_with fail
   go_loopw [5,6] (fun o i wr=>∃(j:Nat) (A:Option Addr) (d:Nat),j<=R.waits.length/\i=.int .i64 j/\o=.slice A (dD N (R.waits.take j)).length d/\qM aa c q w g (fK R N j) A d (dD N (R.waits.take j)) wr) (fun _ i _=>R.waits.length-(intOf i).toNat)
   case atStart=>exact⟨0,none,0,Nat.zero_le _,rfl,rfl,Eg⟩
   case round=>
    clear Eg;obtain⟨j,A5,d5,hj,rfl,rfl,Lt⟩:=hrel;obtain⟨ag,v1,h1,aD,cR⟩:=Lt.act;obtain⟨L,hL⟩:=zN (R.waits.length);rw[hL]at hj fO;have XW:=zH hL;obtain⟨Aw,dw,qG,C7,Z1⟩:=id h1.x;have e9:(fK R N j).waits=R.waits:=rfl;rw[e9,hL]at qG C7;have c16:wr.cell? ⟨g,16,none⟩=some (.slice Aw L dw):=by
     have:=h1.s.cell 16;simp only[bj,Zx]at this;rw[this,qG]
    by_cases nj:j<L
    ·obtain⟨x,hx⟩:∃x,R.waits[j]?=some x:=⟨_,List.getElem?_eq_getElem (by omega)⟩;obtain⟨pw,dw',ew,_,Yd,IB,ee,_⟩:=h1.x.at_ (by rw[e9,hL];omega);rw[qG,e9,hL]at ew;injection ew with ew1 _ ew3;subst ew1;subst ew3;have key:∀s u,s<3->(pH x)[s]?=some u->wr.cell? ⟨pw,j*3+s,none⟩=some u:=fun s u hs hu=>ee _ _ ((eo (f:=pH) (k:=3) (fun _=>rfl) hs (show(fK R N j).waits[j]?=some x from hx)).trans hu)
     have m0:=key 0 _ (by omega) rfl;have m1:=key 1 _ (by omega) rfl;have m2:=key 2 _ (by omega) rfl;simp only[vi,Nat.add_zero]at m0 m1 m2;have aP:=zH (show L-(j+1)<L-j by omega);have AJ:=nM (k:=N) hx;have Ja:=nl (k:=N) hx;have iQ:=h1.s.lt;have CC:(dD N (R.waits.take j)).length<=16:=by
      have h1:=uu N (R.waits.take j);have h2:(R.waits.take j).length<=j:=by rw[List.length_take];omega
      omega
     by_cases fo:x.round<=N
     ·
      rw[if_neg (by omega),List.append_nil]at AJ;rw[if_pos fo]at Ja;have dH:Below wr.heap.size wr ((wr.alloc (.cells #[.int .i64 x.ctx,.int .i64 x.idx] 135)).drew):=((Below.refl wr.heap.size wr).alloc zl _).drew;have h2:=h1.fresh (q+c+10) dH;obtain⟨Ar,dr,Sx,Kt,Yv⟩:=id h2.r;obtain⟨n,fp⟩:=zN ((fK R N j).out.reads.length);rw[fp]at Sx Kt;have lA:n<=M+16:=by
       rw[<-fp];show(R.out.reads++fh N (R.waits.take j)).length<=_;have h3:(fh N (R.waits.take j)).length<=(R.waits.take j).length:=by unfold fh;rw[List.length_map];exact List.length_filter_le _ _
       have h4:(R.waits.take j).length<=j:=by rw[List.length_take];omega
       rw[List.length_append];omega
      have c32:wr.cell? ⟨g,32,none⟩=some (.slice Ar n dr):=by
       have:=h1.s.cell 32;simp only[bj,Zx]at this;rw[this,Sx]
      have dx:cn ((wr.alloc (.cells #[.int .i64 x.ctx,.int .i64 x.idx] 135)).drew) 2 (some ⟨wr.heap.size,0,none⟩) 1 ([(x.ctx,x.idx)].flatMap qW):=vL (ar.new wr _ _) rfl;have fi:n+1<=1000000000:=by omega
      have dh:fK R N (j+1)={fK R N j with out:={(fK R N j).out with reads:=(fK R N j).out.reads++[(x.ctx,x.idx)]}}:=by
       unfold fK;rw[Ja];simp only[List.append_assoc];rfl
      have UZ:¬ag pw=c+8:=by omega
      have aF:∀(A3:Option Addr) (c3:Nat) (w3:World),w3.ownsRow 0 135 2 (.slice A3 (n+1) c3) (n+1) (((fK R N j).out.reads++[(x.ctx,x.idx)]).flatMap qW)->Fr (az Ar) ((wr.alloc (.cells #[.int .i64 x.ctx,.int .i64 x.idx] 135)).drew) w3->(∀j,az A3 j->az Ar j\/((wr.alloc (.cells #[.int .i64 x.ctx,.int .i64 x.idx] 135)).drew).heap.size<=j)->
        ar w3 g 122 (bj (fK R N j) v1)/\(∀x∈[g,pw],w3.heap[x]?=wr.heap[x]?)/\qM aa c q w g (fK R N (j+1)) A5 d5 (dD N (R.waits.take (j+1))) (w3.setCell ⟨g,32,none⟩ (.slice A3 (n+1) c3)):=fun A3 c3 w3 ho hF hr=>by
       have hy:=h2.r;rw[Sx,fp]at hy;obtain⟨g1,g2⟩:=oG hy ho hF hr;have e2:((fK R N j).out.reads++[(x.ctx,x.idx)]).length=n+1:=by rw[List.length_append,fp];rfl
       obtain⟨h3,h4,h5⟩:=h2.setReads ha g2 (by rw[e2];exact g1);refine⟨h5,fun y hy=>?_,?_⟩
       ·simp only[List.mem_cons,List.not_mem_nil,or_false]at hy;rcases hy with rfl|rfl
        ·exact h5.trans h1.s.symm
        ·exact(g2.block y (Nat.lt_of_lt_of_le IB dH.size) fun e=>UZ (by have e:ai ag wr.heap.size (q+c+10) y=c+8:=e;rw[ac IB]at e;exact e)).trans (dH.block y IB)
       ·rw[AJ,dh];exact cR _ _ (au.fresh (q+c+10) ⟨_,_,h3,fun j hj=>ac hj,h4⟩ dH)
      obtain⟨k32,k16,k0,k2⟩:=GD [g,pw] c32 c16 m0 m2;have cT:∀x∈[g,pw],x<wr.heap.size:=by simp;exact⟨iQ,IB⟩
      rw[AJ]at aF;replace AJ:=zH AJ;clear h1 h2 Lt aD cR C7 key ee Yv dh Ja fp;go_wp2_with fail;refine mI [g,pw] wr [([0,1,2,3,4,5,6,7,8,9,10,11,12,13,14,15,16,17,18,19,20,21,22],23),([],24)] ([25,26,27],28) ?_;refine ap fun K5 wR=>?_
      simp only[af,Zx];repeat go_big_quiet_step(fail)
      apply wpQuiet_nil;go_wp2_with fail;refine⟨aq cT dH,wR _ _ ?_⟩;refine ap fun K6 rS=>?_
      simp only[af,Zx];apply wpQuiet_nil;go_wp2_with (at_builtin;refine pk rfl (.tmp 69) (.tmp 87) rfl 0 rfl Kt rfl dx fi zz ?_;intro A3 c3 w3 cE dg hrw3;obtain⟨iT,ja,lm⟩:=aF A3 c3 w3 cE dg hrw3;replace lm:=zH lm;clear aF cE dg hrw3);have x32:=iT.cell 32;have y32:=iT.free 32;simp only[bj,vi,Zx]at x32;refine⟨dN ja,rS _ _ ?_⟩;refine aC ?_;simp only[af,Zx];repeat go_big_quiet_step(fail)
      apply wpQuiet_nil;go_wp2_with fail;exact⟨⟨j+1,A5,d5,by rw[hL];exact nj,by go_num,by rw[AJ.out],by rw[AJ.out];exact lm.out⟩,by rw[hL];simp[intOf];exact aP.out⟩
     ·
      rw[if_pos (by omega)]at AJ;rw[if_neg fo,List.append_nil]at Ja;have ez:fK R N (j+1)=fK R N j:=by unfold fK;rw[Ja]
      have dH:Below wr.heap.size wr (wr.alloc (.cells #[.int .i64 x.ctx,.int .i64 x.round,.int .i64 x.idx] 173)):=(Below.refl wr.heap.size wr).alloc zl _;have dx:cn (wr.alloc (.cells #[.int .i64 x.ctx,.int .i64 x.round,.int .i64 x.idx] 173)) 3 (some ⟨wr.heap.size,0,none⟩) 1 ([x].flatMap pH):=vL (ar.new wr _ _) rfl;have qh:=bf aD dH;obtain⟨n,fp⟩:=zN ((dD N (R.waits.take j)).length);have aF:∀(A3:Option Addr) (c3:Nat) (w3:World),w3.ownsRow w.heap.size 173 3 (.slice A3 (n+1) c3) (n+1) ((dD N (R.waits.take j)++[x]).flatMap pH)->Fr (az A5) (wr.alloc (.cells #[.int .i64 x.ctx,.int .i64 x.round,.int .i64 x.idx] 173)) w3->(∀j,az A3 j->az A5 j\/(wr.alloc (.cells #[.int .i64 x.ctx,.int .i64 x.round,.int .i64 x.idx] 173)).heap.size<=j)->
        qM aa c q w g (fK R N (j+1)) A3 c3 (dD N (R.waits.take (j+1))) w3:=fun A3 c3 w3 ho hF hr=>by
       rw[AJ,ez];exact Lt.grow dH (by rw[fp];exact ho) hF hr
      have ah:(dD N (R.waits.take (j+1))).length=n+1:=by rw[AJ,List.length_append,fp];rfl
      have bl:w.heap.size<=(wr.alloc (.cells #[.int .i64 x.ctx,.int .i64 x.round,.int .i64 x.idx] 173)).heap.size:=by
       obtain⟨_,_,_,_,lu,_⟩:=id Lt;have:=lu.size;have:=dH.size;omega
      have fi:n+1<=1000000000:=by omega
      rw[fp]at qh;replace fo:=Int.not_le.1 fo;replace ah:=zH ah;try rw[fp]
      clear h1 Lt aD cR C7 key ee ez Ja AJ;replace fp:=zH fp;go_wp2_with (at_builtin;refine j9 rfl (.tmp 92) (.tmp 100) rfl w.heap.size rfl qh rfl dx fi bl ?_;intro A3 c3 w3 cE dg hrw3;have lm:=aF A3 c3 w3 cE dg hrw3;replace lm:=zH lm;clear aF cE dg hrw3);exact⟨⟨j+1,A3,c3,by rw[hL];exact nj,by go_num,by rw[ah.out],lm.out⟩,by rw[hL];simp[intOf];exact aP.out⟩
    ·obtain rfl:j=L:=by omega
     have cf:R.waits.take j=R.waits:=by rw[<-hL];exact List.take_length
     have hd:=Lt.done ha cQ;have aF:({fK R N j with waits:=dD N (R.waits.take j)}:Rf)=R.reads:=by
      unfold fK;rw[cf];unfold Rf.reads;rw[Il.out];rfl
     rw[aF]at hd;have f16:=h1.s.free 16;replace hd:=zH hd;clear Lt h1 aD cR C7 aF cf;go_wp2_with fail;exact cL rfl rfl ⟨rfl,hd.out⟩
end
end Go.Proofs.YtjcninheccmpoaaGreat
