import Derived.Test.YtjcninheccmpoaaGreatU6
import Derived.Deep.DeepCutAuto
import Derived.Lib.SliceRun
set_option maxRecDepth 100000
set_option maxHeartbeats 8000000
set_option linter.all false
namespace Go.Proofs.YtjcninheccmpoaaGreat
open Go.RowKit Go.Proofs.Tryz
section
open Go.MapKept
def lx(R:Rf)(m:Mg):Bool:=!(decide (R.gath.frm=m.frm/\R.gath.idx=m.idx/\R.gath.term=m.logTerm/\R.gath.total=m.total/\m.offset≠0))
def fI(R:Rf)(m:Mg):Gt:=if lx R m=true then⟨m.frm,m.idx,m.logTerm,m.total,[]⟩else R.gath
def lP(R:Rf)(m:Mg):Bool:=decide (m.offset=(fI R m).data.length/\(fI R m).data.length+m.data.length<=m.total)
theorem vW(R:Rf)(m:Mg):R.gath1 m=if lP R m=true then {fI R m with data:=(fI R m).data++m.data}else fI R m:=by
 have e:fI R m=if R.gath.frm=m.frm/\R.gath.idx=m.idx/\R.gath.term=m.logTerm/\R.gath.total=m.total/\m.offset≠0 then R.gath else⟨m.frm,m.idx,m.logTerm,m.total,[]⟩:=by
  unfold fI lx;by_cases h:R.gath.frm=m.frm/\R.gath.idx=m.idx/\R.gath.term=m.logTerm/\R.gath.total=m.total/\m.offset≠0
  ·rw[if_pos h,if_neg (by simp[h])]
  ·rw[if_neg h,if_pos (by rw[decide_eq_false h];rfl)]
 unfold Rf.gath1;simp only;rw[<-e];unfold lP;by_cases h:m.offset=(fI R m).data.length/\((fI R m).data.length:Int)+m.data.length<=m.total
 ·rw[if_pos h,if_pos (by simpa using h)]
 ·rw[if_neg h,if_neg (by simpa using h)]
theorem sK{R:Rf}{m:Mg}(h:R.gath.data.length<=65536):(fI R m).data.length<=65536:=by
 unfold fI;split
 ·exact Nat.zero_le _
 ·exact h
theorem nY{R:Rf}{m:Mg}(h:R.gath.data.length<=65536)(ht:m.total<=65536):(R.gath1 m).data.length<=65536:=by
 rw[vW];split
 ·rename_i hp;have:=(of_decide_eq_true (show decide _=true from hp)).2;show((fI R m).data++m.data).length<=_;rw[List.length_append];omega
 ·exact sK h
theorem qQ{R:Rf}{m:Mg}{x:Bool}(h:lx R m=x) :
  ((R.gath.frm !=m.frm)=true/\x=true)\/((R.gath.frm !=m.frm)=false/\(R.gath.idx !=m.idx)=true/\x=true)\/((R.gath.frm !=m.frm)=false/\(R.gath.idx !=m.idx)=false/\(R.gath.term !=m.logTerm)=true/\x=true)\/
  ((R.gath.frm !=m.frm)=false/\(R.gath.idx !=m.idx)=false/\(R.gath.term !=m.logTerm)=false/\(R.gath.total !=m.total)=true/\x=true)\/
  ((R.gath.frm !=m.frm)=false/\(R.gath.idx !=m.idx)=false/\(R.gath.term !=m.logTerm)=false/\(R.gath.total !=m.total)=false/\(m.offset==0)=x):=by
 subst h;unfold lx;by_cases h1:R.gath.frm=m.frm
 ·by_cases h2:R.gath.idx=m.idx
  ·by_cases h3:R.gath.term=m.logTerm
   ·by_cases h4:R.gath.total=m.total
    ·refine .inr (.inr (.inr (.inr ⟨by simp[h1],by simp[h2],by simp[h3],by simp[h4],?_⟩)));by_cases h5:m.offset=0 <;> simp[h1,h2,h3,h4,h5]
    ·exact .inr (.inr (.inr (.inl ⟨by simp[h1],by simp[h2],by simp[h3],by simp[h4],by simp[h4]⟩)))
   ·exact .inr (.inr (.inl ⟨by simp[h1],by simp[h2],by simp[h3],by simp[h3]⟩))
  ·exact .inr (.inl ⟨by simp[h1],by simp[h2],by simp[h2]⟩)
 ·exact .inl ⟨by simp[h1],by simp[h1]⟩
section
variable {aa:Nat->Nat}{b g N:Nat}{w wX:World}{R R1:Rf}{v:Rw}
theorem bX.raft2(h:bX aa b w g R1 N wX):∃ar v1,av ar b wX g R1 v1/\(∀w' R2,aq ar b wX g R2 w'->bX aa b w g R2 N w'/\cD w.heap.size N wX w')/\∀j,w.heap.size<=j->j<w.heap.size+N->j<wX.heap.size/\ar j=b:=by
 obtain⟨ar,v1,h1,h2,h3,h4,h5⟩:=h;exact⟨ar,v1,h1,fun w' R2 hP=>gO h2 h3 h4 h5 hP,h5⟩
theorem Cm{K M:Nat}(m:Mg)(A1 A2:Option Addr)(n1 c1 n2 c2 mi:Nat)(h:av aa b w g R v)(hk:Ok K M R)(hK:K<=10000000000)(hM:M<=6000000000)(pK:mi<=b\/b+13<mi)(hd:cT aa mi w (.slice A2 n2 c2) m.data)(hn:n2=m.data.length)(T8:n2<=160)
  (wG:0<=m.idx) (yW:m.idx<=1099511627776) (BU:0<=m.logTerm) (pL:m.logTerm<=1099511627776) (ir:0<=m.total) (dm:m.total<=1099511627776) :
  Calls prog 108 #[.pointer (some ⟨g,0,none⟩),iw m (.slice A1 n1 c1) (.slice A2 n2 c2)] w fun e w'=>e=.returned (.tuple #[])/\aq aa b w g (R.piece m) w':=by
 have bV:=h.s.lt;have dZ:=(iz w 39 39 #[.int .i64 m.kind,.int .i64 m.frm,.int .i64 m.tgt,.int .i64 m.term,.int .i64 m.idx,.int .i64 m.logTerm,.int .i64 m.commit,.int .i64 m.round,.bool m.reject,.int .i64 m.offset,.int .i64 m.total,.slice A1 n1 c1,.slice A2 n2 c2] #[.int .i64 8,.int .i64 0,.int .i64 m.frm,.int .i64 0,.int .i64 m.idx,.int .i64 0,.int .i64 0,.int .i64 m.round,.bool false,.int .i64 0,.int .i64 0,.slice none 0 0,.slice none 0 0]);have Qq:Below w.heap.size w (w.alloc (.cells #[.int .i64 m.kind,.int .i64 m.frm,.int .i64 m.tgt,.int .i64 m.term,.int .i64 m.idx,.int .i64 m.logTerm,.int .i64 m.commit,.int .i64 m.round,.bool m.reject,.int .i64 m.offset,.int .i64 m.total,.slice A1 n1 c1,.slice A2 n2 c2] 39)):=zb.alloc zl _;have TU:=ay.new w 39 #[.int .i64 m.kind,.int .i64 m.frm,.int .i64 m.tgt,.int .i64 m.term,.int .i64 m.idx,.int .i64 m.logTerm,.int .i64 m.commit,.int .i64 m.round,.bool m.reject,.int .i64 m.offset,.int .i64 m.total,.slice A1 n1 c1,.slice A2 n2 c2];obtain⟨aU,cA,yE⟩:=dZ;obtain⟨w1,bM⟩:=zN ((w.alloc (.cells #[.int .i64 m.kind,.int .i64 m.frm,.int .i64 m.tgt,.int .i64 m.term,.int .i64 m.idx,.int .i64 m.logTerm,.int .i64 m.commit,.int .i64 m.round,.bool m.reject,.int .i64 m.offset,.int .i64 m.total,.slice A1 n1 c1,.slice A2 n2 c2] 39)));rw[bM]at aU cA yE Qq TU;have qf:w1.heap.size=w.heap.size+1:=by rw[<-bM];simp
 obtain⟨w2,eh⟩:=zN ((w1.alloc (.cells #[.int .i64 8,.int .i64 0,.int .i64 m.frm,.int .i64 0,.int .i64 m.idx,.int .i64 0,.int .i64 0,.int .i64 m.round,.bool false,.int .i64 0,.int .i64 0,.slice none 0 0,.slice none 0 0] 39)));rw[eh]at aU cA yE;have hX:=bX.start (N:=2) h aU (by have:=yE.lt;omega);obtain⟨y1,y4,y5,y7,y10,-⟩:=TU.cs [1,4,5,7,10];simp only[Zx]at y1 y4 y5 y7 y10;replace hn:=zH hn;replace bM:=zH bM;replace eh:=zH eh;unfold iw;simp only[vi];by_cases fO:m.idx=0\/m.logTerm=0\/¬(1<=m.total/\m.total<=65536)
 ·have hQ:=zH (show aq aa b w g (R.piece m) w1 by
   rw[show R.piece m=R by unfold Rf.piece;rw[if_pos fO]];exact(bX.start (N:=0) h Qq (by have:=Qq.size;omega)).post)
  have fA:(m.idx==0)=true\/((m.idx==0)=false/\(m.logTerm==0)=true)\/((m.idx==0)=false/\(m.logTerm==0)=false/\decide (1<=m.total/\m.total<=65536)=false):=by
   by_cases a:m.idx=0
   ·exact .inl (by simp[a])
   ·by_cases c:m.logTerm=0
    ·exact .inr (.inl ⟨by simp[a],by simp[c]⟩)
    ·exact .inr (.inr ⟨by simp[a],by simp[c],decide_eq_false fun hh=>by rcases fO with h|h|h;exact a h;exact c h;exact h hh⟩)
  replace fO:=zH fO;clear h hX hd hk;rcases fA with e1|⟨e1,e2⟩|⟨e1,e2,e3⟩
  ·go_enter func108,ntmps108;go_wp2_with fail;rw[bM.out];go_wp2_with fail;exact bf rfl rfl ⟨rfl,hQ.out⟩
  ·go_enter func108,ntmps108;go_wp2_with fail;rw[bM.out];go_wp2_with fail;exact bf rfl rfl ⟨rfl,hQ.out⟩
  ·have kX:=mg e3 w1;go_enter func108,ntmps108;go_wp2_with fail;rw[bM.out];go_wp2_with fail;refine kX.mono ?_;rintro e w9 ⟨rfl,rfl⟩;go_wp2_with fail;exact bf rfl rfl ⟨rfl,hQ.out⟩
 ·have e1:(m.idx==0)=false:=by simp;exact fun h=>fO (.inl h)
  have e2:(m.logTerm==0)=false:=by simp;exact fun h=>fO (.inr (.inl h))
  have hT:1<=m.total/\m.total<=65536:=by
   by_cases hh:1<=m.total/\m.total<=65536
   ·exact hh
   ·exact absurd (.inr (.inr hh)) fO
  have xR:1<=m.idx:=by
   rcases Int.lt_or_le 0 m.idx with h|h
   ·omega
   ·exact absurd (.inl (by omega)) fO
  have Rc:1<=m.logTerm:=by
   rcases Int.lt_or_le 0 m.logTerm with h|h
   ·omega
   ·exact absurd (.inr (.inl (by omega))) fO
  have e3:decide (1<=m.total/\m.total<=65536)=true:=decide_eq_true hT;have kX:=mg e3 w1;obtain⟨Oz,Wp⟩:=hT;have Ia:R.piece m=if m.idx<=R.commit then R.send {fx with kind:=8,tgt:=m.frm,idx:=R.commit,round:=m.round}else
    (if((R.gath1 m).data.length:Int)<m.total then({R with gath:=R.gath1 m}:Rf).send {fx with kind:=8,tgt:=m.frm,idx:=m.idx,round:=m.round,offset:=(R.gath1 m).data.length,total:=m.total}else(({R with gath:=R.gath1 m}:Rf).install ⟨m.idx,m.logTerm,(R.gath1 m).data⟩).send {fx with kind:=8,tgt:=m.frm,idx:=m.idx,round:=m.round}):=by
   unfold Rf.piece;rw[if_neg fO]
  obtain⟨Yl,vA,H7,Lf⟩:=hX.raft;have c12:=H7.s.cell 12;simp only[bt,vi,Zx]at c12;have z4:=cA.cell 4;simp only[Zx]at z4;have jo:g<w2.heap.size:=H7.s.lt;obtain⟨q12,q4⟩:=rQ [g,w.heap.size] c12 z4;have JQ:=hk.ms;have ww:w.heap.size+1<w2.heap.size:=yE.lt;replace Ia:=zH Ia;replace fO:=zH fO;by_cases fQ:m.idx<=R.commit
  ·have hA:=zH (show R.piece m=R.send (x8 8 m.frm R.commit m.round false 0 0) by rw[Ia.out,if_pos fQ];rfl);have LX:=((hX.set (j:=w.heap.size+1) (by omega) (by omega) (Fr.set (w:=w2) (w.heap.size+1) 4 (.int .i64 R.commit))).below (w':=(w2.setCell ⟨w.heap.size+1,4,none⟩ (.int .i64 R.commit)).drew) (zb.drew)).1;have hs:=LX.act (fun ar v1 h=>jO 8 m.frm R.commit m.round false 0 0 h (by omega));unfold vE at hs;obtain⟨a0,a1,a2,a3,a4,a5,a6,a7,a8,a9,a10,a11,a12,-⟩:=yE.cs [0,1,2,3,4,5,6,7,8,9,10,11,12];simp only[Zx]at a0 a1 a2 a3 a4 a5 a6 a7 a8 a9 a10 a11 a12;have u4:=yE.free 4;replace hk:=zH hk;clear h hX LX H7 Lf;go_enter func108,ntmps108;go_wp2_with fail;rw[bM.out];go_wp2_with fail;refine kX.mono ?_;rintro e w9 ⟨rfl,rfl⟩;go_wp2_with fail;rw[eh.out];refine gj [g,w.heap.size] w2 [] [0,1,2,3,4,5,6] ?_;refine an ?_;simp only[af,Zx];repeat go_big_quiet_step(fail)
   apply wpQuiet_nil;go_wp2_with fail;refine hs.mono ?_;rintro e w9 ⟨rfl,iR,_⟩;have hQ:=zH (show aq aa b w g (R.piece m) w9 from by rw[hA.out];exact iR.post);clear hs iR;go_wp2_with fail;exact bf rfl rfl ⟨rfl,hQ.out⟩
  ·have P2:=zH (Ia.out.trans (if_neg fQ));replace fQ:=Int.not_le.1 fQ;have sf:=(hX.below (w':=w2.drew) (zb.drew)).1;have sg:=zH (sf.below (w':=w2.drew.drew) (zb.drew)).1;obtain⟨d17,d18,d19,d20,-⟩:=H7.s.cs [17,18,19,20];simp only[bt,vi,Zx]at d17 d18 d19 d20;obtain⟨x1,x4,x5,x9,x10,-⟩:=cA.cs [1,4,5,9,10];simp only[Zx]at x1 x4 x5 x9 x10;have p17:=ak (w:=w2.drew) (gs:=[g,w.heap.size]) d17 (by simp);have p18:=ak (w:=w2.drew) (gs:=[g,w.heap.size]) d18 (by simp);have p19:=ak (w:=w2.drew) (gs:=[g,w.heap.size]) d19 (by simp);have p20:=ak (w:=w2.drew) (gs:=[g,w.heap.size]) d20 (by simp);have r1:=ak (w:=w2.drew) (gs:=[g,w.heap.size]) x1 (by simp);have r4:=ak (w:=w2.drew) (gs:=[g,w.heap.size]) x4 (by simp);have r5:=ak (w:=w2.drew) (gs:=[g,w.heap.size]) x5 (by simp);have r9:=ak (w:=w2.drew) (gs:=[g,w.heap.size]) x9 (by simp);have r10:=ak (w:=w2.drew) (gs:=[g,w.heap.size]) x10 (by simp);obtain⟨x,hx⟩:=zN (lx R m);have BH:=hk.gat;replace hk:=zH hk;have xT:cD w.heap.size 2 w2 w2:=fun _ _ _=>rfl
   clear H7 Lf hX sf h;go_enter func108,ntmps108;go_wp2_with fail;rw[bM.out];go_wp2_with fail;refine kX.mono ?_;rintro e w9 ⟨rfl,rfl⟩;go_wp2_with fail;rw[eh.out];refine gj [g,w.heap.size] w2 [] [0,1,2,3,4,5,6] ?_;refine an ?_;simp only[af,Zx];repeat go_big_quiet_step(fail)
   apply wpQuiet_nil;go_wp2_with fail
   go_cut [83] (fun s83 wr=>s83=.bool x/\bX aa b w g R 2 wr/\cD w.heap.size 2 w2 wr)
   case first=>
    have fA:=qQ hx;clear hx;rcases fA with⟨e4,rfl⟩|⟨e4,e5,rfl⟩|⟨e4,e5,e6,rfl⟩|⟨e4,e5,e6,e7,rfl⟩|⟨e4,e5,e6,e7,e8⟩
    all_goals
     refine bo (C:=cr [g,w.heap.size] w2.drew) [] [0,1,2,3,4,5,6,7,8,9,10,11,12,13,14,15,16,17,18,19,20,21,22,23,24,25,26,27,28,29,30,31,32,33,34,35,36,37,38] (by kernel_rfl) (by kernel_rfl) (fun _ _ _ _ e h=>⟨e.symm.trans h.1,h.2⟩) az ?_;refine an ?_;simp only[af,Zx];repeat go_big_quiet_step(fail)
     apply wpQuiet_nil;go_wp2_with fail
     go_meet
     exact⟨rfl,sg.out,xT⟩
   case rest=>
    obtain⟨RV,tY,qh⟩:=hcut;subst RV
    rename World=>wc
    clear c12 z4 q12 q4 d17 d18 d19 d20 x1 x4 x5 x9 x10 p17 p18 p19 p20 r1 r4 r5 r9 r10 sg xT y1 y4 y5 y7 y10;have uY:ay wc w.heap.size 39 #[.int .i64 m.kind,.int .i64 m.frm,.int .i64 m.tgt,.int .i64 m.term,.int .i64 m.idx,.int .i64 m.logTerm,.int .i64 m.commit,.int .i64 m.round,.bool m.reject,.int .i64 m.offset,.int .i64 m.total,.slice A1 n1 c1,.slice A2 n2 c2]:=qh.blk zl (by omega) cA;obtain⟨x1,x4,x5,x10,-⟩:=uY.cs [1,4,5,10];simp only[Zx]at x1 x4 x5 x10;go_upto_if 83 with fail
    go_cut [] (fun wr=>bX aa b w g {R with gath:=fI R m} 2 wr/\cD w.heap.size 2 w2 wr)
    case first=>
     cases x
     ·have Gf:({R with gath:=fI R m}:Rf)=R:=by unfold fI;rw[hx];rfl
      replace Gf:=zH Gf;replace tY:=zH tY;go_wp2_with fail
      go_meet
      exact⟨by rw[Gf.out];exact tY.out,qh⟩
     ·have Gf:fI R m=⟨m.frm,m.idx,m.logTerm,m.total,[]⟩:=by unfold fI;rw[hx];rfl
      replace Gf:=zH Gf;obtain⟨dX,v3,h3,yP⟩:=tY.raft;obtain⟨d17,d18,d19,d20,d21,-⟩:=h3.s.cs [17,18,19,20,21];simp only[bt,vi,Zx]at d17 d18 d19 d20 d21;obtain⟨f17,f18,f19,f20,f21,-⟩:=h3.s.fs [17,18,19,20,21];have ip:g<wc.heap.size:=h3.s.lt;obtain⟨h4,mo⟩:=DT m.frm m.idx m.logTerm m.total h3;have H9:aq dX b wc g {R with gath:=⟨m.frm,m.idx,m.logTerm,m.total,[]⟩} _:=⟨dX,_,h4,fun _ _ _=>rfl,fun _ _ h=>h,mo.mono fun j e=>by rw[e];have:=h3.sl;exact⟨by omega,by omega⟩⟩;obtain⟨KS,dV⟩:=yP _ _ H9;have Qf:=zH KS;have Qm:=qh.trans dV;clear h3 h4 mo H9 KS dV yP tY;go_wp2_with fail
      go_meet
      exact⟨by rw[Gf.out];exact Qf.out,Qm⟩
    case rest=>
     rename World=>wd
     obtain⟨sf,pv⟩:=hcut;clear x1 x4 x5 x10 uY qh tY;have Nb:=sK (m:=m) BH;obtain⟨y,hy⟩:=zN (lP R m);have g4:=vW R m;have Lo:y=decide (m.offset=((fI R m).data.length:Int)/\((fI R m).data.length:Int)+m.data.length<=m.total):=by rw[<-hy];unfold lP;rfl
     rw[hy]at g4;obtain⟨g0,Gf⟩:=zN (fI R m);rw[Gf]at sf Nb g4 Lo;obtain⟨su,v4,h4,wq,Rm⟩:=sf.raft2;obtain⟨A4,c4,bc,_⟩:=id h4.gd;have Dk:ay wd w.heap.size 39 #[.int .i64 m.kind,.int .i64 m.frm,.int .i64 m.tgt,.int .i64 m.term,.int .i64 m.idx,.int .i64 m.logTerm,.int .i64 m.commit,.int .i64 m.round,.bool m.reject,.int .i64 m.offset,.int .i64 m.total,.slice A1 n1 c1,.slice A2 n2 c2]:=pv.blk zl (by omega) cA;obtain⟨n4,EM⟩:=zN (g0.data.length);have d21:wd.cell? ⟨g,21,none⟩=some (.slice A4 n4 c4):=by
      have:=h4.s.cell 21;simp only[bt,Zx]at this;rw[this,bc,<-EM]
     have iJ:g<wd.heap.size:=h4.s.lt;have Xp:n4<=65536:=by omega
     obtain⟨x9,x10,x12,-⟩:=Dk.cs [9,10,12];simp only[Zx]at x9 x10 x12;obtain⟨q21,q9,q10,q12⟩:=IY [g,w.heap.size] d21 x9 x10 x12;have sg:=zH (sf.below (w':=wd.drew) (zb.drew)).1;have fA:((m.offset==(n4:Int))=false/\y=false)\/((m.offset==(n4:Int))=true/\m.total-n4<n2/\y=false)\/((m.offset==(n4:Int))=true/\(n2:Int)<=m.total-n4/\y=true):=by
      rw[EM,<-hn.out]at Lo;by_cases a:m.offset=(n4:Int)
      ·rcases Int.lt_or_le (m.total-n4) n2 with h|h
       ·exact .inr (.inl ⟨by simp[a],h,by rw[Lo];exact decide_eq_false fun hh=>by have:=hh.2;omega⟩)
       ·exact .inr (.inr ⟨by simp[a],h,by rw[Lo];exact decide_eq_true ⟨a,by omega⟩⟩)
      ·exact .inl ⟨by simp[a],by rw[Lo];exact decide_eq_false fun hh=>a hh.1⟩
     replace EM:=zH EM;replace g4:=zH g4;clear h4 wq Rm bc Lo hy Gf sf;go_wp2_with fail
     go_cut [116] (fun s116 wr=>s116=.bool y/\bX aa b w g {R with gath:=g0} 2 wr/\cD w.heap.size 2 w2 wr)
     case first=>
      rcases fA with⟨e4,rfl⟩|⟨e4,e5,rfl⟩|⟨e4,e5,rfl⟩
      all_goals
       refine gj [g,w.heap.size] wd [] [0,1,2,3,4,5,6,7,8,9,10,11,12,13,14,15,16,17,18,19,20,21] ?_;refine an ?_;simp only[af,Zx];repeat go_big_quiet_step(fail)
       apply wpQuiet_nil;go_wp2_with fail
       go_meet
       exact⟨by first|rfl|(congr 1;exact decide_eq_false (by omega))|(congr 1;exact decide_eq_true (by omega)),sg.out,pv⟩
     case rest=>
      obtain⟨hs,Jf,G0⟩:=hcut;subst hs
      rename World=>we
      clear d21 x9 x10 x12 q21 q9 q10 q12 sg Dk pv;go_upto_if 116 with fail
      go_cut [] (fun wr=>bX aa b w g {R with gath:=R.gath1 m} 2 wr/\cD w.heap.size 2 w2 wr)
      case first=>
       cases y
       ·have JB:=zH (g4.out.trans (if_neg (by simp)));replace Jf:=zH Jf;go_wp2_with fail
        go_meet
        exact⟨by rw[JB.out];exact Jf.out,G0⟩
       ·have JB:=zH (g4.out.trans (if_pos rfl));obtain⟨_,_,_,⟨A2',c2',e9,eb,_⟩⟩:=Jf.byt pK hd;injection e9 with e90 e91 e92;subst e90;subst e92;have RP:Rd we A2 n2 m.data:=by rw[e91];exact eb
        replace e91:=zH e91;obtain⟨dz,v5,h5,vg,M9⟩:=Jf.raft2;obtain⟨A5,c5,cP,cX,na⟩:=id (h5.below (w':=we.drew) (zb.drew)).gd;have OK:ay we w.heap.size 39 #[.int .i64 m.kind,.int .i64 m.frm,.int .i64 m.tgt,.int .i64 m.term,.int .i64 m.idx,.int .i64 m.logTerm,.int .i64 m.commit,.int .i64 m.round,.bool m.reject,.int .i64 m.offset,.int .i64 m.total,.slice A1 n1 c1,.slice A2 n2 c2]:=G0.blk zl (by omega) cA;have ud:g<we.heap.size:=h5.s.lt;rw[EM.out]at cP cX;have d21:we.cell? ⟨g,21,none⟩=some (.slice A5 n4 c5):=by
         have:=h5.s.cell 21;simp only[bt,Zx]at this;rw[this,cP]
        have x12:=OK.cell 12;simp only[Zx]at x12;obtain⟨q21,q12⟩:=rQ [g,w.heap.size] d21 x12;have jV:n4+n2<=1000000000000:=by omega
        have aO:∀(A6:Option Addr) (c6:Nat) (w6:World),w6.ownsRow 0 5 1 (.slice A6 (n4+n2) c6) (n4+n2) ((g0.data++m.data).map vb)->Fr (aR A5) we.drew w6->(∀j,aR A6 j->aR A5 j\/we.drew.heap.size<=j)->
          w6.heap[g]?=we.heap[g]?/\w6.heap[w.heap.size]?=we.heap[w.heap.size]?/\ay w6 g 107 (bt {R with gath:=g0} v5)/\bX aa b w g {R with gath:=R.gath1 m} 2 (w6.setCell ⟨g,21,none⟩ (.slice A6 (n4+n2) c6))/\cD w.heap.size 2 w2 (w6.setCell ⟨g,21,none⟩ (.slice A6 (n4+n2) c6)):=fun A6 c6 w6 uh mq vk=>by
         obtain⟨sd,Ja,jm,V7⟩:=Bl (h5.below (w':=we.drew) (zb.drew)) cP hn.out uh mq vk;obtain⟨xO,lY⟩:=vg _ _ (sd.behind (w:=we) (zb.drew));have Di:=M9 w.heap.size zl (by omega);refine⟨jm.trans h5.s.symm,V7.block w.heap.size Di.1 fun hh=>?_,jm,by rw[JB.out];exact xO,G0.trans lY⟩;rcases hh with hh|hh
         ·rw[Di.2]at hh;omega
         ·omega
        clear h5 vg M9 Jf eb na OK;have RQ:Rd we.drew A2 n2 m.data:=RP;go_wp2_with fail;refine qY [g,w.heap.size] we [([0,1,2,3,4,5,6],7)] ([8,9],10) ?_;refine au fun K3 jS=>?_
        simp only[af,Zx];repeat go_big_quiet_step(fail)
        apply wpQuiet_nil;go_wp2_with (at_builtin;refine oC rfl (.tmp 121) (.tmp 123) rfl 0 rfl cX rfl RQ jV zz ?_;intro A6 c6 w6 uh mq vk;obtain⟨cw,iq,jm,xO,lY⟩:=aO A6 c6 w6 uh mq vk;replace xO:=zH xO;clear aO uh mq vk);refine⟨dc cw iq,jS _ _ ?_⟩;have f21:=jm.free 21;have e21:=jm.cell 21;simp only[bt,Zx]at e21;refine aE ?_;simp only[af,Zx];repeat go_big_quiet_step(fail)
        apply wpQuiet_nil;go_wp2_with fail
        go_meet
        exact⟨xO.out,lY⟩
      case rest=>
       rename World=>wf
       obtain⟨KT,TA⟩:=hcut;clear Jf G0;have EC:=nY (m:=m) BH Wp;obtain⟨g1,uc⟩:=zN (R.gath1 m);have Bw:=P2.out;rw[uc]at KT EC Bw;obtain⟨ut,v6,h6,Le,Na⟩:=KT.raft2;obtain⟨A6,c6,bL,_⟩:=id h6.gd;obtain⟨n6,BO⟩:=zN (g1.data.length);have Gj:ay wf w.heap.size 39 #[.int .i64 m.kind,.int .i64 m.frm,.int .i64 m.tgt,.int .i64 m.term,.int .i64 m.idx,.int .i64 m.logTerm,.int .i64 m.commit,.int .i64 m.round,.bool m.reject,.int .i64 m.offset,.int .i64 m.total,.slice A1 n1 c1,.slice A2 n2 c2]:=TA.blk zl (by omega) cA;have OB:ay wf (w.heap.size+1) 39 #[.int .i64 8,.int .i64 0,.int .i64 m.frm,.int .i64 0,.int .i64 m.idx,.int .i64 0,.int .i64 0,.int .i64 m.round,.bool false,.int .i64 0,.int .i64 0,.slice none 0 0,.slice none 0 0]:=TA.blk (by omega) (by omega) yE;have WX:g<wf.heap.size:=h6.s.lt;rw[BO]at EC Bw;have Hy:v6.gat=.slice A6 n6 c6:=by rw[bL,<-BO]
       have d21:wf.cell? ⟨g,21,none⟩=some (.slice A6 n6 c6):=by
        have:=h6.s.cell 21;simp only[bt,Zx]at this;rw[this,Hy]
       obtain⟨x4,x5,x10,-⟩:=Gj.cs [4,5,10];simp only[Zx]at x4 x5 x10;obtain⟨a0,a1,a2,a3,a4,a5,a6,a7,a8,a9,a10,a11,a12,-⟩:=OB.cs [0,1,2,3,4,5,6,7,8,9,10,11,12];simp only[Zx]at a0 a1 a2 a3 a4 a5 a6 a7 a8 a9 a10 a11 a12;obtain⟨u9,u10,-⟩:=OB.fs [9,10];obtain⟨q21,q10⟩:=rQ [g,w.heap.size] d21 x10;have p21:=ak (w:=wf.drew) (gs:=[g,w.heap.size]) d21 (by simp);have p10:=ak (w:=wf.drew) (gs:=[g,w.heap.size]) x10 (by simp);have p4:=ak (w:=wf.drew) (gs:=[g,w.heap.size]) x4 (by simp);have p5:=ak (w:=wf.drew) (gs:=[g,w.heap.size]) x5 (by simp);have Te:w.heap.size+1<wf.heap.size:=OB.lt;have Jg:=(KT.below (w':=wf.drew) (zb.drew)).1;have Ib:=(Jg.below (w':=wf.drew.drew) (zb.drew)).1;have bY:∀q∈[g,w.heap.size],q<wf.heap.size:=by simp;exact⟨WX,by omega⟩
       have cH:∀q∈[g,w.heap.size],q≠w.heap.size+1:=by simp;omega
       by_cases bh:(n6:Int)<m.total
       ·have hA:=zH (show R.piece m=({R with gath:=g1}:Rf).send (x8 8 m.frm m.idx m.round false n6 m.total) by rw[Bw,if_pos bh];rfl);have Tx:=((((KT.set (j:=w.heap.size+1) (by omega) (by omega) ((Fr.set (w:=wf) (w.heap.size+1) 9 (.int .i64 n6)).trans (Fr.set (w.heap.size+1) 10 (.int .i64 m.total)) fun _ h=>.inl h))).below (w':=((wf.setCell ⟨w.heap.size+1,9,none⟩ (.int .i64 n6)).setCell ⟨w.heap.size+1,10,none⟩ (.int .i64 m.total)).drew) (zb.drew)).1.below (w':=(((wf.setCell ⟨w.heap.size+1,9,none⟩ (.int .i64 n6)).setCell ⟨w.heap.size+1,10,none⟩ (.int .i64 m.total)).drew).drew) (zb.drew)).1;have hs:=Tx.act (fun ar v1 h=>jO 8 m.frm m.idx m.round false n6 m.total h (by show R.out.msgs.length<=_;omega));unfold vE at hs;clear h6 Le Na KT Jg Ib Tx Bw BO Hy bL uc;go_wp2_with fail;refine gj [g,w.heap.size] wf [] [0,1,2,3,4,5,6,7] ?_;refine an ?_;simp only[af,Zx];repeat go_big_quiet_step(fail)
        apply wpQuiet_nil;go_wp2_with fail;refine bz (C:=cr [g,w.heap.size] wf.drew) [([0,1,2,3,4,5,6,7],8)] ([9],10) (by kernel_rfl) (by kernel_rfl) (fun _ _ _ _ e h=>⟨e.symm.trans h.1,h.2⟩) az ?_;refine au fun K4 tW=>?_
        simp only[af,Zx];repeat go_big_quiet_step(fail)
        apply wpQuiet_nil;go_wp2_with fail;refine⟨gH az cH bY,tW _ _ ?_⟩;refine aE ?_;simp only[af,Zx];repeat go_big_quiet_step(fail)
        apply wpQuiet_nil;go_wp2_with fail;refine hs.mono ?_;rintro e w9 ⟨rfl,iR,_⟩;have hQ:=zH (show aq aa b w g (R.piece m) w9 from by rw[hA.out];exact iR.post);clear hs iR;go_wp2_with fail;exact bf rfl rfl ⟨rfl,hQ.out⟩
       ·have hA:=zH (show R.piece m=(({R with gath:=g1}:Rf).install ⟨m.idx,m.logTerm,g1.data⟩).send (x8 8 m.frm m.idx m.round false 0 0) by rw[Bw,if_neg bh];rfl);replace bh:=Int.not_lt.1 bh;have OJ:Ok K M ({R with gath:=g1}:Rf):={hk.out with gat:=by show g1.data.length<=_;rw[BO];exact EC};have MR:=wL m.idx m.logTerm ((h6.below (w':=wf.drew) (zb.drew)).below (w':=wf.drew.drew) (zb.drew)) OJ hK xR yW Rc pL BO.symm Hy;have dM:=zH (show ∀w7,aq ut b wf.drew.drew g (({R with gath:=g1}:Rf).install ⟨m.idx,m.logTerm,g1.data⟩) w7->bX aa b w g (({R with gath:=g1}:Rf).install ⟨m.idx,m.logTerm,g1.data⟩) 2 w7/\cD w.heap.size 2 wf w7 from fun w7 hP=>Le _ _ ((hP.behind (w:=wf.drew) (zb.drew)).behind (w:=wf) (zb.drew)));have Rt:(({R with gath:=g1}:Rf).install ⟨m.idx,m.logTerm,g1.data⟩).out.msgs.length<=10000000000:=by
         rw[mK];unfold qz;split <;> (show R.out.msgs.length<=_;omega)
        clear h6 Le Na KT Jg Ib Bw BO Hy bL uc OJ;go_wp2_with fail;refine gj [g,w.heap.size] wf [] [0,1,2,3,4,5,6,7] ?_;refine an ?_;simp only[af,Zx];repeat go_big_quiet_step(fail)
        apply wpQuiet_nil;go_wp2_with fail;refine bz (C:=cr [g,w.heap.size] wf.drew) [] ([0,1,2,3,4,5,6,7,8,9],10) (by kernel_rfl) (by kernel_rfl) (fun _ _ _ _ e h=>⟨e.symm.trans h.1,h.2⟩) az ?_;refine aE ?_;simp only[af,Zx];repeat go_big_quiet_step(fail)
        apply wpQuiet_nil;go_wp2_with fail;refine MR.mono ?_;rintro e w7 ⟨rfl,DZ⟩;obtain⟨D3,mX⟩:=dM.out _ DZ;have Ty:ay w7 (w.heap.size+1) 39 #[.int .i64 8,.int .i64 0,.int .i64 m.frm,.int .i64 0,.int .i64 m.idx,.int .i64 0,.int .i64 0,.int .i64 m.round,.bool false,.int .i64 0,.int .i64 0,.slice none 0 0,.slice none 0 0]:=mX.blk (by omega) (by omega) OB;clear MR DZ dM a0 a1 a2 a3 a4 a5 a6 a7 a8 a9 a10 a11 a12 u9 u10;obtain⟨a0,a1,a2,a3,a4,a5,a6,a7,a8,a9,a10,a11,a12,-⟩:=Ty.cs [0,1,2,3,4,5,6,7,8,9,10,11,12];simp only[Zx]at a0 a1 a2 a3 a4 a5 a6 a7 a8 a9 a10 a11 a12;have hs:=D3.act (fun ar v1 h=>jO 8 m.frm m.idx m.round false 0 0 h Rt);unfold vE at hs;clear D3 Ty;go_wp2_with fail;refine hs.mono ?_;rintro e w9 ⟨rfl,iR,_⟩;have hQ:=zH (show aq aa b w g (R.piece m) w9 from by rw[hA.out];exact iR.post);clear hs iR;go_wp2_with fail;exact ai rfl rfl ⟨rfl,hQ.out⟩
end
end
section
open Go.Maps Go.MapKept Go.WideMaps
open Go.ChangeMaps (setBlock)
structure vC(R:Rf)(m:Mg):Prop where
 kind:1<=m.kind/\m.kind<=8
 frm:1<=m.frm/\m.frm<=R.n
 term:1<=m.term/\m.term<=1099511627776
 idx:0<=m.idx/\m.idx<=1099511627776
 lgt:0<=m.logTerm/\m.logTerm<=1099511627776
 cmt:0<=m.commit/\m.commit<=1099511627776
 rnd:0<=m.round/\m.round<=1099511627776
 off:0<=m.offset/\m.offset<=1099511627776
 tot:0<=m.total/\m.total<=1099511627776
 el:m.entries.length<=6
 dl:m.data.length<=160
theorem qZ{R:Rf}{m:Mg}(h:R.right m=true):vC R m:=by
 unfold Rf.right Rf.numOk gU at h;simp only[Bool.and_eq_true,decide_eq_true_eq]at h;obtain⟨⟨⟨⟨⟨⟨a,c⟩,d⟩,e⟩,f⟩,k⟩,h1,h2,h3,h4,h5,h6,h7⟩:=h;exact⟨h1,h3,h5,a,c,d,e,f,k,h6,h7⟩
theorem HG{k:Int}(h:1<=k/\k<=8):k=1\/k=2\/k=3\/k=4\/k=5\/k=6\/k=7\/k=8:=by omega
theorem Ok.hears{K M:Nat}{R:Rf}(h:Ok K M R)(m:Mg):Ok K M (R.hears m):=
 {h with
  ck:=⟨Int.le_refl 0,Int.natCast_nonneg _,h.ck.2.2.1,h.ck.2.2.2⟩
  ys:=fun e=>by rcases e with e|e <;> cases e
  ld:=fun e=>by cases e}
section
variable {aa:Nat->Nat}{b g:Nat}{w:World}{R:Rf}{v:Rw}
theorem Kz(s:Int)(h:av aa b w g R v)(h0:0<=s)(qe:s<=1000)(iu:R.yes≠[])(ab:R.yes.length<=10000000000) :
  Calls prog 98 #[.pointer (some ⟨g,0,none⟩),.int .i64 s] w fun e w'=>e=.returned (.bool (R.says s).won)/\aq aa b w g (R.says s) w'/\w'.heap[g]?=w.heap[g]?:=by
 have bV:=h.s.lt;obtain⟨bm,hv,g9,hk⟩:∃bm,v.yes=.map (some bm)/\aa bm=b+5/\eE w bm R.yes:=by
  rcases h.y with⟨_,hn⟩|⟨bm,es,clock,h1,h2,h3,h4,h5,h6⟩
  ·exact absurd hn iu
  ·exact⟨bm,h1,h2,es,clock,h3,h4,h5,h6⟩
 obtain⟨c3,c5,-⟩:=h.s.cs [3,5];simp only[bt,vi,Zx]at c3 c5;rw[hv]at c3;have KZ:g≠bm:=fun e=>by
  have:=h.sl;rw[e,g9]at this;omega
 obtain⟨w1,NK,cw,g4⟩:=rj hk underlying101 h0 qe (.bool true);have pG:=Fr.map g4;have uT:ay w1 g 107 (bt R v):=(pG.block g bV KZ).trans h.s;obtain⟨d3,d5,-⟩:=uT.cs [3,5];simp only[bt,vi,Zx]at d3 d5;rw[hv]at d3;have xM:aq aa b w g (R.says s) w1:=by
  obtain⟨es,clock,q1,q2,q3,q4⟩:=cw;refine aq.turn (v':=v) (ac:=aa) [5] h uT (fun j _=>rfl) (by simp) (pG.mono fun j e=>.inr ⟨5,by simp,by rw[e];exact g9⟩)
   tI tI tI (.inl ?_) tI tI tI tI tI tI tI
  rw[hv];exact .inr ⟨bm,es,clock,rfl,g9,q1,q2,q3,q4⟩
 have dm:(R.yes++[s]).length<=10000000001:=by simp;exact ab
 have uq:(R.says s).won=mh R.n (R.yes++[s]):=rfl;obtain⟨l,hl⟩:=zN (R.yes++[s]);rw[hl]at cw dm uq;obtain⟨w2,nn,kH,Ub,hR,o,eh⟩:=xo cw underlying101;have cI:Below w1.heap.size w1 w2:=by rw[eh];exact zb.alloc zl o
 have yS:w1.heap.size≠bm:=by have:=cw.lt;omega
 have QW:g<w1.heap.size:=uT.lt;have JG:w1.heap[g]?=w.heap[g]?:=pG.block g bV KZ;replace JG:=zH JG;replace xM:=zH xM;replace uq:=zH uq;clear h hk cw pG hl eh g9 iu;obtain⟨r,hr⟩:=zN (w1.heap.size);rw[hr]at hR cI yS kH;go_enter func98,ntmps98;go_wp2_with fail
 go_loopw [5] (fun v wr=>∃(hU:Int->Prop) (q:Nat) (last:Option Int) (K:List Int) (A:Option Addr) (m cc:Nat),v=.slice A m cc/\wr.ownsRow r 3 1 (.slice A m cc) m (K.map vi)/\(∀s,s∈K↔(s∈l/\¬hU s))/\kK wr r bm l hU q last/\m+q<=l.length/\Below r w1 wr) (fun _ wr=>tg wr r bm)
 case atStart=>exact⟨_,nn,_,[],none,0,0,rfl,ek _ _,fun s=>⟨fun h=>(by cases h),fun h=>absurd h.1 h.2⟩,hR,by omega,cI⟩
 case round=>
  clear hR cI;obtain⟨hU,q,last,K,A,m,cc,rfl,aJ,hK,hR,Rs,bH⟩:=hrel;have PU:K.length=m:=by have:=aJ.1;simpa using this
  have BI:g<r:=by omega
  have d5w:=(bH.cell (p:=⟨g,5,none⟩) BI).trans d5;rcases mz hR yS 0 with⟨h0,hl,dM⟩|⟨s',v',w2',o2,q',xU,Xj,eh,dM,wb⟩
  ·have aO:∀s,s∈K↔s∈l:=fun s=>by
    rw[hK];exact⟨fun h=>h.1,fun h=>⟨h,hl s⟩⟩
   have sX:=aZ aJ;have aP:=AU R.n A m cc K wr (jK.of_own aJ) sX.2 sX.1;rw[lV aO]at aP;have hQ:=zH (show aq aa b w g (R.says s) wr/\wr.heap[g]?=w.heap[g]? from⟨xM.out.below (by rw[hr];exact bH),(bH.block g BI).trans JG.out⟩);clear aO hK hR aJ Rs PU h0 hl;go_wp2_with fail;refine aP.mono ?_;rintro e w9 ⟨rfl,rfl⟩;go_wp2_with fail;go_ret;exact⟨by rw[uq.out];rfl,hQ.out⟩
  ·have pw:=lE wb;obtain⟨ve,pw⟩:=pw;have J5:r<wr.heap.size:=by
    obtain⟨x,y,z,t,h1⟩:=hR.iter;exact aS h1
   have yL:wr.grownBy (setBlock w2' r o2) (some r):=by
    rcases eh with rfl|rfl
    ·exact⟨rfl,rfl,rfl,by simp[setBlock],fun j _ cH=>by simp only[setBlock];rw[Array.getElem?_setIfInBounds_ne (fun e=>cH (by rw[e]))]⟩
    ·exact⟨rfl,rfl,rfl,by show wr.heap.size<=(wr.heap.setIfInBounds r o2).size;simp,fun j _ cH=>by show(wr.heap.setIfInBounds r o2)[j]?=_;rw[Array.getElem?_setIfInBounds_ne (fun e=>cH (by rw[e]))]⟩
   have bS:(setBlock w2' r o2).ownsRow r 3 1 (.slice A m cc) m (K.map vi):=xe aJ fun j cs hj=>(yL.block j (aS hj) (fun e=>by
    injection e with e;obtain⟨x,y,z,t,h1⟩:=hR.iter;rw[e,h1]at hj;cases hj)).trans hj
   have cv:=bH.trans (oR yL (by have:=bH.size;omega) (fun x hx=>by cases hx;exact Nat.le_refl _));have ug:tg wr r bm=q:=hR.n_eq;clear yL hR bH eh J5 aJ;generalize fX:setBlock w2' r o2=w3 at *;clear fX;have dV:Below w3.heap.size w3 (w3.alloc (.cells #[.int .i64 s'] 3)):=zb.alloc zl _;have gu:=jK.one w3 s';have gp:=bF bS dV;have rO:kK (w3.alloc (.cells #[.int .i64 s'] 3)) r bm l (fun t=>hU t/\t≠s') q' (some s'):=wb.keep (dV.block r (by
    obtain⟨x,y,z,t,h1⟩:=wb.iter;exact aS h1)) (dV.block bm wb.m.lt)
   have iH:=aj cv dV (by have:=cv.size;omega);have bD:r<=(w3.alloc (.cells #[.int .i64 s'] 3)).heap.size:=by have:=iH.size;omega
   have jV:m+1<=1000000000000:=by omega
   go_wp2_with (at_builtin;refine b9 rfl (.tmp 23) (.tmp 25) rfl r rfl gp rfl gu jV bD ?_;intro A5 c5 w5 cX lN dp);have uS:kK w5 r bm l (fun t=>hU t/\t≠s') q' (some s'):=by
    refine rO.keep ?_ ?_
    ·obtain⟨x,y,z,t,h1⟩:=rO.iter;rw[h1];exact nD gp lN h1 (fun cs e=>by cases e)
    ·obtain⟨es,clock,h1,_⟩:=rO.m;rw[h1];exact nD gp lN h1 (fun cs e=>by cases e)
   have vg:=uS.n_eq;have mf:s'∈l:=by
    obtain⟨es,clock,h1,h2,h3,h4⟩:=wb.m;obtain⟨es',clock',since,c0,seen,k1,k2,k3,k4,k5,k6,k7,k8,k9,k10⟩:=wb.it;obtain⟨e,seen0,q1,q2,_⟩:=k10 s' rfl;rw[h1]at k2;cases k2;exact(h4 s').2 ⟨e,q1,q2⟩
   refine⟨⟨_,q',_,K++[s'],A5,m+1,c5,rfl,cX,fun t=>?_,uS,by omega,iH.trans dp⟩,by rw[vg,ug];exact xU⟩;rw[List.mem_append,List.mem_singleton,hK];constructor
   ·rintro(h|rfl)
    ·exact⟨h.1,fun h2=>h.2 h2.1⟩
    ·exact⟨mf,fun h2=>h2.2 rfl⟩
   ·rintro⟨h1,h2⟩;by_cases e:t=s'
    ·exact .inr e
    ·exact .inl ⟨h1,fun h3=>h2 ⟨h3,e⟩⟩
theorem bX.byt2{N mi:Nat}{wX:World}{R1:Rf}{x:Value}{l:List UInt8}(h:bX aa b w g R1 N wX)(hm:mi<=b\/b+13<mi)(he:cT aa mi w x l) :
  ∃ar v1,av ar b wX g R1 v1/\cT ar mi wX x l/\∀w' R2,aq ar b wX g R2 w'->bX aa b w g R2 N w'/\cD w.heap.size N wX w':=by
 obtain⟨ar,v1,h1,h2,h3,h4,h5⟩:=h;have hn:∀j,aa j=mi->¬aH aa b j:=fun j e hx=>by unfold aH at hx;omega
 refine⟨ar,v1,h1,?_,fun w' R2 hP=>gO h2 h3 h4 h5 hP⟩;refine(he.relabel (ac:=ar) (k:=mi) fun j hl e=>(h2 j hl (hn j e)).trans e).keep fun j hj uf=>h4.block j uf fun hx=>?_
 have h6:=h3 j uf hx;have hj:ar j=mi:=hj;unfold aH at h6;omega
theorem DR{K M:Nat}(m:Mg)(A1 A2:Option Addr)(n1 c1 n2 c2 mi:Nat)(h:av aa b w g R v)(hk:Ok K M R)(hK:K<=900000000)(hM:M<=2000000000)(pK:mi<=b\/b+13<mi)(he:da aa mi w (.slice A1 n1 c1) m.entries)(hd:cT aa mi w (.slice A2 n2 c2) m.data)
  (oh:n1=m.entries.length) (uZ:n2=m.data.length) (hm:vC R m) :
  Calls prog 60 #[.pointer (some ⟨g,0,none⟩),iw m (.slice A1 n1 c1) (.slice A2 n2 c2)] w fun e w'=>e=.returned (.tuple #[])/\aq aa b w g (R.does m) w':=by
 have bV:=h.s.lt;have aU:Below w.heap.size w (w.alloc (.cells #[.int .i64 m.kind,.int .i64 m.frm,.int .i64 m.tgt,.int .i64 m.term,.int .i64 m.idx,.int .i64 m.logTerm,.int .i64 m.commit,.int .i64 m.round,.bool m.reject,.int .i64 m.offset,.int .i64 m.total,.slice A1 n1 c1,.slice A2 n2 c2] 39)):=zb.alloc zl _;have cA:=ay.new w 39 #[.int .i64 m.kind,.int .i64 m.frm,.int .i64 m.tgt,.int .i64 m.term,.int .i64 m.idx,.int .i64 m.logTerm,.int .i64 m.commit,.int .i64 m.round,.bool m.reject,.int .i64 m.offset,.int .i64 m.total,.slice A1 n1 c1,.slice A2 n2 c2];obtain⟨w1,bM⟩:=zN (w.alloc (.cells #[.int .i64 m.kind,.int .i64 m.frm,.int .i64 m.tgt,.int .i64 m.term,.int .i64 m.idx,.int .i64 m.logTerm,.int .i64 m.commit,.int .i64 m.round,.bool m.reject,.int .i64 m.offset,.int .i64 m.total,.slice A1 n1 c1,.slice A2 n2 c2] 39));rw[bM]at aU cA;have hX:=bX.start (N:=1) h aU (by have:=cA.lt;omega);obtain⟨y0,y1,y2,y3,y4,y5,y6,y7,y8,y9,y10,y11,y12,-⟩:=cA.cs [0,1,2,3,4,5,6,7,8,9,10,11,12];simp only[Zx]at y0 y1 y2 y3 y4 y5 y6 y7 y8 y9 y10 y11 y12;obtain⟨c6,c13,-⟩:=h.s.cs [6,13];simp only[bt,vi,Zx]at c6 c13;have c6':=(aU.cell (aG c6)).trans c6;have c13':=(aU.cell (aG c13)).trans c13;have JQ:=hk.ms;have hN:R.track.L.length<=100000000000:=by have:=hk.trk;omega
 obtain⟨W9,ag,IN,rP,EE,eW,kj,JV,Um,QK,od⟩:=hm;have Df:=HG W9;clear h;replace oh:=zH oh;replace uZ:=zH uZ;replace bM:=zH bM;unfold iw;simp only[vi];rcases Df with cw|cw|cw|cw|cw|cw|cw|cw
 ·have e1:(m.kind==1)=true:=by simp[cw]
  have hD:=zH (show R.does m=R.asked m by unfold Rf.does;rw[if_pos cw]);have hs:=hX.act (fun ar v1 h=>AY m (.slice A1 n1 c1) (.slice A2 n2 c2) h (by omega) hN);unfold iw at hs;simp only[vi]at hs;replace cw:=zH cw;replace hk:=zH hk;clear hX;go_enter func60,ntmps60;go_wp2_with fail;rw[bM.out];try go_wp2_with fail
  refine hs.mono ?_;rintro e w9 ⟨rfl,iR,_⟩;have hQ:=zH (show aq aa b w g (R.does m) w9 from by rw[hD.out];exact iR.post);clear hs iR;go_wp2_with fail;exact ai rfl rfl ⟨rfl,hQ.out⟩
 ·have e1:(m.kind==1)=false:=by simp[cw]
  have e2:(m.kind==2)=true:=by simp[cw]
  have hD:R.does m=if m.reject=false/\m.term=R.hard.term+1/\R.role=1 then(if(R.says m.frm).won then(R.says m.frm).stands else R.says m.frm)else R:=by unfold Rf.does;rw[if_neg (by omega),if_pos cw]
  obtain⟨q1,q3,q8,q6,q13⟩:=O6 [g,w.heap.size] y1 y3 y8 c6' c13';have g4:g<w1.heap.size:=by have:=aU.size;omega
  have ZF:=hk.tm;replace cw:=zH cw;by_cases hC:m.reject=false/\m.term=R.hard.term+1/\R.role=1
  ·have f1:=hC.1;have f2:(m.term==R.hard.term+1)=true:=by simp[hC.2.1]
   have f3:(R.role==1)=true:=by simp[hC.2.2]
   have bh:R.hard.term<1099511627776:=by have:=hC.2.1;omega
   rw[if_pos hC]at hD;obtain⟨bK,v2,h2,JR⟩:=(hX.below (w':=w1.drew) (zb.drew)).1.raft;have Ke:=Kz m.frm h2 (by omega) (by have:=hk.id;omega) (hk.ys (.inl hC.2.2)) (by have:=hk.yl;omega);have cz:=hk.says m.frm;obtain⟨x,hx⟩:=zN ((R.says m.frm).won);rw[hx]at Ke hD;replace hD:=zH hD;replace hC:=zH hC;replace cz:=zH cz;replace hk:=zH hk;clear h2 hX hx;have jF:=bM.out;rw[f1]at jF y8;go_enter func60,ntmps60;go_wp2_with fail;try rw[jF]
   try go_wp2_with fail
   refine gj [g,w.heap.size] w1 [([0,1,2,3,4,5,6,7,8,9,10,11,12,13,14,15,16,17,18,19,20,21,22,23,24],25)] [26] ?_;refine aC fun K1 cF=>?_
   simp only[af,Zx];repeat go_big_quiet_step(fail)
   apply wpQuiet_nil;go_wp2_with fail;refine Ke.mono ?_;rintro e w5 ⟨rfl,pq,lN⟩;obtain⟨mW,dp⟩:=JR _ _ pq;clear Ke pq;go_wp2_with fail;refine⟨dc lN (dp _ zl (by omega)),cF _ _ ?_⟩;refine an ?_;simp only[af,Zx];repeat go_big_quiet_step(fail)
   apply wpQuiet_nil;cases x
   ·have hQ:=zH (show aq aa b w g (R.does m) w5 from by rw[hD.out];exact mW.post);clear mW;go_wp2_with fail;exact ai rfl rfl ⟨rfl,hQ.out⟩
   ·have hs:=mW.act (fun ar v1 h=>rz h cz.out (by omega) (by omega) bh);clear mW;go_wp2_with fail;refine hs.mono ?_;rintro e w9 ⟨rfl,iR,_⟩;have hQ:=zH (show aq aa b w g (R.does m) w9 from by rw[hD.out];exact iR.post);clear hs iR;go_wp2_with fail;exact ai rfl rfl ⟨rfl,hQ.out⟩
  ·rw[if_neg hC]at hD;have hQ:=zH (show aq aa b w g (R.does m) w1.drew from by rw[hD];exact(hX.below (w':=w1.drew) (zb.drew)).1.post);have fA:m.reject=true\/(m.reject=false/\(m.term==R.hard.term+1)=false)\/(m.reject=false/\(m.term==R.hard.term+1)=true/\(R.role==1)=false):=by
    rcases Bool.eq_false_or_eq_true m.reject with oU|oU
    ·exact .inl oU
    ·by_cases a:m.term=R.hard.term+1
     ·exact .inr (.inr ⟨oU,by simp[a],by simp;exact fun hh=>hC ⟨oU,a,hh⟩⟩)
     ·exact .inr (.inl ⟨oU,by simp[a]⟩)
   replace hC:=zH hC;replace hk:=zH hk;clear hX hD;rcases fA with f1|⟨f1,f2⟩|⟨f1,f2,f3⟩
   all_goals
    have jF:=bM.out;rw[f1]at jF y8;go_enter func60,ntmps60;go_wp2_with fail;try rw[jF]
    try go_wp2_with fail
    refine gj [g,w.heap.size] w1 [([0,1,2,3,4,5,6,7,8,9,10,11,12,13,14,15,16,17,18,19,20,21,22,23,24],25)] [26] ?_;refine aC fun K1 cF=>?_
    simp only[af,Zx];repeat go_big_quiet_step(fail)
    apply wpQuiet_nil;go_wp2_with fail;refine⟨az,cF _ _ ?_⟩;refine an ?_;simp only[af,Zx];repeat go_big_quiet_step(fail)
    apply wpQuiet_nil;go_wp2_with fail;exact ai rfl rfl ⟨rfl,hQ.out⟩
 ·have e1:(m.kind==1)=false:=by simp[cw]
  have e2:(m.kind==2)=false:=by simp[cw]
  have e3:(m.kind==3)=true:=by simp[cw]
  have hD:=zH (show R.does m=R.votes m by unfold Rf.does;rw[if_neg (by omega),if_neg (by omega),if_pos cw]);have hs:=hX.act (fun ar v1 h=>CV m (.slice A1 n1 c1) (.slice A2 n2 c2) h (by omega) hN);unfold iw at hs;simp only[vi]at hs;replace cw:=zH cw;replace hk:=zH hk;clear hX;go_enter func60,ntmps60;go_wp2_with fail;rw[bM.out];try go_wp2_with fail
  refine hs.mono ?_;rintro e w9 ⟨rfl,iR,_⟩;have hQ:=zH (show aq aa b w g (R.does m) w9 from by rw[hD.out];exact iR.post);clear hs iR;go_wp2_with fail;exact ai rfl rfl ⟨rfl,hQ.out⟩
 ·have e1:(m.kind==1)=false:=by simp[cw]
  have e2:(m.kind==2)=false:=by simp[cw]
  have e3:(m.kind==3)=false:=by simp[cw]
  have e4:(m.kind==4)=true:=by simp[cw]
  have hD:R.does m=if m.reject=false/\R.role=2 then(if(R.says m.frm).won then(R.says m.frm).leads else R.says m.frm)else R:=by unfold Rf.does;rw[if_neg (by omega),if_neg (by omega),if_neg (by omega),if_pos cw]
  replace cw:=zH cw;by_cases hC:m.reject=false/\R.role=2
  ·have f1:=hC.1;have f3:(R.role==2)=true:=by simp[hC.2]
   rw[if_pos hC]at hD;have Ke:=hX.act (fun ar v1 h=>rk m.frm h (by omega) (by have:=hk.id;omega) (hk.ys (.inr hC.2)) (by have:=hk.yl;omega));have cz:=hk.says m.frm;obtain⟨x,hx⟩:=zN ((R.says m.frm).won);rw[hx]at Ke hD;replace hD:=zH hD;replace hC:=zH hC;replace cz:=zH cz;replace hk:=zH hk;clear hX hx;have jF:=bM.out;rw[f1]at jF y8;go_enter func60,ntmps60;go_wp2_with fail;try rw[jF]
   try go_wp2_with fail
   refine Ke.mono ?_;rintro e w5 ⟨rfl,mW,dp⟩;clear Ke;cases x
   ·have hQ:=zH (show aq aa b w g (R.does m) w5 from by rw[hD.out];exact mW.post);clear mW;go_wp2_with fail;exact ai rfl rfl ⟨rfl,hQ.out⟩
   ·have hs:=mW.act (fun ar v1 h=>wQ h cz.out (by omega) (by omega));clear mW;go_wp2_with fail;refine hs.mono ?_;rintro e w9 ⟨rfl,iR,_⟩;have hQ:=zH (show aq aa b w g (R.does m) w9 from by rw[hD.out];exact iR.post);clear hs iR;go_wp2_with fail;exact ai rfl rfl ⟨rfl,hQ.out⟩
  ·rw[if_neg hC]at hD;have hQ:=zH (show aq aa b w g (R.does m) w1 from by rw[hD];exact hX.post);have fA:m.reject=true\/(m.reject=false/\(R.role==2)=false):=by
    rcases Bool.eq_false_or_eq_true m.reject with oU|oU
    ·exact .inl oU
    ·exact .inr ⟨oU,by simp;exact fun hh=>hC ⟨oU,hh⟩⟩
   replace hC:=zH hC;replace hk:=zH hk;clear hX hD;rcases fA with f1|⟨f1,f2⟩
   all_goals
    have jF:=bM.out;rw[f1]at jF y8;go_enter func60,ntmps60;go_wp2_with fail;try rw[jF]
    try go_wp2_with fail
    exact ai rfl rfl ⟨rfl,hQ.out⟩
 ·have e1:(m.kind==1)=false:=by simp[cw]
  have e2:(m.kind==2)=false:=by simp[cw]
  have e3:(m.kind==3)=false:=by simp[cw]
  have e4:(m.kind==4)=false:=by simp[cw]
  have e5:(m.kind==5)=true:=by simp[cw]
  have hD:R.does m=if R.role≠3 then(R.hears m).appends m else R:=by unfold Rf.does;rw[if_neg (by omega),if_neg (by omega),if_neg (by omega),if_neg (by omega),if_pos cw]
  replace cw:=zH cw;by_cases hC:R.role=3
  ·have f1:(R.role !=3)=false:=by simp[hC]
   rw[if_neg (by simpa using hC)]at hD;have hQ:=zH (show aq aa b w g (R.does m) w1 from by rw[hD];exact hX.post);replace hC:=zH hC;replace hk:=zH hk;clear hX hD;go_enter func60,ntmps60;go_wp2_with fail;rw[bM.out];try go_wp2_with fail
   exact ai rfl rfl ⟨rfl,hQ.out⟩
  ·have f1:(R.role !=3)=true:=by simp[hC]
   rw[if_pos hC]at hD;have Hg:=hX.act (fun ar v1 h=>sS m (.slice A1 n1 c1) (.slice A2 n2 c2) h);unfold iw at Hg;simp only[vi]at Hg;have cz:=hk.hears m;replace hD:=zH hD;replace hC:=zH hC;replace cz:=zH cz;replace hk:=zH hk;clear hX;go_enter func60,ntmps60;go_wp2_with fail;rw[bM.out];try go_wp2_with fail
   refine Hg.mono ?_;rintro e w5 ⟨rfl,mW,dp⟩;have IC:ay w5 w.heap.size 39 #[.int .i64 m.kind,.int .i64 m.frm,.int .i64 m.tgt,.int .i64 m.term,.int .i64 m.idx,.int .i64 m.logTerm,.int .i64 m.commit,.int .i64 m.round,.bool m.reject,.int .i64 m.offset,.int .i64 m.total,.slice A1 n1 c1,.slice A2 n2 c2]:=dp.blk zl (by omega) cA;clear Hg y0 y1 y2 y3 y4 y5 y6 y7 y8 y9 y10 y11 y12 c6' c13' c6 c13;obtain⟨y0,y1,y2,y3,y4,y5,y6,y7,y8,y9,y10,y11,y12,-⟩:=IC.cs [0,1,2,3,4,5,6,7,8,9,10,11,12];simp only[Zx]at y0 y1 y2 y3 y4 y5 y6 y7 y8 y9 y10 y11 y12;obtain⟨N3,v7,h7,Mz,gg⟩:=mW.ens2 pK he;have hs:=(vH m A1 A2 n1 c1 n2 c2 mi h7 cz.out (by omega) (by omega) pK Mz oh.out (by rw[oh.out];exact QK) rP.1 rP.2 eW.1 eW.2).mono (fun e w' hh=>(⟨hh.1,(gg _ _ hh.2).1.post⟩:e=.returned (.tuple #[])/\aq aa b w g ((R.hears m).appends m) w'));clear h7 Mz gg;unfold iw at hs;simp only[vi]at hs;clear mW;go_wp2_with fail;refine hs.mono ?_;rintro e w9 ⟨rfl,iR⟩;have hQ:=zH (show aq aa b w g (R.does m) w9 from by rw[hD.out];exact iR);clear hs iR;go_wp2_with fail;exact ai rfl rfl ⟨rfl,hQ.out⟩
 ·have e1:(m.kind==1)=false:=by simp[cw]
  have e2:(m.kind==2)=false:=by simp[cw]
  have e3:(m.kind==3)=false:=by simp[cw]
  have e4:(m.kind==4)=false:=by simp[cw]
  have e5:(m.kind==5)=false:=by simp[cw]
  have e7:(m.kind==7)=false:=by simp[cw]
  have e8:(m.kind==8)=false:=by simp[cw]
  have e6:(m.kind==6)=true:=by simp[cw]
  ·have hD:R.does m=if R.role=3 then R.answered m else R:=by unfold Rf.does;rw[if_neg (by omega),if_neg (by omega),if_neg (by omega),if_neg (by omega),if_neg (by omega),if_neg (by omega),if_neg (by omega)]
   replace cw:=zH cw;by_cases hC:R.role=3
   ·have f1:(R.role==3)=true:=by simp[hC]
    rw[if_pos hC]at hD;obtain⟨s,J7⟩:∃s:Nat,m.frm=(s:Int):=⟨m.frm.toNat,by omega⟩;have hs:=hX.act (fun ar v1 h=>nj m (.slice A1 n1 c1) (.slice A2 n2 c2) s h hk hC J7 (by omega) (by omega) (by omega) rP.1 rP.2 JV.1);unfold iw at hs;simp only[vi]at hs;replace hD:=zH hD;replace hC:=zH hC;replace J7:=zH J7;replace hk:=zH hk;clear hX;go_enter func60,ntmps60;go_wp2_with fail;rw[bM.out];try go_wp2_with fail
    refine hs.mono ?_;rintro e w9 ⟨rfl,iR,_⟩;have hQ:=zH (show aq aa b w g (R.does m) w9 from by rw[hD.out];exact iR.post);clear hs iR;go_wp2_with fail;exact ai rfl rfl ⟨rfl,hQ.out⟩
   ·have f1:(R.role==3)=false:=by simp[hC]
    rw[if_neg hC]at hD;have hQ:=zH (show aq aa b w g (R.does m) w1 from by rw[hD];exact hX.post);replace hC:=zH hC;replace hk:=zH hk;clear hX hD;go_enter func60,ntmps60;go_wp2_with fail;rw[bM.out];try go_wp2_with fail
    exact ai rfl rfl ⟨rfl,hQ.out⟩
 ·have e1:(m.kind==1)=false:=by simp[cw]
  have e2:(m.kind==2)=false:=by simp[cw]
  have e3:(m.kind==3)=false:=by simp[cw]
  have e4:(m.kind==4)=false:=by simp[cw]
  have e5:(m.kind==5)=false:=by simp[cw]
  have e7:(m.kind==7)=true:=by simp[cw]
  have hD:R.does m=if R.role≠3 then(R.hears m).piece m else R:=by unfold Rf.does;rw[if_neg (by omega),if_neg (by omega),if_neg (by omega),if_neg (by omega),if_neg (by omega),if_pos cw]
  replace cw:=zH cw;by_cases hC:R.role=3
  ·have f1:(R.role !=3)=false:=by simp[hC]
   rw[if_neg (by simpa using hC)]at hD;have hQ:=zH (show aq aa b w g (R.does m) w1 from by rw[hD];exact hX.post);replace hC:=zH hC;replace hk:=zH hk;clear hX hD;go_enter func60,ntmps60;go_wp2_with fail;rw[bM.out];try go_wp2_with fail
   exact ai rfl rfl ⟨rfl,hQ.out⟩
  ·have f1:(R.role !=3)=true:=by simp[hC]
   rw[if_pos hC]at hD;have Hg:=hX.act (fun ar v1 h=>sS m (.slice A1 n1 c1) (.slice A2 n2 c2) h);unfold iw at Hg;simp only[vi]at Hg;have cz:=hk.hears m;replace hD:=zH hD;replace hC:=zH hC;replace cz:=zH cz;replace hk:=zH hk;clear hX;go_enter func60,ntmps60;go_wp2_with fail;rw[bM.out];try go_wp2_with fail
   refine Hg.mono ?_;rintro e w5 ⟨rfl,mW,dp⟩;have IC:ay w5 w.heap.size 39 #[.int .i64 m.kind,.int .i64 m.frm,.int .i64 m.tgt,.int .i64 m.term,.int .i64 m.idx,.int .i64 m.logTerm,.int .i64 m.commit,.int .i64 m.round,.bool m.reject,.int .i64 m.offset,.int .i64 m.total,.slice A1 n1 c1,.slice A2 n2 c2]:=dp.blk zl (by omega) cA;clear Hg y0 y1 y2 y3 y4 y5 y6 y7 y8 y9 y10 y11 y12 c6' c13' c6 c13;obtain⟨y0,y1,y2,y3,y4,y5,y6,y7,y8,y9,y10,y11,y12,-⟩:=IC.cs [0,1,2,3,4,5,6,7,8,9,10,11,12];simp only[Zx]at y0 y1 y2 y3 y4 y5 y6 y7 y8 y9 y10 y11 y12;obtain⟨N3,v7,h7,Mz,gg⟩:=mW.byt2 pK hd;have hs:=(Cm m A1 A2 n1 c1 n2 c2 mi h7 cz.out (by omega) (by omega) pK Mz uZ.out (by rw[uZ.out];exact od) rP.1 rP.2 EE.1 EE.2 Um.1 Um.2).mono (fun e w' hh=>(⟨hh.1,(gg _ _ hh.2).1.post⟩:e=.returned (.tuple #[])/\aq aa b w g ((R.hears m).piece m) w'));clear h7 Mz gg;unfold iw at hs;simp only[vi]at hs;clear mW;go_wp2_with fail;refine hs.mono ?_;rintro e w9 ⟨rfl,iR⟩;have hQ:=zH (show aq aa b w g (R.does m) w9 from by rw[hD.out];exact iR);clear hs iR;go_wp2_with fail;exact ai rfl rfl ⟨rfl,hQ.out⟩
 ·have e1:(m.kind==1)=false:=by simp[cw]
  have e2:(m.kind==2)=false:=by simp[cw]
  have e3:(m.kind==3)=false:=by simp[cw]
  have e4:(m.kind==4)=false:=by simp[cw]
  have e5:(m.kind==5)=false:=by simp[cw]
  have e7:(m.kind==7)=false:=by simp[cw]
  have e8:(m.kind==8)=true:=by simp[cw]
  rcases Bool.eq_false_or_eq_true m.reject with oU|oU
  ·have hD:R.does m=R:=by unfold Rf.does;rw[if_neg (by omega),if_neg (by omega),if_neg (by omega),if_neg (by omega),if_neg (by omega),if_neg (by omega),if_pos ⟨cw,oU⟩]
   have hQ:=zH (show aq aa b w g (R.does m) w1 from by rw[hD];exact hX.post);replace cw:=zH cw;replace hk:=zH hk;clear hX hD;have jF:=bM.out;rw[oU]at jF y8;go_enter func60,ntmps60;go_wp2_with fail;try rw[jF]
   try go_wp2_with fail
   exact bf rfl rfl ⟨rfl,hQ.out⟩
  ·have hD:R.does m=if R.role=3 then R.answered m else R:=by unfold Rf.does;rw[if_neg (by omega),if_neg (by omega),if_neg (by omega),if_neg (by omega),if_neg (by omega),if_neg (by omega),if_neg (by rw[oU];simp)]
   replace cw:=zH cw;by_cases hC:R.role=3
   ·have f1:(R.role==3)=true:=by simp[hC]
    rw[if_pos hC]at hD;obtain⟨s,J7⟩:∃s:Nat,m.frm=(s:Int):=⟨m.frm.toNat,by omega⟩;have hs:=hX.act (fun ar v1 h=>nj m (.slice A1 n1 c1) (.slice A2 n2 c2) s h hk hC J7 (by omega) (by omega) (by omega) rP.1 rP.2 JV.1);unfold iw at hs;simp only[vi]at hs;replace hD:=zH hD;replace hC:=zH hC;replace J7:=zH J7;replace hk:=zH hk;clear hX;have jF:=bM.out;rw[oU]at jF y8;rw[oU]at hs;go_enter func60,ntmps60;go_wp2_with fail;try rw[jF]
    try go_wp2_with fail
    refine hs.mono ?_;rintro e w9 ⟨rfl,iR,_⟩;have hQ:=zH (show aq aa b w g (R.does m) w9 from by rw[hD.out];exact iR.post);clear hs iR;go_wp2_with fail;exact ai rfl rfl ⟨rfl,hQ.out⟩
   ·have f1:(R.role==3)=false:=by simp[hC]
    rw[if_neg hC]at hD;have hQ:=zH (show aq aa b w g (R.does m) w1 from by rw[hD];exact hX.post);replace hC:=zH hC;replace hk:=zH hk;clear hX hD;have jF:=bM.out;rw[oU]at jF y8;go_enter func60,ntmps60;go_wp2_with fail;try rw[jF]
    try go_wp2_with fail
    exact ai rfl rfl ⟨rfl,hQ.out⟩
end
end
section
open Go.MapKept
theorem zF:(prog.info? 134).map (fun i=>(i.zero,i.size,i.bytes))=some (some (.agg #[.int .i64 0,.int .i64 0]),2,16):=by kernel_rfl
theorem oJ{w:World}{ops:Array Oper}{rest:List Oper}{o:Oper}{a:Act}{Q:Exit->Act->World->Prop}(iJ:o.guard=none)(s x:Operand)
  (ho:o.op=.call {callee:=.builtin .append,args:=#[s,x],argTypes:=#[46,46]})
  (base:Nat) {A:Option Addr} {n c:Nat} {l:List (Int×Int)} (hs:a.eval s=.slice A n c) (aJ:w.ownsRow base 134 2 (.slice A n c) n (l.flatMap Cr))
  {B:Option Addr} {m d:Nat} {r:List (Int×Int)} (hx:a.eval x=.slice B m d) (hr:cj w 2 B m (r.flatMap Cr)) (hb:n+m<=1000000000000) (bD:base<=w.heap.size)
  (h:∀A' c' w',w'.ownsRow base 134 2 (.slice A' (n+m) c') (n+m) ((l++r).flatMap Cr)->Fr (aR A) w w'->(∀j,aR A' j->aR A j\/w.heap.size<=j)->wpList prog ops Q rest (a.put o.dst (.slice A' (n+m) c')) w'):wpList prog ops Q (o::rest) a w:=by
 obtain⟨i0,fT,gv,fC,fK⟩:=info_parts zF;refine bj w iJ s x 46 ho base 134 i0 _ 2 16 underlying46 fT gv fC fK rfl (by omega) (.slice A n c) n _ hs aJ B m d _ hx hr (fun u hu=>?_) (by unfold maxLen;omega) (by omega) bD fun A' c' w' h3 h4 h5=>?_
 ·obtain⟨z,_,hz⟩:=List.mem_flatMap.1 hu;unfold Cr at hz;simp only[List.mem_cons,List.not_mem_nil,or_false]at hz;rcases hz with rfl|rfl <;> rfl
 ·rw[<-List.flatMap_append]at h3;exact h A' c' w' h3 (Fr.grown h4) (iP h5)
theorem RdR.one{w:World}{g:Nat}{a c:Int}(hg:ay w g 134 #[.int .i64 a,.int .i64 c]):cj w 2 (some ⟨g,0,none⟩) 1 ([(a,c)].flatMap Cr):=
 ⟨rfl,fun _=>⟨_,rfl,fun j y hy=>by
  have e:(⟨g,0,none⟩:Addr).add j=⟨g,j,none⟩:=by unfold Addr.add;split <;> simp[*]
  rw[e,hg.cell j,<-hy];simp[Cr,vi]⟩⟩
def Wt.rd(x:Wt):Int×Int:=(x.ctx,x.idx)
def Rf.tellRead(R:Rf)(x:Wt)(k:Int):Rf:=if x.round<=k then {R with out:={R.out with reads:=R.out.reads++[x.rd]}}else R
section
variable {aa:Nat->Nat}{b g:Nat}{w:World}{R:Rf}{v:Rw}
theorem oZ(x:Wt)(k:Int)(p1 p2:Nat)(h:av aa b w g R v)(cw:ay w p1 32 #[.pointer (some ⟨g,0,none⟩)])(iq:ay w p2 3 #[.int .i64 k])(dm:aa p1=b)(fB:aa p2=b)(kj:R.out.reads.length<=10000000000) :
  Calls prog 114 #[.agg #[.int .i64 x.ctx,.int .i64 x.idx,.int .i64 x.round],.pointer (some ⟨p2,0,none⟩),.pointer (some ⟨p1,0,none⟩)] w fun e w'=>e=.returned (.bool (decide (x.round<=k)))/\
   ∃(ac:Nat->Nat) (v':Rw),av ac b w' g (R.tellRead x k) v'/\v'.waits=v.waits/\(∀j,j<w.heap.size->ac j=aa j)/\Fr (fun j=>j=g\/aa j=b+11) w w':=by
 have bV:=h.s.lt;have aU:Below w.heap.size w (w.alloc (.cells #[.int .i64 x.ctx,.int .i64 x.idx,.int .i64 x.round] 167)):=zb.alloc zl _;have cA:=ay.new w 167 #[.int .i64 x.ctx,.int .i64 x.idx,.int .i64 x.round];obtain⟨w1,bM⟩:=zN (w.alloc (.cells #[.int .i64 x.ctx,.int .i64 x.idx,.int .i64 x.round] 167));rw[bM]at aU cA;have g4:p1≠g:=fun e=>by have:=h.sl;rw[<-e,dm]at this;omega
 have jo:p2≠g:=fun e=>by have:=h.sl;rw[<-e,fB]at this;omega
 have MV:=cw.kept aU;have Hj:=iq.kept aU;have h1:=h.fresh aU;have Xh:relab aa w.heap.size b p1=b:=(ae cw.lt).trans dm;have Xi:relab aa w.heap.size b p2=b:=(ae iq.lt).trans fB;have Di:relab aa w.heap.size b w.heap.size=b:=aA zl;have Nz:=MV.lt;have RF:=Hj.lt;have G9:=h1.s.lt;obtain⟨y0,y1,y2,-⟩:=cA.cs [0,1,2];simp only[Zx]at y0 y1 y2;have a0:=MV.cell 0;simp only[Zx]at a0;have e0:=Hj.cell 0;simp only[Zx]at e0;have Xv:=cw.lt;have Xx:=iq.lt;have ew0:=iq.cell 0;simp only[Zx]at ew0;replace bM:=zH bM;by_cases hc:x.round<=k
 ·have hT:R.tellRead x k={R with out:={R.out with reads:=R.out.reads++[x.rd]}}:=if_pos hc;have hd:decide (x.round<=k)=true:=decide_eq_true hc;obtain⟨A,c,hv,aJ,hl⟩:=id h1.r;obtain⟨n,hn⟩:=zN (R.out.reads.length);rw[hn]at hv aJ kj;have d29:w1.cell? ⟨g,29,none⟩=some (.slice A n c):=by
   have:=h1.s.cell 29;simp only[bt,Zx]at this;rw[this,hv]
  obtain⟨q29,qa,q0,q1⟩:=IY [g,p1,w.heap.size] d29 a0 y0 y1;have jV:n+1<=1000000000000:=by omega
  have iA:Below w1.heap.size w1 ((w1.alloc (.cells #[.int .i64 x.ctx,.int .i64 x.idx] 134)).drew):=((Below.refl w1.heap.size w1).alloc zl _).drew;have OJ:ay ((w1.alloc (.cells #[.int .i64 x.ctx,.int .i64 x.idx] 134)).drew) w1.heap.size 134 #[.int .i64 x.ctx,.int .i64 x.idx]:=ay.new w1 _ _;have J3:=RdR.one OJ;have Ny:=bF aJ iA;have aO:∀(A6:Option Addr) (c6:Nat) (w6:World),w6.ownsRow 0 134 2 (.slice A6 (n+1) c6) (n+1) ((R.out.reads++[(x.ctx,x.idx)]).flatMap Cr)->Fr (aR A) ((w1.alloc (.cells #[.int .i64 x.ctx,.int .i64 x.idx] 134)).drew) w6->(∀j,aR A6 j->aR A j\/((w1.alloc (.cells #[.int .i64 x.ctx,.int .i64 x.idx] 134)).drew).heap.size<=j)->
    (∀q∈[g,p1,w.heap.size],w6.heap[q]?=w1.heap[q]?)/\ay w6 w.heap.size 167 #[.int .i64 x.ctx,.int .i64 x.idx,.int .i64 x.round]/\ay w6 p2 3 #[.int .i64 k]/\ay w6 g 107 (bt R v)/\True/\
    ∃(ac:Nat->Nat) (v':Rw),av ac b (w6.setCell ⟨g,29,none⟩ (.slice A6 (n+1) c6)) g (R.tellRead x k) v'/\v'.waits=v.waits/\(∀j,j<w.heap.size->ac j=aa j)/\Fr (fun j=>j=g\/aa j=b+11) w (w6.setCell ⟨g,29,none⟩ (.slice A6 (n+1) c6)):=fun A6 c6 w6 uh mq vk=>by
   have Lg:∀q,q<w1.heap.size->relab aa w.heap.size b q≠b+11->w6.heap[q]?=w1.heap[q]?:=fun q hq cH=>(mq.block q (Nat.lt_of_lt_of_le hq iA.size) fun hh=>cH (hl q hh)).trans (iA.block q hq)
   have MO:relab aa w.heap.size b g≠b+11:=by have:=h1.sl;omega
   have jm:ay w6 g 107 (bt R v):=(Lg g G9 MO).trans h1.s;have du:=Fr.set (w:=w6) g 29 (.slice A6 (n+1) c6);have BA:=jm.set_ 29 (.slice A6 (n+1) c6);simp only[bt,Zy]at BA;have LI:Fr (fun j=>j=g\/relab aa w.heap.size b j=b+11) w1 (w6.setCell ⟨g,29,none⟩ (.slice A6 (n+1) c6)):=(((Fr.of_below (X:=fun j=>j=g\/relab aa w.heap.size b j=b+11) iA).trans (mq.mono (X':=fun j=>j=g\/relab aa w.heap.size b j=b+11) fun j hj=>.inr (hl j hj)) fun j hj=>.inl hj).trans (du.mono (X':=fun j=>j=g\/relab aa w.heap.size b j=b+11) fun j e=>.inl e) fun j hj=>.inl hj);refine⟨fun q hq=>?_,(Lg _ cA.lt (by omega)).trans cA,(Lg _ RF (by omega)).trans Hj,jm,trivial,relab (relab aa w.heap.size b) w1.heap.size (b+11),{v with rds:=.slice A6 (n+1) c6},?_,rfl,fun j hj=>(ae (by have:=aU.size;omega)).trans (ae hj),?_⟩
   ·simp only[List.mem_cons,List.not_mem_nil,or_false]at hq;rcases hq with rfl|rfl|rfl
    ·exact Lg _ G9 MO
    ·exact Lg _ Nz (by omega)
    ·exact Lg _ cA.lt (by omega)
   ·rw[hT];refine h1.turn (ac:=relab (relab aa w.heap.size b) w1.heap.size (b+11)) (v':={v with rds:=.slice A6 (n+1) c6}) [11] BA (fun i j _ _ _ hj e=>(ae hj).trans e) (by simp) (LI.mono fun j hj=>hj.elim .inl fun e=>.inr ⟨11,by simp,e⟩)
     tI tI tI tI tI tI tI tI tI (.inl ?_) tI
    show aX _ _ _ _ _ _ (R.out.reads++[x.rd]).length _;rw[List.length_append,hn];have g9:∀j,aR A6 j->relab (relab aa w.heap.size b) w1.heap.size (b+11) j=b+11:=fun j hj=>by
     rcases vk j hj with h6|h6
     ·exact(ae (aI aJ A c rfl j h6).1).trans (hl j h6)
     ·exact aA (Nat.le_trans iA.size h6)
    refine aX.keep (w:=w6) ⟨A6,c6,rfl,uh,g9⟩ fun j hj hl=>du.block j hl fun e=>?_
    rw[e,ae G9]at hj;omega
   ·refine(Fr.of_below (X:=fun j=>j=g\/aa j=b+11) aU).trans LI fun j hj=>?_
    rcases Nat.lt_or_ge j w.heap.size with bh|ud
    ·rw[ae bh]at hj;exact .inl hj
    ·exact .inr ud
  clear aJ;go_enter func114,ntmps114;go_wp2_with fail;rw[bM.out];try go_wp2_with fail
  refine qY [g,p1,w.heap.size] w1 [([0,1,2,3,4,5,6,7],8),([],9)] ([10,11,12],13) ?_;refine au fun K1 cF=>?_
  simp only[af,Zx];repeat go_big_quiet_step(fail)
  apply wpQuiet_nil;go_wp2_with fail;have bY:∀q∈[g,p1,w.heap.size],q<w1.heap.size:=by simp;exact⟨G9,Nz,cA.lt⟩
  refine⟨aw bY iA,cF _ _ ?_⟩;refine au fun K2 jl=>?_
  simp only[af,Zx];apply wpQuiet_nil;go_wp2_with (at_builtin;refine oJ rfl (.tmp 14) (.tmp 17) rfl 0 rfl Ny rfl J3 jV zz ?_;intro A6 c6 w6 uh mq vk;obtain⟨M4,I4,RE,jm,DX,Et⟩:=aO A6 c6 w6 uh mq vk;clear aO uh mq vk);have e29:=jm.cell 29;have f29:=jm.free 29;simp only[bt,Zx]at e29;have xQ:=jm.lt;have Zi:w.heap.size≠g:=by omega
  have z2:=I4.cell 2;simp only[Zx]at z2;have u0:=RE.cell 0;simp only[Zx]at u0;refine⟨aT M4,jl _ _ ?_⟩;refine aE ?_;simp only[af,Zx];repeat go_big_quiet_step(fail)
  apply wpQuiet_nil;replace Et:=zH Et;go_wp2_with fail;go_ret;exact⟨by rw[hd];rfl,Et.out⟩
 ·have hT:R.tellRead x k=R:=if_neg hc;have hd:decide (x.round<=k)=false:=decide_eq_false hc;replace hc:=Int.not_le.1 hc;go_enter func114,ntmps114;go_wp2_with fail;rw[bM.out];try go_wp2_with fail
  go_ret;exact⟨by rw[hd];rfl,_,v,by rw[hT];exact h1,rfl,fun j hj=>ae hj,Fr.of_below aU⟩
end
end
section
open Go.MapKept
def g7(k:Int):List Wt->Int->Int
 | [],_=>-1
 | x::l,i=>if x.round<=k then i else g7 k l (i+1)
def dU(R:Rf)(k:Int):List Wt->Rf
 | []=>R
 | x::l=>if x.round<=k then R.tellRead x k else dU R k l
def gC(aa:Nat->Nat)(b:Nat)(w:World)(g:Nat)(R':Rf)(v:Rw)(w':World):Prop:=
 ∃(ac:Nat->Nat) (v':Rw),av ac b w' g R' v'/\v'.waits=v.waits/\(∀j,j<w.heap.size->ac j=aa j)/\Fr (fun j=>j=g\/aa j=b+11) w w'
section
variable {aa:Nat->Nat}{b g:Nat}{w w1 w2:World}{R R1 R2:Rf}{v:Rw}
theorem gC.refl(h:av aa b w g R v):gC aa b w g R v w:=⟨aa,v,h,rfl,fun _ _=>rfl,Fr.refl _ _⟩
theorem gC.next{ar:Nat->Nat}{v1:Rw}(h:gC ar b w1 g R2 v1 w2)(hv:v1.waits=v.waits)(hl:∀j,j<w.heap.size->ar j=aa j)(hF:Fr (fun j=>j=g\/aa j=b+11) w w1):gC aa b w g R2 v w2:=by
 obtain⟨bK,v2,q1,q2,q3,q4⟩:=h;have hs:=hF.size;refine⟨bK,v2,q1,q2.trans hv,fun j hj=>(q3 j (by omega)).trans (hl j hj),hF.trans q4 fun j hj=>?_⟩;rcases Nat.lt_or_ge j w.heap.size with h|h
 ·rw[hl j h]at hj;exact .inl hj
 ·exact .inr h
theorem gC.blk{T:TypeId}{cs:Array Value}{p:Nat}(h:gC aa b w g R2 v w1)(hg:p≠g)(hl:aa p≠b+11)(hk:ay w p T cs):ay w1 p T cs:=by
 obtain⟨bK,v2,q1,q2,q3,q4⟩:=h;exact(q4.block p hk.lt fun hh=>hh.elim hg hl).trans hk
theorem wK(k:Int)(p1 p2 n c:Nat)(A:Option Addr)(h:av aa b w g R v)(cw:ay w p1 32 #[.pointer (some ⟨g,0,none⟩)])(iq:ay w p2 3 #[.int .i64 k])(dm:aa p1=b)(fB:aa p2=b)(kj:R.out.reads.length<=9000000000)
  (hv:v.waits=.slice A n c) (hn:n=R.waits.length) (Hq:n<=1000) :
  Calls prog 141 #[.slice A n c,.func (.func 114) #[] #[.pointer (some ⟨p2,0,none⟩),.pointer (some ⟨p1,0,none⟩)]] w fun e w'=>e=.returned (.int .i64 (g7 k R.waits 0))/\gC aa b w g (dU R k R.waits) v w':=by
 have bV:=h.s.lt;have JY:p1≠g:=fun e=>by have:=h.sl;rw[<-e,dm]at this;omega
 have J0:p2≠g:=fun e=>by have:=h.sl;rw[<-e,fB]at this;omega
 have h0:=gC.refl h;replace hn:=zH hn;go_enter func141,ntmps141;go_wp2_with fail
 go_loopw [8] (fun i wr=>∃j:Nat,j<=n/\i=.int .i64 j/\gC aa b w g R v wr/\g7 k R.waits 0=g7 k (R.waits.drop j) j/\dU R k R.waits=dU R k (R.waits.drop j)) (fun i _=>n-(intOf i).toNat)
 case atStart=>exact⟨0,Nat.zero_le _,rfl,h0,rfl,rfl⟩
 case round=>
  obtain⟨j,hj,rfl,hQ,hf,ht⟩:=hrel;by_cases bh:j<n
  ·have OH:R.waits[j]?=some (R.waits[j]'(by rw[<-hn.out];exact bh)):=List.getElem?_eq_getElem _;obtain⟨x,hx⟩:=zN (R.waits[j]'(by rw[<-hn.out];exact bh));rw[hx]at OH;have sR:R.waits.drop j=x::R.waits.drop (j+1):=iG OH;rw[sR]at hf ht;have MI:g7 k (x::R.waits.drop (j+1)) j=if x.round<=k then(j:Int)else g7 k (R.waits.drop (j+1)) (j+1):=rfl
   have Hx:dU R k (x::R.waits.drop (j+1))=if x.round<=k then R.tellRead x k else dU R k (R.waits.drop (j+1)):=rfl
   rw[MI]at hf;rw[Hx]at ht;obtain⟨ar,v1,q1,q2,q3,q4⟩:=id hQ;obtain⟨q,c',AH,Ao,so,yR,aQ,_⟩:=q1.q.at_ (by rw[<-hn.out];omega);rw[q2,hv,<-hn.out]at AH;injection AH with a1 a2 a3;subst a1;subst a3;have key:∀s u,s<3->(mA x)[s]?=some u->wr.cell? ⟨q,j*3+s,none⟩=some u:=fun s u hs hu=>aQ _ _ ((cB (f:=mA) (k:=3) (fun _=>rfl) hs OH).trans hu)
   have m0:=key 0 _ (by omega) rfl;have m1:=key 1 _ (by omega) rfl;have m2:=key 2 _ (by omega) rfl;simp only[vi,Nat.add_zero]at m0 m1 m2;have hc:=oZ x k p1 p2 q1 (hQ.blk JY (by omega) cw) (hQ.blk J0 (by omega) iq) ((q3 p1 cw.lt).trans dm) ((q3 p2 iq.lt).trans fB) (by omega);have bi:=zH (show n-(j+1)<n-j by omega);clear key aQ MI Hx sR hx OH q1;go_wp2_with fail;refine hc.mono ?_;rintro e w5 ⟨rfl,hT⟩;have D1:gC aa b w g (R.tellRead x k) v w5:=gC.next hT q2 q3 q4;clear hc hT q4;by_cases fQ:x.round<=k
   ·rw[if_pos fQ]at hf ht;have hd:decide (x.round<=k)=true:=decide_eq_true fQ;replace hf:=zH hf;replace ht:=zH ht;replace D1:=zH D1;clear hQ;go_wp2_with fail;go_ret;exact⟨by rw[hf.out];rfl,by rw[ht.out];exact D1.out⟩
   ·rw[if_neg fQ]at hf ht;have hd:decide (x.round<=k)=false:=decide_eq_false fQ;have LW:R.tellRead x k=R:=if_neg fQ;rw[LW]at D1;replace fQ:=Int.not_le.1 fQ;replace hf:=zH hf;replace ht:=zH ht;clear hQ LW;go_wp2_with fail;exact⟨⟨j+1,bh,by go_num,D1,hf.out,ht.out⟩,by simp[intOf];exact bi.out⟩
  ·obtain rfl:n=j:=by omega
   rw[List.drop_eq_nil_of_le (by rw[<-hn.out];exact Nat.le_refl _)]at hf ht;have Im:g7 k R.waits 0=-1:=hf;have Kg:dU R k R.waits=R:=ht;replace Im:=zH Im;replace Kg:=zH Kg;replace hQ:=zH hQ;clear hf ht;go_wp2_with fail;go_ret;exact⟨by rw[Im.out];rfl,by rw[Kg.out];exact hQ.out⟩
end
end
section
open Go.MapKept
theorem my(w:World)(t e ty:TypeId)(z:Value)(ht:prog.underlying t=some (.slice e))(hv:∀w,(zeroValue e).run prog w=.ok z w)(h1:∀u∈z.cells.toList,u.oneCell'=true)(b o n c:Nat)(hn:0<n)
  (hc:∀j,j<(Builtin.zeroCells z.cells n).toList.length->(w.cell? ⟨b,o+j,none⟩).isSome=true) (hf:∀j,j<(Builtin.zeroCells z.cells n).toList.length->w.frozen? ⟨b,o+j,none⟩=false) (hz:∀u∈(Builtin.zeroCells z.cells n).toList,u.oneCell'=true) :
  (Builtin.clear_ #[t] ty #[.slice (some ⟨b,o,none⟩) n c]).run prog w=.ok (.tuple #[]) (w.setCells b o (Builtin.zeroCells z.cells n).toList):=by
 have bP:=run_storeCells_cells (P:=prog) b o (Builtin.zeroCells z.cells n).toList 0 w (by simpa using hc) (by simpa using hf) hz;simp only[Nat.add_zero]at bP;obtain⟨m,rfl⟩:∃m,n=m+1:=⟨n-1,by omega⟩;simp[Builtin.clear_,run_underlying ht,hv,bP]
theorem oQ(b:Nat):∀(vs:List Value) (o:Nat) (w:World),Fr (fun j=>j=b) w (w.setCells b o vs)
 | [],_,w=>Fr.refl _ w
 | v::r,o,w=>(Fr.set b o v).trans (oQ b r (o+1) _) fun _ h=>.inl h
theorem gM{base n c size q:Nat}{T:TypeId}{xs:List Value}:∀(vs:List Value) (o:Nat) (w:World),n*size<=o->w.ownsRow base T size (.slice (some ⟨q,0,none⟩) n c) n xs->(w.setCells q o vs).ownsRow base T size (.slice (some ⟨q,0,none⟩) n c) n xs
 | [],_,_,_,h=>h
 | v::r,o,w,ho,h=>by
  have h1:=(h.stored o v).1;rw[List.set_eq_of_length_le (by rw[h.1];exact ho)]at h1;exact gM r (o+1) _ (by omega) h1
theorem tq{w:World}{base:Nat}{e:TypeId}{size n c k q:Nat}{xs:List Value}(h:w.ownsRow base e size (.slice (some ⟨q,0,none⟩) n c) n xs)(hk:k<=n):w.ownsRow base e size (.slice (some ⟨q,0,none⟩) k c) k (xs.take (k*size)):=by
 have hl:(xs.take (k*size)).length=k*size:=by rw[List.length_take,h.1];exact Nat.min_eq_left (Nat.mul_le_mul_right _ hk)
 refine⟨hl,?_⟩;rcases h.2 with⟨h1,h2⟩|⟨g,cap,cur,h1,h2,h3,h4,h5,h6,h7⟩
 ·cases h1
 ·injection h1 with h1 _ hc;injection h1 with h1;injection h1 with h1;subst h1;subst hc;refine .inr ⟨q,c,cur,rfl,h2,h3,by omega,h5,h6,?_⟩;rw[<-h7,List.take_take,Nat.min_eq_left (Nat.mul_le_mul_right _ hk)]
def xr(w:World)(q i:Nat)(x:Wt):World:=((w.setCell ⟨q,i*3,none⟩ (.int .i64 x.ctx)).setCell ⟨q,i*3+1,none⟩ (.int .i64 x.idx)).setCell ⟨q,i*3+2,none⟩ (.int .i64 x.round)
section
variable {aa:Nat->Nat}{b g:Nat}{w:World}{R:Rf}{v:Rw}
theorem av.setWait{i q n c:Nat}(x:Wt)(h:av aa b w g R v)(hi:i<R.waits.length)(hq:v.waits=.slice (some ⟨q,0,none⟩) n c)(hn:n=R.waits.length) :
  av aa b (xr w q i x) g {R with waits:=R.waits.set i x} v/\Fr (fun k=>k=q) w (xr w q i x)/\aa q=b+4:=by
 obtain⟨A,c',e,aJ,hl⟩:=id h.q;rw[hq,hn]at e;injection e with e1 e2 e3;subst e1;subst e3;have so:=hl q ⟨_,rfl,rfl⟩;have hF:Fr (fun k=>k=q) w (xr w q i x):=((Fr.set q _ _).trans (Fr.set q _ _) fun _ h=>.inl h).trans (Fr.set q _ _) fun _ h=>.inl h
 have K0:g≠q:=fun e=>by have:=h.sl;rw[e,so]at this;omega
 have RW:ay (xr w q i x) g 107 (bt {R with waits:=R.waits.set i x} v):=(hF.block g h.s.lt K0).trans h.s;obtain⟨y,hy⟩:∃y,R.waits[i]?=some y:=⟨_,List.getElem?_eq_getElem hi⟩;have bP:=((((aJ.stored (i*3+0) (.int .i64 x.ctx)).1.stored (i*3+1) (.int .i64 x.idx)).1).stored (i*3+2) (.int .i64 x.round)).1;rw[jA (f:=mA) (k:=3) (fun _=>rfl) (z:=y) (z':=⟨x.ctx,y.idx,y.round⟩) (by omega) rfl hy,
  jA (f:=mA) (k:=3) (fun _=>rfl) (z:=⟨x.ctx,y.idx,y.round⟩) (z':=⟨x.ctx,x.idx,y.round⟩) (by omega) rfl (by rw[List.getElem?_set_self hi]),
  jA (f:=mA) (k:=3) (fun _=>rfl) (z:=⟨x.ctx,x.idx,y.round⟩) (z':=x) (by omega) rfl (by rw[List.getElem?_set_self (by rw[List.length_set];exact hi)]),List.set_set,List.set_set]at bP
 refine⟨h.turn [4] RW (fun _ _ _ _ _ _ e=>e) (by simp) (hF.mono fun k e=>.inr ⟨4,by simp,by rw[e];exact so⟩) tI tI (.inl ?_) tI tI tI tI tI tI tI tI,hF,so⟩;rw[hq,hn];show aX _ _ _ _ _ _ (R.waits.set i x).length _;rw[List.length_set];exact⟨_,_,rfl,bP,hl⟩
end
end
theorem oD{w:World}{ops:Array Oper}{rest:List Oper}{o:Oper}{a:Act}{Q:Exit->Act->World->Prop}(iJ:o.guard=none)(s x:Operand)
  (ho:o.op=.call {callee:=.builtin .append,args:=#[s,x],argTypes:=#[27,27]})
  (base:Nat) {A:Option Addr} {n c:Nat} {zs:List (Value×En)} (hs:a.eval s=.slice A n c) (aJ:w.ownsRow base 59 6 (.slice A n c) n (zs.flatMap dE))
  {B:Option Addr} {m d:Nat} {ys:List (Value×En)} (hx:a.eval x=.slice B m d) (hr:im w B m ys) (h1:∀z∈ys,z.1.oneCell'=true) (hb:n+m<=2000000000000) (bD:base<=w.heap.size)
  (h:∀A' c' w',w'.ownsRow base 59 6 (.slice A' (n+m) c') (n+m) ((zs++ys).flatMap dE)->Fr (aR A) w w'->Below base w w'->(∀j,aR A' j->aR A j\/w.heap.size<=j)->wpList prog ops Q rest (a.put o.dst (.slice A' (n+m) c')) w'):wpList prog ops Q (o::rest) a w:=by
 obtain⟨i0,fT,gv,fC,fK⟩:=info_parts nk;refine bj w iJ s x 27 ho base 59 i0 _ 6 64 underlying27 fT gv fC fK rfl (by omega) (.slice A n c) n _ hs aJ B m d _ hx hr (pD h1) (by unfold maxLen;omega) (by omega) bD fun A' c' w' h3 h4 h5=>?_
 rw[<-List.flatMap_append]at h3;exact h A' c' w' h3 (Fr.grown h4) (eQ aJ h4 bD) (iP h5)
def gD(k:Int):List (Value×En)->Int->Int
 | [],_=>-1
 | z::l,i=>if z.2.idx<=k then i else gD k l (i+1)
def ey(k:Int)(l:List (Value×En)):List (Value×En):=l.filter fun z=>decide (k<z.2.idx)
theorem vS(k:Int):∀(l:List (Value×En)) (s:Nat),(gD k l s=-1/\ey k l=l)\/
  ∃i z,gD k l s=((s+i:Nat):Int)/\l[i]?=some z/\z.2.idx<=k/\ey k (l.take (i+1))=l.take i:=by
 intro l;induction l with
 | nil=>intro s;exact .inl ⟨rfl,rfl⟩
 | cons y l ih=>
  intro s;by_cases hy:y.2.idx<=k
  ·refine .inr ⟨0,y,?_,rfl,hy,?_⟩
   ·show(if y.2.idx<=k then(s:Int)else _)=_;rw[if_pos hy];simp
   ·show ey k [y]=[];unfold ey;rw[List.filter_cons,if_neg (by simp;omega)];rfl
  ·have e1:gD k (y::l) s=gD k l ((s+1:Nat):Int):=by
    show(if y.2.idx<=k then(s:Int)else gD k l ((s:Int)+1))=_;rw[if_neg hy];simp
   have hr:∀m:List (Value×En),ey k (y::m)=y::ey k m:=fun m=>by
    unfold ey;rw[List.filter_cons,if_pos (by simp;omega)]
   rw[e1];rcases ih (s+1)with⟨h1,h2⟩|⟨i,x,h1,h2,h3,h4⟩
   ·exact .inl ⟨h1,by rw[hr,h2]⟩
   ·refine .inr ⟨i+1,x,by rw[h1];congr 1;omega,h2,h3,?_⟩;rw[List.take_succ_cons,hr,h4,List.take_succ_cons]
theorem qU{k:Int}{l:List (Value×En)}{j:Nat}{x:Value×En}(h:l[j]?=some x):ey k (l.take (j+1))=ey k (l.take j)++if k<x.2.idx then[x]else[]:=by
 unfold ey;rw[List.take_add_one,h,List.filter_append];congr 1;by_cases hx:k<x.2.idx
 ·simp[hx]
 ·simp[hx]
structure vw(zs:List (Value×En))(k:Int)(n j i:Nat)(W:List (Value×En)):Prop where
 len:W.length=n
 jn:j<=n
 ij:i<j
 il:i=(ey k (zs.take j)).length
 tk:W.take i=ey k (zs.take j)
 dr:W.drop j=zs.drop j
theorem vw.skip{zs:List (Value×En)}{k:Int}{n j i:Nat}{W:List (Value×En)}{x:Value×En}(h:vw zs k n j i W)(hj:j<n)(hx:zs[j]?=some x)(hr:x.2.idx<=k):vw zs k n (j+1) i W:=by
 have e:=qU (k:=k) hx;rw[if_neg (by omega),List.append_nil]at e;refine⟨h.len,hj,by have:=h.ij;omega,by rw[e];exact h.il,by rw[e];exact h.tk,?_⟩;have:=congrArg (List.drop 1) h.dr;rw[List.drop_drop,List.drop_drop]at this;exact this
theorem vw.put{zs:List (Value×En)}{k:Int}{n j i:Nat}{W:List (Value×En)}{x:Value×En}(h:vw zs k n j i W)(hj:j<n)(hx:zs[j]?=some x)(hr:k<x.2.idx):vw zs k n (j+1) (i+1) (W.set i x):=by
 have e:=qU (k:=k) hx;rw[if_pos hr]at e;have Ex:=h.ij;have hl:=h.len;refine⟨by rw[List.length_set];exact hl,hj,by omega,by rw[e,List.length_append,<-h.il];rfl,?_,?_⟩
 ·rw[e,<-h.tk,List.take_set,List.take_add_one,List.getElem?_eq_getElem (by omega)];have ab:(W.take i).length=i:=by rw[List.length_take];omega
  rw[List.set_append_right _ _ (by omega),ab,Nat.sub_self];rfl
 ·rw[List.drop_set_of_lt (by omega)];have:=congrArg (List.drop 1) h.dr;rw[List.drop_drop,List.drop_drop]at this;exact this
section
variable {w:World}{S:Nat->Prop}
theorem tl(x:En)(k:Int)(p n c:Nat)(A:Option Addr)(hk:w.cell? ⟨p,2,none⟩=some (.int .i64 k)) :
  Calls prog 42 #[.agg #[.int .i64 x.idx,.int .i64 x.term,.int .i64 x.op,.int .i64 x.sess,.int .i64 x.seq,.slice A n c],.pointer (some ⟨p,0,none⟩)] w fun e w'=>e=.returned (.bool (decide (x.idx<=k)))/\Below w.heap.size w w':=by
 have aU:Below w.heap.size w (w.alloc (.cells #[.int .i64 x.idx,.int .i64 x.term,.int .i64 x.op,.int .i64 x.sess,.int .i64 x.seq,.slice A n c] 59)):=zb.alloc zl _;have jw:=aG hk;go_enter func42,ntmps42;go_wp2_with fail;go_ret;exact⟨rfl,aU⟩
theorem yZ(k:Int)(p n c:Nat)(A:Option Addr)(zs:List (Value×En))(hr:im w A n zs)(hd:bA S w zs)(hk:w.cell? ⟨p,2,none⟩=some (.int .i64 k))(hn:n<=1200000000000) :
  Calls prog 88 #[.slice A n c,.func (.func 42) #[] #[.pointer (some ⟨p,0,none⟩)]] w fun e w'=>e=.returned (.int .i64 (gD k zs 0))/\Below w.heap.size w w':=by
 have ob:=Below.refl w.heap.size w;have yO:=zH hr.len;go_enter func88,ntmps88;go_wp2_with fail
 go_loopw [8] (fun i wr=>∃j:Nat,j<=n/\i=.int .i64 j/\Below w.heap.size w wr/\gD k zs 0=gD k (zs.drop j) j) (fun i _=>n-(intOf i).toNat)
 case atStart=>exact⟨0,Nat.zero_le _,rfl,ob,rfl⟩
 case round=>
  obtain⟨j,hj,rfl,hb,hf⟩:=hrel;by_cases bh:j<n
  ·obtain⟨ad,vf,x,hA,hz,m0,m1,m2,m3,m4,m5⟩:=(hr.below hb).at_ bh;obtain⟨B,m,d,hv,_⟩:=(hd _ (List.mem_of_getElem? hz)).form;obtain rfl:vf=_:=hv;have MI:gD k (zs.drop j) j=if x.idx<=k then(j:Int)else gD k (zs.drop (j+1)) ((j+1:Nat):Int):=by
    rw[List.drop_eq_getElem_cons (by rw[yO.out];exact bh)];have e:zs[j]'(by rw[yO.out];exact bh)=(.slice B m d,x):=by
     have:=List.getElem?_eq_getElem (l:=zs) (i:=j) (by rw[yO.out];exact bh);rw[this]at hz;exact Option.some.inj hz
    rw[e];show(if x.idx<=k then(j:Int)else gD k _ ((j:Int)+1))=_;simp
   rw[MI]at hf;have M6:wr.cell? ⟨p,2,none⟩=some (.int .i64 k):=(hb.cell (p:=⟨p,2,none⟩) (aG hk)).trans hk;have hc:=tl x k p m d B M6;have bi:=zH (show n-(j+1)<n-j by omega);subst hA;clear MI hz M6;go_wp2_with fail;refine hc.mono ?_;rintro e w5 ⟨rfl,dp⟩;have kI:Below w.heap.size w w5:=hb.trans (dp.mono hb.size);clear hc dp;by_cases fQ:x.idx<=k
   ·rw[if_pos fQ]at hf;have hd:decide (x.idx<=k)=true:=decide_eq_true fQ;replace hf:=zH hf;go_wp2_with fail;go_ret;exact⟨by rw[hf.out];rfl,kI⟩
   ·rw[if_neg fQ]at hf;have hd:decide (x.idx<=k)=false:=decide_eq_false fQ;replace fQ:=Int.not_le.1 fQ;replace hf:=zH hf;go_wp2_with fail;exact⟨⟨j+1,bh,by go_num,kI,hf.out⟩,by simp[intOf];exact bi.out⟩
  ·obtain rfl:n=j:=by omega
   rw[List.drop_eq_nil_of_le (by rw[yO.out];exact Nat.le_refl _)]at hf;have Im:gD k zs 0=-1:=hf;replace Im:=zH Im;clear hf;go_wp2_with fail;go_ret;exact⟨by rw[Im.out];rfl,hb⟩
theorem yf(A:Option Addr)(n c:Nat)(zs:List (Value×En))(hr:im w A n zs)(hd:bA S w zs)(hn:n<=1200000000000) :
  Calls prog 41 #[.slice A n c] w fun e w'=>∃A' c',e=.returned (.slice A' n c')/\
   w'.ownsRow w.heap.size 59 6 (.slice A' n c') n (zs.flatMap dE)/\Below w.heap.size w w':=by
 have q30:∀(w:World) (a:Option Addr) (n c n' c':Nat),(binOp .eql 27 (.slice a n c) (.slice none n' c')).run prog w=.ok (.bool a.isNone) w:=fun w a n c n' c'=>Lib.run_eql_slice_nil w _ _ a n c n' c' underlying27
 have jp:=hd.one;rcases A with _|ad
 ·have h0:n=0:=by
   rcases Nat.eq_zero_or_pos n with h|h
   ·exact h
   ·obtain⟨ad,_,_,e,_⟩:=hr.at_ h;cases e
  subst h0;have hl:zs=[]:=List.eq_nil_of_length_eq_zero hr.len;subst hl;go_enter func41,ntmps41
  go_wp2
  go_ret;exact⟨none,0,rfl,ek _ _,Below.refl _ _⟩
 ·have bH:Below w.heap.size w (w.alloc (.cells #[] 59)):=zb.alloc zl _;have aJ:(w.alloc (.cells #[] 59)).ownsRow w.heap.size 59 6 (.slice (some ⟨w.heap.size,0,none⟩) 0 0) 0 (([]:List (Value×En)).flatMap dE):=pN _ [] 0 rfl zz;have yS:=hr.below bH;go_enter func41,ntmps41;go_wp2_with (first
    | (at_builtin;refine oD rfl (.tmp 5) (.tmp 6) rfl w.heap.size rfl aJ rfl yS jp (by omega) bH.size ?_;intro A3 c3 w3 bS ip cv J2;clear ip J2)
    | fail)
  go_ret;simp only[Nat.zero_add,List.nil_append]at bS;exact⟨A3,c3,rfl,bS,bH.trans cv⟩
end
theorem yp:∀w,(zeroValue 59).run prog w=.ok (.agg #[.int .i64 0,.int .i64 0,.int .i64 0,.int .i64 0,.int .i64 0,.slice none 0 0]) w:=fun _=>rfl
theorem C4(m:Nat):(Builtin.zeroCells (Value.agg #[.int .i64 0,.int .i64 0,.int .i64 0,.int .i64 0,.int .i64 0,.slice none 0 0]).cells m).toList.length=m*6:=by
 simp[Builtin.zeroCells,Value.cells]
theorem C5(m:Nat):∀u∈(Builtin.zeroCells (Value.agg #[.int .i64 0,.int .i64 0,.int .i64 0,.int .i64 0,.int .i64 0,.slice none 0 0]).cells m).toList,u.oneCell'=true:=fun u hu=>by
 obtain⟨i,hi,e⟩:=List.getElem_of_mem hu;rw[<-e];have h3:i%6=0\/i%6=1\/i%6=2\/i%6=3\/i%6=4\/i%6=5:=by omega
 rcases h3 with h3|h3|h3|h3|h3|h3 <;> simp[Builtin.zeroCells,Value.cells,h3] <;> rfl
def IT(w:World)(q i:Nat)(z:Value×En):World:=(((((w.setCell ⟨q,i*6,none⟩ (.int .i64 z.2.idx)).setCell ⟨q,i*6+1,none⟩ (.int .i64 z.2.term)).setCell ⟨q,i*6+2,none⟩ (.int .i64 z.2.op)).setCell ⟨q,i*6+3,none⟩ (.int .i64 z.2.sess)).setCell ⟨q,i*6+4,none⟩ (.int .i64 z.2.seq)).setCell ⟨q,i*6+5,none⟩ z.1
theorem sJ{z:Value×En}:∀{l:List (Value×En)} {i:Nat},i<l.length->
  ((((((l.flatMap dE).set (i*6) (.int .i64 z.2.idx)).set (i*6+1) (.int .i64 z.2.term)).set (i*6+2) (.int .i64 z.2.op)).set (i*6+3) (.int .i64 z.2.sess)).set (i*6+4) (.int .i64 z.2.seq)).set (i*6+5) z.1=(l.set i z).flatMap dE
 | [],_,h=>by cases h
 | y::l,0,_=>by simp[List.flatMap_cons,dE,vi]
 | y::l,i+1,h=>by
  have ih:=sJ (z:=z) (l:=l) (i:=i) (by simpa using h);rw[List.flatMap_cons,List.set_cons_succ,List.flatMap_cons,<-ih];have e:∀(u:Value) (m:List Value) (j:Nat),(dE y++m).set ((i+1)*6+j) u=dE y++m.set (i*6+j) u:=fun u m j=>by
   rw[List.set_append_right _ _ (by rw[gR];omega),gR];congr 2;omega
  have e0:∀(u:Value) (m:List Value),(dE y++m).set ((i+1)*6) u=dE y++m.set (i*6) u:=fun u m=>e u m 0
  rw[e0,e,e,e,e,e]
theorem Ck{w:World}{B n c q i:Nat}{W:List (Value×En)}(z:Value×En)(h:w.ownsRow B 59 6 (.slice (some ⟨q,0,none⟩) n c) n (W.flatMap dE))(hi:i<W.length) :
  (IT w q i z).ownsRow B 59 6 (.slice (some ⟨q,0,none⟩) n c) n ((W.set i z).flatMap dE):=by
 have s:=(((((h.stored (i*6) (.int .i64 z.2.idx)).1.stored (i*6+1) (.int .i64 z.2.term)).1.stored (i*6+2) (.int .i64 z.2.op)).1.stored (i*6+3) (.int .i64 z.2.sess)).1.stored (i*6+4) (.int .i64 z.2.seq)).1.stored (i*6+5) z.1;have s:=s.1;rw[sJ hi]at s;exact s
theorem vI{w w0:World}{B q i:Nat}(z:Value×En)(h:Below B w0 w)(hq:B<=q):Below B w0 (IT w q i z):=
 (((((h.setCell hq _).setCell hq _).setCell hq _).setCell hq _).setCell hq _).setCell hq _
theorem kR{w0:World}{B q:Nat}(hq:B<=q):∀(vs:List Value) (o:Nat) (w:World),Below B w0 w->Below B w0 (w.setCells q o vs)
 | [],_,_,h=>h
 | v::r,o,w,h=>kR hq r (o+1) _ (h.setCell hq _)
section
variable {w:World}{S:Nat->Prop}
theorem vP(k:Int)(B p n c:Nat)(A:Option Addr)(zs:List (Value×En))(aJ:w.ownsRow B 59 6 (.slice A n c) n (zs.flatMap dE))(hB:B<=w.heap.size)(hd:bA S w zs)(hS:∀j,S j->j<B)(hp:p<B)(hk:w.cell? ⟨p,2,none⟩=some (.int .i64 k))(hn:n<=1200000000000) :
  Calls prog 40 #[.slice A n c,.func (.func 42) #[] #[.pointer (some ⟨p,0,none⟩)]] w fun e w'=>∃A' c',e=.returned (.slice A' (ey k zs).length c')/\im w' A' (ey k zs).length (ey k zs)/\(ey k zs).length<=c'/\c'<=maxLen/\(∀j,aR A' j->B<=j)/\Below B w w':=by
 have rP:=yZ k p n c A zs (cj.of_own aJ) hd hk hn;have yO:zs.length=n:=im.len (cj.of_own aJ);have NM:=vS k zs 0;have pI:=aZ aJ;have Lm:∀j,aR A j->B<=j:=fun j hj=>(aI aJ A c rfl j hj).2.1
 rcases NM with⟨s1,s2⟩|⟨i,x,s1,s2,s3,s4⟩
 ·rw[show((0:Nat):Int)=0 from rfl]at s1;rw[s1]at rP;rw[s2,yO];go_enter func40,ntmps40;go_wp2_with fail;refine rP.mono ?_;rintro e w5 ⟨rfl,dp⟩;have ES:im w5 A n zs:=im.below (cj.of_own aJ) dp;have Jj:=dp.mono hB;clear rP;go_wp2_with fail;go_ret;exact⟨A,c,rfl,ES,pI.1,pI.2,Lm,Jj⟩
 ·have ue:=(List.getElem?_eq_some_iff.1 s2).1;rw[yO]at ue;obtain⟨q,c0,hv,Lk,_⟩:=aJ.form (by omega);injection hv with a1 a2 a3;subst a1;subst a3;rw[show((0:Nat):Int)=0 from rfl,Nat.zero_add]at s1;rw[s1]at rP;go_enter func40,ntmps40;go_wp2_with fail;refine rP.mono ?_;rintro e w5 ⟨rfl,dp⟩;clear rP;have pF:vw zs k n (i+1) i zs:=⟨yO,ue,Nat.lt_succ_self _,by rw[s4,List.length_take];omega,s4.symm,rfl⟩;have cX:=bF aJ dp;have Mc:=dp.mono hB;clear aJ;go_wp2_with fail
  go_loopw [5,6] (fun si sj wr=>∃(j i:Nat) (W:List (Value×En)),si=.int .i64 i/\sj=.int .i64 j/\vw zs k n j i W/\wr.ownsRow B 59 6 (.slice (some ⟨q,0,none⟩) n c) n (W.flatMap dE)/\Below B w wr) (fun _ sj _=>n-(intOf sj).toNat)
  case atStart=>exact⟨i+1,i,zs,rfl,by go_num,pF,cX,Mc⟩
  case round=>
   clear pF cX Mc dp s1 s2 s3 s4 ue;obtain⟨j,i',W,rfl,rfl,pF,lh,KU⟩:=hrel;have W5:=pF.jn;have Ex:=pF.ij;have Jd:=pF.len;by_cases bh:j<n
   ·obtain⟨z,hz⟩:∃z,zs[j]?=some z:=⟨_,List.getElem?_eq_getElem (by omega)⟩;have Qc:W[j]?=some z:=by
     have e:=congrArg (fun l=>l[0]?) pF.dr;simp only[List.getElem?_drop,Nat.add_zero]at e;rw[e,hz]
    obtain⟨vf,x⟩:=z;obtain⟨D,m,d,hv,_⟩:=(hd _ (List.mem_of_getElem? hz)).form;obtain rfl:vf=_:=hv;have MF:(W.flatMap dE).length=n*6:=lh.1;have key:∀s u,s<6->(dE (.slice D m d,x))[s]?=some u->wr.cell? ⟨q,j*6+s,none⟩=some u:=fun s u hs hu=>(lh.cellAt _ (by omega)).trans ((cB (f:=dE) (k:=6) (fun _=>rfl) hs Qc).trans hu)
    have m0:=key 0 _ (by omega) rfl;have m1:=key 1 _ (by omega) rfl;have m2:=key 2 _ (by omega) rfl;have m3:=key 3 _ (by omega) rfl;have m4:=key 4 _ (by omega) rfl;have m5:=key 5 _ (by omega) rfl;simp only[vi,Nat.add_zero]at m0 m1 m2 m3 m4 m5;have aU:Below wr.heap.size wr (wr.alloc (.cells #[.int .i64 x.idx,.int .i64 x.term,.int .i64 x.op,.int .i64 x.sess,.int .i64 x.seq,.slice D m d] 59)):=zb.alloc zl _;have eu:=ay.new wr 59 #[.int .i64 x.idx,.int .i64 x.term,.int .i64 x.op,.int .i64 x.sess,.int .i64 x.seq,.slice D m d];obtain⟨wA,Hz⟩:=zN (wr.alloc (.cells #[.int .i64 x.idx,.int .i64 x.term,.int .i64 x.op,.int .i64 x.sess,.int .i64 x.seq,.slice D m d] 59));rw[Hz]at aU eu;have ND:p<w.heap.size:=by omega
    have M6:wr.cell? ⟨p,2,none⟩=some (.int .i64 k):=(KU.cell (p:=⟨p,2,none⟩) hp).trans hk;have La:wA.cell? ⟨p,2,none⟩=some (.int .i64 k):=(aU.cell (p:=⟨p,2,none⟩) (by have:=KU.size;show p<_;omega)).trans M6;have hc:=tl x k p m d D La;obtain⟨y0,y1,y2,y3,y4,y5,-⟩:=eu.cs [0,1,2,3,4,5];simp only[Zx]at y0 y1 y2 y3 y4 y5;have VZ:wr.heap.size<wA.heap.size:=eu.lt;have ZD:q<wr.heap.size:=(aI lh _ _ rfl q ⟨_,rfl,rfl⟩).1;have bi:=zH (show n-(j+1)<n-j by omega);replace Hz:=zH Hz;clear key M6 La;go_wp2_with fail;rw[Hz.out];try go_wp2_with fail
    refine hc.mono ?_;rintro e w5 ⟨rfl,dp⟩;clear hc;have NH:=KU.size;have Jl:=aj aU dp zl;have cX:=bF lh Jl;have sh:Below B w w5:=KU.trans (Jl.mono (by omega));have Jm:=eu.kept dp;clear aU dp Jl;by_cases fQ:x.idx<=k
    ·have xL:=pF.skip bh hz fQ;have QG:decide (x.idx<=k)=true:=decide_eq_true fQ;replace cX:=zH cX;go_wp2_with fail;refine⟨?_,by simp[intOf];exact bi.out⟩;repeat apply Exists.intro
     repeat apply Exists.intro
     repeat apply Exists.intro
     repeat apply Exists.intro
     refine⟨?_,rfl⟩;exact⟨j+1,i',W,rfl,by go_num,xL,cX.out,sh⟩
    ·replace fQ:=Int.not_le.1 fQ;have xL:=pF.put bh hz fQ;have QG:decide (x.idx<=k)=false:=decide_eq_false (by omega);have bP:=Ck (i:=i') (.slice D m d,x) cX (by omega);have KV:=vI (i:=i') (.slice D m d,x) sh Lk;have old:∀s,s<6->∃u,w5.cell? ⟨q,i' * 6+s,none⟩=some u:=fun s hs=>by
      refine⟨(W.flatMap dE)[i' * 6+s]'(by rw[MF];omega),?_⟩;rw[cX.cellAt _ (by omega),List.getElem?_eq_getElem]
     obtain⟨o0,n0⟩:=old 0 (by omega);obtain⟨o1,n1⟩:=old 1 (by omega);obtain⟨o2,n2⟩:=old 2 (by omega);obtain⟨o3,n3⟩:=old 3 (by omega);obtain⟨o4,n4⟩:=old 4 (by omega);obtain⟨o5,n5⟩:=old 5 (by omega);have f0:=cX.frozenAt (i' * 6);have f1:=cX.frozenAt (i' * 6+1);have f2:=cX.frozenAt (i' * 6+2);have f3:=cX.frozenAt (i' * 6+3);have f4:=cX.frozenAt (i' * 6+4);have f5:=cX.frozenAt (i' * 6+5);rw[Nat.add_zero]at n0;obtain⟨z0,z1,z2,z3,z4,z5,-⟩:=Jm.cs [0,1,2,3,4,5];simp only[Zx]at z0 z1 z2 z3 z4 z5;replace bP:=zH bP;replace KV:=zH KV;clear old cX lh;go_wp2_with fail;refine⟨?_,by simp[intOf];exact bi.out⟩;repeat apply Exists.intro
     repeat apply Exists.intro
     repeat apply Exists.intro
     repeat apply Exists.intro
     refine⟨?_,rfl⟩;exact⟨j+1,i'+1,W.set i' (.slice D m d,x),by go_num,by go_num,xL,bP.out,KV.out⟩
   ·obtain rfl:n=j:=by omega
    have dw:zs.take n=zs:=by rw[<-yO];exact List.take_length
    have ue:=pF.il;have NR:=pF.tk;rw[dw]at ue NR;have QE:=pI.1;have aQ:∀s,s<n*6->(wr.cell? ⟨q,s,none⟩).isSome=true:=fun s hs=>by
     rw[lh.cellAt s hs,List.getElem?_eq_getElem (by rw[lh.1];exact hs)];rfl
    have ef:=lh.frozenAt;replace ue:=zH ue;replace dw:=zH dw;replace lh:=zH lh;go_wp2_with fail;have WI:c≠i':=by omega
    rw[my wr 27 59 0 _ underlying27 yp (fun u hu=>by simp[Value.cells]at hu;rcases hu with rfl|rfl|rfl|rfl|rfl|rfl <;> rfl) q (i' * 6) (n-i') (c-i') (by omega) (fun s hs=>by
      rw[C4]at hs;exact aQ _ (by omega)) (fun s _=>ef _) (C5 _)]
    have aO:im (wr.setCells q (i' * 6) (Builtin.zeroCells (Value.agg #[.int .i64 0,.int .i64 0,.int .i64 0,.int .i64 0,.int .i64 0,.slice none 0 0]).cells (n-i')).toList) (some ⟨q,0,none⟩) i' (ey k zs):=by
     have h1:=tq lh.out (k:=i') (by omega);have h2:=gM (Builtin.zeroCells (Value.agg #[.int .i64 0,.int .i64 0,.int .i64 0,.int .i64 0,.int .i64 0,.slice none 0 0]).cells (n-i')).toList (i' * 6) wr zl h1;have e:(W.flatMap dE).take (i' * 6)=(ey k zs).flatMap dE:=by rw[<-NR];exact(jB (f:=dE) (k:=6) (fun _=>rfl) W i').symm
     rw[e]at h2;exact cj.of_own h2
    have Ee:=kR (w0:=w) Lk (Builtin.zeroCells (Value.agg #[.int .i64 0,.int .i64 0,.int .i64 0,.int .i64 0,.int .i64 0,.slice none 0 0]).cells (n-i')).toList (i' * 6) wr KU;replace aO:=zH aO;replace Ee:=zH Ee;clear aQ ef KU hd;go_wp2_with fail;go_ret;rw[<-ue.out];exact⟨some ⟨q,0,none⟩,c,rfl,aO.out,by omega,pI.2,Lm,Ee.out⟩
end
theorem qy{lo hi x:Int}(w:World):Calls prog 36 #[.int .i64 x,.int .i64 lo,.int .i64 hi] w fun e w'=>e=.returned (.bool (decide (lo<=x/\x<=hi)))/\w'=w:=mg (by simp) w
theorem td(i t:Int)(A:Option Addr)(n c:Nat)(l:List UInt8)(w:World)(hl:l.length=n):Calls prog 37 #[.agg #[.int .i64 i,.int .i64 t,.slice A n c]] w fun e w'=>e=.returned (.bool (fe ⟨i,t,l⟩))/\Below w.heap.size w w':=by
 have aU:Below w.heap.size w (w.alloc (.cells #[.int .i64 i,.int .i64 t,.slice A n c] 26)):=zb.alloc zl _;have cA:=ay.new w 26 #[.int .i64 i,.int .i64 t,.slice A n c];obtain⟨w1,bM⟩:=zN (w.alloc (.cells #[.int .i64 i,.int .i64 t,.slice A n c] 26));rw[bM]at aU cA;obtain⟨y0,y1,y2,-⟩:=cA.cs [0,1,2];simp only[Zx]at y0 y1 y2;have uW:fe ⟨i,t,l⟩=if i=0/\t=0 then decide ((n:Int)=0)else decide ((1<=i/\i<=1099511627776)/\(1<=t/\t<=1099511627776)/\(1<=(n:Int)/\(n:Int)<=65536)):=by
  unfold fe gU;simp only[hl];by_cases h:i=0/\t=0
  ·rw[if_pos h,if_pos h];simp
  ·rw[if_neg h,if_neg h];congr 1;apply propext;constructor <;> intro h <;> omega
 have kX:∀(x lo hi:Int),Calls prog 36 #[.int .i64 x,.int .i64 lo,.int .i64 hi] w1 fun e w'=>e=.returned (.bool (decide (lo<=x/\x<=hi)))/\w'=w1:=fun x lo hi=>qy w1
 have h1:=kX i 1 1099511627776;have h2:=kX t 1 1099511627776;have h3:=kX (n:Int) 1 65536;replace bM:=zH bM;replace hl:=zH hl;clear kX;by_cases h0:i=0/\t=0
 ·rw[if_pos h0]at uW;obtain⟨rfl,rfl⟩:=h0;replace uW:=zH uW;go_enter func37,ntmps37;go_wp2_with fail;rw[bM.out];try go_wp2_with fail
  go_ret;refine⟨?_,aU⟩;rw[uW.out];congr 2;try simp
 ·rw[if_neg h0]at uW;have fA:(i==0)=false\/((i==0)=true/\(t==0)=false):=by
   by_cases a:i=0
   ·exact .inr ⟨by simp[a],by simp;exact fun e=>h0 ⟨a,e⟩⟩
   ·exact .inl (by simp[a])
  replace uW:=zH uW;by_cases b1:1<=i/\i<=1099511627776
  ·rw[decide_eq_true b1]at h1;by_cases b2:1<=t/\t<=1099511627776
   ·rw[decide_eq_true b2]at h2;by_cases b3:1<=(n:Int)/\(n:Int)<=65536
    ·rw[decide_eq_true b3]at h3;have aO:=zH (show fe ⟨i,t,l⟩=true by rw[uW.out];simp only[b1,b2,b3,and_self,decide_true]);replace b1:=zH b1;replace b2:=zH b2;replace b3:=zH b3;rcases fA with a|⟨a,a'⟩
     all_goals
      go_enter func37,ntmps37;go_wp2_with fail;rw[bM.out];try go_wp2_with fail
      refine h1.mono ?_;rintro e wA ⟨rfl,rfl⟩;go_wp2_with fail;refine h2.mono ?_;rintro e wB ⟨rfl,rfl⟩;go_wp2_with fail;refine h3.mono ?_;rintro e wC ⟨rfl,rfl⟩;go_wp2_with fail;go_ret;exact⟨by rw[aO.out];rfl,aU⟩
    ·rw[decide_eq_false b3]at h3;have aO:=zH (show fe ⟨i,t,l⟩=false by rw[uW.out];simp only[b3,and_false,decide_false]);replace b1:=zH b1;replace b2:=zH b2;replace b3:=zH b3;rcases fA with a|⟨a,a'⟩
     all_goals
      go_enter func37,ntmps37;go_wp2_with fail;rw[bM.out];try go_wp2_with fail
      refine h1.mono ?_;rintro e wA ⟨rfl,rfl⟩;go_wp2_with fail;refine h2.mono ?_;rintro e wB ⟨rfl,rfl⟩;go_wp2_with fail;refine h3.mono ?_;rintro e wC ⟨rfl,rfl⟩;go_wp2_with fail;go_ret;exact⟨by rw[aO.out];rfl,aU⟩
   ·rw[decide_eq_false b2]at h2;have aO:=zH (show fe ⟨i,t,l⟩=false by rw[uW.out];simp only[b2,false_and,and_false,decide_false]);replace b1:=zH b1;replace b2:=zH b2;rcases fA with a|⟨a,a'⟩
    all_goals
     go_enter func37,ntmps37;go_wp2_with fail;rw[bM.out];try go_wp2_with fail
     refine h1.mono ?_;rintro e wA ⟨rfl,rfl⟩;go_wp2_with fail;refine h2.mono ?_;rintro e wB ⟨rfl,rfl⟩;go_wp2_with fail;go_ret;exact⟨by rw[aO.out];rfl,aU⟩
  ·rw[decide_eq_false b1]at h1;have aO:=zH (show fe ⟨i,t,l⟩=false by rw[uW.out];simp only[b1,false_and,decide_false]);replace b1:=zH b1;rcases fA with a|⟨a,a'⟩
   all_goals
    go_enter func37,ntmps37;go_wp2_with fail;rw[bM.out];try go_wp2_with fail
    refine h1.mono ?_;rintro e wA ⟨rfl,rfl⟩;go_wp2_with fail;go_ret;exact⟨by rw[aO.out];rfl,aU⟩
section
open Go.MapKept
def ez(k:Int)(l:List Wt):List Wt:=l.filter fun x=>decide (k<x.round)
def fZ(k:Int)(l:List Wt):List (Int×Int):=(l.filter fun x=>decide (x.round<=k)).map Wt.rd
def Rf.tellAll(R:Rf)(k:Int)(l:List Wt):Rf:={R with out:={R.out with reads:=R.out.reads++fZ k l}}
theorem vT(k:Int)(R:Rf):∀(l:List Wt) (s:Nat),(g7 k l s=-1/\ez k l=l/\fZ k l=[]/\dU R k l=R)\/
  ∃i x,g7 k l s=((s+i:Nat):Int)/\l[i]?=some x/\x.round<=k/\ez k (l.take (i+1))=l.take i/\fZ k (l.take (i+1))=[x.rd]/\dU R k l=R.tellRead x k:=by
 intro l;induction l with
 | nil=>intro s;exact .inl ⟨rfl,rfl,rfl,rfl⟩
 | cons y l ih=>
  intro s;by_cases hy:y.round<=k
  ·refine .inr ⟨0,y,?_,rfl,hy,?_,?_,?_⟩
   ·show(if y.round<=k then(s:Int)else _)=_;rw[if_pos hy];simp
   ·show ez k [y]=[];unfold ez;rw[List.filter_cons,if_neg (by simp;omega)];rfl
   ·show fZ k [y]=[y.rd];unfold fZ;rw[List.filter_cons,if_pos (by simp;exact hy)];rfl
   ·show(if y.round<=k then _ else _)=_;rw[if_pos hy]
  ·have e1:g7 k (y::l) s=g7 k l ((s+1:Nat):Int):=by
    show(if y.round<=k then(s:Int)else g7 k l ((s:Int)+1))=_;rw[if_neg hy];simp
   have e2:dU R k (y::l)=dU R k l:=by
    show(if y.round<=k then _ else _)=_;rw[if_neg hy]
   have hr:∀m:List Wt,ez k (y::m)=y::ez k m:=fun m=>by
    unfold ez;rw[List.filter_cons,if_pos (by simp;omega)]
   have ht:∀m:List Wt,fZ k (y::m)=fZ k m:=fun m=>by
    unfold fZ;rw[List.filter_cons,if_neg (by simp;omega)]
   rw[e1,e2];rcases ih (s+1)with⟨h1,h2,h3,h4⟩|⟨i,x,h1,h2,h3,h4,h5,h6⟩
   ·exact .inl ⟨h1,by rw[hr,h2],by rw[ht,h3],h4⟩
   ·refine .inr ⟨i+1,x,by rw[h1];congr 1;omega,h2,h3,?_,?_,h6⟩
    ·rw[List.take_succ_cons,hr,h4,List.take_succ_cons]
    ·rw[List.take_succ_cons,ht,h5]
theorem qV{k:Int}{l:List Wt}{j:Nat}{x:Wt}(h:l[j]?=some x):ez k (l.take (j+1))=ez k (l.take j)++if k<x.round then[x]else[]:=by
 unfold ez;rw[List.take_add_one,h,List.filter_append];congr 1;by_cases hx:k<x.round
 ·simp[hx]
 ·simp[hx]
theorem rE{k:Int}{l:List Wt}{j:Nat}{x:Wt}(h:l[j]?=some x):fZ k (l.take (j+1))=fZ k (l.take j)++if x.round<=k then[x.rd]else[]:=by
 unfold fZ;rw[List.take_add_one,h,List.filter_append,List.map_append];congr 1;by_cases hx:x.round<=k
 ·simp[hx]
 ·simp[hx]
theorem Cv(k:Int)(l:List Wt):(ez k l).length<=l.length:=List.length_filter_le _ _
def jM(aa:Nat->Nat)(b:Nat)(w:World)(g:Nat)(R':Rf)(v:Rw)(w':World):Prop:=
 ∃(ac:Nat->Nat) (v':Rw),av ac b w' g R' v'/\v'.waits=v.waits/\(∀j,j<w.heap.size->ac j=aa j)/\Fr (fun j=>j=g\/aa j=b+11\/aa j=b+4) w w'
structure oM(R:Rf)(k:Int)(n j i:Nat)(W:List Wt):Prop where
 len:W.length=n
 jn:j<=n
 ij:i<j
 il:i=(ez k (R.waits.take j)).length
 tk:W.take i=ez k (R.waits.take j)
 dr:W.drop j=R.waits.drop j
def kU(R:Rf)(k:Int)(j:Nat)(W:List Wt):Rf:={R with waits:=W,out:={R.out with reads:=R.out.reads++fZ k (R.waits.take j)}}
section
variable {aa:Nat->Nat}{b g:Nat}{w w1 w2:World}{R R1 R2:Rf}{v:Rw}
theorem jM.blk{T:TypeId}{cs:Array Value}{p:Nat}(h:jM aa b w g R2 v w1)(hg:p≠g)(hl:aa p≠b+11)(px:aa p≠b+4)(hk:ay w p T cs):ay w1 p T cs:=by
 obtain⟨bK,v2,q1,q2,q3,q4⟩:=h;exact(q4.block p hk.lt fun hh=>by rcases hh with hh|hh|hh;exact hg hh;exact hl hh;exact px hh).trans hk
theorem oM.skip{k:Int}{n j i:Nat}{W:List Wt}{x:Wt}(h:oM R k n j i W)(hj:j<n)(hx:R.waits[j]?=some x)(hr:x.round<=k):oM R k n (j+1) i W:=by
 have e:=qV (k:=k) hx;rw[if_neg (by omega),List.append_nil]at e;refine⟨h.len,hj,by have:=h.ij;omega,by rw[e];exact h.il,by rw[e];exact h.tk,?_⟩;have:=congrArg (List.drop 1) h.dr;rw[List.drop_drop,List.drop_drop]at this;exact this
theorem oM.put{k:Int}{n j i:Nat}{W:List Wt}{x:Wt}(h:oM R k n j i W)(hj:j<n)(hx:R.waits[j]?=some x)(hr:k<x.round):oM R k n (j+1) (i+1) (W.set i x):=by
 have e:=qV (k:=k) hx;rw[if_pos hr]at e;have Ex:=h.ij;have hl:=h.len;refine⟨by rw[List.length_set];exact hl,hj,by omega,by rw[e,List.length_append,<-h.il];rfl,?_,?_⟩
 ·rw[e,<-h.tk,List.take_set,List.take_add_one,List.getElem?_eq_getElem (by omega)];have ab:(W.take i).length=i:=by rw[List.length_take];omega
  rw[List.set_append_right _ _ (by omega),ab,Nat.sub_self];rfl
 ·rw[List.drop_set_of_lt (by omega)];have:=congrArg (List.drop 1) h.dr;rw[List.drop_drop,List.drop_drop]at this;exact this
end
end
section
open Go.MapKept
theorem CY:∀w,(zeroValue 167).run prog w=.ok (.agg #[.int .i64 0,.int .i64 0,.int .i64 0]) w:=fun _=>rfl
theorem C7(m:Nat):(Builtin.zeroCells (Value.agg #[.int .i64 0,.int .i64 0,.int .i64 0]).cells m).toList.length=m*3:=by
 simp[Builtin.zeroCells,Value.cells]
theorem C8(m:Nat):∀u∈(Builtin.zeroCells (Value.agg #[.int .i64 0,.int .i64 0,.int .i64 0]).cells m).toList,u.oneCell'=true:=fun u hu=>by
 obtain⟨i,hi,e⟩:=List.getElem_of_mem hu;rw[<-e];have h3:i%3=0\/i%3=1\/i%3=2:=by omega
 rcases h3 with h3|h3|h3 <;> simp[Builtin.zeroCells,Value.cells,h3] <;> rfl
def tJ(aa:Nat->Nat)(b:Nat)(w:World)(g:Nat)(R:Rf)(k:Int)(v:Rw)(A:Option Addr)(c:Nat)(e:Ending)(w':World):Prop:=
 ∃(W:List Wt) (w'':World) (c':Nat),e=.returned (.slice A (ez k R.waits).length c')/\jM aa b w g {R with waits:=W,out:={R.out with reads:=R.out.reads++fZ k R.waits}} v w''/\W.length=R.waits.length/\W.take (ez k R.waits).length=ez k R.waits/\c'=c/\
  (w'=w''\/∃q zs o,A=some ⟨q,0,none⟩/\(ez k R.waits).length*3<=o/\w'=w''.setCells q o zs)
section
variable {aa:Nat->Nat}{b g:Nat}{w:World}{R:Rf}{v:Rw}
theorem tO(k:Int)(p1 p2 n c:Nat)(A:Option Addr)(h:av aa b w g R v)(cw:ay w p1 32 #[.pointer (some ⟨g,0,none⟩)])(iq:ay w p2 3 #[.int .i64 k])(dm:aa p1=b)(fB:aa p2=b)(kj:R.out.reads.length<=8000000000)
  (hv:v.waits=.slice A n c) (hn:n=R.waits.length) (Hq:n<=1000) :
  Calls prog 113 #[.slice A n c,.func (.func 114) #[] #[.pointer (some ⟨p2,0,none⟩),.pointer (some ⟨p1,0,none⟩)]] w fun e w'=>tJ aa b w g R k v A c e w':=by
 have bV:=h.s.lt;have JY:p1≠g:=fun e=>by have:=h.sl;rw[<-e,dm]at this;omega
 have J0:p2≠g:=fun e=>by have:=h.sl;rw[<-e,fB]at this;omega
 have rP:=wK k p1 p2 n c A h cw iq dm fB (by omega) hv hn Hq;have NM:=vT k R R.waits 0;have Aw:=h.q;rw[hv,<-hn]at Aw;replace hn:=zH hn;rcases NM with⟨s1,s2,s3,s4⟩|⟨i,x,s1,s2,s3,s4,s5,s6⟩
 ·rw[show((0:Nat):Int)=0 from rfl]at s1;rw[s1,s4]at rP;clear h Aw;go_enter func113,ntmps113;go_wp2_with fail;refine rP.mono ?_;rintro e w5 ⟨rfl,ar,v1,q1,q2,q3,q4⟩;have hD:tJ aa b w g R k v A c (.returned (.slice A n c)) w5:=by
   refine⟨R.waits,w5,c,by rw[s2,<-hn.out],⟨ar,v1,?_,q2,q3,q4.mono fun j hj=>hj.elim .inl fun e=>.inr (.inl e)⟩,rfl,by rw[s2,List.take_length],rfl,.inl rfl⟩;rw[s3,List.append_nil];exact q1
  replace hD:=zH hD;clear rP q1 q4;go_wp2_with fail;go_ret;exact hD.out
 ·have ue:=(List.getElem?_eq_some_iff.1 s2).1;rw[<-hn.out]at ue;obtain⟨q,cq,VY,so,aJ,qr⟩:∃q cq,Value.slice A n c=.slice (some ⟨q,0,none⟩) n cq/\aa q=b+4/\q<w.heap.size/\True:=by
   obtain⟨q,cq,e,_,h2,h3,_⟩:=Aw.at_ (by omega);exact⟨q,cq,e,h2,h3,trivial⟩
  injection VY with a1 a2 a3;subst a1;subst a3;rw[show((0:Nat):Int)=0 from rfl,Nat.zero_add]at s1;rw[s1,s6]at rP;clear h Aw;go_enter func113,ntmps113;go_wp2_with fail;refine rP.mono ?_;rintro e w5 ⟨rfl,To⟩;clear rP;have LW:R.tellRead x k=kU R k (i+1) R.waits:=by
   unfold Rf.tellRead kU;rw[if_pos s3,s5]
  have pF:oM R k n (i+1) i R.waits:=⟨hn.out.symm,ue,Nat.lt_succ_self _,by rw[s4,List.length_take];have:=hn.out;omega,s4.symm,rfl⟩;have Tn:jM aa b w g (kU R k (i+1) R.waits) v w5:=by
   obtain⟨ar,v1,q1,q2,q3,q4⟩:=To;rw[LW]at q1;exact⟨ar,v1,q1,q2,q3,q4.mono fun j hj=>hj.elim .inl fun e=>.inr (.inl e)⟩
  clear To LW;go_wp2_with fail
  go_loopw [5,6] (fun si sj wr=>∃(j i:Nat) (W:List Wt),si=.int .i64 i/\sj=.int .i64 j/\oM R k n j i W/\jM aa b w g (kU R k j W) v wr) (fun _ sj _=>n-(intOf sj).toNat)
  case atStart=>exact⟨i+1,i,R.waits,rfl,by go_num,pF,Tn⟩
  case round=>
   clear pF Tn s1 s2 s3 s4 s5 s6 ue;obtain⟨j,i',W,rfl,rfl,pF,hQ⟩:=hrel;have W5:=pF.jn;have Ex:=pF.ij;by_cases bh:j<n
   ·obtain⟨x,hx⟩:∃x,R.waits[j]?=some x:=⟨_,List.getElem?_eq_getElem (by rw[<-hn.out];exact bh)⟩;have Qc:W[j]?=some x:=by
     have e:=congrArg (fun l=>l[0]?) pF.dr;simp only[List.getElem?_drop,Nat.add_zero]at e;rw[e,hx]
    obtain⟨ar,v1,q1,q2,q3,q4⟩:=id hQ;have Jd:=pF.len;obtain⟨q',c',AH,Ao,Rn,yR,aQ,ef⟩:=q1.q.at_ (by show 0<W.length;omega);rw[q2,hv]at AH;injection AH with a1 a2 a3;injection a1 with a1;injection a1 with a1;subst a1;subst a3;clear a2;have key:∀s u,s<3->(mA x)[s]?=some u->wr.cell? ⟨q,j*3+s,none⟩=some u:=fun s u hs hu=>aQ _ _ ((cB (f:=mA) (k:=3) (fun _=>rfl) hs Qc).trans hu)
    have m0:=key 0 _ (by omega) rfl;have m1:=key 1 _ (by omega) rfl;have m2:=key 2 _ (by omega) rfl;simp only[vi,Nat.add_zero]at m0 m1 m2;have aU:Below wr.heap.size wr (wr.alloc (.cells #[.int .i64 x.ctx,.int .i64 x.idx,.int .i64 x.round] 167)):=zb.alloc zl _;have eu:=ay.new wr 167 #[.int .i64 x.ctx,.int .i64 x.idx,.int .i64 x.round];obtain⟨wA,Hz⟩:=zN (wr.alloc (.cells #[.int .i64 x.ctx,.int .i64 x.idx,.int .i64 x.round] 167));rw[Hz]at aU eu;have JZ:=hQ.blk JY (by omega) (by omega) cw;have J1:=hQ.blk J0 (by omega) (by omega) iq;have hc:=oZ x k p1 p2 (q1.fresh aU) (JZ.kept aU) (J1.kept aU) ((ae JZ.lt).trans ((q3 p1 cw.lt).trans dm)) ((ae J1.lt).trans ((q3 p2 iq.lt).trans fB)) (by show(R.out.reads++fZ k (R.waits.take j)).length<=_;have e:(fZ k (R.waits.take j)).length<=(R.waits.take j).length:=by {unfold fZ;rw[List.length_map];exact List.length_filter_le _ _};rw[List.length_append];rw[List.length_take]at e;omega);obtain⟨y0,y1,y2,-⟩:=eu.cs [0,1,2];simp only[Zx]at y0 y1 y2;have VZ:wr.heap.size<wA.heap.size:=eu.lt;have BJ:g<wr.heap.size:=q1.s.lt;have bi:=zH (show n-(j+1)<n-j by omega);have QF:(kU R k j W).tellRead x k=if x.round<=k then kU R k (j+1) W else kU R k j W:=by
     unfold Rf.tellRead;by_cases hh:x.round<=k
     ·rw[if_pos hh,if_pos hh];unfold kU;rw[rE hx,if_pos hh,List.append_assoc]
     ·rw[if_neg hh,if_neg hh]
    have eX:∀w5 R5,gC (relab ar wr.heap.size b) b wA g R5 v1 w5->∃dz v5,av dz b w5 g R5 v5/\v5.waits=v.waits/\(∀j,j<w.heap.size->dz j=aa j)/\Fr (fun j=>j=g\/aa j=b+11\/aa j=b+4) w w5/\ay w5 wr.heap.size 167 #[.int .i64 x.ctx,.int .i64 x.idx,.int .i64 x.round]:=fun w5 R5 hP=>by
     have Jm:=hP.blk (by omega) (by rw[aA zl];omega) eu;obtain⟨dz,v5,t1,t2,t3,t4⟩:=hP;have ZE:=aU.size;have J6:=q4.size;refine⟨dz,v5,t1,t2.trans q2,fun j hj=>(t3 j (by omega)).trans ((ae (by omega)).trans (q3 j hj)),(q4.trans (Fr.of_below (X:=fun j=>j=g\/ar j=b+11\/ar j=b+4) aU) fun j hj=>?_).trans t4 fun j hj=>?_,Jm⟩
     ·rcases Nat.lt_or_ge j w.heap.size with hl|hl
      ·rw[q3 j hl]at hj;exact .inl hj
      ·exact .inr hl
     ·rcases Nat.lt_or_ge j w.heap.size with hl|hl
      ·rw[ae (by omega),q3 j hl]at hj;exact .inl (hj.elim .inl fun e=>.inr (.inl e))
      ·exact .inr hl
    replace Hz:=zH Hz;replace eX:=zH eX;clear key aQ JZ J1 ef q1 hQ;go_wp2_with fail;rw[Hz.out];try go_wp2_with fail
    refine hc.mono ?_;rintro e w5 ⟨rfl,pq⟩;rw[QF]at pq;clear hc;by_cases fQ:x.round<=k
    ·rw[if_pos fQ]at pq;obtain⟨dz,v5,t1,t2,t3,t4,t5⟩:=eX.out _ _ pq;have xL:=pF.skip bh hx fQ;have hd:decide (x.round<=k)=true:=decide_eq_true fQ;have KP:jM aa b w g (kU R k (j+1) W) v w5:=⟨dz,v5,t1,t2,t3,t4⟩;clear t1 t4 t5 pq QF;go_wp2_with fail;refine⟨?_,by simp[intOf];exact bi.out⟩;repeat apply Exists.intro
     repeat apply Exists.intro
     repeat apply Exists.intro
     repeat apply Exists.intro
     refine⟨?_,rfl⟩;exact⟨j+1,i',W,rfl,by go_num,xL,KP⟩
    ·rw[if_neg fQ]at pq;obtain⟨dz,v5,t1,t2,t3,t4,t5⟩:=eX.out _ _ pq;replace fQ:=Int.not_le.1 fQ;have xL:=pF.put bh hx fQ;have hd:decide (x.round<=k)=false:=decide_eq_false (by omega);have W0:i'<(kU R k j W).waits.length:=by show i'<W.length;omega
     obtain⟨u1,u2,u3⟩:=t1.setWait x W0 (t2.trans hv) (by show n=W.length;omega);have KP:jM aa b w g (kU R k j (W.set i' x)) v (xr w5 q i' x):=by
      refine⟨dz,v5,u1,t2,t3,t4.trans u2 fun j hj=>?_⟩;rcases Nat.lt_or_ge j w.heap.size with hl|hl
      ·rw[hj]at hl ⊢;rw[t3 q hl]at u3;exact .inl (.inr (.inr u3))
      ·exact .inr hl
     have WN:kU R k j (W.set i' x)=kU R k (j+1) (W.set i' x):=by
      unfold kU;rw[rE hx,if_neg (by omega),List.append_nil]
     rw[WN]at KP;obtain⟨q5,c5,cP,_,_,XK,Eh,G8⟩:=t1.q.at_ (by omega);rw[t2,hv]at cP;injection cP with b1 b2 b3;injection b1 with b1;injection b1 with b1;subst b1;clear b2 b3;obtain⟨y',Yc⟩:∃y',W[i']?=some y':=⟨_,List.getElem?_eq_getElem (by omega)⟩;have key5:∀s u,s<3->(mA y')[s]?=some u->w5.cell? ⟨q,i' * 3+s,none⟩=some u:=fun s u hs hu=>Eh _ _ ((cB (f:=mA) (k:=3) (fun _=>rfl) hs Yc).trans hu)
     have n0:=key5 0 _ (by omega) rfl;have n1:=key5 1 _ (by omega) rfl;have n2:=key5 2 _ (by omega) rfl;simp only[vi,Nat.add_zero]at n0 n1 n2;have f0:=G8 (i' * 3);have f1:=G8 (i' * 3+1);have f2:=G8 (i' * 3+2);obtain⟨z0,z1,z2,-⟩:=t5.cs [0,1,2];simp only[Zx]at z0 z1 z2;replace KP:=zH KP;clear t1 t4 t5 pq QF u1 u2 key5 Eh G8;go_wp2_with fail;refine⟨?_,by simp[intOf];exact bi.out⟩;repeat apply Exists.intro
     repeat apply Exists.intro
     repeat apply Exists.intro
     repeat apply Exists.intro
     refine⟨?_,rfl⟩;exact⟨j+1,i'+1,W.set i' x,by go_num,by go_num,xL,KP.out⟩
   ·obtain rfl:n=j:=by omega
    have dw:R.waits.take n=R.waits:=by rw[hn.out];exact List.take_length
    have ue:=pF.il;have NR:=pF.tk;have Jd:=pF.len;rw[dw]at ue NR;obtain⟨ar,v1,q1,q2,q3,q4⟩:=id hQ;obtain⟨q',c',AH,Ao,Rn,yR,aQ,ef⟩:=q1.q.at_ (by show 0<W.length;omega);rw[q2,hv]at AH;injection AH with a1 a2 a3;injection a1 with a1;injection a1 with a1;subst a1;subst a3;clear a2;have QE:n<=c:=by have e:(kU R k n W).waits.length=n:=Jd;rw[e]at Ao;exact Ao
    replace ue:=zH ue;replace dw:=zH dw;clear q1;go_wp2_with fail;have WI:c≠i':=by omega
    have MF:(W.flatMap mA).length=W.length*3:=eG (f:=mA) (k:=3) (fun _=>rfl) W;rw[my wr 98 167 0 _ underlying98 CY (fun u hu=>by simp[Value.cells]at hu;rcases hu with rfl|rfl|rfl <;> rfl) q (i' * 3) (n-i') (c-i') (by omega) (fun s hs=>by
      rw[C7]at hs;have bh:i' * 3+s<(W.flatMap mA).length:=by rw[MF,Jd];omega
      rw[aQ (i' * 3+s) _ (List.getElem?_eq_getElem bh)];rfl) (fun s _=>ef _) (C8 _)]
    have hD:tJ aa b w g R k v (some ⟨q,0,none⟩) c (.returned (.slice (some ⟨q,0,none⟩) i' c)) (wr.setCells q (i' * 3) (Builtin.zeroCells (Value.agg #[.int .i64 0,.int .i64 0,.int .i64 0]).cells (n-i')).toList):=by
     refine⟨W,wr,c,by rw[<-ue.out],?_,by rw[Jd,hn.out],by rw[<-ue.out];exact NR,rfl,.inr ⟨q,_,_,rfl,by rw[<-ue.out];exact Nat.le_refl _,rfl⟩⟩;have e:kU R k n W={R with waits:=W,out:={R.out with reads:=R.out.reads++fZ k R.waits}}:=by unfold kU;rw[dw.out]
     rw[e]at hQ;exact hQ
    replace hD:=zH hD;clear hQ aQ;go_wp2_with fail;go_ret;exact hD.out
end
end
section
open Go.MapKept
theorem qd:∀(W:List Wt) (m:Nat),(W.flatMap mA).take (m*3)=(W.take m).flatMap mA
 | _,0=>by simp
 | [],m+1=>by simp
 | x::W,m+1=>by
  rw[List.flatMap_cons,List.take_succ_cons,List.flatMap_cons,<-qd W m,show(m+1)*3=3+m*3 by omega,List.take_append];rw[List.take_of_length_le (show(mA x).length<=3+m*3 by show 3<=_;omega)];congr 2;show 3+m*3-3=m*3;omega
def Ai(p1 p2:Addr)(u1 u2:Value):Type:={W:World // W.cell? p1=some u1/\W.cell? p2=some u2}
def DG(p1 p2:Addr)(u1 u2:Value):World->Prop:=fun W=>∃x:Ai p1 p2 u1 u2,W=x.1
attribute [go_sem] DG
theorem pY{p1 p2:Addr}{u1 u2:Value}{W:World}(h1:W.cell? p1=some u1)(h2:W.cell? p2=some u2):DG p1 p2 u1 u2 W:=⟨⟨W,h1,h2⟩,rfl⟩
section
variable {aa:Nat->Nat}{b g:Nat}{w:World}{R:Rf}{v:Rw}
theorem FI(R:Rf):R.reads={R with waits:=ez R.readsTo R.waits,out:={R.out with reads:=R.out.reads++fZ R.readsTo R.waits}}:=rfl
theorem tw{K M:Nat}(h:av aa b w g R v)(hk:Ok K M R)(hr:R.role=3)(hM:M<=8000000000) :
  Calls prog 61 #[.pointer (some ⟨g,0,none⟩)] w fun e w'=>e=.returned (.tuple #[])/\aq aa b w g R.reads w':=by
 have bV:=h.s.lt;have jw:=(hk.ld hr).1;have gg:=hk.id.2.2;have aU:Below w.heap.size w (w.alloc (.cells #[.pointer (some ⟨g,0,none⟩)] 32)):=zb.alloc zl _;have cA:=ay.new w 32 #[.pointer (some ⟨g,0,none⟩)];obtain⟨w1,bM⟩:=zN (w.alloc (.cells #[.pointer (some ⟨g,0,none⟩)] 32));rw[bM]at aU cA;have h1:=h.below aU;have y0:=cA.cell 0;simp only[Zx]at y0;obtain⟨c1,c5,-⟩:=h1.s.cs [1,5];simp only[bt,vi,Zx]at c1 c5;have g4:g<w1.heap.size:=h1.s.lt;obtain⟨k0,k1,k5⟩:=C3 [g,w.heap.size] y0 c1 c5;have bY:∀q∈[g,w.heap.size],q<w1.heap.size:=by simp;exact⟨g4,cA.lt⟩
 obtain⟨kk,Df⟩:=zN (R.readsTo);have BM:=zH (show ∀W,Below w1.heap.size w1 W->_ from fun W hb=>qI R.round (h1.below hb) jw gg);replace bM:=zH bM;have hH:=zH h;clear h;go_enter func61,ntmps61;go_wp2_with fail;rw[bM.out]
 go_cut [2] (fun s2 wr=>∃p2:Nat,s2=.pointer (some ⟨p2,0,none⟩)/\Below w.heap.size w wr/\ay wr w.heap.size 32 #[.pointer (some ⟨g,0,none⟩)]/\ay wr p2 3 #[.int .i64 kk]/\w.heap.size<p2)
 case first=>
  refine SP [g,w.heap.size] w1 (.two [0,1,2,3,4,5,6,7,8,9] 10 12 (.two [] 11 12 (.one [] 12 (.one [] 13 (.last []))) (.one [] 11 (.one [] 13 (.last [])))) (.one [] 10 (.one [] 11 (.one [] 13 (.last []))))) ?_;have eC:w.heap.size<w1.heap.size:=cA.lt;refine ke fun K1 K2 cF jl=>?_
  simp only[af,Zx];repeat go_big_quiet_step(fail)
  apply wpQuiet_nil;constructor
  ·go_wp2_with fail;refine(BM.out _ (zb.drew)).mono ?_;rintro e w2 ⟨A2,c2,rfl,eJ,bU⟩;go_wp2_with fail;have cI:Below w1.heap.size w1 w2:=(zb.drew).trans bU;refine⟨aw bY cI,cF _ _ ?_⟩;have ki:=jP (R.n:Int) A2 R.n c2 _ w2 (jK.of_own eJ);rw[show dC R.n (R.matchL R.round Pr.round)=kk from Df]at ki;refine ke fun K3 K4 jS tW=>?_
   simp only[af,Zx];repeat go_big_quiet_step(fail)
   apply wpQuiet_nil;constructor
   ·go_wp2_with fail;refine ki.mono ?_;rintro e w3 ⟨rfl,cv⟩;clear ki;go_wp2_with fail;have kw:=aj cI cv zl;refine⟨aw bY kw,jS _ _ ?_⟩;refine bZ fun K5 Bu=>?_
    simp only[af,Zx];apply wpQuiet_nil;go_wp2_with fail;have np:Below w3.heap.size w3 (w3.alloc (.cells #[.int .i64 0] 3)):=zb.alloc zl _;have iH:=aj kw np zl;have MY:=ay.new w3 3 #[.int .i64 0];have iY:=kw.size;refine⟨aw bY iH,Bu _ _ ?_⟩;generalize gi:w3.alloc (.cells #[.int .i64 0] 3)=w4 at *;have mu:ay w4 (w3.heap.size) 3 #[.int .i64 0]:=MY;have eI:Below w.heap.size w w4:=aj aU iH zl;have ky:=cA.kept iH;have z0:=mu.cell 0;simp only[Zx]at z0;have f0:=mu.free 0;have NB:=mu.lt;refine bZ fun K6 Bv=>?_
    simp only[af,Zx];apply wpQuiet_nil;go_wp2_with fail;refine⟨gH (aw bY iH) (fun q hq=>by have:=bY q hq;omega) (fun q hq=>Nat.lt_of_lt_of_le (bY q hq) iH.size),Bv _ _ ?_⟩;refine eN ?_;simp only[af];apply wpQuiet_nil;go_wp2_with fail
    go_meet
    exact⟨_,rfl,eI.setCell (by dsimp only;omega) _,((Fr.set (w3.heap.size) 0 _).block w.heap.size ky.lt (by omega)).trans ky,by simpa using mu.set_ 0 (.int .i64 kk),by omega⟩
   ·go_wp2_with fail;have np:Below w2.heap.size w2 (w2.alloc (.cells #[.int .i64 0] 3)):=zb.alloc zl _;have kw:=aj cI np zl;have MY:=ay.new w2 3 #[.int .i64 0];have iY:=cI.size;refine⟨aw bY kw,tW _ _ ?_⟩;have ki:=jP (R.n:Int) A2 R.n c2 _ (w2.alloc (.cells #[.int .i64 0] 3)) (jK.of_own (bF eJ np));rw[show dC R.n (R.matchL R.round Pr.round)=kk from Df]at ki;generalize fX:w2.alloc (.cells #[.int .i64 0] 3)=w3 at *;refine bZ fun K5 Bu=>?_
    simp only[af,Zx];apply wpQuiet_nil;go_wp2_with fail;refine ki.mono ?_;rintro e w4 ⟨rfl,dV⟩;clear ki;go_wp2_with fail;have iH:=aj kw dV zl;have JL:=MY.kept dV;refine⟨aw bY iH,Bu _ _ ?_⟩;have mu:ay w4 (w2.heap.size) 3 #[.int .i64 0]:=JL;have eI:Below w.heap.size w w4:=aj aU iH zl;have ky:=cA.kept iH;have z0:=mu.cell 0;simp only[Zx]at z0;have f0:=mu.free 0;have NB:=mu.lt;refine bZ fun K6 Bv=>?_
    simp only[af,Zx];apply wpQuiet_nil;go_wp2_with fail;refine⟨gH (aw bY iH) (fun q hq=>by have:=bY q hq;omega) (fun q hq=>Nat.lt_of_lt_of_le (bY q hq) iH.size),Bv _ _ ?_⟩;refine eN ?_;simp only[af];apply wpQuiet_nil;go_wp2_with fail
    go_meet
    exact⟨_,rfl,eI.setCell (by dsimp only;omega) _,((Fr.set (w2.heap.size) 0 _).block w.heap.size ky.lt (by omega)).trans ky,by simpa using mu.set_ 0 (.int .i64 kk),by omega⟩
  ·go_wp2_with fail;have np:Below w1.heap.size w1 ((w1.alloc (.cells #[.int .i64 0] 3)).drew):=((Below.refl w1.heap.size w1).alloc zl _).drew;have MY:ay ((w1.alloc (.cells #[.int .i64 0] 3)).drew) w1.heap.size 3 #[.int .i64 0]:=ay.new w1 3 #[.int .i64 0];refine⟨aw bY np,jl _ _ ?_⟩;have pJ:=BM.out _ np;generalize eh:(w1.alloc (.cells #[.int .i64 0] 3)).drew=w2 at *;refine bZ fun K3 jS=>?_
   simp only[af,Zx];apply wpQuiet_nil;go_wp2_with fail;refine pJ.mono ?_;rintro e w3 ⟨A2,c2,rfl,eJ,cv⟩;clear pJ;go_wp2_with fail;have kw:=aj np cv zl;refine⟨aw bY kw,jS _ _ ?_⟩;have ki:=jP (R.n:Int) A2 R.n c2 _ w3 (jK.of_own eJ);rw[show dC R.n (R.matchL R.round Pr.round)=kk from Df]at ki;refine bZ fun K5 Bu=>?_
   simp only[af,Zx];apply wpQuiet_nil;go_wp2_with fail;refine ki.mono ?_;rintro e w4 ⟨rfl,dV⟩;clear ki;go_wp2_with fail;have iH:=aj kw dV zl;have JL:=(MY.kept cv).kept dV;have iY:w1.heap.size<=w1.heap.size:=Nat.le_refl _;refine⟨aw bY iH,Bu _ _ ?_⟩;have mu:ay w4 (w1.heap.size) 3 #[.int .i64 0]:=JL;have eI:Below w.heap.size w w4:=aj aU iH zl;have ky:=cA.kept iH;have z0:=mu.cell 0;simp only[Zx]at z0;have f0:=mu.free 0;have NB:=mu.lt;refine bZ fun K6 Bv=>?_
   simp only[af,Zx];apply wpQuiet_nil;go_wp2_with fail;refine⟨gH (aw bY iH) (fun q hq=>by have:=bY q hq;omega) (fun q hq=>Nat.lt_of_lt_of_le (bY q hq) iH.size),Bv _ _ ?_⟩;refine eN ?_;simp only[af];apply wpQuiet_nil;go_wp2_with fail
   go_meet
   exact⟨_,rfl,eI.setCell (by dsimp only;omega) _,((Fr.set (w1.heap.size) 0 _).block w.heap.size ky.lt (by omega)).trans ky,by simpa using mu.set_ 0 (.int .i64 kk),by omega⟩
 case rest=>
  obtain⟨p2,rfl,qh,Hl,sm,XB⟩:=hcut
  rename World=>wc
  clear y0 c1 c5 k0 k1 k5 bY BM g4 cA aU h1;have hc:=hH.out.fresh qh;obtain⟨A,c,hv,_⟩:=id hc.q;obtain⟨n,hn⟩:=zN (R.waits.length);rw[hn]at hv;have HB:=hk.ws;rw[hn]at HB;have d2:wc.cell? ⟨g,2,none⟩=some (.slice A n c):=by
   have:=hc.s.cell 2;simp only[bt,Zx]at this;rw[this,hv]
  have ob:wc.cell? ⟨w.heap.size,0,none⟩=some (.pointer (some ⟨g,0,none⟩)):=by
   have:=Hl.cell 0;simp only[List.getElem?_toArray,List.getElem?_cons_zero]at this;exact this
  have TM:g<wc.heap.size:=hc.s.lt;have Em:=tO kk w.heap.size p2 n c A (hc.below (w':=wc.drew) (zb.drew)) Hl sm (aA zl) (aA (Nat.le_of_lt XB)) (by have:=hk.rs;omega) hv hn.symm (by omega);have cH:Nonempty (Ai ⟨g,2,none⟩ ⟨w.heap.size,0,none⟩ (.slice A n c) (.pointer (some ⟨g,0,none⟩))):=⟨⟨wc,d2,ob⟩⟩;have q1:∀x:Ai ⟨g,2,none⟩ ⟨w.heap.size,0,none⟩ (.slice A n c) (.pointer (some ⟨g,0,none⟩)),x.1.cell? ⟨g,2,none⟩=some (.slice A n c):=fun x=>x.2.1
  have q2:∀x:Ai ⟨g,2,none⟩ ⟨w.heap.size,0,none⟩ (.slice A n c) (.pointer (some ⟨g,0,none⟩)),x.1.cell? ⟨w.heap.size,0,none⟩=some (.pointer (some ⟨g,0,none⟩)):=fun x=>x.2.2
  replace hn:=zH hn;go_wp2_with fail;refine bz (C:=DG ⟨g,2,none⟩ ⟨w.heap.size,0,none⟩ (.slice A n c) (.pointer (some ⟨g,0,none⟩))) [([0,1,2,3,4,5],6),([],7)] ([8,9,10],11) (by kernel_rfl) (by kernel_rfl) (fun _ _ _ _ e h=>⟨e.symm.trans h.1,h.2⟩) (pY d2 ob) ?_;refine au fun K7 PS=>?_
  simp only[af,Zx];repeat go_big_quiet_step(fail)
  apply wpQuiet_nil;go_wp2_with fail;refine⟨pY (W:=wc.drew) d2 ob,PS _ _ ?_⟩;refine au fun K8 PT=>?_
  simp only[af,Zx];apply wpQuiet_nil;go_wp2_with fail;refine Em.mono ?_;rintro e w6 ⟨W,w5,c',rfl,⟨dz,v5,h5,e5,l5,F5⟩,Jd,Qb,rfl,hw⟩;obtain⟨m,hm⟩:=zN ((ez kk R.waits).length);rw[hm]at Qb hw;obtain⟨A0,c0,e0,cX,na⟩:=id h5.q;have lN:g<w5.heap.size:=h5.s.lt;have Pu:ay w5 w.heap.size 32 #[.pointer (some ⟨g,0,none⟩)]:=(F5.block w.heap.size Hl.lt fun hh=>by
   rw[aA zl]at hh;omega).trans Hl
  have cP:v5.waits=.slice A n c':=e5.trans hv;have Zo:W.length=n:=Jd.trans hn.out;have Xn:m<=n:=by rw[<-hm,<-hn.out];exact Cv _ _
  rw[cP]at e0;injection e0 with a1 a2 a3;subst a1;subst a3;have GN:Fr (fun j=>dz j=b+4) w5 w6:=by
   rcases hw with rfl|⟨q,zs,o,hA,_,rfl⟩
   ·exact Fr.refl _ _
   ·exact(oQ q zs o w5).mono fun j e=>by rw[e];exact na q ⟨_,hA,rfl⟩
  have Nc:dz g≠b+4:=by have:=h5.sl;omega
  have Rl:dz w.heap.size≠b+4:=by rw[l5 w.heap.size Hl.lt,aA zl];omega
  have jm:ay w6 g 107 (bt {R with waits:=W,out:={R.out with reads:=R.out.reads++fZ kk R.waits}} v5):=(GN.block g lN Nc).trans h5.s;have I4:ay w6 w.heap.size 32 #[.pointer (some ⟨g,0,none⟩)]:=(GN.block w.heap.size Pu.lt Rl).trans Pu;have d6:w6.cell? ⟨g,2,none⟩=some (.slice A n c'):=by
   have:=jm.cell 2;simp only[bt,Zx]at this;rw[this,cP]
  have b6:w6.cell? ⟨w.heap.size,0,none⟩=some (.pointer (some ⟨g,0,none⟩)):=by
   have:=I4.cell 0;simp only[List.getElem?_toArray,List.getElem?_cons_zero]at this;exact this
  have f6:=jm.free 2;have xQ:=jm.lt;have aO:aq aa b w g R.reads (w6.setCell ⟨g,2,none⟩ (.slice A m c')):=by
   have du:=Fr.set (w:=w6) g 2 (.slice A m c');have BA:=jm.set_ 2 (.slice A m c');simp only[bt,Zy]at BA;have LJ:Fr (fun j=>j=g\/∃i,i∈[4]/\dz j=b+i) w5 (w6.setCell ⟨g,2,none⟩ (.slice A m c')):=(GN.mono (X':=fun j=>j=g\/∃i,i∈[4]/\dz j=b+i) fun j e=>.inr ⟨4,by simp,e⟩).trans du fun j e=>.inl (.inl e)
   have h7:av dz b (w6.setCell ⟨g,2,none⟩ (.slice A m c')) g R.reads {v5 with waits:=.slice A m c'}:=by
    rw[FI,Df];refine h5.turn [4] BA (fun _ _ _ _ _ _ e=>e) (by simp) LJ tI tI (.inl ?_) tI tI tI tI tI tI tI tI;show aX dz (b+4) _ _ 3 (.slice A m c') (ez kk R.waits).length ((ez kk R.waits).flatMap mA);rw[hm];rcases cX.2 with⟨e1,e2⟩|⟨q,cap,cur,e1,_⟩
    ·injection e1 with b1 _ b3;subst b1;subst b3;have xT:m=0:=by have e2:W.length=0:=e2;omega
     have RN:ez kk R.waits=[]:=List.eq_nil_of_length_eq_zero (by rw[hm,xT]);rw[RN,xT];exact aX.nil _ _ _ _ _
    ·injection e1 with b1 _ _;subst b1;have ht:=tq cX (k:=m) (show m<=W.length by omega);have WV:(W.flatMap mA).take (m*3)=(ez kk R.waits).flatMap mA:=by
      rw[<-Qb];exact qd W m
     change w5.ownsRow 0 _ 3 (.slice (some ⟨q,0,none⟩) m c') m ((W.flatMap mA).take (m*3))at ht;rw[WV]at ht;have h6:w6.ownsRow 0 167 3 (.slice (some ⟨q,0,none⟩) m c') m ((ez kk R.waits).flatMap mA):=by
      rcases hw with rfl|⟨q',zs,o,hA,ho,rfl⟩
      ·exact ht
      ·injection hA with hA;injection hA with hA;subst hA;exact gM zs o w5 ho ht
     refine⟨some ⟨q,0,none⟩,c',rfl,dG h6 fun j hj hl=>du.block j hl fun e=>?_,na⟩;have:=na j hj;rw[e]at this;exact Nc this
   have pq:aq dz b w5 g R.reads (w6.setCell ⟨g,2,none⟩ (.slice A m c')):=⟨dz,_,h7,fun _ _ _=>rfl,fun _ _ h=>h,LJ.mono fun j hj=>by
    rcases hj with rfl|⟨i,hi,e⟩
    ·have:=h5.sl;exact⟨by omega,by omega⟩
    ·have:i=4:=by simpa using hi
     exact⟨by omega,by omega⟩⟩
   have Ia:aq (relab aa w.heap.size b) b wc.drew g R.reads (w6.setCell ⟨g,2,none⟩ (.slice A m c')):=pq.next (fun j hj _=>l5 j hj) (fun j hj hx=>by unfold aH at hx ⊢;rw[l5 j hj];exact hx) (F5.mono fun j hj=>by
    have:=hc.sl;rcases hj with rfl|hj|hj
    ·exact⟨by omega,by omega⟩
    ·exact⟨by omega,by omega⟩
    ·exact⟨by omega,by omega⟩)
   exact(Ia.behind (w:=wc) (zb.drew)).fresh qh
  replace aO:=zH aO;clear Em h5 e5 l5 F5 Qb hw cX na GN jm I4 Pu a2;go_wp2_with fail;refine⟨pY d6 b6,PT _ _ ?_⟩;refine aE ?_;simp only[af,Zx];repeat go_big_quiet_step(fail)
  apply wpQuiet_nil;go_wp2_with fail;exact ai rfl rfl ⟨rfl,aO.out⟩
end
end
section
variable {K M:Nat}{R:Rf}
theorem Ok.turn_out(h:Ok K M R){R':Rf}(e1:R'.id=R.id)(e2:R'.n=R.n)(e3:R'.hard.term=R.hard.term)(e4:R'.track=R.track)(e5:R'.commit=R.commit)(e6:R'.snap=R.snap)(e7:R'.gath=R.gath)(e8:R'.waits=R.waits)(e9:R'.yes=R.yes)(e10:R'.role=R.role)(e11:R'.peers=R.peers)
  (hc:0<=R'.clock/\R'.clock<=K/\0<=R'.round/\R'.round<=K) (h1:R'.out.msgs=R.out.msgs) (h2:R'.out.entries=R.out.entries) (h3:R'.out.commits=R.out.commits) (h4:R'.out.reads=R.out.reads):Ok K M R' where
 id:=by rw[e1,e2];exact h.id
 tm:=by rw[e3];exact h.tm
 tr:=by rw[e4];exact h.tr
 cm:=by rw[e5];exact h.cm
 dat:=by rw[e6];exact h.dat
 dat0:=by rw[e4,e6];exact h.dat0
 gat:=by rw[e7];exact h.gat
 trk:=by rw[e4];exact h.trk
 ws:=by rw[e8];exact h.ws
 yl:=by rw[e9];exact h.yl
 ck:=hc
 ms:=by rw[h1];exact h.ms
 es:=by rw[h2];exact h.es
 cs:=by rw[h3];exact h.cs
 rs:=by rw[h4];exact h.rs
 ys:=by rw[e10,e9];exact h.ys
 ld:=by rw[e10,e11,e2,e6];exact h.ld
theorem Ok.asked(h:Ok K M R)(m:Mg):Ok K (M+1) (R.asked m):=by
 unfold Rf.asked;split
 ·exact h.send _
 ·exact h.send _
theorem Ok.votes(h:Ok K M R)(m:Mg):Ok K (M+1) (R.votes m):=by
 unfold Rf.votes;split
 ·refine Ok.send ?_ _;exact h.turn_out rfl rfl rfl rfl rfl rfl rfl rfl rfl rfl rfl ⟨Int.le_refl 0,Int.natCast_nonneg _,h.ck.2.2.1,h.ck.2.2.2⟩ rfl rfl rfl rfl
 ·exact h.send _
theorem Ok.follows(h:Ok K M R){t:Int}(h0:0<=t)(h1:t<=1099511627776):Ok K M (R.follows t):=
 {h with
  tm:=⟨h0,h1⟩
  ws:=Nat.zero_le _
  ys:=fun e=>by rcases e with e|e <;> cases e
  ld:=fun e=>by cases e}
theorem Ok.trackTo(h:Ok K M R){t:bv}{K':Nat}(hK:K<=K')(hi:t.Inv)(hx:t.index=R.track.index)(hl:t.L.length<=K'):Ok K' M {R with track:=t}:=
 {h.mono hK (Nat.le_refl M)with
  tr:=hi
  dat0:=fun e=>h.dat0 (by have e:0<t.index:=e;rw[hx]at e;exact e)
  trk:=hl}
theorem Ok.appends(h:Ok K M R){m:Mg}(he:m.entries.length<=6)(hc:m.commit<=1099511627776):Ok (K+6) (M+K+20) (R.appends m):=by
 unfold Rf.appends;split
 ·exact(h.send _).mono (by omega) (by omega)
 ·simp only;split
  ·exact(h.send _).mono (by omega) (by omega)
  ·have hf:=jg R.track m.idx m.logTerm m.entries;have h1:Ok (K+6) M {R with track:=(R.track.takeF m.idx m.logTerm m.entries).2}:=h.trackTo (by omega) (h.tr.takeF _ _ _) hf.1 (by have:=hf.2.1;have:=h.trk;omega);have h2:Ok (K+6) (M+6) (if 0<(R.track.takeF m.idx m.logTerm m.entries).1.1 then({R with track:=(R.track.takeF m.idx m.logTerm m.entries).2}:Rf).save ((R.track.takeF m.idx m.logTerm m.entries).2.sliceF (R.track.takeF m.idx m.logTerm m.entries).1.1 m.entries.length)else {R with track:=(R.track.takeF m.idx m.logTerm m.entries).2}):=by
    split
    ·refine(h1.save _).mono zl ?_;have:((R.track.takeF m.idx m.logTerm m.entries).2.sliceF (R.track.takeF m.idx m.logTerm m.entries).1.1 m.entries.length).length<=m.entries.length:=by
      unfold bv.sliceF;split
      ·exact Nat.zero_le _
      ·rw[List.length_take];omega
     omega
    ·exact h1.mono zl (by omega)
   exact((h2.commits (k:=min m.commit (m.idx+m.entries.length)) (by omega)).send _).mono zl (by omega)
theorem Ok.install(h:Ok K M R)(hr:R.role≠3){x:x7}(hi:1<=x.idx/\x.idx<=1099511627776)(ht:1<=x.term/\x.term<=1099511627776)(hd:0<x.data.length/\x.data.length<=65536):Ok K M (R.install x):=by
 have key:∀(t:bv) (rs:Bool),t.Inv->t.L.length<=K->Ok K M (qz {R with track:=t,out:={R.out with reset:=rs}} x):=fun t rs h1 h2=>
  {h with
   tr:=h1
   cm:=⟨by show 0<=x.idx;omega,hi.2⟩
   dat:=hd.2
   dat0:=fun _=>hd.1
   gat:=Nat.zero_le _
   trk:=h2
   ld:=fun e=>absurd e hr}
 rw[mK];split
 ·exact key (R.track.dropF x.idx).2 R.out.reset (h.tr.dropF _) (by
   have:=h.trk;unfold bv.dropF;split
   ·exact this
   ·split
    ·exact this
    ·show(R.track.L.drop _).length<=K;rw[List.length_drop];omega)
 ·exact key ⟨x.idx,x.term,[]⟩ true ⟨.inr ⟨hi.1,hi.2,ht.1,ht.2⟩,fun i y hy=>by(simp at hy),fun y hy=>by(simp at hy),fun i y hy=>by(simp at hy)⟩ zz
theorem Ok.piece(h:Ok K M R)(hr:R.role≠3){m:Mg}(hi:0<=m.idx/\m.idx<=1099511627776)(ht:0<=m.logTerm/\m.logTerm<=1099511627776):Ok K (M+1) (R.piece m):=by
 unfold Rf.piece;by_cases hc:m.idx=0\/m.logTerm=0\/¬(1<=m.total/\m.total<=65536)
 ·rw[if_pos hc];exact h.mono zl (Nat.le_succ M)
 ·rw[if_neg hc];split
  ·exact h.send _
  ·have hT:1<=m.total/\m.total<=65536:=by
    by_cases hh:1<=m.total/\m.total<=65536
    ·exact hh
    ·exact absurd (.inr (.inr hh)) hc
   have hg:Ok K M ({R with gath:=R.gath1 m}:Rf):={h with gat:=nY h.gat hT.2};simp only;split
   ·exact hg.send _
   ·rename_i hl;refine Ok.send ?_ _;have h1:m.idx≠0:=fun e=>hc (.inl e)
    have h2:m.logTerm≠0:=fun e=>hc (.inr (.inl e))
    exact hg.install hr ⟨by show 1<=m.idx;omega,hi.2⟩ ⟨by show 1<=m.logTerm;omega,ht.2⟩ ⟨by show 0<(R.gath1 m).data.length;omega,nY h.gat hT.2⟩
theorem Ok.answered(h:Ok K M R)(hr:R.role=3){m:Mg}{s:Nat}(hf:m.frm=(s:Int))(hs:s<=R.n)(hi:0<=m.idx/\m.idx<=1099511627776)(ho:0<=m.offset):Ok K (M+K+1) (R.answered m):=by
 obtain⟨h1,h2,h3,h4⟩:=h.peer hr hs;rw[oO h1 hf];have hP:Fn R (pW R s m):=⟨h2,h3,h4⟩;split
 ·split
  ·exact((h.setPeer s (p:={pW R s m with offset:=min m.offset R.snap.data.length}) ⟨h2,h3,by show 0<=min _ _;omega,by show min _ _<=_;omega⟩).lacks s).mono zl (by omega)
  ·exact(h.setPeer s hP).mono zl (by omega)
 ·split
  ·exact((h.setPeer s (p:={pW R s m with next:=max ((R.peer s).mat+1) (min ((R.peer s).next-1) (m.idx+1))}) ⟨h2,by show 1<=max _ _/\max _ _<=_;omega,h4⟩).lacks s).mono zl (by omega)
  ·exact(h.setPeer s hP).has hr hs m.idx
theorem Ok.does(h:Ok K M R)(hK:1<=K){m:Mg}(hm:vC R m):Ok (K+10) (M+K+60) (R.does m):=by
 unfold Rf.does;split
 ·exact(h.asked m).mono (by omega) (by omega)
 split
 ·split
  ·rename_i hc;split
   ·exact((h.says m.frm).stands (by show R.hard.term<_;have:=hc.2.1;have:=hm.term;omega)).mono (by omega) (by omega)
   ·exact(h.says m.frm).mono (by omega) (by omega)
  ·exact h.mono (by omega) (by omega)
 split
 ·exact(h.votes m).mono (by omega) (by omega)
 split
 ·split
  ·split
   ·exact((h.says m.frm).leads (by omega)).mono (by omega) (by omega)
   ·exact(h.says m.frm).mono (by omega) (by omega)
  ·exact h.mono (by omega) (by omega)
 split
 ·split
  ·exact((h.hears m).appends hm.el hm.cmt.2).mono (by omega) (by omega)
  ·exact h.mono (by omega) (by omega)
 split
 ·split
  ·exact((h.hears m).piece (show(0:Int)≠3 by omega) hm.idx hm.lgt).mono (by omega) (by omega)
  ·exact h.mono (by omega) (by omega)
 split
 ·exact h.mono (by omega) (by omega)
 split
 ·rename_i hr;exact(h.answered hr (s:=m.frm.toNat) (by have:=hm.frm;omega) (by have:=hm.frm;omega) hm.idx hm.off.1).mono (by omega) (by omega)
 ·exact h.mono (by omega) (by omega)
end
end Go.Proofs.YtjcninheccmpoaaGreat
