import Derived.Test.YtjcninheccmpoaaGreatV8
set_option maxRecDepth 100000
set_option maxHeartbeats 8000000
set_option linter.all false
namespace Go.Proofs.YtjcninheccmpoaaGreat
open Go.RowKit Go.Proofs.Tryz
theorem oD{aa:Nat->Nat}{i size n m c c':Nat}{T:TypeId}{A A':Option Addr}{xs ys:List Value}{w w3:World}(h:bR aa i w T size (.slice A n c) n xs)(ho:w3.ownsRow 0 T size (.slice A' m c') m ys)(hF:Fr (aA A) w w3)(hr:∀j,aA A' j->aA A j\/w.heap.size<=j) :
  bR (aj aa w.heap.size i) i w3 T size (.slice A' m c') m ys/\Fr (aM aa i) w w3:=by
 obtain⟨A0,c0,e,h1,h2⟩:=h;injection e with e1 _ e3;subst e1;subst e3;refine⟨⟨A',c',rfl,ho,fun j hj=>?_⟩,hF.mono fun j hj=>h2 j hj⟩;rcases hr j hj with h6|h6
 ·exact(ac (aw h1 A c rfl j h6).1).trans (h2 j h6)
 ·exact az h6
theorem pu{w:World}{ops:Array Oper}{rest:List Oper}{o:Oper}{a:Act}{Q:Exit->Act->World->Prop}(lq:o.guard=none)(s x:Operand)
  (ho:o.op=.call {callee:=.builtin .append,args:=#[s,x],argTypes:=#[76,76]})
  (base:Nat) {A:Option Addr} {n c:Nat} {l:List Int} (hs:a.eval s=.slice A n c) (aB:w.ownsRow base 3 1 (.slice A n c) n (l.map vi))
  {B:Option Addr} {m d:Nat} {r:List Int} (hx:a.eval x=.slice B m d) (hr:fv w B m r) (hb:n+m<=1000000000) (bE:base<=w.heap.size)
  (h:∀A' c' w',w'.ownsRow base 3 1 (.slice A' (n+m) c') (n+m) ((l++r).map vi)->Fr (aA A) w w'->(∀j,aA A' j->aA A j\/w.heap.size<=j)->wpList prog ops Q rest (a.put o.dst (.slice A' (n+m) c')) w'):wpList prog ops Q (o::rest) a w:=by
 obtain⟨i0,iF,jT,iW,gC⟩:=info_parts rP;refine bg w lq s x 76 ho base 3 i0 _ 1 8 underlying76 iF jT iW gC rfl (by omega) (.slice A n c) n _ hs aB B m d _ hx hr (fun u hu=>?_) (by unfold maxLen;omega) (by omega) bE fun A' c' w' h3 h4 h5=>?_
 ·obtain⟨z,_,rfl⟩:=List.mem_map.1 hu;rfl
 ·exact h A' c' w' (by rw[List.map_append];exact h3) (Fr.grown h4) (iA h5)
section
variable {aa:Nat->Nat}{c q g:Nat}{w w3:World}{R:Rf}{v:Aw}{v':Value}
theorem aK.setYes{xs:List Int}(ha:aN c q)(h:aK aa c q w g R v)(hF:Fr (aM aa (c+3)) w w3)(hm:bR (aj aa w.heap.size (c+3)) (c+3) w3 3 1 v' xs.length (xs.map vi)) :
  aK (aj aa w.heap.size (c+3)) c q (w3.setCell ⟨g,13,none⟩ v') g {R with yes:=xs} {v with yes:=v'}/\Fr (aX aa c) w (w3.setCell ⟨g,13,none⟩ v')/\ao w3 g 122 (bu R v):=by
 have mU:ao w3 g 122 (bu R v):=(hF.other (k:=c+1) (by omega) g h.sl h.s.lt).trans h.s;have fh:=Fr.set (w:=w3) g 13 v';have hS:=mU.set_ 13 v';simp only[bu,Zy]at hS;have dC:Fr (fun j=>j=g\/∃i,i∈[3]/\aa j=c+i) w (w3.setCell ⟨g,13,none⟩ v'):=(hF.mono (X':=fun j=>j=g\/∃i,i∈[3]/\aa j=c+i) fun j hj=>.inr ⟨3,by simp,hj⟩).trans fh fun j e=>.inl (.inl e)
 have hX:∀i∈[3],1<i/\i<=9:=by simp
 have yw:∀j,aj aa w.heap.size (c+3) j=c+3\/aj aa w.heap.size (c+3) j=q->j<w3.heap.size->(w3.setCell ⟨g,13,none⟩ v').heap[j]?=w3.heap[j]?:=fun j hj hl=>fh.block j hl fun e=>by
  rw[e,ac h.s.lt]at hj;have:=h.sl;unfold aN at ha;omega
 have DQ:bR (aj aa w.heap.size (c+3)) (c+3) (w3.setCell ⟨g,13,none⟩ v') 3 1 v' xs.length (xs.map vi):=hm.keep fun j hj hl=>yw j (.inl hj) hl
 exact⟨h.turn [3] ha hS (fun j hj=>ac hj) hX dC tI (.inl DQ) tI tI (.inr ⟨rfl,rfl⟩) (.inr ⟨rfl,rfl⟩) tI tI (.inr ⟨rfl,rfl⟩) tI tI,gu h hX dC,mU⟩
theorem aK.setPeers{xs:List Pr}(ha:aN c q)(h:aK aa c q w g R v)(hF:Fr (aM aa (c+4)) w w3)(hm:bR (aj aa w.heap.size (c+4)) (c+4) w3 171 4 v' xs.length (xs.flatMap mW)) :
  aK (aj aa w.heap.size (c+4)) c q (w3.setCell ⟨g,14,none⟩ v') g {R with peers:=xs} {v with peers:=v'}/\Fr (aX aa c) w (w3.setCell ⟨g,14,none⟩ v')/\ao w3 g 122 (bu R v):=by
 have mU:ao w3 g 122 (bu R v):=(hF.other (k:=c+1) (by omega) g h.sl h.s.lt).trans h.s;have fh:=Fr.set (w:=w3) g 14 v';have hS:=mU.set_ 14 v';simp only[bu,Zy]at hS;have dC:Fr (fun j=>j=g\/∃i,i∈[4]/\aa j=c+i) w (w3.setCell ⟨g,14,none⟩ v'):=(hF.mono (X':=fun j=>j=g\/∃i,i∈[4]/\aa j=c+i) fun j hj=>.inr ⟨4,by simp,hj⟩).trans fh fun j e=>.inl (.inl e)
 have hX:∀i∈[4],1<i/\i<=9:=by simp
 have yw:∀j,aj aa w.heap.size (c+4) j=c+4\/aj aa w.heap.size (c+4) j=q->j<w3.heap.size->(w3.setCell ⟨g,14,none⟩ v').heap[j]?=w3.heap[j]?:=fun j hj hl=>fh.block j hl fun e=>by
  rw[e,ac h.s.lt]at hj;have:=h.sl;unfold aN at ha;omega
 have DQ:bR (aj aa w.heap.size (c+4)) (c+4) (w3.setCell ⟨g,14,none⟩ v') 171 4 v' xs.length (xs.flatMap mW):=hm.keep fun j hj hl=>yw j (.inl hj) hl
 exact⟨h.turn [4] ha hS (fun j hj=>ac hj) hX dC tI tI (.inl DQ) tI (.inr ⟨rfl,rfl⟩) (.inr ⟨rfl,rfl⟩) tI tI (.inr ⟨rfl,rfl⟩) tI tI,gu h hX dC,mU⟩
theorem aK.setReads{xs:List (Int×Int)}(ha:aN c q)(h:aK aa c q w g R v)(hF:Fr (aM aa (c+8)) w w3)(hm:bR (aj aa w.heap.size (c+8)) (c+8) w3 135 2 v' xs.length (xs.flatMap qM)) :
  aK (aj aa w.heap.size (c+8)) c q (w3.setCell ⟨g,32,none⟩ v') g {R with out:={R.out with reads:=xs}} {v with rds:=v'}/\Fr (aX aa c) w (w3.setCell ⟨g,32,none⟩ v')/\ao w3 g 122 (bu R v):=by
 have mU:ao w3 g 122 (bu R v):=(hF.other (k:=c+1) (by omega) g h.sl h.s.lt).trans h.s;have fh:=Fr.set (w:=w3) g 32 v';have hS:=mU.set_ 32 v';simp only[bu,Zy]at hS;have dC:Fr (fun j=>j=g\/∃i,i∈[8]/\aa j=c+i) w (w3.setCell ⟨g,32,none⟩ v'):=(hF.mono (X':=fun j=>j=g\/∃i,i∈[8]/\aa j=c+i) fun j hj=>.inr ⟨8,by simp,hj⟩).trans fh fun j e=>.inl (.inl e)
 have hX:∀i∈[8],1<i/\i<=9:=by simp
 have yw:∀j,aj aa w.heap.size (c+8) j=c+8\/aj aa w.heap.size (c+8) j=q->j<w3.heap.size->(w3.setCell ⟨g,32,none⟩ v').heap[j]?=w3.heap[j]?:=fun j hj hl=>fh.block j hl fun e=>by
  rw[e,ac h.s.lt]at hj;have:=h.sl;unfold aN at ha;omega
 have DQ:bR (aj aa w.heap.size (c+8)) (c+8) (w3.setCell ⟨g,32,none⟩ v') 135 2 v' xs.length (xs.flatMap qM):=hm.keep fun j hj hl=>yw j (.inl hj) hl
 exact⟨h.turn [8] ha hS (fun j hj=>ac hj) hX dC tI tI tI tI (.inr ⟨rfl,rfl⟩) (.inr ⟨rfl,rfl⟩) tI tI (.inr ⟨rfl,rfl⟩) (.inl DQ) tI,gu h hX dC,mU⟩
theorem aK.setEnts{xs:List En}(ha:aN c q)(h:aK aa c q w g R v)(hF:Fr (aM aa (c+6)) w w3)(hm:dQ (aj aa w.heap.size (c+6)) (c+6) q w3 v' xs) :
  aK (aj aa w.heap.size (c+6)) c q (w3.setCell ⟨g,26,none⟩ v') g {R with out:={R.out with entries:=xs}} {v with ent:=v'}/\Fr (aX aa c) w (w3.setCell ⟨g,26,none⟩ v')/\ao w3 g 122 (bu R v):=by
 have mU:ao w3 g 122 (bu R v):=(hF.other (k:=c+1) (by omega) g h.sl h.s.lt).trans h.s;have fh:=Fr.set (w:=w3) g 26 v';have hS:=mU.set_ 26 v';simp only[bu,Zy]at hS;have dC:Fr (fun j=>j=g\/∃i,i∈[6]/\aa j=c+i) w (w3.setCell ⟨g,26,none⟩ v'):=(hF.mono (X':=fun j=>j=g\/∃i,i∈[6]/\aa j=c+i) fun j hj=>.inr ⟨6,by simp,hj⟩).trans fh fun j e=>.inl (.inl e)
 have hX:∀i∈[6],1<i/\i<=9:=by simp
 have yw:∀j,aj aa w.heap.size (c+6) j=c+6\/aj aa w.heap.size (c+6) j=q->j<w3.heap.size->(w3.setCell ⟨g,26,none⟩ v').heap[j]?=w3.heap[j]?:=fun j hj hl=>fh.block j hl fun e=>by
  rw[e,ac h.s.lt]at hj;have:=h.sl;unfold aN at ha;omega
 have DQ:dQ (aj aa w.heap.size (c+6)) (c+6) q (w3.setCell ⟨g,26,none⟩ v') v' xs:=hm.keep (fun j hj hl=>yw j (.inl hj) hl) fun j hj hl=>yw j (.inr hj) hl
 exact⟨h.turn [6] ha hS (fun j hj=>ac hj) hX dC tI tI tI tI (.inr ⟨rfl,rfl⟩) (.inr ⟨rfl,rfl⟩) (.inl DQ) tI (.inr ⟨rfl,rfl⟩) tI tI,gu h hX dC,mU⟩
theorem aK.setComs{xs:List En}(ha:aN c q)(h:aK aa c q w g R v)(hF:Fr (aM aa (c+7)) w w3)(hm:dQ (aj aa w.heap.size (c+7)) (c+7) q w3 v' xs) :
  aK (aj aa w.heap.size (c+7)) c q (w3.setCell ⟨g,27,none⟩ v') g {R with out:={R.out with commits:=xs}} {v with com:=v'}/\Fr (aX aa c) w (w3.setCell ⟨g,27,none⟩ v')/\ao w3 g 122 (bu R v):=by
 have mU:ao w3 g 122 (bu R v):=(hF.other (k:=c+1) (by omega) g h.sl h.s.lt).trans h.s;have fh:=Fr.set (w:=w3) g 27 v';have hS:=mU.set_ 27 v';simp only[bu,Zy]at hS;have dC:Fr (fun j=>j=g\/∃i,i∈[7]/\aa j=c+i) w (w3.setCell ⟨g,27,none⟩ v'):=(hF.mono (X':=fun j=>j=g\/∃i,i∈[7]/\aa j=c+i) fun j hj=>.inr ⟨7,by simp,hj⟩).trans fh fun j e=>.inl (.inl e)
 have hX:∀i∈[7],1<i/\i<=9:=by simp
 have yw:∀j,aj aa w.heap.size (c+7) j=c+7\/aj aa w.heap.size (c+7) j=q->j<w3.heap.size->(w3.setCell ⟨g,27,none⟩ v').heap[j]?=w3.heap[j]?:=fun j hj hl=>fh.block j hl fun e=>by
  rw[e,ac h.s.lt]at hj;have:=h.sl;unfold aN at ha;omega
 have DQ:dQ (aj aa w.heap.size (c+7)) (c+7) q (w3.setCell ⟨g,27,none⟩ v') v' xs:=hm.keep (fun j hj hl=>yw j (.inl hj) hl) fun j hj hl=>yw j (.inr hj) hl
 exact⟨h.turn [7] ha hS (fun j hj=>ac hj) hX dC tI tI tI tI (.inr ⟨rfl,rfl⟩) (.inr ⟨rfl,rfl⟩) tI (.inl DQ) (.inr ⟨rfl,rfl⟩) tI tI,gu h hX dC,mU⟩
theorem rb(s:Int)(ha:aN c q)(h:aK aa c q w g R v)(hn:R.yes.length<=100000) :
  Calls prog 101 #[.pointer (some ⟨g,0,none⟩),.int .i64 s] w fun e w'=>e=.returned (.bool (R.says s).won)/\au aa c q w g (R.says s) w':=by
 have cW:=h.s.lt;obtain⟨c1,c13,-⟩:=h.s.cs [1,13];simp only[bu,vi,Zx]at c1 c13;have br:Below w.heap.size w (w.alloc (.cells #[.int .i64 s] 3)):=zb.alloc zl _;have h1:=h.fresh (q+c+10) br;obtain⟨A,d,NL,bS,hl⟩:=id h1.y;obtain⟨n,fi⟩:=zN (R.yes.length);rw[fi]at NL bS hn;rw[NL]at c13;have fo:fv (w.alloc (.cells #[.int .i64 s] 3)) (some ⟨w.heap.size,0,none⟩) 1 [s]:=fv.one w s;have aE:∀(A3:Option Addr) (c3:Nat) (w3:World),w3.ownsRow 0 3 1 (.slice A3 (n+1) c3) (n+1) ((R.yes++[s]).map vi)->Fr (aA A) (w.alloc (.cells #[.int .i64 s] 3)) w3->(∀j,aA A3 j->aA A j\/(w.alloc (.cells #[.int .i64 s] 3)).heap.size<=j)->
   ao w3 g 122 (bu R v)/\ao (w3.setCell ⟨g,13,none⟩ (.slice A3 (n+1) c3)) g 122 (bu (R.says s) {v with yes:=.slice A3 (n+1) c3})/\au aa c q w g (R.says s) (w3.setCell ⟨g,13,none⟩ (.slice A3 (n+1) c3))/\fv (w3.setCell ⟨g,13,none⟩ (.slice A3 (n+1) c3)) A3 (n+1) (R.yes++[s])/\n+1<=c3/\c3<=maxLen:=fun A3 c3 w3 ho hF hr=>by
  have hy:=h1.y;rw[NL,fi]at hy;obtain⟨g1,g2⟩:=oD hy ho hF hr;have g1':bR (aj (aj aa w.heap.size (q+c+10)) (w.alloc (.cells #[.int .i64 s] 3)).heap.size (c+3)) (c+3) w3 3 1 (.slice A3 (n+1) c3) (R.yes++[s]).length ((R.yes++[s]).map vi):=by
   rw[List.length_append,fi];exact g1
  obtain⟨h3,h4,h5⟩:=h1.setYes ha g2 g1';have hb:=bB ho;obtain⟨A4,d4,e4,ZI,_⟩:=id h3.y;have e4:Value.slice A3 (n+1) c3=Value.slice A4 (R.yes++[s]).length d4:=e4;injection e4 with x1 x2 x3;subst x1;subst x3;refine⟨h5,h3.s,au.next (ag:=aj aa w.heap.size (q+c+10)) ⟨_,_,h3,fun j hj=>ac hj,h4⟩ (fun j hj=>ac hj) (Fr.of_below br),?_,hb.1,hb.2⟩;have hq:fv (w3.setCell ⟨g,13,none⟩ (.slice A3 (n+1) c3)) A3 (R.yes++[s]).length (R.yes++[s]):=cn.of_own ZI
  rwa [<-x2]at hq
 have RE:(w.alloc (.cells #[.int .i64 s] 3)).ownsRow 0 3 1 (.slice A n d) n (R.yes.map vi):=bS;have NP:(R.says s).won=lv R.n (R.yes++[s]):=rfl;rw[NP];clear h h1 bS;go_enter func101,ntmps101;go_wp2_with (at_builtin;refine pu rfl (.tmp 9) (.tmp 11) rfl 0 rfl RE rfl fo (by omega) zz ?_;intro A3 c3 w3 cH dk hrw3;obtain⟨iE,DA,hP,gp,lw,yp⟩:=aE A3 c3 w3 cH dk hrw3;clear aE cH dk hrw3;have e13:=iE.cell 13;have f13:=iE.free 13;simp only[bu,Zx]at e13);generalize w3.setCell ⟨g,13,none⟩ (.slice A3 (n+1) c3)=w4 at *;obtain⟨d1,d13,-⟩:=DA.cs [1,13];simp only[bu,vi,Zx]at d1 d13;have Xo:=DA.lt;obtain⟨k1,k13⟩:=pU [g] d1 d13;have nD:=sr (R.n:Int) A3 (n+1) c3 (R.yes++[s]) w4.drew gp.drew yp lw;have S0:(R.says s).n=R.n:=rfl;rw[S0]at k1;replace hP:=zH hP;clear iE DA gp e13 f13;refine eE [g] w4 [([0,1,2,3,4,5,6,7],8)] [9] ?_;refine aF fun K1 cQ=>?_
 simp only[ah,Zx];repeat go_big_quiet_step(fail)
 apply wpQuiet_nil;go_wp2_with fail;refine nD.mono ?_;rintro e w5 ⟨rfl,rfl⟩;go_wp2_with fail;refine⟨aQ,cQ _ _ ?_⟩;refine al ?_;simp only[ah,Zx];repeat go_big_quiet_step(fail)
 apply wpQuiet_nil;go_wp2_with fail;go_ret;exact⟨rfl,hP.out.below (zb.drew)⟩
theorem nu{α β:Type}(f:α->β->α)(l:List β)(x:β)(a:α):(l++[x]).foldl f a=f (l.foldl f a) x:=by rw[List.foldl_append];rfl
theorem qW(ha:aN c q)(h:aK aa c q w g R v)(hP:gr R)(hn:R.out.msgs.length<=90000) :
  Calls prog 53 #[.pointer (some ⟨g,0,none⟩)] w fun e w'=>e=.returned (.tuple #[])/\au aa c q w g R.all w':=by
 have cW:=h.s.lt;have h0:=au.refl h;have fl:R.all=(bz R.id R.n).foldl Rf.lacks R:=rfl;replace fl:=zH fl;clear h;go_enter func53,ntmps53;go_wp2_with fail
 go_loopw [2] (fun i wr=>∃k:Nat,k<=R.n/\i=.int .i64 ((k:Int)+1)/\au aa c q w g ((bz R.id k).foldl Rf.lacks R) wr) (fun i _=>R.n+1-(intOf i).toNat)
 case atStart=>exact⟨0,Nat.zero_le _,rfl,h0⟩
 case round=>
  obtain⟨k,hk,rfl,hQ⟩:=hrel;obtain⟨ms,xq,ly⟩:=fA (bz R.id k) R;have uu:=iZ R.id k;have pI:=hP.n7;have cu:=ik R.id k;rw[xq]at hQ;obtain⟨ag,v1,h1,cD,ir⟩:=hQ;obtain⟨c0,c1,-⟩:=h1.s.cs [0,1];simp only[bu,vi,Zx]at c0 c1;by_cases aU:k<R.n
  ·have aO:=zH (show R.n+1-(k+1+1)<R.n+1-(k+1) by omega);have fd:(k:Int)+1<=R.n:=by omega
   by_cases jb:k+1=R.id
   ·rw[if_pos jb,List.append_nil]at cu;have jg:(R.id:Int)=(k:Int)+1:=by omega
    have aE:=zH (show au aa c q w g ((bz R.id (k+1)).foldl Rf.lacks R) wr by rw[cu,xq];exact⟨ag,v1,h1,cD,ir⟩);rw[jg]at c0;clear jg jb h1 xq cu ly;go_wp2_with fail;exact⟨⟨k+1,aU,by go_num,aE.out⟩,by simp[intOf];have:=aO.out;omega⟩
   ·rw[if_neg jb]at cu;have o9:=hP.out {R.out with msgs:=R.out.msgs++ms};have pK:k+1<R.peers.length:=by rw[hP.len];omega
    have kH:=qY (k+1) ha h1 pK (by simp;omega) hP.trk (hP.nx (k+1) (by omega)).1 (hP.nx (k+1) (by omega)).2 (hP.off (k+1) (by omega)).1 (hP.off (k+1) (by omega)).2 hP.dat;have aE:=zH (fun w5 (hp:au ag c q wr g (Rf.lacks {R with out:={R.out with msgs:=R.out.msgs++ms}} (k+1)) w5)=>show au aa c q w g ((bz R.id (k+1)).foldl Rf.lacks R) w5 by rw[cu,nu,xq];exact hp.next cD ir);have i1:(((k:Int)+1)==(R.id:Int))=false:=beq_eq_false_iff_ne.2 (by omega);have i2:(((k:Int)+1) !=(R.id:Int))=true:=by rw[bne,i1];rfl
    have i3:((k+1:Nat):Int)=(k:Int)+1:=by omega
    rw[i3]at kH;clear jb h1 xq cu ly o9 i3;go_wp2_with fail;refine kH.mono ?_;rintro e w5 ⟨rfl,hp⟩;have lR:=aE.out w5 hp;clear kH hp;replace lR:=zH lR;go_wp2_with fail;exact⟨⟨k+1,aU,by go_num,lR.out⟩,by simp[intOf];have:=aO.out;omega⟩
  ·obtain rfl:k=R.n:=by omega
   have aE:=zH (show au aa c q w g R.all wr by rw[fl.out,xq];exact⟨ag,v1,h1,cD,ir⟩);have kI:¬((R.n:Int)+1<=R.n):=by omega
   clear h1 xq cu ly;go_wp2_with fail;exact cL rfl rfl ⟨rfl,aE.out⟩
end
section
variable {aa:Nat->Nat}{c q g n m d c':Nat}{w w3:World}{R:Rf}{v:Aw}{A A':Option Addr}{zs ys:List (Value×En)}{L':List En}
theorem xV{i:Nat}{L:List En}(Zi:q≠i)(bS:bR aa i w 59 6 (.slice A n d) n (zs.flatMap cl))(hn:n=L.length)(xl:bo (aM aa q) w zs)(tn:zs.map (·.2)=L)(hd:bo (aM aa q) w ys)(hy:ys.map (·.2)=L')(hm:m=L'.length)
  (ho:w3.ownsRow 0 59 6 (.slice A' (n+m) c') (n+m) ((zs++ys).flatMap cl)) (hF:Fr (aA A) w w3) (hr:∀j,aA A' j->aA A j\/w.heap.size<=j) :
  dQ (aj aa w.heap.size i) i q w3 (.slice A' (n+m) c') (L++L')/\Fr (aM aa i) w w3:=by
 obtain⟨g1,g2⟩:=oD bS ho hF hr;refine⟨⟨zs++ys,?_,?_,by rw[List.map_append,tn,hy]⟩,g2⟩
 ·rw[List.length_append,<-hn,<-hm];exact g1
 ·have Qm:bo (aM (aj aa w.heap.size i) q) w (zs++ys):=(xl.append hd).mono fun j hj e=>(ac hj).trans e
  exact Qm.keep fun j hj hl=>g2.other (k:=q) Zi j ((ac hl).symm.trans hj) hl
theorem FI(ha:aN c q)(h:aK aa c q w g R v)(bS:bR aa (c+7) w 59 6 (.slice A n d) n (zs.flatMap cl))(hn:n=R.out.commits.length)(xl:bo (aM aa q) w zs)(tn:zs.map (·.2)=R.out.commits)(hd:bo (aM aa q) w ys)(hy:ys.map (·.2)=L')(hm:m=L'.length)
  (ho:w3.ownsRow 0 59 6 (.slice A' (n+m) c') (n+m) ((zs++ys).flatMap cl)) (hF:Fr (aA A) w w3) (hr:∀j,aA A' j->aA A j\/w.heap.size<=j) :
  aK (aj aa w.heap.size (c+7)) c q (w3.setCell ⟨g,27,none⟩ (.slice A' (n+m) c')) g {R with out:={R.out with commits:=R.out.commits++L'}} {v with com:=.slice A' (n+m) c'}/\Fr (aX aa c) w (w3.setCell ⟨g,27,none⟩ (.slice A' (n+m) c'))/\ao w3 g 122 (bu R v):=by
 obtain⟨g1,g2⟩:=xV (by unfold aN at ha;omega) bS hn xl tn hd hy hm ho hF hr;exact h.setComs ha g2 g1
theorem FR(ha:aN c q)(h:aK aa c q w g R v)(bS:bR aa (c+6) w 59 6 (.slice A n d) n (zs.flatMap cl))(hn:n=R.out.entries.length)(xl:bo (aM aa q) w zs)(tn:zs.map (·.2)=R.out.entries)(hd:bo (aM aa q) w ys)(hy:ys.map (·.2)=L')(hm:m=L'.length)
  (ho:w3.ownsRow 0 59 6 (.slice A' (n+m) c') (n+m) ((zs++ys).flatMap cl)) (hF:Fr (aA A) w w3) (hr:∀j,aA A' j->aA A j\/w.heap.size<=j) :
  aK (aj aa w.heap.size (c+6)) c q (w3.setCell ⟨g,26,none⟩ (.slice A' (n+m) c')) g {R with out:={R.out with entries:=R.out.entries++L'}} {v with ent:=.slice A' (n+m) c'}/\Fr (aX aa c) w (w3.setCell ⟨g,26,none⟩ (.slice A' (n+m) c'))/\ao w3 g 122 (bu R v):=by
 obtain⟨g1,g2⟩:=xV (by unfold aN at ha;omega) bS hn xl tn hd hy hm ho hF hr;exact h.setEnts ha g2 g1
theorem dQ.row{i:Nat}{x:Value}{L:List En}(h:dQ aa i q w x L):∃A d zs,x=.slice A L.length d/\bR aa i w 59 6 (.slice A L.length d) L.length (zs.flatMap cl)/\w.ownsRow 0 59 6 (.slice A L.length d) L.length (zs.flatMap cl)/\bo (aM aa q) w zs/\zs.map (·.2)=L:=by
 obtain⟨zs,bS,xl,tn⟩:=h;obtain⟨A,d,e,h1,h2⟩:=id bS;rw[e]at bS;exact⟨A,d,zs,e,bS,h1,xl,tn⟩
end
theorem zU(t:bD)(i:Int)(j:Nat)(h:t.index<i):t.sliceF i j++t.sliceF (i+j) 1=t.sliceF i ((j+1:Nat):Int):=by
 have e1:t.sliceF (i+j) 1=List.take 1 (List.drop (i-t.index-1+j).toNat t.L):=by
  unfold bD.sliceF;rw[if_neg (by omega),show i+(j:Int)-t.index-1=i-t.index-1+j by omega];rfl
 have e2:∀k:Nat,t.sliceF i (k:Int)=List.take k (List.drop (i-t.index-1).toNat t.L):=fun k=>by
  unfold bD.sliceF;by_cases h0:k=0
  ·subst h0;rw[if_pos (by omega)];rfl
  ·rw[if_neg (by omega)];rfl
 rw[e1,e2,e2,show(i-t.index-1+(j:Int)).toNat=(i-t.index-1).toNat+j by omega,<-List.drop_drop,List.take_add]
theorem zV(t:bD)(i:Int):t.sliceF i 0=[]:=by
 unfold bD.sliceF;rw[if_pos (by omega)]
def lL(R:Rf)(j:Nat):Rf:={R with commit:=R.commit+j,out:={R.out with commits:=R.out.commits++R.track.sliceF (R.commit+1) j}}
theorem oT(R:Rf):lL R 0=R:=by
 unfold lL;simp only[Int.natCast_zero,Int.add_zero,zV,List.append_nil]
theorem Do{R:Rf}{j:Nat}(h:R.track.index<=R.commit):({lL R j with commit:=R.commit+j+1,out:={(lL R j).out with commits:=(lL R j).out.commits++R.track.sliceF (R.commit+j+1) 1}}:Rf)=lL R (j+1):=by
 have e:=zU R.track (R.commit+1) j (by omega);have e2:R.commit+1+(j:Int)=R.commit+j+1:=by omega
 rw[e2]at e;unfold lL;simp only[List.append_assoc,e];have e3:R.commit+(j:Int)+1=R.commit+((j+1:Nat):Int):=by omega
 rw[e3]
theorem FH{R:Rf}{k:Int}{j:Nat}(h:R.commit<k)(hj:R.commit+j=k):lL R j=R.commits k:=by
 unfold Rf.commits lL;rw[if_pos h,hj,show k-R.commit=(j:Int) by omega]
def xN(w:World)(a:Addr):Int:=intOf ((w.cell? a).getD (.int .i64 0))
section
variable {aa:Nat->Nat}{c q g:Nat}{w:World}{R:Rf}{v:Aw}
theorem nU(k:Int)(ha:aN c q)(h:aK aa c q w g R v)(hi:R.track.index<=R.commit)(fO:0<=R.commit)(hk:k<=4000000000000)(hN:R.track.L.length<=1000000)(hn:R.out.commits.length<=1000000) :
  Calls prog 124 #[.pointer (some ⟨g,0,none⟩),.int .i64 k] w fun e w'=>e=.returned (.tuple #[])/\au aa c q w g (R.commits k) w':=by
 have cW:=h.s.lt;have h0:=au.refl h;rw[<-oT R]at h0;have gh:=zH (au.refl h);clear h;go_enter func124,ntmps124;go_wp2_with fail
 go_loopw [] (fun wr=>∃j:Nat,(j=0\/R.commit+j<=k)/\au aa c q w g (lL R j) wr) (fun wr=>(k-xN wr ⟨g,8,none⟩).toNat)
 case atStart=>exact⟨0,.inl rfl,h0⟩
 case round=>
  clear h0;obtain⟨j,hj,ag,v1,h1,cD,ir⟩:=hrel;have c8:=h1.s.cell 8;simp only[bu,vi,Zx]at c8;have oM:(lL R j).commit=R.commit+j:=rfl;rw[oM]at c8;by_cases aU:R.commit+j<k
  ·obtain⟨gt,iV,AK,qq,rI⟩:=h1.trk_at;have d4:=h1.s.cell 4;simp only[bu,vi,Zx]at d4;rw[iV]at d4;have iM:=h1.s.lt;obtain⟨k4,k8⟩:=pU [g] d4 c8;have hw:R.commit+(j:Int)+1<=4000000000000:=by omega
   have hw0:0<=R.commit+(j:Int):=by omega
   have dP:=vh (R.commit+j+1) 1 (h1.below (w':=wr.drew) (zb.drew)).t hN;rw[iV]at dP;have aO:xN wr ⟨g,8,none⟩=R.commit+j:=by unfold xN;rw[c8];rfl
   have dA:∀x∈[g],x<wr.heap.size:=by simp;exact iM
   replace aO:=zH aO;have WU:=zH h1;clear h1;go_wp2_with fail;refine eE [g] wr [([0,1,2,3,4,5,6,7,8],9)] [10] ?_;refine aF fun K1 cQ=>?_
   simp only[ah,Zx];repeat go_big_quiet_step(fail)
   apply wpQuiet_nil;go_wp2_with fail;refine dP.mono ?_;rintro e w5 ⟨B,m,d5,ys,rfl,ol,OM,NS,cM⟩;have MK:Below wr.heap.size wr w5:=(zb.drew).trans cM;clear dP;go_wp2_with fail;refine⟨av dA MK,cQ _ _ ?_⟩;refine al ?_;simp only[ah,Zx];repeat go_big_quiet_step(fail)
   apply wpQuiet_nil;have h5:=WU.out.fresh q MK;have NS:ys.map (·.2)=R.track.sliceF (R.commit+j+1) 1:=NS;obtain⟨A,d,zs,Tf,uz,bS,xl,tn⟩:=h5.co.row;obtain⟨n,fi⟩:=zN ((lL R j).out.commits.length);rw[fi]at Tf uz bS;have e8:=h5.s.cell 8;simp only[bu,vi,Zx]at e8;have e27:w5.cell? ⟨g,27,none⟩=some (.slice A n d):=by
    have:=h5.s.cell 27;simp only[bu,Zx]at this;rw[this,Tf]
   have eG:n<=2000000:=by
    rw[<-fi];show(R.out.commits++_).length<=_;have:=nJ R.track (R.commit+1) j;rw[List.length_append];omega
   have wu:m=(R.track.sliceF (R.commit+j+1) 1).length:=by
    rw[<-NS,List.length_map];exact(ff.len (cn.of_own ol)).symm
   have DY:ff w5 B m ys:=cn.of_own ol;have fw:n+m<=1000000000:=by
    have:=nJ R.track (R.commit+j+1) 1;omega
   have fo:=OM.one;have aE:∀(A3:Option Addr) (c3:Nat) (w3:World),w3.ownsRow 0 59 6 (.slice A3 (n+m) c3) (n+m) ((zs++ys).flatMap cl)->Fr (aA A) w5 w3->(∀j,aA A3 j->aA A j\/w5.heap.size<=j)->
     ao w3 g 122 (bu (lL R j) v1)/\au aa c q w g (lL R (j+1)) ((w3.setCell ⟨g,27,none⟩ (.slice A3 (n+m) c3)).setCell ⟨g,8,none⟩ (.int .i64 (R.commit+j+1)))/\xN ((w3.setCell ⟨g,27,none⟩ (.slice A3 (n+m) c3)).setCell ⟨g,8,none⟩ (.int .i64 (R.commit+j+1))) ⟨g,8,none⟩=R.commit+j+1:=fun A3 c3 w3 ho hF hr=>by
    have Uv:bo (aM (aj ag wr.heap.size q) q) w5 ys:=OM.mono fun j hj (e:ag j=q)=>by
     show aj ag wr.heap.size q j=q;unfold aj;split
     ·rfl
     ·exact e
    obtain⟨h6,kV,nd⟩:=FI ha h5 uz fi.symm xl tn Uv NS wu ho hF hr;have s8:=h6.s.set_ 8 (.int .i64 (R.commit+j+1));simp only[bu,Zy]at s8;have SB:=Fr.set (w:=w3.setCell ⟨g,27,none⟩ (.slice A3 (n+m) c3)) g 8 (.int .i64 (R.commit+j+1));have h8:=h6.nums (R':=({lL R j with commit:=R.commit+j+1,out:={(lL R j).out with commits:=(lL R j).out.commits++R.track.sliceF (R.commit+j+1) 1}}:Rf)) ha s8 SB rfl rfl rfl rfl rfl rfl rfl rfl rfl rfl rfl;rw[Do hi]at h8;refine⟨nd,?_,?_⟩
    ·refine au.next (ag:=ag) (w1:=wr) ?_ cD ir;refine au.fresh q (w1:=w5) ?_ MK;exact au.next (ag:=aj (aj ag wr.heap.size q) w5.heap.size (c+7)) (h6.nums_post ha h8 SB) (fun j hj=>ac hj) kV
    ·have:=h8.s.cell 8;simp only[bu,Zx]at this;unfold xN;rw[this];show R.commit+((j+1:Nat):Int)=_;omega
   clear h5 uz xl tn ol OM wu NS fi;go_wp2_with (at_builtin;refine aW rfl (.tmp 26) (.tmp 27) rfl 0 rfl bS rfl DY fo fw zz ?_;intro A3 c3 w3 cH dk bN hrw3;obtain⟨iE,kW,oZ⟩:=aE A3 c3 w3 cH dk hrw3;replace kW:=zH kW;replace oZ:=zH oZ;have x27:=iE.cell 27;have x8:=iE.cell 8;have y27:=iE.free 27;have y8:=iE.free 8;simp only[bu,vi,oM,Zx]at x27 x8;clear aE cH dk bN hrw3 bS);exact⟨⟨j+1,.inr (by omega),kW.out⟩,by rw[oZ.out,aO.out];omega⟩
  ·have aE:au aa c q w g (R.commits k) wr:=by
    rcases hj with rfl|hj
    ·have e:R.commits k=R:=if_neg (by simpa using aU);rw[e];rw[oT]at h1;exact⟨ag,v1,h1,cD,ir⟩
    ·by_cases Q7:R.commit<k
     ·rw[<-FH Q7 (j:=j) (by omega)];exact⟨ag,v1,h1,cD,ir⟩
     ·have e:R.commits k=R:=if_neg Q7;obtain rfl:j=0:=by omega
      rw[e];rw[oT]at h1;exact⟨ag,v1,h1,cD,ir⟩
   replace aE:=zH aE;clear h1;go_wp2_with fail;exact cL rfl rfl ⟨rfl,aE.out⟩
end
section
variable {aa:Nat->Nat}{c q g:Nat}{w:World}{R:Rf}{v:Aw}
theorem lF(ha:aN c q)(h:aK aa c q w g R v)(hp:R.peers.length=R.n+1)(pI:R.n<=7)(hi:R.track.index<=R.commit)(fO:0<=R.commit)(hN:R.track.L.length<=1000000)(hn:R.out.commits.length<=1000000) :
  Calls prog 70 #[.pointer (some ⟨g,0,none⟩)] w fun e w'=>e=.returned (.tuple #[])/\au aa c q w g R.agrees w':=by
 have cW:=h.s.lt;obtain⟨gt,iV,AK,qq,rI⟩:=h.trk_at;have c4:=h.s.cell 4;simp only[bu,vi,Zx]at c4;rw[iV]at c4;have bH:=jF h.t hN;rw[iV]at bH;have dJ:=h.t.inv;obtain⟨l1,cD⟩:∃l,R.track.lastF.1=l:=⟨_,rfl⟩;obtain⟨l2,dG⟩:∃l,R.track.lastF.2=l:=⟨_,rfl⟩;rw[cD,dG]at bH;replace cD:=zH cD;replace dG:=zH dG;have hH:=zH h;replace dJ:=zH dJ;clear h;go_enter func70,ntmps70;go_wp2_with fail;refine bH.mono ?_;rintro e w1 ⟨rfl,br⟩;clear bH;go_wp2_with fail
 go_loopw [4,5] (fun o s' wr=>∃(k:Nat) (A:Option Addr) (d:Nat),k<=R.n/\s'=.int .i64 ((k:Int)+1)/\o=.slice A k d/\wr.ownsRow w1.heap.size 3 1 (.slice A k d) k ((fC R l1 Pr.mat k).map vi)/\Below w1.heap.size w1 wr) (fun _ s' _=>R.n+1-(intOf s').toNat)
 case atStart=>exact⟨0,none,0,Nat.zero_le _,rfl,rfl,bX _ _,Below.refl _ _⟩
 case round=>
  obtain⟨k,A,d,hk,rfl,rfl,aB,hb⟩:=hrel;have jo:=ab br hb zl;have hr:=hH.out.below jo;obtain⟨c0,c1,c14,-⟩:=hr.s.cs [0,1,14];simp only[bu,vi,Zx]at c0 c1 c14;by_cases aU:k<R.n
  ·have aO:=zH (show R.n+1-(k+1+1)<R.n+1-(k+1) by omega);have fd:(k:Int)+1<=R.n:=by omega
   have cu:=iX R l1 Pr.mat k;have fw:k+1<=1000000000:=by omega
   by_cases jb:k+1=R.id
   ·rw[if_pos jb]at cu;have jg:(R.id:Int)=(k:Int)+1:=by omega
    rw[jg]at c0;have lA:=fv.one wr l1;have aI:Below wr.heap.size wr (wr.alloc (.cells #[.int .i64 l1] 3)):=zb.alloc zl _;have cw:=bf aB aI;have bQ:=ab hb aI zl;replace cu:=zH cu;clear jg jb hr aB;go_wp2_with (at_builtin;refine bh rfl (.tmp 31) (.tmp 33) rfl w1.heap.size rfl cw rfl lA fw bQ.size ?_;intro A3 c3 w3 bY iy bN);exact⟨⟨k+1,A3,c3,aU,by go_num,rfl,by rw[cu.out];exact bY,bQ.trans bN⟩,by simp[intOf];have:=aO.out;omega⟩
   ·rw[if_neg jb]at cu;obtain⟨p,dp,hv,nA,Rx,p0,p1,p2,p3,_⟩:=hr.peer_at (s:=k+1) (by omega);rw[hv,hp]at c14;obtain⟨mt,CL⟩:∃m,(R.peer (k+1)).mat=m:=⟨_,rfl⟩;rw[CL]at p1 cu;have lA:=fv.one wr mt;have aI:Below wr.heap.size wr (wr.alloc (.cells #[.int .i64 mt] 3)):=zb.alloc zl _;have cw:=bf aB aI;have bQ:=ab hb aI zl;have i1:(((k:Int)+1)==(R.id:Int))=false:=beq_eq_false_iff_ne.2 (by omega);replace cu:=zH cu;replace CL:=zH CL;clear jb hr aB p0 p2 p3;go_wp2_with (at_builtin;refine bh rfl (.tmp 35) (.tmp 44) rfl w1.heap.size rfl cw rfl lA fw bQ.size ?_;intro A3 c3 w3 bY iy bN);exact⟨⟨k+1,A3,c3,aU,by go_num,rfl,by rw[cu.out];exact bY,bQ.trans bN⟩,by simp[intOf];have:=aO.out;omega⟩
  ·obtain rfl:k=R.n:=by omega
   have kI:¬((R.n:Int)+1<=R.n):=by omega
   have qf:=ni (R.n:Int) A R.n d (fC R l1 Pr.mat R.n) wr (fv.of_own aB);obtain⟨N,Dy⟩:=zN (eL R.n (fC R l1 Pr.mat R.n));rw[Dy]at qf;have IM:R.agreesTo=N:=by rw[<-Dy,<-cD.out];rfl
   clear aB hr;go_wp2_with fail;refine qf.mono ?_;rintro e w5 ⟨rfl,cM⟩;clear qf;have kE:=ab jo cM zl;have h5:=hH.out.below kE;have cp:=sR N h5.t hN;obtain⟨tt,mV⟩:∃x,R.track.termF N=x:=⟨_,rfl⟩;rw[mV,iV]at cp;obtain⟨c2,c4,c5,c8,-⟩:=h5.s.cs [2,4,5,8];simp only[bu,vi,Zx]at c2 c4 c5 c8;rw[iV]at c4;have gw:R.agrees=if R.commit<N/\tt=(R.hard.term,0)then R.commits N else R:=by
    unfold Rf.agrees;rw[IM,mV]
   have gh:=zH (au.behind (au.refl h5) kE);have qk:R.commit<N/\tt=(R.hard.term,0)->Calls prog 124 #[.pointer (some ⟨g,0,none⟩),.int .i64 N] w5 fun e w'=>e=.returned (.tuple #[])/\au aa c q w5 g (R.commits N) w':=fun hc=>by
    rw[<-mV]at hc;have h1:=eR hc.2;have h2:=dJ.out.room;exact nU N ha h5 hi fO (by omega) hN hn
   replace IM:=zH IM;replace mV:=zH mV;replace Dy:=zH Dy;clear h5;by_cases c1:R.commit<N
   ·by_cases c2:tt.2=0
    ·by_cases c3:tt.1=R.hard.term
     ·have VK:tt=(R.hard.term,0):=by rw[<-c3,<-c2]
      rw[if_pos ⟨c1,VK⟩]at gw;have hc:=qk ⟨c1,VK⟩;replace gw:=zH gw;have c2':(tt.2==0)=true:=by simp[c2]
      have c3':(tt.1==R.hard.term)=true:=by simp[c3]
      clear qk VK c2 c3;go_wp2_with fail;refine cp.mono ?_;rintro e w6 ⟨rfl,rfl⟩;clear cp;go_wp2_with fail;refine hc.mono ?_;rintro e w7 ⟨rfl,hP⟩;have hQ:=zH (show au aa c q w g R.agrees w7 by rw[gw.out];exact hP.behind kE);clear hc hP;go_wp2_with fail;exact cL rfl rfl ⟨rfl,hQ.out⟩
     ·rw[if_neg (fun hh=>c3 (by rw[hh.2]))]at gw;replace gw:=zH gw;have c2':(tt.2==0)=true:=by simp[c2]
      have c3':(tt.1==R.hard.term)=false:=by simp[c3]
      clear qk c2 c3;go_wp2_with fail;refine cp.mono ?_;rintro e w6 ⟨rfl,rfl⟩;clear cp;go_wp2_with fail;exact cL rfl rfl ⟨rfl,by rw[gw.out];exact gh.out⟩
    ·rw[if_neg (fun hh=>c2 (by rw[hh.2]))]at gw;replace gw:=zH gw;have c2':(tt.2==0)=false:=by simp[c2]
     clear qk c2;go_wp2_with fail;refine cp.mono ?_;rintro e w6 ⟨rfl,rfl⟩;clear cp;go_wp2_with fail;exact cL rfl rfl ⟨rfl,by rw[gw.out];exact gh.out⟩
   ·rw[if_neg (fun hh=>c1 hh.1)]at gw;replace gw:=zH gw;clear qk;go_wp2_with fail;refine cp.mono ?_;rintro e w6 ⟨rfl,rfl⟩;clear cp;go_wp2_with fail;exact cL rfl rfl ⟨rfl,by rw[gw.out];exact gh.out⟩
end
section
variable {aa:Nat->Nat}{c q g i n d:Nat}{w w':World}{R:Rf}{v:Aw}{A:Option Addr}{zs:List (Value×En)}{t t':bD}
def nS(aa:Nat->Nat)(q:Nat)(w:World)(j:Nat):Prop:=aa j=q/\j<w.heap.size
theorem nS.label{i:Nat}:∀j,j<w'.heap.size->nS aa q w j->aM (aj aa w.heap.size i) q j:=fun _ _ h=>(ac h.2).trans h.1
theorem sO(hT:cG (aM aa q) w g t A n d zs)(hl:∀j,(j=g\/aA A j)->aa j=i)(hP:fN (nS aa q w) w g A t' w') :
  Au (aj aa w.heap.size i) i q w' (.pointer (some ⟨g,0,none⟩)) t'/\Fr (aM aa i) w w':=by
 obtain⟨A',n',d',zs',h1,h2,h3⟩:=hP;refine⟨⟨g,A',n',d',zs',rfl,h1.mono nS.label,fun j hj=>?_⟩,h3.mono fun j e=>hl j (.inl e)⟩;rcases hj with rfl|hj
 ·exact(ac hT.b.lt).trans (hl _ (.inl rfl))
 ·rcases h2 j hj with h|h
  ·exact(ac (hT.rowlt j h)).trans (hl j (.inr h))
  ·exact az h
theorem aK.track(ha:aN c q)(h:aK aa c q w g R v)(hT:Au (aj aa w.heap.size (c+2)) (c+2) q w' v.trk t')(hF:Fr (aM aa (c+2)) w w') :
  aK (aj aa w.heap.size (c+2)) c q w' g {R with track:=t'} v/\Fr (aX aa c) w w':=by
 have hs:ao w' g 122 (bu {R with track:=t'} v):=(hF.other (k:=c+1) (by omega) g h.sl h.s.lt).trans h.s;have dC:Fr (fun j=>j=g\/∃i,i∈[2]/\aa j=c+i) w w':=hF.mono fun j e=>.inr ⟨2,by simp,e⟩
 have hX:∀i∈[2],1<i/\i<=9:=by simp
 exact⟨h.turn [2] ha hs (fun j hj=>ac hj) hX dC (.inl hT) tI tI tI (.inr ⟨rfl,rfl⟩) (.inr ⟨rfl,rfl⟩) tI tI (.inr ⟨rfl,rfl⟩) tI tI,gu h hX dC⟩
def nm(aa:Nat->Nat)(c q:Nat)(w:World)(g:Nat)(R':Rf)(v:Aw)(w':World)(vy:Value)(fs:List Fa):Prop:=
 ∃ak:Nat->Nat,aK ak c q w' g R' v/\(∀j,j<w.heap.size->ak j=aa j)/\Fr (aX aa c) w w'/\aG (aM ak q) w' vy fs
theorem qt(tm:Int)(x:En)(V:Option Addr)(m k:Nat)(ha:aN c q)(h:aK aa c q w g R v)(hN:R.track.L.length<=1000000)(hf:aG (aM aa q) w (.slice V m k) x.facts)(hm:m<=maxLen) :
  Calls prog 69 #[v.trk,.int .i64 tm,.agg #[.int .i64 x.op,.int .i64 x.sess,.int .i64 x.seq,.slice V m k]] w fun e w'=>∃A1 n1 c1,e=.returned (.tuple #[.agg #[.int .i64 (R.track.putF tm x).1.1.idx,.int .i64 (R.track.putF tm x).1.1.term,.int .i64 (R.track.putF tm x).1.1.op,.int .i64 (R.track.putF tm x).1.1.sess,.int .i64 (R.track.putF tm x).1.1.seq,.slice A1 n1 c1],.int .i64 (R.track.putF tm x).1.2])/\
   nm aa c q w g {R with track:=(R.track.putF tm x).2} v w' (.slice A1 n1 c1) (R.track.putF tm x).1.1.facts:=by
 obtain⟨gt,A,n,d,zs,hv,hT,hl⟩:=id h.t;rw[hv];have hS:∀j,nS aa q w j->j<w.heap.size/\j≠gt:=fun j hj=>⟨hj.2,fun e=>by
  have h1:=hl gt (.inl rfl);have h2:=hj.1;rw[e,h1]at h2;unfold aN at ha;omega⟩
 refine(Ib tm x V m k (hT.mono (S':=nS aa q w) fun j hj e=>⟨e,hj⟩) (by have:=hT.len.1;omega) (hf.mono fun j hj e=>⟨e,hj⟩) hm hS).mono ?_;rintro e w' ⟨vy,rfl,SP,hP⟩;obtain⟨A1,n1,c1,rfl,_⟩:=SP.form;obtain⟨q1,q2⟩:=sO hT hl hP;rw[<-hv]at q1;obtain⟨h1,h2⟩:=h.track ha q1 q2;exact⟨A1,n1,c1,rfl,_,h1,fun j hj=>ac hj,h2,SP.mono nS.label⟩
def no(aa:Nat->Nat)(c q:Nat)(w:World)(g:Nat)(R':Rf)(v:Aw)(w':World):Prop:=
 ∃ak:Nat->Nat,aK ak c q w' g R' v/\(∀j,j<w.heap.size->ak j=aa j)/\Fr (aX aa c) w w'
theorem no.post{R':Rf}(h:no aa c q w g R' v w'):au aa c q w g R' w':=by
 obtain⟨ak,h1,h2,h3⟩:=h;exact⟨ak,v,h1,h2,h3⟩
theorem Di(k:Int)(ha:aN c q)(h:aK aa c q w g R v)(hN:R.track.L.length<=1000000) :
  Calls prog 128 #[v.trk,.int .i64 k] w fun e w'=>e=.returned (.int .i64 (R.track.dropF k).1)/\no aa c q w g {R with track:=(R.track.dropF k).2} v w':=by
 obtain⟨gt,A,n,d,zs,hv,hT,hl⟩:=id h.t;rw[hv];have hS:∀j,nS aa q w j->j≠gt:=fun j hj e=>by
  have h1:=hl gt (.inl rfl);have h2:=hj.1;rw[e,h1]at h2;unfold aN at ha;omega
 refine(Er k (hT.mono (S':=nS aa q w) fun j hj e=>⟨e,hj⟩) (by have:=hT.len.1;omega) hS).mono ?_;rintro e w' ⟨rfl,hP⟩;obtain⟨q1,q2⟩:=sO hT hl hP;rw[<-hv]at q1;obtain⟨h1,h2⟩:=h.track ha q1 q2;exact⟨rfl,_,h1,fun j hj=>ac hj,h2⟩
theorem tY(idx tm:Int)(A2:Option Addr)(m c2:Nat)(ys:List (Value×En))(ha:aN c q)(h:aK aa c q w g R v)(hN:R.track.L.length<=1000000)(hr:ff w A2 m ys)(hd:bo (aM aa q) w ys)
  (hm:m<=100000) (yH:m<=c2) (Qi:c2<=maxLen) (xe:0<m->∀j,aA A2 j->aa j≠c+2) :
  Calls prog 46 #[v.trk,.int .i64 idx,.int .i64 tm,.slice A2 m c2] w fun e w'=>
   e=.returned (.tuple #[.int .i64 (R.track.takeF idx tm (ys.map (·.2))).1.1,.bool (R.track.takeF idx tm (ys.map (·.2))).1.2])/\no aa c q w g {R with track:=(R.track.takeF idx tm (ys.map (·.2))).2} v w':=by
 obtain⟨gt,A,n,d,zs,hv,hT,hl⟩:=id h.t;rw[hv];have hS:∀j,nS aa q w j->j≠gt:=fun j hj e=>by
  have h1:=hl gt (.inl rfl);have h2:=hj.1;rw[e,h1]at h2;unfold aN at ha;omega
 refine(EA idx tm A2 m c2 ys (hT.mono (S':=nS aa q w) fun j hj e=>⟨e,hj⟩) (by have:=hT.len.1;omega) hr (hd.mono fun j hj e=>⟨e,hj⟩) hm yH Qi hS fun h0 j hj e=>xe h0 j hj (by rw[e];exact hl gt (.inl rfl))).mono ?_;rintro e w' ⟨rfl,hP⟩;obtain⟨q1,q2⟩:=sO hT hl hP;rw[<-hv]at q1;obtain⟨h1,h2⟩:=h.track ha q1 q2;exact⟨rfl,_,h1,fun j hj=>ac hj,h2⟩
end
section
variable {aa ag:Nat->Nat}{c q g p:Nat}{w w' w1 w2 wX:World}{R R' R2:Rf}{v:Aw}{vy:Value}{fs:List Fa}{x:En}{cs:Array Value}
def ev(aa:Nat->Nat)(c q:Nat)(w:World)(g:Nat)(R':Rf)(w':World)(p:Nat)(vy:Value)(fs:List Fa)(cs:Array Value):Prop:=
 ∃(ak:Nat->Nat) (v':Aw),aK ak c q w' g R' v'/\(∀j,j<w.heap.size->ak j=aa j)/\Fr (aX aa c) w w'/\aG (aM ak q) w' vy fs/\ao w' p 59 cs/\¬dv ak c q p/\w.heap.size<=p
theorem nm.boxed(cs:Array Value)(h:nm aa c q w g R' v w' vy fs)(_ha:aN c q):ev aa c q w g R' (w'.alloc (.cells cs 59)) w'.heap.size vy fs cs:=by
 obtain⟨ak,h1,h2,h3,h4⟩:=h;have hb:Below w'.heap.size w' (w'.alloc (.cells cs 59)):=(Below.refl w'.heap.size w').alloc zl _;have hs:=h3.size;refine⟨aj ak w'.heap.size (q+c+10),v,h1.fresh _ hb,fun j hj=>(ac (by omega)).trans (h2 j hj),h3.trans (Fr.of_below (X:=aX aa c) hb) fun j hj=>.inl hj,?_,ao.new _ _ _,?_,hs⟩
 ·exact(h4.mono fun j hj e=>(ac hj).trans e).keep (bA.below hb)
 ·unfold dv;rw[az zl];omega
theorem nm.box(h:nm (aj aa w.heap.size (q+c+10)) c q (w.alloc (.cells cs 59)) g R' v w' vy fs):ev aa c q w g R' w' w.heap.size vy fs cs:=by
 obtain⟨ak,h1,h2,h3,h4⟩:=h;have hb:Below w.heap.size w (w.alloc (.cells cs 59)):=(Below.refl w.heap.size w).alloc zl _;have hk:=ao.new w 59 cs;have hl:=hk.lt;have e1:ak w.heap.size=q+c+10:=(h2 _ hl).trans (az zl);refine⟨ak,v,h1,fun j hj=>(h2 j (by omega)).trans (ac hj),(Fr.of_below (X:=aX aa c) hb).trans h3 fun j hj=>fE (fun _ hj=>ac hj) hj,h4,(h3.block _ hl ?_).trans hk,?_,Nat.le_refl _⟩
 ·unfold aX;rw[az zl];omega
 ·unfold dv;rw[e1];omega
theorem ev.set(x:En)(h:ev aa c q w g R' w' p vy fs cs)(hc:cs.size=6):ev aa c q w g R' (set6 w' p (vy,x)) p vy fs (cl (vy,x)).toArray:=by
 obtain⟨ak,v',h1,h2,h3,h4,h5,h6,h7⟩:=h;have hF:=Fr.set6 w' p (vy,x);refine⟨ak,v',h1.keep fun j hj hl=>hF.block j hl fun e=>h6 (e▸hj),h2,h3.trans hF fun j e=>.inr (by omega),h4.keep (hF.stay fun j hj _ e=>h6 ?_),(eT (vy,x) h5 hc).1,h6,h7⟩;rw[<-e];exact .inr hj
theorem ev.post(h:ev aa c q w g R' w' p vy fs cs):au aa c q w g R' w':=by
 obtain⟨ak,v',h1,h2,h3,h4,h5,h6,h7⟩:=h;exact⟨ak,v',h1,h2,h3⟩
theorem ev.blk(h:ev aa c q w g R' w' p vy fs cs):ao w' p 59 cs/\p≠g/\w.heap.size<=p:=by
 obtain⟨ak,v',h1,h2,h3,h4,h5,h6,h7⟩:=h;refine⟨h5,fun e=>h6 ?_,h7⟩;rw[e];have:=h1.sl;exact .inl ⟨by omega,by omega⟩
theorem ev.open_(ha:aN c q)(h:ev aa c q w g R' w' p vy fs cs):∃ag v1,aK ag c q w' g R' v1/\aG (aM ag q) w' vy fs/\¬aX ag c p/\∀R2 w2,au ag c q w' g R2 w2->ev aa c q w g R2 w2 p vy fs cs:=by
 obtain⟨ak,v',h1,h2,h3,h4,h5,h6,h7⟩:=h;have ho:¬aX ak c p:=fun hh=>h6 (.inl hh)
 refine⟨ak,v',h1,h4,ho,fun R2 w2 hP=>?_⟩;obtain⟨bs,v2,r1,r2,r3⟩:=hP;have hs:=h3.size;have hn:∀j,j<w'.heap.size->(dv bs c q j↔dv ak c q j):=fun j hj=>by unfold dv;rw[r2 j hj]
 refine⟨bs,v2,r1,fun j hj=>(r2 j (by omega)).trans (h2 j hj),h3.trans r3 fun j hj=>fE h2 hj,?_,(r3.block p h5.lt ho).trans h5,fun hh=>h6 ((hn p h5.lt).1 hh),h7⟩;exact(h4.mono (S':=aM bs q) fun j hj e=>(r2 j hj).trans e).keep fun j hj hl=>r3.block j hl fun hh=>by
  have hj:bs j=q:=hj;rw[r2 j hl]at hj;unfold aX at hh;unfold aN at ha;omega
theorem ev.act{f:Nat}{args:Array Value}{E:Ending}(ha:aN c q)(h:ev aa c q w g R' w' p vy fs cs)(hc:∀ag v1,aK ag c q w' g R' v1->Calls prog f args w' fun e w2=>e=E/\au ag c q w' g R2 w2) :
  Calls prog f args w' fun e w2=>e=E/\ev aa c q w g R2 w2 p vy fs cs:=by
 obtain⟨ag,v1,h1,_,_,h2⟩:=h.open_ ha;exact(hc ag v1 h1).mono fun e w2 r=>⟨r.1,h2 R2 w2 r.2⟩
theorem ev.next(h:ev ag c q w1 g R' w' p vy fs cs)(hl:∀j,j<w.heap.size->ag j=aa j)(hF:Fr (aX aa c) w w1):ev aa c q w g R' w' p vy fs cs:=by
 obtain⟨ak,v',h1,h2,h3,h4,h5,h6,h7⟩:=h;have hs:=hF.size;exact⟨ak,v',h1,fun j hj=>(h2 j (by omega)).trans (hl j hj),hF.trans h3 fun j hj=>fE hl hj,h4,h5,h6,by omega⟩
theorem vz(ha:aN c q)(h:aK aa c q w g R v)(hf:aG (aM aa q) w vy x.facts):∃A d zs,v.ent=.slice A R.out.entries.length d/\
  ((w.alloc (.cells (cl (vy,x)).toArray 59)).drew).ownsRow 0 59 6 (.slice A R.out.entries.length d) R.out.entries.length (zs.flatMap cl)/\ff ((w.alloc (.cells (cl (vy,x)).toArray 59)).drew) (some ⟨w.heap.size,0,none⟩) 1 [(vy,x)]/\Below w.heap.size w ((w.alloc (.cells (cl (vy,x)).toArray 59)).drew)/\
  (∀z∈[(vy,x)],z.1.oneCell'=true)/\∀A3 c3 w3,w3.ownsRow 0 59 6 (.slice A3 (R.out.entries.length+1) c3) (R.out.entries.length+1) ((zs++[(vy,x)]).flatMap cl)->Fr (aA A) ((w.alloc (.cells (cl (vy,x)).toArray 59)).drew) w3->(∀j,aA A3 j->aA A j\/((w.alloc (.cells (cl (vy,x)).toArray 59)).drew).heap.size<=j)->
   ao w3 g 122 (bu R v)/\au aa c q w g {R with out:={R.out with entries:=R.out.entries++[x]}} (w3.setCell ⟨g,26,none⟩ (.slice A3 (R.out.entries.length+1) c3))/\∀j,j<w.heap.size->¬aX aa c j->w3.heap[j]?=w.heap[j]?:=by
 have hb:Below w.heap.size w ((w.alloc (.cells (cl (vy,x)).toArray 59)).drew):=((Below.refl w.heap.size w).alloc zl _).drew;have h1:=h.fresh (q+c+10) hb;obtain⟨A,d,zs,pL,uz,bS,xl,tn⟩:=h1.e.row;have hr:ff ((w.alloc (.cells (cl (vy,x)).toArray 59)).drew) (some ⟨w.heap.size,0,none⟩) 1 [(vy,x)]:=ff.one (ao.new w _ _);have hd:bo (aM (aj aa w.heap.size (q+c+10)) q) ((w.alloc (.cells (cl (vy,x)).toArray 59)).drew) [(vy,x)]:=fun z hz=>by
  rw[List.mem_singleton.1 hz];exact(hf.mono (S':=aM (aj aa w.heap.size (q+c+10)) q) fun j hj e=>(ac hj).trans e).keep (bA.below hb)
 refine⟨A,d,zs,pL,bS,hr,hb,hd.one,fun A3 c3 w3 ho hF GX=>?_⟩;obtain⟨h6,kV,nd⟩:=FR ha h1 uz rfl xl tn hd (L':=[x]) rfl (m:=1) rfl ho hF GX;refine⟨nd,(au.fresh (q+c+10) ⟨_,_,h6,fun j hj=>ac hj,kV⟩ hb),fun j hj hn=>(hF.block j (Nat.lt_of_lt_of_le hj hb.size) fun hh=>hn ?_).trans (hb.block j hj)⟩;obtain⟨A0,d0,e0,_,j3⟩:=uz;injection e0 with e1 _ _;subst e1;have:=j3 j hh;rw[ac hj]at this;exact⟨by omega,by omega⟩
end
theorem AP:(prog.info? 171).map (fun i=>(i.zero,i.size,i.bytes))=some (some (.agg #[.int .i64 0,.int .i64 0,.int .i64 0,.int .i64 0]),4,32):=by kernel_rfl
theorem px{w:World}{ops:Array Oper}{rest:List Oper}{o:Oper}{a:Act}{Q:Exit->Act->World->Prop}(lq:o.guard=none)(s x:Operand)
  (ho:o.op=.call {callee:=.builtin .append,args:=#[s,x],argTypes:=#[117,117]})
  (base:Nat) {A:Option Addr} {n c:Nat} {l:List Pr} (hs:a.eval s=.slice A n c) (aB:w.ownsRow base 171 4 (.slice A n c) n (l.flatMap mW))
  {B:Option Addr} {m d:Nat} {r:List Pr} (hx:a.eval x=.slice B m d) (hr:cn w 4 B m (r.flatMap mW)) (hb:n+m<=1000000000) (bE:base<=w.heap.size)
  (h:∀A' c' w',w'.ownsRow base 171 4 (.slice A' (n+m) c') (n+m) ((l++r).flatMap mW)->Fr (aA A) w w'->(∀j,aA A' j->aA A j\/w.heap.size<=j)->wpList prog ops Q rest (a.put o.dst (.slice A' (n+m) c')) w'):wpList prog ops Q (o::rest) a w:=by
 obtain⟨i0,iF,jT,iW,gC⟩:=info_parts AP;refine bg w lq s x 117 ho base 171 i0 _ 4 32 underlying117 iF jT iW gC rfl (by omega) (.slice A n c) n _ hs aB B m d _ hx hr (fun u hu=>?_) (by unfold maxLen;omega) (by omega) bE fun A' c' w' h3 h4 h5=>?_
 ·obtain⟨z,_,hz⟩:=List.mem_flatMap.1 hu;unfold mW at hz;simp only[List.mem_cons,List.not_mem_nil,or_false]at hz;rcases hz with rfl|rfl|rfl|rfl <;> rfl
 ·rw[<-List.flatMap_append]at h3;exact h A' c' w' h3 (Fr.grown h4) (iA h5)
theorem RdP.one{w:World}{g:Nat}{a b c d:Int}(hg:ao w g 171 #[.int .i64 a,.int .i64 b,.int .i64 c,.int .i64 d]):cn w 4 (some ⟨g,0,none⟩) 1 ([(⟨a,b,c,d⟩:Pr)].flatMap mW):=
 ⟨rfl,fun _=>⟨_,rfl,fun j y hy=>by
  have e:(⟨g,0,none⟩:Addr).add j=⟨g,j,none⟩:=by unfold Addr.add;split <;> simp[*]
  rw[e,hg.cell j,<-hy];simp[mW,vi]⟩⟩
def gR(R:Rf)(k:Nat):Rf:={R with role:=3,leader:=R.id,clock:=0,peers:=List.replicate k ⟨R.track.lastF.1+1,0,0,0⟩}
def vw(R:Rf):Rf:={gR R (R.n+1)with waits:=[]}
def za(R:Rf)(pf:(En×Int)×bD):Rf:={vw R with track:=pf.2}
theorem D7{R:Rf}{pf:(En×Int)×bD}(h:R.track.putF R.hard.term gc=pf):R.leads1=if pf.1.2=0 then {(za R pf).save [pf.1.1]with round:=1}else {za R pf with round:=1}:=by
 have e:R.crown.track.putF R.crown.hard.term gc=pf:=h;unfold Rf.leads1;simp only[e];split <;> rfl
section
variable {aa:Nat->Nat}{c q g:Nat}{w:World}{R:Rf}{v:Aw}
theorem qZ{K M:Nat}(ha:aN c q)(h:aK aa c q w g R v)(hk:Ok K M R)(cQ:1<=K)(hK:K<=80000)(hM:M<=60000)(hi:R.track.index<=R.commit) :
  Calls prog 116 #[.pointer (some ⟨g,0,none⟩)] w fun e w'=>e=.returned (.tuple #[])/\au aa c q w g R.leads w':=by
 have cW:=h.s.lt;have pI:=hk.id.2.2;have cx:=hk.trk;obtain⟨c0,c1,c4,-⟩:=h.s.cs [0,1,4];simp only[bu,vi,Zx]at c0 c1 c4;have bH:=jF h.t (by omega);have dJ:=h.t.inv;have oe:=dJ.last;have uy:=dJ.room;have lS:=dJ.b;obtain⟨l1,cD⟩:∃l,R.track.lastF.1=l:=⟨_,rfl⟩;rw[cD]at bH oe;have DP:0<=l1/\l1<=1099511627776:=by omega
 have hH:=zH h;replace cD:=zH cD;replace hk:=zH hk;clear h dJ oe uy lS;go_enter func116,ntmps116;go_wp2_with fail;refine bH.mono ?_;rintro e w1 ⟨rfl,br⟩;clear bH c0 c1 c4;have h1:=hH.out.fresh (q+c+10) br;obtain⟨e0,e9,e10,e11,e14,-⟩:=h1.s.cs [0,9,10,11,14];simp only[bu,vi,Zx]at e0 e9 e10 e11 e14;obtain⟨f9,f10,f11,f14,-⟩:=h1.s.fs [9,10,11,14];have iM:=h1.s.lt;obtain⟨w2,cZ⟩:=zN ((((w1.setCell ⟨g,9,none⟩ (.int .i64 3)).setCell ⟨g,10,none⟩ (.int .i64 R.id)).setCell ⟨g,11,none⟩ (.int .i64 0)).setCell ⟨g,14,none⟩ (.slice none 0 0));have dC:Fr (fun j=>j=g) w1 w2:=by rw[<-cZ];exact(((Fr.set g 9 _).trans (Fr.set g 10 _) fun _ h=>.inl h).trans (Fr.set g 11 _) fun _ h=>.inl h).trans (Fr.set g 14 _) fun _ h=>.inl h
 have ki:ao w2 g 122 (bu (gR R 0) {v with peers:=.slice none 0 0}):=by
  rw[<-cZ];have s:=(((h1.s.set_ 9 (.int .i64 3)).set_ 10 (.int .i64 R.id)).set_ 11 (.int .i64 0)).set_ 14 (.slice none 0 0);simp only[bu,Zy]at s;exact s
 have CB:au aa c q w g (gR R 0) w2:=by
  refine au.fresh (q+c+10) (w1:=w1) ?_ br;have tz:Fr (fun j=>j=g\/∃i,i∈[4]/\aj aa w.heap.size (q+c+10) j=c+i) w1 w2:=dC.mono fun j e=>.inl e
  have hX:∀i∈[4],1<i/\i<=9:=by simp
  exact⟨_,_,h1.turn [4] ha ki (fun j hj=>rfl) hX tz tI tI (.inl (bR.nil _ _ _ _ _)) tI (.inr ⟨rfl,rfl⟩) (.inr ⟨rfl,rfl⟩) tI tI (.inr ⟨rfl,rfl⟩) tI tI,fun j hj=>rfl,gu h1 hX tz⟩
 replace cZ:=zH cZ;clear h1 dC ki;go_wp2_with fail;rw[cZ.out];try go_wp2_with fail
 go_loopw [4] (fun i wr=>∃k:Nat,k<=R.n+1/\i=.int .i64 k/\au aa c q w g (gR R k) wr) (fun i _=>R.n+1-(intOf i).toNat)
 case atStart=>exact⟨0,Nat.zero_le _,rfl,CB⟩
 case round=>
  clear CB;obtain⟨k,CH,rfl,ag,v1,h1,rA,ir⟩:=hrel;have c1:=h1.s.cell 1;simp only[bu,vi,Zx]at c1;have OK:(gR R k).n=R.n:=rfl;rw[OK]at c1;have iM:=h1.s.lt;by_cases aU:k<R.n+1
  ·have fd:(k:Int)<=R.n:=by omega
   have aO:=zH (show R.n+1-(k+1)<R.n+1-k by omega);have aI:Below wr.heap.size wr (wr.alloc (.cells #[.int .i64 (l1+1),.int .i64 0,.int .i64 0,.int .i64 0] 171)):=zb.alloc zl _;have gp:=RdP.one (ao.new wr 171 #[.int .i64 (l1+1),.int .i64 0,.int .i64 0,.int .i64 0]);have h2:=h1.fresh (q+c+10) aI;obtain⟨A,d,fG,bS,hl⟩:=id h2.p;have nA:(gR R k).peers.length=k:=List.length_replicate;rw[nA]at fG bS;have c14:wr.cell? ⟨g,14,none⟩=some (.slice A k d):=by
    have:=h1.s.cell 14;simp only[bu,Zx]at this;rw[this,fG]
   have fw:k+1<=1000000000:=by omega
   have aE:∀(A3:Option Addr) (c3:Nat) (w3:World),w3.ownsRow 0 171 4 (.slice A3 (k+1) c3) (k+1) (((gR R k).peers++[(⟨l1+1,0,0,0⟩:Pr)]).flatMap mW)->Fr (aA A) (wr.alloc (.cells #[.int .i64 (l1+1),.int .i64 0,.int .i64 0,.int .i64 0] 171)) w3->(∀j,aA A3 j->aA A j\/(wr.alloc (.cells #[.int .i64 (l1+1),.int .i64 0,.int .i64 0,.int .i64 0] 171)).heap.size<=j)->
     ao w3 g 122 (bu (gR R k) v1)/\au aa c q w g (gR R (k+1)) (w3.setCell ⟨g,14,none⟩ (.slice A3 (k+1) c3)):=fun A3 c3 w3 ho hF hr=>by
    have hy:=h2.p;rw[fG,nA]at hy;obtain⟨g1,g2⟩:=oD hy ho hF hr;have e:(gR R k).peers++[(⟨l1+1,0,0,0⟩:Pr)]=(gR R (k+1)).peers:=by
     show List.replicate k _++_=List.replicate (k+1) _;rw[cD.out,List.replicate_succ']
    rw[e]at g1;have e2:(gR R (k+1)).peers.length=k+1:=List.length_replicate;obtain⟨h3,h4,h5⟩:=h2.setPeers ha g2 (by rw[e2];exact g1);exact⟨h5,((au.fresh (q+c+10) (w1:=wr.alloc (.cells #[.int .i64 (l1+1),.int .i64 0,.int .i64 0,.int .i64 0] 171)) ⟨_,_,h3,fun j hj=>ac hj,h4⟩ aI).next rA ir)⟩
   clear h1 h2 hl;go_wp2_with (at_builtin;refine px rfl (.tmp 43) (.tmp 47) rfl 0 rfl bS rfl gp fw zz ?_;intro A3 c3 w3 cH dk hrw3;obtain⟨iE,kW⟩:=aE A3 c3 w3 cH dk hrw3;replace kW:=zH kW;have x14:=iE.cell 14;have y14:=iE.free 14;simp only[bu,vi,Zx]at x14;clear aE cH dk hrw3 bS);exact⟨⟨k+1,aU,by go_num,kW.out⟩,by simp[intOf];have:=aO.out;omega⟩
  ·obtain rfl:k=R.n+1:=by omega
   have kI:¬((R.n+1:Nat):Int)<=R.n:=by omega
   have h2:=h1.s.set_ 16 (.slice none 0 0);have x16:=h1.s.free 16;have z16:∃u,wr.cell? ⟨g,16,none⟩=some u:=⟨_,h1.s.cell 16⟩;simp only[bu,Zy]at h2;obtain⟨A5,d5,LE,_⟩:=id h1.x;have c16:wr.cell? ⟨g,16,none⟩=some (.slice A5 (gR R (R.n+1)).waits.length d5):=by
    have:=h1.s.cell 16;simp only[bu,Zx]at this;rw[this,LE]
   obtain⟨w4,fV⟩:=zN (wr.setCell ⟨g,16,none⟩ (.slice none 0 0));have jw:Fr (fun j=>j=g) wr w4:=by rw[<-fV];exact Fr.set g 16 _
   rw[fV]at h2;have F2:Fr (fun j=>j=g\/∃i,i∈[5]/\ag j=c+i) wr w4:=jw.mono fun j e=>.inl e
   have hX:∀i∈[5],1<i/\i<=9:=by simp
   have h4:aK ag c q w4 g (vw R) {v1 with waits:=.slice none 0 0}:=h1.turn [5] ha h2 (fun j hj=>rfl) hX F2 tI tI tI (.inl (bR.nil _ _ _ _ _)) (.inr ⟨rfl,rfl⟩) (.inr ⟨rfl,rfl⟩) tI tI (.inr ⟨rfl,rfl⟩) tI tI;have Pz:Fr (aX aa c) w w4:=ir.trans (gu h1 hX F2) fun j hj=>fE rA hj
   generalize bW:({v1 with waits:=.slice none 0 0}:Aw)=v4 at h4;obtain⟨pf,jq⟩:=zN (R.track.putF R.hard.term gc);have jZ:Below w4.drew.heap.size w4.drew (w4.drew.alloc (.cells #[.int .i64 0,.int .i64 0,.int .i64 0,.int .i64 0,.int .i64 0,.slice none 0 0] 59)):=zb.alloc zl _;have ey:=qt R.hard.term gc none 0 0 ha (h4.below (w':=w4.drew) (zb.drew)) (by show R.track.L.length<=_;omega) (aG.nil _ _) zz;have ez:=qt R.hard.term gc none 0 0 ha ((h4.below (w':=w4.drew) (zb.drew)).fresh (q+c+10) jZ) (by show R.track.L.length<=_;omega) (aG.nil _ _) zz;have Xk:(vw R).track=R.track:=rfl;rw[Xk,jq]at ey ez;have AB:({vw R with track:=pf.2}:Rf)=za R pf:=rfl;rw[AB]at ey ez;simp only[gc]at ey ez;obtain⟨gt,iV,AK,qq,rI⟩:=h4.trk_at;rw[iV]at ey ez;obtain⟨d2,d4,-⟩:=h4.s.cs [2,4];simp only[bu,vi,Zx]at d2 d4;rw[iV]at d4;obtain⟨k2,k4⟩:=pU [g] d2 d4;have Xo:=h4.s.lt;have qF:w4.heap[g]?=some (.cells (bu (za R pf) v4) 122 (0,0)):=h4.s;have cu:∀wx p vy cs,ev ag c q w4.drew g (za R pf) wx p vy pf.1.1.facts cs->ev aa c q w g (za R pf) wx p vy pf.1.1.facts cs:=fun wx p vy cs hM=>hM.next rA (Pz.trans (Fr.of_below (X:=aX aa c) (zb.drew)) fun _ h=>.inl h)
   replace fV:=zH fV;replace jq:=zH jq;replace bW:=zH bW;clear h1 h2 h4 Xk AB z16;go_wp2_with fail;rw[fV.out];try go_wp2_with fail
   go_cut [5,6] (fun s5 s6 wr=>∃p A1 n1 c1,s5=.pointer (some ⟨p,0,none⟩)/\s6=.int .i64 pf.1.2/\ev aa c q w g (za R pf) wr p (.slice A1 n1 c1) pf.1.1.facts (cl (.slice A1 n1 c1,pf.1.1)).toArray)
   case first=>
    refine Sq [g] w4 (.two [0,1,2,3,4,5,6,7,8,9] 10 14 (.one [11,12,13] 14 (.one [] 15 (.last [16]))) (.one [] 10 (.one [11,12,13] 15 (.last [16])))) ?_;refine ie fun K1 K2 cQ iu=>?_
    simp only[ah,Zx];repeat go_big_quiet_step(fail)
    apply wpQuiet_nil;constructor
    ·go_wp2_with fail;refine ey.mono ?_;rintro e w5 ⟨A1,n1,c1,rfl,hT⟩;go_wp2_with fail;have jl:w5.heap[g]?=w4.heap[g]?:=by obtain⟨dU,h5,_⟩:=id hT;exact h5.s.trans qF.symm
     refine⟨cy jl,cQ _ _ ?_⟩;clear ey ez;refine bF fun K3 jY=>?_
     simp only[ah,Zx];repeat go_big_quiet_step(fail)
     apply wpQuiet_nil;go_wp2_with fail;have hM:=hT.boxed #[.int .i64 0,.int .i64 0,.int .i64 0,.int .i64 0,.int .i64 0,.slice none 0 0] ha;have ln:(w5.alloc (.cells #[.int .i64 0,.int .i64 0,.int .i64 0,.int .i64 0,.int .i64 0,.slice none 0 0] 59)).heap[g]?=w4.heap[g]?:=by
      have MF:Below w5.heap.size w5 (w5.alloc (.cells #[.int .i64 0,.int .i64 0,.int .i64 0,.int .i64 0,.int .i64 0,.slice none 0 0] 59)):=zb.alloc zl _;exact(MF.block _ (aV (jl.trans qF))).trans jl
     generalize Fl:w5.alloc (.cells #[.int .i64 0,.int .i64 0,.int .i64 0,.int .i64 0,.int .i64 0,.slice none 0 0] 59)=w6 at *;generalize uw:w5.heap.size=p at *;refine⟨cy ln,jY _ _ ?_⟩;refine bF fun K4 ro=>?_
     simp only[ah,Zx];apply wpQuiet_nil;obtain⟨fP,rG,_⟩:=hM.blk;obtain⟨z0,z1,z2,z3,z4,z5,-⟩:=fP.cs [0,1,2,3,4,5];simp only[Zx]at z0 z1 z2 z3 z4 z5;obtain⟨f0,f1,f2,f3,f4,f5,-⟩:=fP.fs [0,1,2,3,4,5];have fh:=Fr.set6 w6 p (.slice A1 n1 c1,pf.1.1);have uj:(set6 w6 p (.slice A1 n1 c1,pf.1.1)).heap[g]?=w4.heap[g]?:=(fh.block g (aV (ln.trans qF)) fun e=>rG e.symm).trans ln;have nY:=hM.set pf.1.1 rfl;go_wp2_with fail;refine⟨cy uj,ro _ _ ?_⟩;show eD _ _ _ _ _ _ (set6 w6 p (.slice A1 n1 c1,pf.1.1));have aE:=zH (cu _ _ _ _ nY);generalize set6 w6 p (.slice A1 n1 c1,pf.1.1)=w7 at *;clear hM nY fP z0 z1 z2 z3 z4 z5 f0 f1 f2 f3 f4 f5 fh hT cu;refine dx ?_;simp only[ah,Zx];repeat go_big_quiet_step(fail)
     apply wpQuiet_nil;go_wp2_with fail
     go_meet
     exact⟨p,A1,n1,c1,rfl,rfl,aE.out⟩
    ·go_wp2_with fail;refine⟨cy (jZ.block g Xo),iu _ _ ?_⟩;refine bF fun K3 jY=>?_
     simp only[ah,Zx];apply wpQuiet_nil;go_wp2_with fail;refine ez.mono ?_;rintro e w6 ⟨A1,n1,c1,rfl,hT⟩;go_wp2_with fail;have ln:w6.heap[g]?=w4.heap[g]?:=by obtain⟨dU,h5,_⟩:=id hT;exact h5.s.trans qF.symm
     have hM:=hT.box;have DV:w4.drew.heap.size=w4.heap.size:=rfl;rw[DV]at hM;refine⟨cy ln,jY _ _ ?_⟩;clear ey ez;refine bF fun K4x Bl=>?_
     simp only[ah,Zx];repeat go_big_quiet_step(fail)
     apply wpQuiet_nil;obtain⟨fP,rG,_⟩:=hM.blk;generalize w4.heap.size=p at *;obtain⟨z0,z1,z2,z3,z4,z5,-⟩:=fP.cs [0,1,2,3,4,5];simp only[Zx]at z0 z1 z2 z3 z4 z5;obtain⟨f0,f1,f2,f3,f4,f5,-⟩:=fP.fs [0,1,2,3,4,5];have fh:=Fr.set6 w6 p (.slice A1 n1 c1,pf.1.1);have uj:(set6 w6 p (.slice A1 n1 c1,pf.1.1)).heap[g]?=w4.heap[g]?:=(fh.block g (aV (ln.trans qF)) fun e=>rG e.symm).trans ln;have nY:=hM.set pf.1.1 rfl;go_wp2_with fail;refine⟨cy uj,Bl _ _ ?_⟩;show eD _ _ _ _ _ _ (set6 w6 p (.slice A1 n1 c1,pf.1.1));have aE:=zH (cu _ _ _ _ nY);generalize set6 w6 p (.slice A1 n1 c1,pf.1.1)=w7 at *;clear hM nY fP z0 z1 z2 z3 z4 z5 f0 f1 f2 f3 f4 f5 fh hT cu;refine dx ?_;simp only[ah,Zx];repeat go_big_quiet_step(fail)
     apply wpQuiet_nil;go_wp2_with fail
     go_meet
     exact⟨p,A1,n1,c1,rfl,rfl,aE.out⟩
   case rest=>
    obtain⟨p,A1,n1,c1,NB,nd,rp⟩:=hcut;subst NB;subst nd
    rename World=>wc
    clear ey ez jZ cu d2 d4 k2 k4 qF Pz jw F2 c16 x16;have M5:R.leads=R.leads1.all.agrees:=rfl;have iR:=D7 jq.out;have rD:Ok (K+1) (M+1) R.leads1:=hk.out.leads1 cQ;have lA:=yY R;have nz:=rD.all;have o9:=rD.peers lA (by omega);have oN:R.leads1.all.track.index<=R.leads1.all.commit/\R.leads1.all.peers.length=R.leads1.all.n+1:=by
     obtain⟨ms,e,_⟩:=fA R.leads1.others R.leads1;have e':R.leads1.all=_:=e;rw[e'];refine⟨?_,o9.len⟩;show R.leads1.track.index<=R.leads1.commit;have GV:=g8 R.track R.hard.term gc;rw[jq.out]at GV;rw[iR];split
     ·show pf.2.index<=R.commit;rw[GV.1];exact hi
     ·show pf.2.index<=R.commit;rw[GV.1];exact hi
    have aE:∀wx,au aa c q w g R.leads1 wx->Calls prog 53 #[.pointer (some ⟨g,0,none⟩)] wx fun e w'=>e=.returned (.tuple #[])/\au aa c q w g R.leads1.all w':=fun wx hP=>hP.call fun bs v2 h2=>qW ha h2 o9 (by have:=rD.ms;omega)
    have iL:∀wx,au aa c q w g R.leads1.all wx->Calls prog 70 #[.pointer (some ⟨g,0,none⟩)] wx fun e w'=>e=.returned (.tuple #[])/\au aa c q w g R.leads w':=fun wx hP=>hP.call fun bs v2 h2=>lF ha h2 oN.2 nz.id.2.2 oN.1 nz.cm.1 (by have:=nz.trk;omega) (by have:=nz.cs;omega)
    replace aE:=zH aE;replace iL:=zH iL;replace rD:=zH rD;replace nz:=zH nz;replace o9:=zH o9;replace oN:=zH oN;clear M5 lA;obtain⟨tF,rG,_⟩:=rp.blk;obtain⟨bs,v2,h2,qz,Ve,cY⟩:=rp.open_ ha;by_cases hz:pf.1.2=0
    ·rw[if_pos hz]at iR;have xz:(pf.1.2==0)=true:=by simp[hz]
     obtain⟨d15,d22,-⟩:=h2.s.cs [15,22];simp only[bu,vi,Zx]at d15 d22;obtain⟨f15,f22,-⟩:=h2.s.fs [15,22];have s22:=h2.s.set_ 22 (.bool true);simp only[bu,Zy]at s22;obtain⟨wd,tl⟩:=zN (wc.setCell ⟨g,22,none⟩ (.bool true));have AA:Fr (fun j=>j=g) wc wd:=by rw[<-tl];exact Fr.set g 22 _
     rw[tl]at s22;have h3:aK bs c q wd g {za R pf with out:={(za R pf).out with save:=true}} v2:=h2.nums ha s22 AA rfl rfl rfl rfl rfl rfl rfl rfl rfl rfl rfl;have ul:ao wd p 59 (cl (.slice A1 n1 c1,pf.1.1)).toArray:=(AA.block p tF.lt rG).trans tF;have DX:∀j,bs j=q->j≠g:=fun j hj e=>by have:=h2.sl;rw[e]at hj;unfold aN at ha;omega
     have xm:aG (aM bs q) wd (.slice A1 n1 c1) pf.1.1.facts:=qz.keep fun j hj hl=>AA.block j hl (DX j hj)
     obtain⟨A,d,zs,pL,bS,gp,P2,fo,jr⟩:=vz ha h3 xm;have Vm:=zH (h2.nums_post ha h3 AA);obtain⟨n,fi⟩:=zN ((za R pf).out.entries.length);have af:({za R pf with out:={(za R pf).out with save:=true}}:Rf).out.entries.length=n:=fi;rw[af]at pL bS jr;have Vc:n<=100000:=by rw[<-fi];have:=hk.out.es;show R.out.entries.length<=_;omega
     have e26:wd.cell? ⟨g,26,none⟩=some (.slice A n d):=by
      have:=h3.s.cell 26;simp only[bu,Zx]at this;rw[this,pL]
     have lq:=h3.s.lt;have Rt:=ul.lt;obtain⟨z0,z1,z2,z3,z4,z5,-⟩:=ul.cs [0,1,2,3,4,5];simp only[cl,vi,Zx]at z0 z1 z2 z3 z4 z5;obtain⟨k26,k0,k1,k2,k3,k4,k5⟩:=LV [g,p] e26 z0 z1 z2 z3 z4 z5;have dA:∀x∈[g,p],x<wd.heap.size:=by simp;exact⟨lq,Rt⟩
     have fw:n+1<=1000000000:=by omega
     have La:∀A3 c3 w3,w3.ownsRow 0 59 6 (.slice A3 (n+1) c3) (n+1) ((zs++[(Value.slice A1 n1 c1,pf.1.1)]).flatMap cl)->Fr (aA A) ((wd.alloc (.cells (cl (.slice A1 n1 c1,pf.1.1)).toArray 59)).drew) w3->(∀j,aA A3 j->aA A j\/((wd.alloc (.cells (cl (.slice A1 n1 c1,pf.1.1)).toArray 59)).drew).heap.size<=j)->
       ao w3 g 122 (bu {za R pf with out:={(za R pf).out with save:=true}} v2)/\w3.heap[g]?=wd.heap[g]?/\w3.heap[p]?=wd.heap[p]?/\au aa c q w g R.leads1 ((w3.setCell ⟨g,26,none⟩ (.slice A3 (n+1) c3)).setCell ⟨g,15,none⟩ (.int .i64 1)):=fun A3 c3 w3 ho hF hr=>by
      obtain⟨q1,q2,q3⟩:=jr A3 c3 w3 ho hF hr;refine⟨q1,q1.trans h3.s.symm,q3 p Rt Ve,?_⟩;obtain⟨D5,v6,h6,un,kV⟩:=q2;have s15:=h6.s.set_ 15 (.int .i64 1);simp only[bu,Zy]at s15;have F1:=Fr.set (w:=w3.setCell ⟨g,26,none⟩ (.slice A3 (n+1) c3)) g 15 (.int .i64 1);have h7:=h6.nums (R':=({(za R pf).save [pf.1.1]with round:=1}:Rf)) ha s15 F1 rfl rfl rfl rfl rfl rfl rfl rfl rfl rfl rfl;have Bp:au bs c q wc g ({(za R pf).save [pf.1.1]with round:=1}:Rf) ((w3.setCell ⟨g,26,none⟩ (.slice A3 (n+1) c3)).setCell ⟨g,15,none⟩ (.int .i64 1)):=by
       have TP:Fr (aX bs c) wc wd:=AA.mono fun j e=>by rw[e];have:=h2.sl;exact⟨by omega,by omega⟩
       exact((h6.nums_post ha h7 F1).next un kV).next (fun _ _=>rfl) TP
      rw[iR];exact(cY _ _ Bp).post
     replace tl:=zH tl;clear h2 h3 qz xm jr cY rp ul tF s22 hz;go_wp2_with fail;rw[tl.out];try go_wp2_with fail
     refine nj [g,p] wd [([0,1,2,3,4,5,6],7),([],8)] ([9,10,11],12) ?_;refine aq fun K5 vE=>?_
     simp only[ah,Zx];repeat go_big_quiet_step(fail)
     apply wpQuiet_nil;go_wp2_with fail;refine⟨av dA P2,vE _ _ ?_⟩;refine aq fun K6 vF=>?_
     simp only[ah,Zx];apply wpQuiet_nil;go_wp2_with (at_builtin;refine aW rfl (.tmp 79) (.tmp 81) rfl 0 rfl bS rfl gp fo fw zz ?_;intro A3 c3 w3 cH dk bN hrw3;obtain⟨iE,iy,rF,kW⟩:=La A3 c3 w3 cH dk hrw3;replace kW:=zH kW;clear La cH dk bN hrw3);obtain⟨x26,x15,-⟩:=iE.cs [26,15];obtain⟨y26,y15,-⟩:=iE.fs [26,15];simp only[bu,vi,Zx]at x26 x15;refine⟨bO iy rF,vF _ _ ?_⟩;refine aC ?_;simp only[ah,Zx];repeat go_big_quiet_step(fail)
     apply wpQuiet_nil;go_wp2_with fail;refine(aE.out _ kW.out).mono ?_;rintro e wE ⟨rfl,yd⟩;have xj:=iL.out _ yd;clear yd iE x26 x15;go_wp2_with fail;refine xj.mono ?_;rintro e wF ⟨rfl,ye⟩;replace ye:=zH ye;clear xj;go_wp2_with fail;exact cL rfl rfl ⟨rfl,ye.out⟩
    ·rw[if_neg hz]at iR;have xz:(pf.1.2==0)=false:=by simp[hz]
     have d15:=h2.s.cell 15;simp only[bu,vi,Zx]at d15;have f15:=h2.s.free 15;have s15:=h2.s.set_ 15 (.int .i64 1);simp only[bu,Zy]at s15;have F1:=Fr.set (w:=wc) g 15 (.int .i64 1);have h7:=h2.nums (R':=({za R pf with round:=1}:Rf)) ha s15 F1 rfl rfl rfl rfl rfl rfl rfl rfl rfl rfl rfl;have kW:=zH (show au aa c q w g R.leads1 (wc.setCell ⟨g,15,none⟩ (.int .i64 1)) by rw[iR];exact(cY _ _ (h2.nums_post ha h7 F1)).post);clear h2 h7 qz cY rp tF s15 hz;go_wp2_with fail;refine(aE.out _ kW.out).mono ?_;rintro e wE ⟨rfl,yd⟩;have xj:=iL.out _ yd;clear yd;go_wp2_with fail;refine xj.mono ?_;rintro e wF ⟨rfl,ye⟩;replace ye:=zH ye;clear xj;go_wp2_with fail;exact cL rfl rfl ⟨rfl,ye.out⟩
end
theorem Co(R:Rf):R.stands2=(bz R.id R.n).foldl (fun R' (s:Nat)=>R'.send (fq R.track.lastF.1 R.track.lastF.2 s)) R.stands1:=rfl
theorem Fy(R:Rf):R.asks2=(bz R.id R.n).foldl (fun R' (s:Nat)=>R'.send (jd R.hard.term R.track.lastF.1 R.track.lastF.2 s)) R.asks1:=rfl
section
variable {aa:Nat->Nat}{c q g:Nat}{w:World}{R:Rf}{v:Aw}
theorem pC{K M:Nat}(ha:aN c q)(h:aK aa c q w g R v)(hk:Ok K M R)(cQ:1<=K)(hK:K<=70000)(hM:M<=40000)(hi:R.track.index<=R.commit)(ht:R.hard.term<1099511627776) :
  Calls prog 102 #[.pointer (some ⟨g,0,none⟩)] w fun e w'=>e=.returned (.tuple #[])/\au aa c q w g R.stands w':=by
 have cW:=h.s.lt;have cx:=hk.trk;have qG:=hk.tm;have xq:=hk.ms;have jb:=hk.id;have pI:=jb.2.2;have wu:=hk.yl;obtain⟨gt,iV,AK,qq,rI⟩:=h.trk_at;obtain⟨Ay,dy,NL,_⟩:=id h.y;obtain⟨c0,c2,c3,c4,c9,c10,c22,-⟩:=h.s.cs [0,2,3,4,9,10,22];simp only[bu,vi,Zx]at c0 c2 c3 c4 c9 c10 c22;have c13:w.cell? ⟨g,13,none⟩=some (.slice Ay R.yes.length dy):=by
  have:=h.s.cell 13;simp only[bu,Zx]at this;rw[this,NL]
 obtain⟨f2,f3,f22,f9,f10,f13,-⟩:=h.s.fs [2,3,22,9,10,13];obtain⟨w2,cZ⟩:=zN ((((((((w.setCell ⟨g,2,none⟩ (.int .i64 (R.hard.term+1))).setCell ⟨g,3,none⟩ (.int .i64 R.id)).setCell ⟨g,22,none⟩ (.bool true)).setCell ⟨g,9,none⟩ (.int .i64 2)).setCell ⟨g,10,none⟩ (.int .i64 0)).setCell ⟨g,13,none⟩ (.slice none 0 0))).drew);have e:∀{w a b:World},Fr (fun j=>j=g) w a->Fr (fun j=>j=g) a b->Fr (fun j=>j=g) w b:=fun h h'=>h.trans h' fun _ h=>.inl h
 have dC:Fr (fun j=>j=g) w w2:=by rw[<-cZ];exact e (e (e (e (e (e (Fr.set g 2 _) (Fr.set g 3 _)) (Fr.set g 22 _)) (Fr.set g 9 _)) (Fr.set g 10 _)) (Fr.set g 13 _)) (Fr.of_below (X:=fun j=>j=g) (zb.drew))
 have ki:ao w2 g 122 (bu R.stands1 {v with yes:=.slice none 0 0}):=by
  have s:=((((((h.s.set_ 2 (.int .i64 (R.hard.term+1))).set_ 3 (.int .i64 R.id)).set_ 22 (.bool true)).set_ 9 (.int .i64 2)).set_ 10 (.int .i64 0)).set_ 13 (.slice none 0 0));simp only[bu,Zy]at s;replace s:=ao.kept s (zb.drew);rw[cZ]at s;exact s
 have tz:Fr (fun j=>j=g\/∃i,i∈[3]/\aa j=c+i) w w2:=dC.mono fun j e=>.inl e
 have hX:∀i∈[3],1<i/\i<=9:=by simp
 have h2:aK aa c q w2 g R.stands1 {v with yes:=.slice none 0 0}:=h.turn [3] ha ki (fun j hj=>rfl) hX tz tI (.inl (bR.nil _ _ _ _ _)) tI tI (.inr ⟨rfl,rfl⟩) (.inr ⟨rfl,rfl⟩) tI tI (.inr ⟨rfl,rfl⟩) tI tI;have CB:au aa c q w g R.stands1 w2:=⟨aa,_,h2,fun _ _=>rfl,gu h hX tz⟩;have TE:w2.cell? ⟨g,4,none⟩=some (.pointer (some ⟨gt,0,none⟩)):=by
  have:=h2.s.cell 4;simp only[bu,Zx]at this;rw[this];exact congrArg some iV
 have bH:=jF h2.t (by show R.track.L.length<=_;omega);rw[show({v with yes:=.slice none 0 0}:Aw).trk=.pointer (some ⟨gt,0,none⟩)from iV]at bH;obtain⟨l1,cD⟩:∃l,R.track.lastF.1=l:=⟨_,rfl⟩;obtain⟨l2,dG⟩:∃l,R.track.lastF.2=l:=⟨_,rfl⟩;rw[show R.stands1.track.lastF.1=l1 from cD,show R.stands1.track.lastF.2=l2 from dG]at bH;have kF:R.stands1.id=R.id/\R.stands1.n=R.n/\R.stands1.hard.term=R.hard.term+1/\R.stands1.out.msgs=R.out.msgs/\R.stands1.yes=[]:=⟨rfl,rfl,rfl,rfl,rfl⟩;obtain⟨R1,iS⟩:=zN (R.stands1);rw[iS]at CB kF;have BP:R.stands2=(bz R.id R.n).foldl (fun R' (s:Nat)=>R'.send (fq l1 l2 s)) R1:=by rw[Co,cD,dG,iS]
 have cR:=hk.standing ht;have Vv:(R.stands2.says R.id).track.index<=(R.stands2.says R.id).commit:=by rw[jE];exact hi
 have xv:(R.stands2.says R.id).hard.term=R.hard.term+1:=by rw[jE]
 have aD:R.stands=if(R.stands2.says R.id).won then(R.stands2.says R.id).leads else R.stands2.says R.id:=rfl
 have du:∀wx,au aa c q w g (R.stands2.says R.id) wx->Calls prog 116 #[.pointer (some ⟨g,0,none⟩)] wx fun e w'=>e=.returned (.tuple #[])/\au aa c q w g ((R.stands2.says R.id).leads) w':=fun wx hP=>hP.call fun cJ v3 h3=>qZ ha h3 cR (by omega) (by omega) (by omega) Vv
 replace cZ:=zH cZ;replace cD:=zH cD;replace dG:=zH dG;replace iS:=zH iS;replace BP:=zH BP;replace aD:=zH aD;replace cR:=zH cR;replace xv:=zH xv;replace hk:=zH hk;replace du:=zH du;clear h h2 dC tz ki e;go_enter func102,ntmps102;go_wp2_with fail;obtain⟨k0,k2⟩:=pU [g] c0 c2;refine nj [g] w [] ([0,1,2,3,4,5,6,7,8,9,10,11,12,13],14) ?_;refine aC ?_;simp only[ah,Zx];repeat go_big_quiet_step(fail)
 apply wpQuiet_nil;go_wp2_with fail;rw[cZ.out];try go_wp2_with fail
 refine bH.mono ?_;rintro e w3 ⟨rfl,bN⟩;have kW:=CB.below bN;clear bH CB c0 c2 c3 c4 c9 c10 c13 c22 f2 f3 f22 f9 f10 f13 TE;go_wp2_with fail
 go_loopw [4] (fun i wr=>∃k:Nat,k<=R.n/\i=.int .i64 ((k:Int)+1)/\au aa c q w g ((bz R.id k).foldl (fun R' (s:Nat)=>R'.send (fq l1 l2 s)) R1) wr) (fun i _=>R.n+1-(intOf i).toNat)
 case atStart=>exact⟨0,Nat.zero_le _,rfl,kW⟩
 case round=>
  clear kW;obtain⟨k,CH,rfl,hQ⟩:=hrel;have yJ:=gj (fun s=>fq l1 l2 s) (bz R.id k) R1;have uu:=iZ R.id k;have cu:=ik R.id k;rw[yJ]at hQ;obtain⟨ag,v1,h1,rA,ir⟩:=hQ;obtain⟨R2,ja⟩:∃R2:Rf,({R1 with out:={R1.out with msgs:=R1.out.msgs++(bz R.id k).map fun s=>kr R1.id R1.hard.term (fq l1 l2 s)}}:Rf)=R2:=⟨_,rfl⟩;have lP:R2.id=R.id/\R2.n=R.n/\R2.hard.term=R.hard.term+1/\R2.out.msgs.length<=M+7/\R2.yes=[]:=by
   rw[<-ja];refine⟨kF.1,kF.2.1,kF.2.2.1,?_,kF.2.2.2.2⟩;show(R1.out.msgs++_).length<=_;rw[List.length_append,List.length_map,kF.2.2.2.1];omega
  rw[ja]at h1 yJ;obtain⟨c0,c1,c2,-⟩:=h1.s.cs [0,1,2];simp only[bu,vi,Zx]at c0 c1 c2;rw[lP.1]at c0;rw[lP.2.1]at c1;rw[lP.2.2.1]at c2;by_cases aU:k<R.n
  ·have aO:=zH (show R.n+1-(k+1+1)<R.n+1-(k+1) by omega);have fd:(k:Int)+1<=R.n:=by omega
   by_cases vR:k+1=R.id
   ·rw[if_pos vR,List.append_nil]at cu;have jg:(R.id:Int)=(k:Int)+1:=by omega
    have aE:=zH (show au aa c q w g ((bz R.id (k+1)).foldl (fun R' (s:Nat)=>R'.send (fq l1 l2 s)) R1) wr by rw[cu,yJ];exact⟨ag,v1,h1,rA,ir⟩);rw[jg]at c0;clear jg vR h1 yJ cu ja lP jb kF c2;go_wp2_with fail;exact⟨⟨k+1,aU,by go_num,aE.out⟩,by simp[intOf];have:=aO.out;omega⟩
   ·rw[if_neg vR]at cu;have gA:=dm ((fun s=>fq l1 l2 s) (k+1)) rfl rfl ha h1 (by have:=lP.2.2.2.1;omega);have aE:=zH (fun w5 (hp:au ag c q wr g (R2.send ((fun s=>fq l1 l2 s) (k+1))) w5)=>show au aa c q w g ((bz R.id (k+1)).foldl (fun R' (s:Nat)=>R'.send (fq l1 l2 s)) R1) w5 by rw[cu,nu,yJ];exact hp.next rA ir);have i1:(((k:Int)+1)==(R.id:Int))=false:=beq_eq_false_iff_ne.2 (by omega);have i2:(((k:Int)+1) !=(R.id:Int))=true:=by rw[bne,i1];rfl
    have i3:((k+1:Nat):Int)=(k:Int)+1:=by omega
    have i4:=zH i3;unfold eI at gA;simp only[fq,dh,vi,i3]at gA;clear vR h1 yJ cu i3 ja lP jb kF;go_wp2_with fail;refine gA.mono ?_;rintro e w5 ⟨rfl,hp⟩;have lR:=aE.out w5 (by simpa only[fq,dh,i4.out]using hp);clear gA hp;replace lR:=zH lR;go_wp2_with fail;exact⟨⟨k+1,aU,by go_num,lR.out⟩,by simp[intOf];have:=aO.out;omega⟩
  ·obtain rfl:k=R.n:=by omega
   have kI:¬((R.n:Int)+1<=R.n):=by omega
   have F9:R2=R.stands2:=by rw[BP.out,yJ]
   have NT:=rb (R.id:Int) ha h1 (by rw[lP.2.2.2.2];exact Nat.zero_le _);rw[F9]at NT;have cY:=zH (fun w5 (hp:au ag c q wr g (R.stands2.says R.id) w5)=>hp.next rA ir);clear h1 yJ cu ja lP F9 jb kF;go_wp2_with fail;refine NT.mono ?_;rintro e w5 ⟨rfl,hp⟩;have uw:=cY.out w5 hp;clear NT hp;cases NP:(R.stands2.says R.id).won
   ·have hQ:=zH (show au aa c q w g R.stands w5 by rw[aD.out,if_neg (by rw[NP];simp)];exact uw);clear uw;go_wp2_with fail;exact cL rfl rfl ⟨rfl,hQ.out⟩
   ·have eG:=du.out _ uw;have BO:=zH (aD.out.trans (if_pos NP));clear uw;go_wp2_with fail;refine eG.mono ?_;rintro e w6 ⟨rfl,ux⟩;have hQ:=zH (show au aa c q w g R.stands w6 by rw[BO.out];exact ux);clear eG ux;go_wp2_with fail;exact cL rfl rfl ⟨rfl,hQ.out⟩
end
section
variable {aa:Nat->Nat}{c q g:Nat}{w:World}{R:Rf}{v:Aw}
theorem tV{K M:Nat}(ha:aN c q)(h:aK aa c q w g R v)(hk:Ok K M R)(cQ:1<=K)(hK:K<=60000)(hM:M<=30000)(hi:R.track.index<=R.commit)(ht:R.hard.term<1099511627776) :
  Calls prog 56 #[.pointer (some ⟨g,0,none⟩)] w fun e w'=>e=.returned (.tuple #[])/\au aa c q w g R.asks w':=by
 have cW:=h.s.lt;have cx:=hk.trk;have qG:=hk.tm;have xq:=hk.ms;have jb:=hk.id;have pI:=jb.2.2;have wu:=hk.yl;obtain⟨gt,iV,AK,qq,rI⟩:=h.trk_at;obtain⟨Ay,dy,NL,_⟩:=id h.y;obtain⟨c0,c4,c9,c10,-⟩:=h.s.cs [0,4,9,10];simp only[bu,vi,Zx]at c0 c4 c9 c10;have c13:w.cell? ⟨g,13,none⟩=some (.slice Ay R.yes.length dy):=by
  have:=h.s.cell 13;simp only[bu,Zx]at this;rw[this,NL]
 obtain⟨f9,f10,f13,-⟩:=h.s.fs [9,10,13];obtain⟨w2,cZ⟩:=zN ((((w.setCell ⟨g,9,none⟩ (.int .i64 1)).setCell ⟨g,10,none⟩ (.int .i64 0)).setCell ⟨g,13,none⟩ (.slice none 0 0)));have e:∀{w a b:World},Fr (fun j=>j=g) w a->Fr (fun j=>j=g) a b->Fr (fun j=>j=g) w b:=fun h h'=>h.trans h' fun _ h=>.inl h
 have dC:Fr (fun j=>j=g) w w2:=by rw[<-cZ];exact e (e (Fr.set g 9 _) (Fr.set g 10 _)) (Fr.set g 13 _)
 have ki:ao w2 g 122 (bu R.asks1 {v with yes:=.slice none 0 0}):=by
  have s:=(((h.s.set_ 9 (.int .i64 1)).set_ 10 (.int .i64 0)).set_ 13 (.slice none 0 0));simp only[bu,Zy]at s;rw[cZ]at s;exact s
 have tz:Fr (fun j=>j=g\/∃i,i∈[3]/\aa j=c+i) w w2:=dC.mono fun j e=>.inl e
 have hX:∀i∈[3],1<i/\i<=9:=by simp
 have h2:aK aa c q w2 g R.asks1 {v with yes:=.slice none 0 0}:=h.turn [3] ha ki (fun j hj=>rfl) hX tz tI (.inl (bR.nil _ _ _ _ _)) tI tI (.inr ⟨rfl,rfl⟩) (.inr ⟨rfl,rfl⟩) tI tI (.inr ⟨rfl,rfl⟩) tI tI;have CB:au aa c q w g R.asks1 w2:=⟨aa,_,h2,fun _ _=>rfl,gu h hX tz⟩;have TE:w2.cell? ⟨g,4,none⟩=some (.pointer (some ⟨gt,0,none⟩)):=by
  have:=h2.s.cell 4;simp only[bu,Zx]at this;rw[this];exact congrArg some iV
 have bH:=jF h2.t (by show R.track.L.length<=_;omega);rw[show({v with yes:=.slice none 0 0}:Aw).trk=.pointer (some ⟨gt,0,none⟩)from iV]at bH;obtain⟨l1,cD⟩:∃l,R.track.lastF.1=l:=⟨_,rfl⟩;obtain⟨l2,dG⟩:∃l,R.track.lastF.2=l:=⟨_,rfl⟩;rw[show R.asks1.track.lastF.1=l1 from cD,show R.asks1.track.lastF.2=l2 from dG]at bH;have kF:R.asks1.id=R.id/\R.asks1.n=R.n/\R.asks1.hard.term=R.hard.term/\R.asks1.out.msgs=R.out.msgs/\R.asks1.yes=[]:=⟨rfl,rfl,rfl,rfl,rfl⟩;obtain⟨R1,iS⟩:=zN (R.asks1);rw[iS]at CB kF;have BP:R.asks2=(bz R.id R.n).foldl (fun R' (s:Nat)=>R'.send (jd R.hard.term l1 l2 s)) R1:=by rw[Fy,cD,dG,iS]
 have cR:=hk.asking;have Vv:(R.asks2.says R.id).track.index<=(R.asks2.says R.id).commit:=by rw[i8];exact hi
 have xv:(R.asks2.says R.id).hard.term=R.hard.term:=by rw[i8]
 have aD:R.asks=if(R.asks2.says R.id).won then(R.asks2.says R.id).stands else R.asks2.says R.id:=rfl
 have du:∀wx,au aa c q w g (R.asks2.says R.id) wx->Calls prog 102 #[.pointer (some ⟨g,0,none⟩)] wx fun e w'=>e=.returned (.tuple #[])/\au aa c q w g ((R.asks2.says R.id).stands) w':=fun wx hP=>hP.call fun cJ v3 h3=>pC ha h3 cR (by omega) (by omega) (by omega) Vv (by rw[xv];exact ht)
 replace cZ:=zH cZ;replace cD:=zH cD;replace dG:=zH dG;replace iS:=zH iS;replace BP:=zH BP;replace aD:=zH aD;replace cR:=zH cR;replace xv:=zH xv;replace hk:=zH hk;replace du:=zH du;clear h h2 dC tz ki e;go_enter func56,ntmps56;go_wp2_with fail;rw[cZ.out];try go_wp2_with fail
 refine bH.mono ?_;rintro e w3 ⟨rfl,bN⟩;have kW:=CB.below bN;clear bH CB c0 c4 c9 c10 c13 f9 f10 f13 TE;go_wp2_with fail
 go_loopw [4] (fun i wr=>∃k:Nat,k<=R.n/\i=.int .i64 ((k:Int)+1)/\au aa c q w g ((bz R.id k).foldl (fun R' (s:Nat)=>R'.send (jd R.hard.term l1 l2 s)) R1) wr) (fun i _=>R.n+1-(intOf i).toNat)
 case atStart=>exact⟨0,Nat.zero_le _,rfl,kW⟩
 case round=>
  clear kW;obtain⟨k,CH,rfl,hQ⟩:=hrel;have yJ:=gj (fun s=>jd R.hard.term l1 l2 s) (bz R.id k) R1;have uu:=iZ R.id k;have cu:=ik R.id k;rw[yJ]at hQ;obtain⟨ag,v1,h1,rA,ir⟩:=hQ;obtain⟨R2,ja⟩:∃R2:Rf,({R1 with out:={R1.out with msgs:=R1.out.msgs++(bz R.id k).map fun s=>kr R1.id R1.hard.term (jd R.hard.term l1 l2 s)}}:Rf)=R2:=⟨_,rfl⟩;have lP:R2.id=R.id/\R2.n=R.n/\R2.hard.term=R.hard.term/\R2.out.msgs.length<=M+7/\R2.yes=[]:=by
   rw[<-ja];refine⟨kF.1,kF.2.1,kF.2.2.1,?_,kF.2.2.2.2⟩;show(R1.out.msgs++_).length<=_;rw[List.length_append,List.length_map,kF.2.2.2.1];omega
  rw[ja]at h1 yJ;obtain⟨c0,c1,c2,-⟩:=h1.s.cs [0,1,2];simp only[bu,vi,Zx]at c0 c1 c2;rw[lP.1]at c0;rw[lP.2.1]at c1;rw[lP.2.2.1]at c2;by_cases aU:k<R.n
  ·have aO:=zH (show R.n+1-(k+1+1)<R.n+1-(k+1) by omega);have fd:(k:Int)+1<=R.n:=by omega
   by_cases vR:k+1=R.id
   ·rw[if_pos vR,List.append_nil]at cu;have jg:(R.id:Int)=(k:Int)+1:=by omega
    have aE:=zH (show au aa c q w g ((bz R.id (k+1)).foldl (fun R' (s:Nat)=>R'.send (jd R.hard.term l1 l2 s)) R1) wr by rw[cu,yJ];exact⟨ag,v1,h1,rA,ir⟩);rw[jg]at c0;clear jg vR h1 yJ cu ja lP jb kF c2;go_wp2_with fail;exact⟨⟨k+1,aU,by go_num,aE.out⟩,by simp[intOf];have:=aO.out;omega⟩
   ·rw[if_neg vR]at cu;have gA:=dm ((fun s=>jd R.hard.term l1 l2 s) (k+1)) rfl rfl ha h1 (by have:=lP.2.2.2.1;omega);have aE:=zH (fun w5 (hp:au ag c q wr g (R2.send ((fun s=>jd R.hard.term l1 l2 s) (k+1))) w5)=>show au aa c q w g ((bz R.id (k+1)).foldl (fun R' (s:Nat)=>R'.send (jd R.hard.term l1 l2 s)) R1) w5 by rw[cu,nu,yJ];exact hp.next rA ir);have i1:(((k:Int)+1)==(R.id:Int))=false:=beq_eq_false_iff_ne.2 (by omega);have i2:(((k:Int)+1) !=(R.id:Int))=true:=by rw[bne,i1];rfl
    have i3:((k+1:Nat):Int)=(k:Int)+1:=by omega
    have i4:=zH i3;unfold eI at gA;simp only[jd,dh,vi,i3]at gA;clear vR h1 yJ cu i3 ja lP jb kF;go_wp2_with fail;refine gA.mono ?_;rintro e w5 ⟨rfl,hp⟩;have lR:=aE.out w5 (by simpa only[jd,dh,i4.out]using hp);clear gA hp;replace lR:=zH lR;go_wp2_with fail;exact⟨⟨k+1,aU,by go_num,lR.out⟩,by simp[intOf];have:=aO.out;omega⟩
  ·obtain rfl:k=R.n:=by omega
   have kI:¬((R.n:Int)+1<=R.n):=by omega
   have F9:R2=R.asks2:=by rw[BP.out,yJ]
   have NT:=rb (R.id:Int) ha h1 (by rw[lP.2.2.2.2];exact Nat.zero_le _);rw[F9]at NT;have cY:=zH (fun w5 (hp:au ag c q wr g (R.asks2.says R.id) w5)=>hp.next rA ir);clear h1 yJ cu ja lP F9 jb kF;go_wp2_with fail;refine NT.mono ?_;rintro e w5 ⟨rfl,hp⟩;have uw:=cY.out w5 hp;clear NT hp;cases NP:(R.asks2.says R.id).won
   ·have hQ:=zH (show au aa c q w g R.asks w5 by rw[aD.out,if_neg (by rw[NP];simp)];exact uw);clear uw;go_wp2_with fail;exact cL rfl rfl ⟨rfl,hQ.out⟩
   ·have eG:=du.out _ uw;have BO:=zH (aD.out.trans (if_pos NP));clear uw;go_wp2_with fail;refine eG.mono ?_;rintro e w6 ⟨rfl,ux⟩;have hQ:=zH (show au aa c q w g R.asks w6 by rw[BO.out];exact ux);clear eG ux;go_wp2_with fail;exact cL rfl rfl ⟨rfl,hQ.out⟩
end
theorem zg{idx:Int}{L:List En}:∀{i:Nat} {tm:Int},bI idx i tm L=true->∀(k:Nat) y,L[k]?=some y->y.idx=idx+1+i+k:=by
 induction L with
 | nil=>intro i tm _ k y h;cases h
 | cons x L ih=>
  intro i tm h k y hy;obtain⟨_,h2,_,h4⟩:=iY.1 h;cases k with
  | zero=>
   obtain rfl:x=y:=by simpa using hy
   omega
  | succ k=>
   have:=ih h4 k y (by simpa using hy);omega
theorem BS{L:List En}:∀{a:Int} {j:Nat},(∀(k:Nat) y,L[k]?=some y->y.idx=a+k)->L.filter (fun y=>decide (a+j<=y.idx))=L.drop j:=by
 induction L with
 | nil=>intro a j _;simp
 | cons x L ih=>
  intro a j h;have h0:=h 0 x rfl;have hs:∀(k:Nat) y,L[k]?=some y->y.idx=(a+1)+k:=fun k y hy=>by
   have:=h (k+1) y (by simpa using hy);omega
  cases j with
  | zero=>
   rw[List.drop_zero];refine List.filter_eq_self.2 fun y hy=>?_
   obtain⟨k,hk⟩:=List.getElem?_of_mem hy;have:=h k y hk;simp;omega
  | succ j=>
   rw[List.filter_cons,if_neg (by simp;omega),List.drop_succ_cons,<-ih hs (j:=j)];congr 1;funext y;congr 1;apply propext;constructor <;> intro _ <;> omega
theorem Cp{t:bD}{idx tm:Int}{L:List En}{p:(Int×Bool)×bD}(hp:t.takeF idx tm L=p)(h1:0<p.1.1):p.2.sliceF p.1.1 L.length=L.filter (fun y=>decide (p.1.1<=y.idx))/\L.filter (fun y=>decide (p.1.1<=y.idx))≠[]:=by
 unfold bD.takeF at hp;split at hp
 ·rename_i hc;cases hd:t.findDiff L with
  | none=>rw[hd]at hp;subst hp;exact absurd h1 (by simp)
  | some z=>
   obtain⟨x,r⟩:=z;rw[hd]at hp;subst hp;obtain⟨j,term',h2,h3,h4,h5,h6,_⟩:=ig (i:=0) (by simpa using hc.1) hc.2 hd;rw[Nat.sub_zero]at h6;have tE:=eR h4;have M0:∀(k:Nat) y,L[k]?=some y->y.idx=(idx+1)+k:=fun k y hy=>by
    have:=zg hc.2 k y hy;simpa using this
   have hf:L.filter (fun y=>decide (x.idx<=y.idx))=x::r:=by
    rw[<-h6,<-BS M0 (j:=j)];congr 1;funext y;rw[h3]
   refine⟨?_,by rw[hf];simp⟩;show bD.sliceF {t with L:=t.L.take (x.idx-t.index-1).toNat++x::r} x.idx L.length=L.filter (fun y=>decide (x.idx<=y.idx));rw[hf];have hl:=nX t hd;unfold bD.sliceF;rw[if_neg (by show ¬(x.idx<=t.index\/(L.length:Int)<1);omega)];show List.take (L.length:Int).toNat (List.drop (x.idx-t.index-1).toNat (t.L.take (x.idx-t.index-1).toNat++x::r))=x::r;have AK:(t.L.take (x.idx-t.index-1).toNat).length=(x.idx-t.index-1).toNat:=by
    rw[List.length_take];omega
   rw[List.drop_append_of_le_length (by omega),List.drop_eq_nil_of_le (by omega),List.nil_append,List.take_of_length_le (by simp;omega)]
 ·subst hp;exact absurd h1 (by simp)
def mX(R1:Rf)(first:Int)(l:List En):Rf:=if l.filter (fun y=>decide (first<=y.idx))=[]then R1 else R1.save (l.filter fun y=>decide (first<=y.idx))
theorem Id(R1:Rf)(first:Int):mX R1 first []=R1:=if_pos rfl
theorem EF{R1:Rf}{first:Int}{l:List En}{x:En}(h:¬first<=x.idx):mX R1 first (l++[x])=mX R1 first l:=by
 have e:(l++[x]).filter (fun y=>decide (first<=y.idx))=l.filter (fun y=>decide (first<=y.idx)):=by
  rw[List.filter_append,List.filter_cons_of_neg (by simpa using h),List.filter_nil,List.append_nil]
 unfold mX;rw[e]
theorem Ie{R1:Rf}{first:Int}{l:List En}{x:En}(h:first<=x.idx):mX R1 first (l++[x])=(mX R1 first l).save [x]:=by
 have e:(l++[x]).filter (fun y=>decide (first<=y.idx))=l.filter (fun y=>decide (first<=y.idx))++[x]:=by
  rw[List.filter_append,List.filter_cons_of_pos (by simpa using h),List.filter_nil]
 unfold mX;rw[e,if_neg (by simp)];split
 ·rename_i h2;rw[h2,List.nil_append]
 ·unfold Rf.save;simp
theorem Ic(R1:Rf)(first:Int)(l:List En):(mX R1 first l).out.entries.length<=R1.out.entries.length+l.length:=by
 unfold mX;split
 ·omega
 ·show(R1.out.entries++_).length<=_;rw[List.length_append];have:=List.length_filter_le (fun y:En=>decide (first<=y.idx)) l;omega
theorem EE(R1:Rf)(first:Int)(l:List En):(mX R1 first l).track=R1.track/\(mX R1 first l).commit=R1.commit/\(mX R1 first l).out.commits=R1.out.commits/\(mX R1 first l).out.msgs=R1.out.msgs:=by
 unfold mX;split <;> exact⟨rfl,rfl,rfl,rfl⟩
def kR(R1:Rf)(first:Int)(l:List En):Rf:=if 0<first then mX R1 first l else R1
theorem Is{aa:Nat->Nat}{i q:Nat}{w:World}{x:Value}{t:bD}(k tm:Int)(h:Au aa i q w x t)(hN:t.L.length<=1000000):Calls prog 142 #[x,.int .i64 k,.int .i64 tm] w fun e w'=>e=.returned (.int .i64 (t.hintF k tm))/\w=w':=by
 obtain⟨gt,A,n,c,zs,rfl,hT,hl⟩:=h;exact Eu k tm hT (by have:=hT.len.1;omega)
section
variable {aa:Nat->Nat}{c q g:Nat}{w w1 wr:World}{R R':Rf}{v:Aw}
theorem au.reads{A:Option Addr}{n:Nat}{zs:List (Value×En)}(ha:aN c q)(h:au aa c q w g R' wr)(hr:ff w A n zs)(hd:bo (aM aa q) w zs)(hA:0<n->∀j,aA A j->aa j=q):ff wr A n zs/\∃ak v',aK ak c q wr g R' v'/\bo (aM ak q) wr zs/\(∀j,j<w.heap.size->ak j=aa j)/\Fr (aX aa c) w wr:=by
 obtain⟨ak,v',h1,h2,h3⟩:=h;have hn:∀j,aa j=q->¬aX aa c j:=fun j e hh=>by unfold aX at hh;unfold aN at ha;omega
 have aD:bA (aM aa q) w wr:=fun j e hj=>h3.block j hj (hn j e)
 refine⟨cn.stay (S:=aM aa q) hr (fun h0 ad e=>hA h0 _ ⟨ad,e,rfl⟩) aD,ak,v',h1,?_,h2,h3⟩;refine(hd.mono (S':=nS aa q w) fun j hj e=>⟨e,hj⟩).keep (w':=wr) (fun j e hj=>h3.block j e.2 (hn j e.1)) |>.mono fun j hj e=>(h2 j e.2).trans e.1
theorem vq{K M:Nat}(m:Mg)(A1 A2:Option Addr)(n1 c1 n2 c2:Nat)(ha:aN c q)(h:aK aa c q w g R v)(hk:Ok K M R)(hK:K<=50000)(hM:M<=20000)(hi:R.track.index<=R.commit)(he:cP aa q w (.slice A1 n1 c1) m.entries)(OP:m.entries.length<=6)
  (hx:0<=m.idx/\m.idx<=1099511627776) (hc:m.commit<=1099511627776) :
  Calls prog 117 #[.pointer (some ⟨g,0,none⟩),eI m (.slice A1 n1 c1) (.slice A2 n2 c2)] w fun e w'=>e=.returned (.tuple #[])/\au aa c q w g (R.appends m) w':=by
 have cW:=h.s.lt;have cx:=hk.trk;have oM:=hk.cm;have aI:Below w.heap.size w (w.alloc (.cells #[.int .i64 m.kind,.int .i64 m.frm,.int .i64 m.tgt,.int .i64 m.term,.int .i64 m.idx,.int .i64 m.logTerm,.int .i64 m.commit,.int .i64 m.round,.bool m.reject,.int .i64 m.offset,.int .i64 m.total,.slice A1 n1 c1,.slice A2 n2 c2] 39)):=zb.alloc zl _;have bM:=ao.new w 39 #[.int .i64 m.kind,.int .i64 m.frm,.int .i64 m.tgt,.int .i64 m.term,.int .i64 m.idx,.int .i64 m.logTerm,.int .i64 m.commit,.int .i64 m.round,.bool m.reject,.int .i64 m.offset,.int .i64 m.total,.slice A1 n1 c1,.slice A2 n2 c2];obtain⟨w1,ct⟩:=zN (w.alloc (.cells #[.int .i64 m.kind,.int .i64 m.frm,.int .i64 m.tgt,.int .i64 m.term,.int .i64 m.idx,.int .i64 m.logTerm,.int .i64 m.commit,.int .i64 m.round,.bool m.reject,.int .i64 m.offset,.int .i64 m.total,.slice A1 n1 c1,.slice A2 n2 c2] 39));rw[ct]at aI bM;have h1:=h.fresh (q+c+10) aI;obtain⟨ag,dY⟩:=zN (aj aa w.heap.size (q+c+10));rw[dY]at h1;have cD:∀j,j<w.heap.size->ag j=aa j:=fun j hj=>by rw[<-dY];exact ac hj
 have XC:ag w.heap.size=q+c+10:=by rw[<-dY];exact az zl
 have qo:¬aX ag c w.heap.size:=fun hh=>by unfold aX at hh;omega
 have cY:∀R' w',au ag c q w1 g R' w'->au aa c q w g R' w':=fun R' w' hp=>hp.next cD (Fr.of_below aI)
 obtain⟨Ae,ne,ce,zs,pL,Fk,Jx,CS,vX,Ut,bS⟩:=he;injection pL with e1 e2 e3;subst e1;subst e2;subst e3;have J0:ff w1 A1 n1 zs:=ff.below Fk aI;have MN:bo (aM ag q) w1 zs:=(Jx.mono fun j hj e=>(cD j hj).trans e).keep (bA.below aI);have GY:0<n1->∀j,aA A1 j->ag j=q:=fun h0 j hj=>by
  have aU:j<w.heap.size:=by obtain⟨ad,e,rfl⟩:=hj;exact cn.lt Fk h0 (by omega) e
  exact(cD j aU).trans (bS h0 j hj)
 have iU:n1=m.entries.length:=by rw[<-CS,List.length_map];exact Fk.len.symm
 obtain⟨gt,iV,AK,qq,rI⟩:=h1.trk_at;obtain⟨y1,y4,y5,y6,y7,y11,-⟩:=bM.cs [1,4,5,6,7,11];simp only[Zx]at y1 y4 y5 y6 y7 y11;obtain⟨c4,c8,-⟩:=h1.s.cs [4,8];simp only[bu,vi,Zx]at c4 c8;rw[iV]at c4;have iM:=h1.s.lt;have ly:=bM.lt;have dA:∀x∈[g,w.heap.size],x<w1.heap.size:=by simp;exact⟨iM,ly⟩
 obtain⟨k1,k4,k5,k7,kB,t4,t8⟩:=LV [g,w.heap.size] y1 y4 y5 y7 y11 c4 c8;unfold eI;simp only[vi];replace ct:=zH ct;replace dY:=zH dY;have Nh:n1<=6:=by omega
 replace iU:=zH iU;by_cases aU:m.idx<R.commit
 ·have hA:=zH (show R.appends m=R.send {dh with kind:=6,tgt:=m.frm,idx:=R.commit,round:=m.round}from if_pos aU);have gA:=dm {dh with kind:=6,tgt:=m.frm,idx:=R.commit,round:=m.round} rfl rfl ha (h1.below (w':=w1.drew.drew) (ay zb 2)) (by have:=hk.ms;omega);unfold eI at gA;simp only[dh,vi]at gA;have aE:=zH (fun w5 (hp:au ag c q w1.drew.drew g (R.send {dh with kind:=6,tgt:=m.frm,idx:=R.commit,round:=m.round}) w5)=>show au aa c q w g (R.appends m) w5 by rw[hA.out];exact cY _ _ (hp.behind (w:=w1) (ay zb 2)));have d1:=ae (w:=w1.drew) (gs:=[g,w.heap.size]) y1 (by simp);have d7:=ae (w:=w1.drew) (gs:=[g,w.heap.size]) y7 (by simp);have d8:=ae (w:=w1.drew) (gs:=[g,w.heap.size]) c8 (by simp);replace hk:=zH hk;clear h h1 Fk Jx J0 MN cY;go_enter func117,ntmps117;go_wp2_with fail;rw[ct.out];try go_wp2_with fail
  refine eE [g,w.heap.size] w1 [] [0,1,2,3,4,5,6] ?_;refine al ?_;simp only[ah,Zx];repeat go_big_quiet_step(fail)
  apply wpQuiet_nil;go_wp2_with fail;refine bU (C:=dS [g,w.heap.size] w1.drew) [] ([0,1,2,3,4,5,6,7,8,9],10) (by kernel_rfl) (by kernel_rfl) (fun _ _ _ _ e h=>⟨e.symm.trans h.1,h.2⟩) aQ ?_;refine aC ?_;simp only[ah,Zx];repeat go_big_quiet_step(fail)
  apply wpQuiet_nil;go_wp2_with fail;refine gA.mono ?_;rintro e w5 ⟨rfl,hp⟩;have hQ:=aE.out w5 hp;replace hQ:=zH hQ;clear gA hp;go_wp2_with fail;exact aP rfl rfl ⟨rfl,hQ.out⟩
 ·obtain⟨p,hp⟩:=zN (R.track.takeF m.idx m.logTerm m.entries);have G3:=tY m.idx m.logTerm A1 n1 c1 zs ha (h1.below (w':=w1.drew.drew) (ay zb 2)) (by omega) (ff.below J0 (ay zb 2)) (MN.keep (bA.below (ay zb 2))) (by omega) vX Ut (fun h0 j hj=>by rw[GY h0 j hj];unfold aN at ha;omega);rw[CS,iV,hp]at G3;have d4:=ae (w:=w1.drew) (gs:=[g,w.heap.size]) y4 (by simp);have d5:=ae (w:=w1.drew) (gs:=[g,w.heap.size]) y5 (by simp);have dB:=ae (w:=w1.drew) (gs:=[g,w.heap.size]) y11 (by simp);have s4:=ae (w:=w1.drew) (gs:=[g,w.heap.size]) c4 (by simp);have fd:=Int.not_lt.1 aU;have qF:w1.heap[g]?=some (.cells (bu {R with track:=p.2} v) 122 (0,0)):=h1.s;have Mx:R.appends m=if p.1.2=false then R.send {dh with kind:=6,tgt:=m.frm,reject:=true,idx:=R.track.hintF m.idx m.logTerm,round:=m.round}
   else(Rf.commits (if 0<p.1.1 then({R with track:=p.2}:Rf).save (p.2.sliceF p.1.1 m.entries.length)else {R with track:=p.2}) (min m.commit (m.idx+m.entries.length))).send {dh with kind:=6,tgt:=m.frm,idx:=m.idx+m.entries.length,round:=m.round}:=by
   unfold Rf.appends;rw[if_neg aU];simp only[hp]
  have hf:=eJ R.track m.idx m.logTerm m.entries;rw[hp]at hf;have XT:R.track.Inv:=hk.tr;replace Mx:=zH Mx;replace hp:=zH hp;replace hk:=zH hk;clear h h1 Fk Jx aU k1 k7;go_enter func117,ntmps117;go_wp2_with fail;rw[ct.out];try go_wp2_with fail
  refine eE [g,w.heap.size] w1 [] [0,1,2,3,4,5,6] ?_;refine al ?_;simp only[ah,Zx];repeat go_big_quiet_step(fail)
  apply wpQuiet_nil;go_wp2_with fail;refine cK (C:=dS [g,w.heap.size] w1.drew) [([0,1,2,3,4,5,6,7,8,9],10)] [11,12,13,14,15] (by kernel_rfl) (by kernel_rfl) (fun _ _ _ _ e h=>⟨e.symm.trans h.1,h.2⟩) aQ ?_;refine aF fun K1 cQ=>?_
  simp only[ah,Zx];repeat go_big_quiet_step(fail)
  apply wpQuiet_nil;go_wp2_with fail;refine G3.mono ?_;rintro e w5 ⟨rfl,hV⟩;have SK:no ag c q w1 g {R with track:=p.2} v w5:=by
   obtain⟨dU,q1,q2,q3⟩:=hV;exact⟨dU,q1,q2,(Fr.of_below (X:=aX ag c) (ay (Below.refl w1.heap.size w1) 2)).trans q3 fun _ h=>.inl h⟩
  have jl:w5.heap[g]?=w1.heap[g]?:=by obtain⟨dU,q1,_⟩:=id SK;exact q1.s.trans qF.symm
  have qe:=SK.post;have Nb:ao w5 w.heap.size 39 #[.int .i64 m.kind,.int .i64 m.frm,.int .i64 m.tgt,.int .i64 m.term,.int .i64 m.idx,.int .i64 m.logTerm,.int .i64 m.commit,.int .i64 m.round,.bool m.reject,.int .i64 m.offset,.int .i64 m.total,.slice A1 n1 c1,.slice A2 n2 c2]:=qe.blk qo bM;clear G3 hV;go_wp2_with fail;refine⟨bO (w:=w1.drew) jl (Nb.trans bM.symm),cQ _ _ ?_⟩;refine al ?_;simp only[ah,Zx];repeat go_big_quiet_step(fail)
  apply wpQuiet_nil;by_cases cR:p.1.2=false
  ·have RP:p.2=R.track:=hf.2.2 cR;have gh:({R with track:=p.2}:Rf)=R:=by rw[RP]
   have hA:=zH (Mx.out.trans (if_pos cR));obtain⟨dU,h5,oY,TM⟩:=SK;rw[gh]at h5;have uk:=Is m.idx m.logTerm (h5.below (w':=w5.drew) (zb.drew)).t (by omega);obtain⟨H,hH⟩:=zN (R.track.hintF m.idx m.logTerm);rw[hH,iV]at uk;have gA:=dm {dh with kind:=6,tgt:=m.frm,reject:=true,idx:=H,round:=m.round} rfl rfl ha (h5.below (w':=w5.drew) (zb.drew)) (by have:=hk.out.ms;omega);unfold eI at gA;simp only[dh,vi]at gA;have aE:=zH (fun w6 (hp:au dU c q w5.drew g (R.send {dh with kind:=6,tgt:=m.frm,reject:=true,idx:=H,round:=m.round}) w6)=>show au aa c q w g (R.appends m) w6 by rw[hA.out,hH];exact cY _ _ ((hp.behind (w:=w5) (zb.drew)).next oY TM));obtain⟨z1,z4,z5,z7,-⟩:=Nb.cs [1,4,5,7];simp only[Zx]at z1 z4 z5 z7;have x4:=h5.s.cell 4;simp only[bu,vi,Zx]at x4;rw[iV]at x4;have Y5:=h5.s.lt;obtain⟨b1,b4,b5,b7,bx⟩:=Ov [g,w.heap.size] z1 z4 z5 z7 x4;replace hH:=zH hH;clear h5 qe gh RP hf cY;go_wp2_with fail;refine nj [g,w.heap.size] w5 [([0,1,2,3,4,5,6,7,8,9,10,12,13],11)] ([14],15) ?_;refine aq fun K2 iu=>?_
   simp only[ah,Zx];repeat go_big_quiet_step(fail)
   apply wpQuiet_nil;go_wp2_with fail;refine uk.mono ?_;rintro e w6 ⟨rfl,rfl⟩;go_wp2_with fail;refine⟨aQ,iu _ _ ?_⟩;refine aC ?_;simp only[ah,Zx];repeat go_big_quiet_step(fail)
   apply wpQuiet_nil;go_wp2_with fail;refine gA.mono ?_;rintro e w6 ⟨rfl,ux⟩;have hQ:=aE.out w6 ux;replace hQ:=zH hQ;clear gA ux;go_wp2_with fail;exact aP rfl rfl ⟨rfl,hQ.out⟩
  ·replace cR:p.1.2=true:=by simpa using cR
   have hA:=Mx.out;rw[if_neg (by rw[cR];simp)]at hA;obtain⟨first,rx⟩:∃f,p.1.1=f:=⟨_,rfl⟩;rw[rx]at hA ⊢;obtain⟨R1,iS⟩:∃R1:Rf,({R with track:=p.2}:Rf)=R1:=⟨_,rfl⟩;rw[iS]at hA qe;have vH:R1.out.entries=R.out.entries/\R1.out.commits=R.out.commits/\R1.out.msgs=R.out.msgs/\R1.commit=R.commit/\R1.track=p.2:=by rw[<-iS];exact⟨rfl,rfl,rfl,rfl,rfl⟩
   have hes:=hk.out.es;have cB:=hk.out.cs;have xq:=hk.out.ms;have bH:(if 0<first then R1.save (p.2.sliceF first m.entries.length)else R1)=kR R1 first m.entries:=by
    unfold kR;by_cases h0:0<first
    ·rw[if_pos h0,if_pos h0];have hs:=Cp hp.out (by rw[rx];exact h0);rw[rx]at hs;unfold mX;rw[if_neg hs.2,hs.1]
    ·rw[if_neg h0,if_neg h0]
   rw[bH]at hA;have aE:=zH (fun R' w6 (hp:au ag c q w1 g R' w6)=>cY R' w6 hp);replace hA:=zH hA;replace rx:=zH rx;replace iS:=zH iS;have PE:au ag c q w1 g (kR R1 first (m.entries.take 0)) w5:=by
    rw[List.take_zero];have e:kR R1 first []=R1:=by unfold kR;rw[Id];split <;> rfl
    rw[e];exact qe
   clear qe SK bH cY hf jl Nb qF Mx;go_wp2_with fail
   go_loopw [6] (fun i wr=>∃j:Nat,j<=n1/\i=.int .i64 j/\au ag c q w1 g (kR R1 first (m.entries.take j)) wr) (fun i _=>n1-(intOf i).toNat)
   case atStart=>exact⟨0,Nat.zero_le _,rfl,PE⟩
   case round=>
    clear PE;replace cR:=zH cR;obtain⟨j,hj,rfl,hQ⟩:=hrel;have JR:ao wr w.heap.size 39 #[.int .i64 m.kind,.int .i64 m.frm,.int .i64 m.tgt,.int .i64 m.term,.int .i64 m.idx,.int .i64 m.logTerm,.int .i64 m.commit,.int .i64 m.round,.bool m.reject,.int .i64 m.offset,.int .i64 m.total,.slice A1 n1 c1,.slice A2 n2 c2]:=hQ.blk qo bM;obtain⟨DZ,bs,v2,h2,Bv,dG,dC⟩:=hQ.reads ha J0 MN GY;obtain⟨z1,z4,z6,z7,z11,-⟩:=JR.cs [1,4,6,7,11];simp only[Zx]at z1 z4 z6 z7 z11;by_cases xo:j<n1
    ·obtain⟨ad,vf,x,FV,hz,m0,m1,m2,m3,m4,m5⟩:=DZ.at_ xo;obtain⟨B,mm,dd,VM,_⟩:=(Bv _ (List.mem_of_getElem? hz)).form;obtain rfl:vf=_:=VM;have IF:=Bv _ (List.mem_of_getElem? hz);have GL:m.entries[j]?=some x:=by rw[<-CS,List.getElem?_map,hz];rfl
     have G4:m.entries.take (j+1)=m.entries.take j++[x]:=by rw[List.take_add_one,GL];rfl
     have aO:=zH (show n1-(j+1)<n1-j by omega);by_cases h0:0<first
     ·by_cases JP:first<=x.idx
      ·
       obtain⟨R2,ja⟩:∃R2:Rf,kR R1 first (m.entries.take j)=R2:=⟨_,rfl⟩
       have TY:R2.out.entries.length<=M+6:=by
        rw[<-ja];unfold kR;rw[if_pos h0];have h5:=Ic R1 first (m.entries.take j)
        have h6:(m.entries.take j).length<=6:=by rw[List.length_take];omega
        rw[vH.1]at h5;omega
       have du:kR R1 first (m.entries.take (j+1))=R2.save [x]:=by
        rw[<-ja,G4];unfold kR;rw[if_pos h0,if_pos h0,Ie JP]
       rw[ja]at h2;have d22:=h2.s.cell 22;simp only[bu,vi,Zx]at d22;have f22:=h2.s.free 22;have s22:=h2.s.set_ 22 (.bool true);simp only[bu,Zy]at s22;obtain⟨wd,tl⟩:=zN (wr.setCell ⟨g,22,none⟩ (.bool true));have AA:Fr (fun j=>j=g) wr wd:=by rw[<-tl];exact Fr.set g 22 _
       rw[tl]at s22;have h3:aK bs c q wd g {R2 with out:={R2.out with save:=true}} v2:=h2.nums ha s22 AA rfl rfl rfl rfl rfl rfl rfl rfl rfl rfl rfl;have DX:∀j,bs j=q->j≠g:=fun j hj e=>by have:=h2.sl;rw[e]at hj;unfold aN at ha;omega
       have jp:w.heap.size≠g:=by omega
       have ul:ao wd w.heap.size 39 #[.int .i64 m.kind,.int .i64 m.frm,.int .i64 m.tgt,.int .i64 m.term,.int .i64 m.idx,.int .i64 m.logTerm,.int .i64 m.commit,.int .i64 m.round,.bool m.reject,.int .i64 m.offset,.int .i64 m.total,.slice A1 n1 c1,.slice A2 n2 c2]:=(AA.block _ JR.lt jp).trans JR;have xm:aG (aM bs q) wd (.slice B mm dd) x.facts:=IF.keep fun j hj hl=>AA.block j hl (DX j hj)
       have PU:bs ad.block=q:=(dG _ (by have:=cn.lt J0 (by omega) (by omega) FV;exact this)).trans (GY (by omega) _ ⟨ad,FV,rfl⟩);have Mw:ad.block<wr.heap.size:=cn.lt DZ (by omega) (by omega) FV;have JZ:ff wd A1 n1 zs:=cn.stay (S:=aM bs q) DZ (fun h0 ad' e=>by rw[FV]at e;injection e with e;rw[<-e];exact PU) (AA.stay fun j hj _=>DX j hj);obtain⟨ad',vf',x',Pu,xz,m0,m1,m2,m3,m4,m5⟩:=JZ.at_ xo;rw[hz]at xz;injection xz with xz;injection xz with e1 e2;subst e1;subst e2;obtain rfl:ad=ad':=by rw[FV]at Pu;injection Pu
       obtain⟨A,d,ws,pL,CP,gp,P2,fo,jr⟩:=vz ha h3 xm;obtain⟨n,fi⟩:=zN (R2.out.entries.length);have af:({R2 with out:={R2.out with save:=true}}:Rf).out.entries.length=n:=fi;rw[af]at pL CP jr;rw[fi]at TY;have e26:wd.cell? ⟨g,26,none⟩=some (.slice A n d):=by
        have:=h3.s.cell 26;simp only[bu,Zx]at this;rw[this,pL]
       have lq:=h3.s.lt;have ur:=ul.lt;have z11:=ul.cell 11;simp only[Zx]at z11;obtain⟨k26,kz,k0,k1,k2,k3,k4,k5⟩:=Ww [g,w.heap.size,(ad.add (j*6)).block] e26 z11 m0 m1 m2 m3 m4 m5;have DD:(ad.add (j*6)).block=ad.block:=by unfold Addr.add;split <;> rfl
       have NO:wd.heap.size=wr.heap.size:=by rw[<-tl];simp[World.setCell]
       have JG:∀x∈[g,w.heap.size,(ad.add (j*6)).block],x<wd.heap.size:=by
        intro x hx;simp only[List.mem_cons,List.not_mem_nil,or_false]at hx;rcases hx with rfl|rfl|rfl
        ·exact lq
        ·exact ur
        ·rw[DD,NO];exact Mw
       have fw:n+1<=1000000000:=by omega
       have La:∀A3 c3 w3,w3.ownsRow 0 59 6 (.slice A3 (n+1) c3) (n+1) ((ws++[(Value.slice B mm dd,x)]).flatMap cl)->Fr (aA A) ((wd.alloc (.cells (cl (.slice B mm dd,x)).toArray 59)).drew) w3->(∀j,aA A3 j->aA A j\/((wd.alloc (.cells (cl (.slice B mm dd,x)).toArray 59)).drew).heap.size<=j)->
         ao w3 g 122 (bu {R2 with out:={R2.out with save:=true}} v2)/\(∀x∈[g,w.heap.size,(ad.add (j*6)).block],w3.heap[x]?=wd.heap[x]?)/\au ag c q w1 g (kR R1 first (m.entries.take (j+1))) (w3.setCell ⟨g,26,none⟩ (.slice A3 (n+1) c3)):=fun A3 c3 w3 ho hF hr=>by
        obtain⟨q1,q2,q3⟩:=jr A3 c3 w3 ho hF hr;refine⟨q1,fun x hx=>?_,?_⟩
        ·simp only[List.mem_cons,List.not_mem_nil,or_false]at hx;rcases hx with rfl|rfl|rfl
         ·exact q1.trans h3.s.symm
         ·refine q3 _ ur fun hh=>?_
          unfold aX at hh;rw[dG _ ly,XC]at hh;omega
         ·rw[DD];refine q3 _ (by rw[NO];exact Mw) fun hh=>?_
          unfold aX at hh;rw[PU]at hh;unfold aN at ha;omega
        ·rw[du];exact(q2.next (fun _ _=>rfl) (AA.mono fun j e=>by rw[e];have:=h2.sl;exact⟨by omega,by omega⟩)).next dG dC
       subst FV;replace tl:=zH tl;replace fi:=zH fi;clear h2 h3 xm jr ul DZ Bv JZ s22 IF ja du hz GL G4 hQ DD NO;go_wp2_with fail;rw[tl.out];try go_wp2_with fail
       refine nj [g,w.heap.size,(ad.add (j*6)).block] wd [([0,1,2,3,4,5,6,7,8,9,10],11),([],12)] ([13,14,15],16) ?_;refine aq fun K5 vE=>?_
       simp only[ah,Zx];repeat go_big_quiet_step(fail)
       apply wpQuiet_nil;go_wp2_with fail;refine⟨av JG P2,vE _ _ ?_⟩;refine aq fun K6 vF=>?_
       simp only[ah,Zx];apply wpQuiet_nil;go_wp2_with (at_builtin;refine aW rfl (.tmp 87) (.tmp 93) rfl 0 rfl CP rfl gp fo fw zz ?_;intro A3 c3 w3 cH dk bN hrw3;obtain⟨iE,jS,kW⟩:=La A3 c3 w3 cH dk hrw3;replace kW:=zH kW;clear La cH dk bN hrw3);have x26:=iE.cell 26;have y26:=iE.free 26;simp only[bu,vi,Zx]at x26;refine⟨dT jS,vF _ _ ?_⟩;refine aC ?_;simp only[ah,Zx];repeat go_big_quiet_step(fail)
       apply wpQuiet_nil;go_wp2_with fail;exact⟨⟨j+1,xo,by go_num,kW.out⟩,by simp[intOf];exact aO.out⟩
      ·have gh:kR R1 first (m.entries.take (j+1))=kR R1 first (m.entries.take j):=by
        rw[G4];unfold kR;rw[if_pos h0,if_pos h0,EF JP]
       rw[<-gh]at hQ;subst FV;replace hQ:=zH hQ;replace JP:=Int.not_le.1 JP;clear h2 DZ Bv IF gh hz GL G4;go_wp2_with fail;exact⟨⟨j+1,xo,by go_num,hQ.out⟩,by simp[intOf];exact aO.out⟩
     ·have gh:kR R1 first (m.entries.take (j+1))=kR R1 first (m.entries.take j):=by
       unfold kR;rw[if_neg h0,if_neg h0]
      rw[<-gh]at hQ;subst FV;replace hQ:=zH hQ;clear h2 DZ Bv IF gh hz GL G4;go_wp2_with fail;exact⟨⟨j+1,xo,by go_num,hQ.out⟩,by simp[intOf];exact aO.out⟩
    ·obtain rfl:j=n1:=by omega
     have AK:m.entries.take j=m.entries:=by rw[iU.out];exact List.take_length
     rw[AK]at h2;obtain⟨R2,ja⟩:∃R2:Rf,kR R1 first m.entries=R2:=⟨_,rfl⟩
     have yg:R2.track=p.2/\R2.commit=R.commit/\R2.out.commits=R.out.commits/\R2.out.msgs=R.out.msgs:=by
      rw[<-ja];unfold kR;split
      ·have:=EE R1 first m.entries
       exact⟨this.1.trans vH.2.2.2.2,this.2.1.trans vH.2.2.2.1,this.2.2.1.trans vH.2.1,this.2.2.2.trans vH.2.2.1⟩
      ·exact⟨vH.2.2.2.2,vH.2.2.2.1,vH.2.1,vH.2.2.1⟩
     have pG:=hA.out;rw[ja]at h2 pG;obtain⟨E,hE⟩:∃E:Int,m.idx+(m.entries.length:Int)=E:=⟨_,rfl⟩;have Bi:m.idx+(j:Int)=E:=by rw[<-hE,iU.out]
     have hEb:0<=E/\E<=1099511627790:=by omega
     rw[hE]at pG;obtain⟨Cm,Pw⟩:∃C,min m.commit E=C:=⟨_,rfl⟩;have Yq:Cm<=4000000000000:=by omega
     have NI:=eJ R.track m.idx m.logTerm m.entries;rw[hp.out]at NI;have qk:=nU Cm ha h2 (by rw[yg.1,yg.2.1,NI.1];exact hi) (by rw[yg.2.1];exact oM.1) Yq (by rw[yg.1];have:=NI.2.1;omega) (by rw[yg.2.2.1];omega);have gA:∀wx,au bs c q wr g (R2.commits Cm) wx->Calls prog 63 #[.pointer (some ⟨g,0,none⟩),eI {dh with kind:=6,tgt:=m.frm,idx:=E,round:=m.round} (.slice none 0 0) (.slice none 0 0)] wx fun e w'=>e=.returned (.tuple #[])/\au aa c q w g (R.appends m) w':=fun wx hp=>by
      have U7:(R2.commits Cm).out.msgs.length<=100000:=by
       have e:(R2.commits Cm).out.msgs=R2.out.msgs:=by unfold Rf.commits;split <;> rfl
       rw[e,yg.2.2.2];omega
      refine(hp.call fun cJ v3 h3=>dm {dh with kind:=6,tgt:=m.frm,idx:=E,round:=m.round} rfl rfl ha h3 U7).mono ?_;rintro e w' ⟨rfl,hq⟩;refine⟨rfl,aE.out _ _ ?_⟩;rw[pG,Pw];exact hq.next dG dC
     have GL:∀wx,au bs c q wr g (R2.commits Cm) wx->ao wx w.heap.size 39 #[.int .i64 m.kind,.int .i64 m.frm,.int .i64 m.tgt,.int .i64 m.term,.int .i64 m.idx,.int .i64 m.logTerm,.int .i64 m.commit,.int .i64 m.round,.bool m.reject,.int .i64 m.offset,.int .i64 m.total,.slice A1 j c1,.slice A2 n2 c2]:=fun wx hp=>hp.blk (fun hh=>by unfold aX at hh;rw[dG _ ly,XC]at hh;omega) JR
     unfold eI at gA;simp only[dh,vi]at gA;replace pG:=zH pG;replace hE:=zH hE;replace ja:=zH ja;replace yg:=zH yg;replace gA:=zH gA;replace GL:=zH GL;clear h2 DZ Bv AK NI hQ;rcases(show(m.commit<=E/\m.commit=Cm)\/(E<m.commit/\E=Cm) by omega)with⟨c1',c2'⟩|⟨c1',c2'⟩
     ·rw[<-c2']at qk gA GL;replace c2':=zH c2';replace Pw:=zH Pw;go_wp2_with fail;try rw[Bi]
      try go_wp2_with fail
      refine qk.mono ?_;rintro e w6 ⟨rfl,ux⟩;have nd:=gA.out w6 ux;have Ra:=GL.out w6 ux;obtain⟨b1,b7,-⟩:=Ra.cs [1,7];simp only[Zx]at b1 b7;clear qk ux Ra;go_wp2_with fail;refine nd.mono ?_;rintro e w7 ⟨rfl,Nu⟩;replace Nu:=zH Nu;clear nd;go_wp2_with fail;exact cL rfl rfl ⟨rfl,Nu.out⟩
     ·rw[<-c2']at qk gA GL;replace c2':=zH c2';replace Pw:=zH Pw;go_wp2_with fail;try rw[Bi]
      try go_wp2_with fail
      refine qk.mono ?_;rintro e w6 ⟨rfl,ux⟩;have nd:=gA.out w6 ux;have Ra:=GL.out w6 ux;obtain⟨b1,b7,-⟩:=Ra.cs [1,7];simp only[Zx]at b1 b7;clear qk ux Ra;go_wp2_with fail;refine nd.mono ?_;rintro e w7 ⟨rfl,Nu⟩;replace Nu:=zH Nu;clear nd;go_wp2_with fail;exact cL rfl rfl ⟨rfl,Nu.out⟩
end
theorem wW(R:Rf)(s:Nat)(hs:s<R.peers.length):R.setPeer s (R.peer s)=R:=by
 have e:R.peers.set s (R.peer s)=R.peers:=by
  unfold Rf.peer;rw[List.getElem?_eq_getElem hs];exact List.set_getElem_self hs
 unfold Rf.setPeer;rw[e]
section
variable {aa:Nat->Nat}{c q g p s j d n pm:Nat}{w w1 wr:World}{R:Rf}{v:Aw}{u:Value}{P P':Pr}{mc:Array Value}
theorem aK.setPeer(ha:aN c q)(h:aK aa c q w g R v)(hs:s<R.peers.length)(hq:v.peers=.slice (some ⟨p,0,none⟩) R.peers.length d)(hj:j<4)(hp:mW P'=(mW (R.peer s)).set j u) :
  aK aa c q (w.setCell ⟨p,s*4+j,none⟩ u) g (R.setPeer s P') v/\Fr (fun k=>k=p) w (w.setCell ⟨p,s*4+j,none⟩ u)/\aa p=c+4:=by
 obtain⟨A,c',e,aB,hl⟩:=id h.p;rw[hq]at e;injection e with e1 e2 e3;subst e1;subst e3;have na:=hl p ⟨_,rfl,rfl⟩;have hF:=Fr.set (w:=w) p (s*4+j) u;have JF:g≠p:=fun e=>by have:=h.sl;rw[e,na]at this;omega
 have RG:ao (w.setCell ⟨p,s*4+j,none⟩ u) g 122 (bu (R.setPeer s P') v):=(hF.block g h.s.lt JF).trans h.s;have aD:=(aB.stored (s*4+j) u).1;have MW:R.peers[s]?=some (R.peer s):=by unfold Rf.peer;rw[List.getElem?_eq_getElem hs];rfl
 rw[je jC hj hp MW]at aD;refine⟨h.turn [4] ha RG (fun _ _=>rfl) (by simp) (hF.mono fun k e=>.inr ⟨4,by simp,by rw[e];exact na⟩) tI tI (.inl ?_) tI (.inr ⟨rfl,rfl⟩) (.inr ⟨rfl,rfl⟩) tI tI (.inr ⟨rfl,rfl⟩) tI tI,hF,na⟩;rw[hq];have e:(R.setPeer s P').peers.length=R.peers.length:=List.length_set;rw[e];exact⟨_,_,rfl,aD,hl⟩
theorem aK.peer_cells(h:aK aa c q w g R v)(hs:s<R.peers.length)(hv:v.peers=.slice (some ⟨p,0,none⟩) n d)(hP:R.peer s=P) :
  (w.cell? ⟨p,s*4,none⟩=some (.int .i64 P.next)/\w.cell? ⟨p,s*4+1,none⟩=some (.int .i64 P.mat)/\w.cell? ⟨p,s*4+2,none⟩=some (.int .i64 P.offset)/\w.cell? ⟨p,s*4+3,none⟩=some (.int .i64 P.round))/\
  (w.frozen? ⟨p,s*4,none⟩=false/\w.frozen? ⟨p,s*4+1,none⟩=false/\w.frozen? ⟨p,s*4+2,none⟩=false/\w.frozen? ⟨p,s*4+3,none⟩=false)/\p<w.heap.size:=by
 obtain⟨q',c',e,h1,h2,p0,p1,p2,p3,pf⟩:=h.peer_at hs;rw[hv]at e;injection e with e1 _ _;injection e1 with e1;injection e1 with e1;subst e1;rw[hP]at p0 p1 p2 p3;exact⟨⟨p0,p1,p2,p3⟩,⟨pf _,pf _,pf _,pf _⟩,h2⟩
def mL(aa:Nat->Nat)(c q:Nat)(w1:World)(g:Nat)(R:Rf)(s:Nat)(v:Aw)(pm:Nat)(mc:Array Value)(P:Pr)(wr:World):Prop:=
 aK aa c q wr g (R.setPeer s P) v/\Fr (aX aa c) w1 wr/\ao wr pm 39 mc
theorem mL.set(j:Nat)(u:Value)(P':Pr)(ha:aN c q)(h:mL aa c q w1 g R s v pm mc P wr)(hs:s<R.peers.length)(hq:v.peers=.slice (some ⟨p,0,none⟩) R.peers.length d)(hm:aa pm≠c+4)(hj:j<4)(hp:mW P'=(mW P).set j u):mL aa c q w1 g R s v pm mc P' (wr.setCell ⟨p,s*4+j,none⟩ u):=by
 obtain⟨h1,h2,h3⟩:=h;obtain⟨a1,a2,a3⟩:=h1.setPeer (P':=P') (u:=u) ha (by rw[bj];exact hs) (by rw[bj];exact hq) hj (by rw[bK R s P hs];exact hp);rw[fp]at a1;exact⟨a1,h2.trans (a2.mono (X':=aX aa c) fun k e=>by rw[e];exact⟨by omega,by omega⟩) fun _ h=>.inl h,(a2.block pm h3.lt fun e=>hm (by rw[e];exact a3)).trans h3⟩
theorem mL.below(h:mL aa c q w1 g R s v pm mc P wr)(hb:Below wr.heap.size wr w):mL aa c q w1 g R s v pm mc P w:=
 ⟨h.1.below hb,h.2.1.trans (Fr.of_below (X:=aX aa c) hb) fun _ h=>.inl h,h.2.2.kept hb⟩
theorem mL.post(h:mL aa c q w1 g R s v pm mc P wr):au aa c q w1 g (R.setPeer s P) wr:=⟨aa,v,h.1,fun _ _=>rfl,h.2.1⟩
theorem tW{K M:Nat}(s:Nat)(ha:aN c q)(h:aK aa c q w g R v)(hk:Ok K M R)(hr:R.role=3)(hs:s<=R.n)(hK:K<=100000)(hM:M<=90000) :
  Calls prog 100 #[.pointer (some ⟨g,0,none⟩),.int .i64 s] w fun e w'=>e=.returned (.tuple #[])/\au aa c q w g (R.lacks s) w':=by
 obtain⟨h1,h2,h3,h4⟩:=hk.peer hr hs;exact qY s ha h h1 (by have:=hk.ms;omega) (by have:=hk.trk;omega) h3.1 (by omega) h4.1 h4.2 hk.dat
end
def St:Nat->Code->Option Code
 | 0,c=>some c
 | k+1,.seq _ b=>St k b
 | _+1,_=>none
def Tm(k:Nat)(c:Code):Option Code:=match St k c with
 | some (.seq a _)=>some a
 | some b=>some b
 | none=>none
def Ip(k:Nat)(c:Code):Code:=(St k c).getD .skip
def C8(k:Nat)(c:Code):Code:=(Tm k c).getD .skip
def bv(F:Func):Code:=F.body.getD .skip
section
variable {P:Program}{Q:Exit->Act->World->Prop}{a:Act}{w:World}
theorem oK{o:Option Code}{c:Code}(h:o=some c)(hw:c.wp P Q a w):(o.getD .skip).wp P Q a w:=by
 subst h;exact hw
theorem aJ{k:Nat}{c:Code}(h:St k c=some (.seq (C8 k c) (Ip (k+1) c)))(hw:(C8 k c).wp P (Exit.then ((Ip (k+1) c).wp P Q) Q) a w):(Ip k c).wp P Q a w:=by
 unfold Ip;rw[h];exact wp_seq hw
end
theorem BY(l:List Value):l=(List.range l.length).map fun i=>l[i]?.getD undef:=by
 refine List.ext_getElem? fun i=>?_
 rw[List.getElem?_map];rcases Nat.lt_or_ge i l.length with h|h
 ·rw[List.getElem?_range h,List.getElem?_eq_getElem h];simp[h]
 ·rw[List.getElem?_eq_none (l:=List.range l.length) (by simp;exact h),List.getElem?_eq_none h];rfl
theorem an{l:List Value}{n:Nat}(h:l.length=n):∃f:Nat->Value,l=(List.range n).map f/\∀i v,l[i]?=some v->f i=v:=
 ⟨fun i=>l[i]?.getD undef,by subst h;exact BY l,fun i v e=>by show l[i]?.getD undef=v;rw[e];rfl⟩
theorem cV{P:Program}{f:FuncId}{fn:Func}{args:List Value}{w:World}{R:Ending->World->Prop}(n:Nat)(hf:P.funcs[f]?=some fn)(hb:fn.body=some (bv fn))(hn:fn.ntmps=n)(ha:args.length<=n)
  (h:∀l:List Value,l.length=n->(∀(i:Nat) (v:Value),args[i]?=some v->l[i]?=some v)->(Ip 0 (bv fn)).wp P (bodyPost P fn R) ⟨l.toArray,[]⟩ w):Calls P f args.toArray w R:=by
 refine calls_of_wp hf hb ?_;have e:args.toArray++Array.replicate (fn.ntmps-args.toArray.size) undef=(args++List.replicate (n-args.length) undef).toArray:=by
  rw[hn];simp
 rw[e];exact h _ (by simp;omega) fun i v hi=>by
  have hl:i<args.length:=(List.getElem?_eq_some_iff.1 hi).1;rw[List.getElem?_append_left hl];exact hi
theorem df {P:Program}{Q:Exit->Act->World->Prop}{a:Act}{w:World}(k:Nat)(F:Func){c:Code}(h:Tm k (bv F)=some c)(hw:c.wp P Q a w):(C8 k (bv F)).wp P Q a w:=oK h hw
theorem Fm {P:Program}{Q:Exit->Act->World->Prop}{a:Act}{w:World}(k:Nat)(F:Func){c:Code}(h:St k (bv F)=some c)(hw:c.wp P Q a w):(Ip k (bv F)).wp P Q a w:=oK h hw
abbrev sQ (k:Nat)(F:Func)(K:Act->World->Prop)(Q:Exit->Act->World->Prop)(l:List Value)(w:World):Prop:=(C8 k (bv F)).wp prog (Exit.then K Q) ⟨l.toArray,[]⟩ w
abbrev sP (k:Nat)(F:Func)(K:Act->World->Prop)(H:Ending->World->Prop)(l:List Value)(w:World):Prop:=(C8 k (bv F)).wp prog (Exit.then K (bodyPost prog F H)) ⟨l.toArray,[]⟩ w
abbrev tP (k:Nat)(F:Func)(H:Ending->World->Prop)(l:List Value)(w:World):Prop:=(Ip k (bv F)).wp prog (bodyPost prog F H) ⟨l.toArray,[]⟩ w
abbrev rT (H:World->Prop):Ending->World->Prop:=fun e w''=>e=.returned (.tuple #[])/\H w'' 
def LA(l:List Value)(g b s:Nat)(rd:Int):Prop:=l.length=263/\l[0]?=some (.pointer (some ⟨g,0,none⟩))/\l[3]?=some (.pointer (some ⟨b,0,none⟩))/\l[4]?=some (.int .i64 s)/\l[5]?=some (.int .i64 rd)
def jU(m:Mg)(s:Nat)(A1 A2:Option Addr)(n1 c1 n2 c2:Nat):Array Value:=#[.int .i64 m.kind,.int .i64 s,.int .i64 m.tgt,.int .i64 m.term,.int .i64 m.idx,.int .i64 m.logTerm,.int .i64 m.commit,.int .i64 m.round,.bool m.reject,.int .i64 m.offset,.int .i64 m.total,.slice A1 n1 c1,.slice A2 n2 c2]
section
variable {ag:Nat->Nat}{c q g s b pr d n1 c1 n2 c2:Nat}{A1 A2:Option Addr}{w1 wx:World}{R:Rf}{v:Aw}{mc:Array Value}{P:Pr}{K:Act->World->Prop}{Q':Exit->Act->World->Prop}{l:List Value}{m:Mg}{rd:Int}
theorem Tu{r0:Int}(hl:LA l g b s r0)(aD:mL ag c q w1 g R s v b mc P wx)(hK:∀l',LA l' g b s (min r0 R.round)->K ⟨l'.toArray,[]⟩ wx):sQ 3 f119 K Q' l wx:=by
 obtain⟨hA,_,_⟩:=id aD;have c15:=hA.s.cell 15;simp only[bu,vi,Zx]at c15;replace c15:wx.cell? ⟨g,15,none⟩=some (.int .i64 R.round):=c15;replace aD:=zH aD;clear hA;obtain⟨af,aY,aL,bW,dK⟩:=hl;obtain⟨fr,rfl,ai⟩:=an af;rw[ed,ai _ _ aY,ai _ _ aL,ai _ _ bW,ai _ _ dK];clear af ai aY aL bW dK;refine df 3 f119 rfl ?_;rcases(show(R.round<r0/\min r0 R.round=R.round)\/(r0<=R.round/\min r0 R.round=r0) by omega)with⟨a1,a2⟩|⟨a1,a2⟩
 ·rw[a2]at hK;clear a2;go_wp2_with fail;exact⟨rfl,rfl,rfl,rfl,rfl⟩
 ·rw[a2]at hK;clear a2;go_wp2_with fail;exact⟨rfl,rfl,rfl,rfl,rfl⟩
theorem Tv(ha:aN c q)(dP:s<R.peers.length)(fG:v.peers=.slice (some ⟨pr,0,none⟩) R.peers.length d)(cO:ag b≠c+4)(hl:LA l g b s rd)(aD:mL ag c q w1 g R s v b mc P wx)
  (hK:∀l' w',LA l' g b s rd->mL ag c q w1 g R s v b mc {P with round:=max P.round rd} w'->K ⟨l'.toArray,[]⟩ w'):sQ 4 f119 K Q' l wx:=by
 obtain⟨hA,vD,jR⟩:=id aD;obtain⟨⟨p0,p1,p2,p3⟩,⟨e0,e1,e2,e3⟩,wb⟩:=hA.peer_cells (s:=s) (by rw[bj];exact dP) fG (bK R s _ dP);have c14:_:=hA.s.cell 14;simp only[bu,Zx]at c14;rw[fG]at c14;have xn:=hA.s.lt;have ym:=jR.lt;have tj:s<R.peers.length:=dP;obtain⟨n,fi⟩:=zN (R.peers.length);by_cases a1:P.round<rd
 ·have j6:=aD.set 3 (.int .i64 rd) {P with round:=max P.round rd} ha dP fG cO (by omega) (by show[_,_,_,_]=[_,_,_,_];rw[show max P.round rd=rd by omega];rfl);replace j6:=zH j6;replace aD:=zH aD;replace fG:=zH fG;rw[fi]at tj c14;clear fi;clear hA vD jR;obtain⟨af,aY,aL,bW,dK⟩:=hl;obtain⟨fr,rfl,ai⟩:=an af;rw[ed,ai _ _ aY,ai _ _ aL,ai _ _ bW,ai _ _ dK];clear af ai aY aL bW dK;refine df 4 f119 rfl ?_;go_wp2_with fail;exact hK _ _ ⟨rfl,rfl,rfl,rfl,rfl⟩ j6.out
 ·have e:({P with round:=max P.round rd}:Pr)=P:=by rw[show max P.round rd=P.round by omega]
  rw[e]at hK;have j6:=zH aD;replace aD:=zH aD;replace fG:=zH fG;rw[fi]at tj c14;clear fi e;clear hA vD jR;replace a1:=Int.not_lt.1 a1;obtain⟨af,aY,aL,bW,dK⟩:=hl;obtain⟨fr,rfl,ai⟩:=an af;rw[ed,ai _ _ aY,ai _ _ aL,ai _ _ bW,ai _ _ dK];clear af ai aY aL bW dK;refine df 4 f119 rfl ?_;go_wp2_with fail;exact hK _ _ ⟨rfl,rfl,rfl,rfl,rfl⟩ j6.out
theorem IX(h0:¬(m.kind=8/\0<m.total))(hl:LA l g b s rd)(aD:mL ag c q w1 g R s v b (jU m s A1 A2 n1 c1 n2 c2) P wx)
  (hK:∀l',LA l' g b s rd->K ⟨l'.toArray,[]⟩ wx):sQ 5 f119 K Q' l wx:=by
 obtain⟨hA,_,jR⟩:=id aD;obtain⟨y0,y10,-⟩:=jR.cs [0,10];simp only[jU,Zx]at y0 y10;have cB:(m.kind==8)=false\/((m.kind==8)=true/\m.total<=0):=by
  by_cases hk:m.kind=8
  ·refine .inr ⟨by simp[hk],?_⟩;rcases Int.lt_or_le 0 m.total with h|h
   ·exact absurd ⟨hk,h⟩ h0
   ·exact h
  ·exact .inl (by simp[hk])
 replace aD:=zH aD;replace h0:=zH h0;clear hA jR;obtain⟨af,aY,aL,bW,dK⟩:=hl;obtain⟨fr,rfl,ai⟩:=an af;rw[ed,ai _ _ aY,ai _ _ aL,ai _ _ bW,ai _ _ dK];clear af ai aY aL bW dK;refine df 5 f119 rfl ?_;rcases cB with h|⟨h,h'⟩
 ·go_wp2_with fail;exact⟨rfl,rfl,rfl,rfl,rfl⟩
 ·go_wp2_with fail;exact⟨rfl,rfl,rfl,rfl,rfl⟩
end
section
variable {ag:Nat->Nat}{c q g s b pr d n1 c1 n2 c2:Nat}{A1 A2:Option Addr}{w1 wx:World}{R:Rf}{v:Aw}{P:Pr}{K:Act->World->Prop}{l:List Value}{m:Mg}{rd:Int}{G:World->Prop}
theorem Fv(ha:aN c q)(dP:s<R.peers.length)(fG:v.peers=.slice (some ⟨pr,0,none⟩) R.peers.length d)(cO:ag b≠c+4)(Qz:g≠b)(hk:m.kind=8)(ht:0<m.total)(hx:m.idx=R.snap.idx)(hy:P.next-1<R.snap.idx)
  (cu:1<=P.next/\P.next<=1099511627777) (hl:LA l g b s rd) (aD:mL ag c q w1 g R s v b (jU m s A1 A2 n1 c1 n2 c2) P wx)
  (kH:∀w',mL ag c q w1 g R s v b (jU m s A1 A2 n1 c1 n2 c2) {P with offset:=min m.offset R.snap.data.length} w'->Calls prog 100 #[.pointer (some ⟨g,0,none⟩),.int .i64 s] w' fun e w''=>e=.returned (.tuple #[])/\G w'') :
  sP 5 f119 K (rT G) l wx:=by
 obtain⟨hA,vD,jR⟩:=id aD;obtain⟨⟨p0,p1,p2,p3⟩,⟨e0,e1,e2,e3⟩,wb⟩:=hA.peer_cells (s:=s) (by rw[bj];exact dP) fG (bK R s _ dP);have c14:_:=hA.s.cell 14;simp only[bu,Zx]at c14;rw[fG]at c14;have xn:=hA.s.lt;have ym:=jR.lt;obtain⟨y0,y4,y9,y10,-⟩:=jR.cs [0,4,9,10];simp only[jU,vi,Zx]at y0 y4 y9 y10;have tj:s<R.peers.length:=dP;have c5:=hA.s.cell 5;simp only[bu,vi,Zx]at c5;replace c5:wx.cell? ⟨g,5,none⟩=some (.int .i64 R.snap.idx):=c5;have GC:(m.kind==8)=true:=by simp[hk]
 have CR:(m.idx==R.snap.idx)=true:=by simp[hx]
 obtain⟨N,F6⟩:=zN (R.snap.data.length);obtain⟨n,fi⟩:=zN (R.peers.length);obtain⟨W,hW⟩:=zN ((wx.setCell ⟨pr,s*4+2,none⟩ (.int .i64 m.offset)).drew.drew);have G1:mL ag c q w1 g R s v b (jU m s A1 A2 n1 c1 n2 c2) {P with offset:=m.offset} W:=by
  rw[<-hW];exact(aD.set 2 (.int .i64 m.offset) {P with offset:=m.offset} ha dP fG cO (by omega) rfl).below (ay zb 2)
 obtain⟨k14,k5,ky4,kp0⟩:=IA [g,b,pr] c14 c5 y4 p0;have x14:=ae (w:=wx.drew) (gs:=[g,b,pr]) c14 (by simp);have xy9:=ae (w:=wx.drew) (gs:=[g,b,pr]) y9 (by simp);have VQ:-9223372036854775808<=P.next-1/\P.next-1<=9223372036854775807:=by omega
 rw[fi]at tj c14 k14 x14;have j6:=zH aD;replace aD:=zH aD;replace hW:=zH hW;replace hk:=zH hk;replace hx:=zH hx;have NK:=fG;rw[fi]at NK;replace fG:=zH fG;replace NK:=zH NK;replace G1:=zH G1;clear hA vD jR p1 p3 e1 e3;obtain⟨af,aY,aL,bW,dK⟩:=hl;obtain⟨fr,rfl,ai⟩:=an af;rw[ed,ai _ _ aY,ai _ _ aL,ai _ _ bW,ai _ _ dK];clear af ai aY aL bW dK;refine df 5 f119 rfl ?_;replace fi:=zH fi;go_wp2_with fail;refine eE [g,b,pr] wx [] [0,1,2,3,4,5,6,7,8,9,10,11,12,13,14,15,16,17,18,19,20,21,22,23,24] ?_;refine al ?_;simp only[ah,Zx];repeat go_big_quiet_step(fail)
 apply wpQuiet_nil;go_wp2_with fail;refine bU (C:=dS [g,b,pr] wx.drew) [] ([0,1,2,3,4,5,6,7,8],9) (by kernel_rfl) (by kernel_rfl) (fun _ _ _ _ e h=>⟨e.symm.trans h.1,h.2⟩) aQ ?_;refine aC ?_;simp only[ah,Zx];repeat go_big_quiet_step(fail)
 apply wpQuiet_nil;go_wp2_with fail;rw[hW.out];clear y0 y4 y9 y10 c5 c14 p0 p2 e0 e2 k14 k5 ky4 kp0 x14 xy9 wb xn ym;obtain⟨hA,vD,jR⟩:=id G1.out;obtain⟨⟨p0,p1,p2,p3⟩,⟨e0,e1,e2,e3⟩,wb⟩:=hA.peer_cells (s:=s) (by rw[bj];exact dP) fG (bK R s _ dP);have c14:_:=hA.s.cell 14;simp only[bu,Zx]at c14;rw[fG]at c14;have xn:=hA.s.lt;have ym:=jR.lt;have y9:=jR.cell 9;simp only[jU,vi,Zx]at y9;obtain⟨Ad,cd,tK,_⟩:=id hA.d;have c7:=hA.s.cell 7;simp only[bu,Zx]at c7;replace c7:W.cell? ⟨g,7,none⟩=some (.slice Ad N cd):=by rw[c7,tK];show some (Value.slice Ad R.snap.data.length cd)=_;rw[F6]
 clear tK hA vD jR p0 p1 p3 e0 e1 e3;rw[fi.out]at c14;obtain⟨k7,k14,ky9⟩:=tT [g,b,pr] c7 c14 y9;have x7:=ae (w:=W.drew) (gs:=[g,b,pr]) c7 (by simp);have x14:=ae (w:=W.drew) (gs:=[g,b,pr]) c14 (by simp);by_cases a1:(N:Int)<m.offset
 ·obtain⟨V,hV⟩:=zN ((W.setCell ⟨pr,s*4+2,none⟩ (.int .i64 N)).drew.drew);have eG:=kH V (by
   rw[<-hV,show min m.offset (R.snap.data.length:Int)=N by omega];exact((G1.out).set 2 (.int .i64 N) {P with offset:=N} ha dP fG.out cO (by omega) rfl).below (ay zb 2))
  replace hV:=zH hV;replace F6:=zH F6;clear kH;refine eE [g,b,pr] W [] [0,1,2,3,4,5,6,7,8] ?_;refine al ?_;simp only[ah,Zx];repeat go_big_quiet_step(fail)
  apply wpQuiet_nil;go_wp2_with fail;refine bU (C:=dS [g,b,pr] W.drew) [] ([0,1,2,3,4,5,6,7,8,9,10,11,12],13) (by kernel_rfl) (by kernel_rfl) (fun _ _ _ _ e h=>⟨e.symm.trans h.1,h.2⟩) aQ ?_;refine aC ?_;simp only[ah,Zx];repeat go_big_quiet_step(fail)
  apply wpQuiet_nil;go_wp2_with fail;rw[hV.out];refine eG.mono ?_;rintro e wn ⟨rfl,hp⟩;replace hp:=zH hp;clear eG;go_wp2_with fail;exact aP rfl rfl ⟨rfl,hp.out⟩
 ·have eG:=kH W.drew (by
   rw[show min m.offset (R.snap.data.length:Int)=m.offset by omega];exact(G1.out).below (zb.drew))
  replace a1:=Int.not_lt.1 a1;replace F6:=zH F6;clear kH;refine eE [g,b,pr] W [] [0,1,2,3,4,5,6,7,8] ?_;refine al ?_;simp only[ah,Zx];repeat go_big_quiet_step(fail)
  apply wpQuiet_nil;go_wp2_with fail;refine eG.mono ?_;rintro e wn ⟨rfl,hp⟩;replace hp:=zH hp;clear eG;go_wp2_with fail;exact aP rfl rfl ⟨rfl,hp.out⟩
end
section
variable {ag:Nat->Nat}{c q g s b pr d n1 c1 n2 c2:Nat}{A1 A2:Option Addr}{w1 wx:World}{R:Rf}{v:Aw}{P:Pr}{K:Act->World->Prop}{Q':Exit->Act->World->Prop}{l:List Value}{m:Mg}{rd:Int}{G:World->Prop}
theorem Dk(dP:s<R.peers.length)(fG:v.peers=.slice (some ⟨pr,0,none⟩) R.peers.length d)(hk:m.kind=8)(ht:0<m.total)(NR:¬(m.idx=R.snap.idx/\P.next-1<R.snap.idx))
  (cu:1<=P.next/\P.next<=1099511627777) (hl:LA l g b s rd) (aD:mL ag c q w1 g R s v b (jU m s A1 A2 n1 c1 n2 c2) P wx)
  (hG:∀w',mL ag c q w1 g R s v b (jU m s A1 A2 n1 c1 n2 c2) P w'->G w') :
  sP 5 f119 K (rT G) l wx:=by
 obtain⟨hA,vD,jR⟩:=id aD;obtain⟨⟨p0,p1,p2,p3⟩,⟨e0,e1,e2,e3⟩,wb⟩:=hA.peer_cells (s:=s) (by rw[bj];exact dP) fG (bK R s _ dP);have c14:_:=hA.s.cell 14;simp only[bu,Zx]at c14;rw[fG]at c14;have xn:=hA.s.lt;have ym:=jR.lt;obtain⟨y0,y4,y10,-⟩:=jR.cs [0,4,10];simp only[jU,vi,Zx]at y0 y4 y10;have tj:s<R.peers.length:=dP;have c5:=hA.s.cell 5;simp only[bu,vi,Zx]at c5;replace c5:wx.cell? ⟨g,5,none⟩=some (.int .i64 R.snap.idx):=c5;have GC:(m.kind==8)=true:=by simp[hk]
 obtain⟨n,fi⟩:=zN (R.peers.length);have hQ:=zH (hG _ (aD.below (zb.drew)));obtain⟨k14,k5,ky4,kp0⟩:=IA [g,b,pr] c14 c5 y4 p0;have VQ:-9223372036854775808<=P.next-1/\P.next-1<=9223372036854775807:=by omega
 rw[fi]at tj c14 k14;have cB:(m.idx==R.snap.idx)=false\/((m.idx==R.snap.idx)=true/\R.snap.idx<=P.next-1):=by
  by_cases h:m.idx=R.snap.idx
  ·refine .inr ⟨by simp[h],?_⟩;rcases Int.lt_or_le (P.next-1) R.snap.idx with h'|h'
   ·exact absurd ⟨h,h'⟩ NR
   ·exact h'
  ·exact .inl (by simp[h])
 replace aD:=zH aD;replace hk:=zH hk;replace NR:=zH NR;replace fG:=zH fG;clear hA vD jR p1 p2 p3 e0 e1 e2 e3 hG;obtain⟨af,aY,aL,bW,dK⟩:=hl;obtain⟨fr,rfl,ai⟩:=an af;rw[ed,ai _ _ aY,ai _ _ aL,ai _ _ bW,ai _ _ dK];clear af ai aY aL bW dK;refine df 5 f119 rfl ?_;replace fi:=zH fi;rcases cB with CR|⟨CR,hxj⟩
 all_goals
  go_wp2_with fail;refine eE [g,b,pr] wx [] [0,1,2,3,4,5,6,7,8,9,10,11,12,13,14,15,16,17,18,19,20,21,22,23,24] ?_;refine al ?_;simp only[ah,Zx];repeat go_big_quiet_step(fail)
  apply wpQuiet_nil;go_wp2_with fail;exact aP rfl rfl ⟨rfl,hQ.out⟩
theorem IY(h0:m.reject=false)(hl:LA l g b s rd)(aD:mL ag c q w1 g R s v b (jU m s A1 A2 n1 c1 n2 c2) P wx)
  (hK:∀l',LA l' g b s rd->K ⟨l'.toArray,[]⟩ wx):sQ 6 f119 K Q' l wx:=by
 obtain⟨hA,_,jR⟩:=id aD;have y8:=jR.cell 8;simp only[jU,Zx]at y8;rw[h0]at y8;replace aD:=zH aD;replace h0:=zH h0;clear hA jR;obtain⟨af,aY,aL,bW,dK⟩:=hl;obtain⟨fr,rfl,ai⟩:=an af;rw[ed,ai _ _ aY,ai _ _ aL,ai _ _ bW,ai _ _ dK];clear af ai aY aL bW dK;refine df 6 f119 rfl ?_;go_wp2_with fail;exact⟨rfl,rfl,rfl,rfl,rfl⟩
theorem Fw(ha:aN c q)(dP:s<R.peers.length)(fG:v.peers=.slice (some ⟨pr,0,none⟩) R.peers.length d)(cO:ag b≠c+4)(h0:m.reject=true)(ut:0<=m.idx/\m.idx<=1099511627776)
  (cu:1<=P.next/\P.next<=1099511627777) (CL:0<=P.mat/\P.mat<=1099511627776) (hl:LA l g b s rd) (aD:mL ag c q w1 g R s v b (jU m s A1 A2 n1 c1 n2 c2) P wx)
  (kH:∀w',mL ag c q w1 g R s v b (jU m s A1 A2 n1 c1 n2 c2) {P with next:=max (P.mat+1) (min (P.next-1) (m.idx+1))} w'->Calls prog 100 #[.pointer (some ⟨g,0,none⟩),.int .i64 s] w' fun e w''=>e=.returned (.tuple #[])/\G w'') :
  sP 6 f119 K (rT G) l wx:=by
 obtain⟨hA,vD,jR⟩:=id aD;obtain⟨⟨p0,p1,p2,p3⟩,⟨e0,e1,e2,e3⟩,wb⟩:=hA.peer_cells (s:=s) (by rw[bj];exact dP) fG (bK R s _ dP);have c14:_:=hA.s.cell 14;simp only[bu,Zx]at c14;rw[fG]at c14;have xn:=hA.s.lt;have ym:=jR.lt;obtain⟨y4,y8,-⟩:=jR.cs [4,8];simp only[jU,vi,Zx]at y4 y8;rw[h0]at y8;have tj:s<R.peers.length:=dP;obtain⟨n,fi⟩:=zN (R.peers.length);obtain⟨nx,Nl⟩:=zN (max (P.mat+1) (min (P.next-1) (m.idx+1)));rw[Nl]at kH;obtain⟨W,hW⟩:=zN (wx.setCell ⟨pr,s*4,none⟩ (.int .i64 nx));have eG:=kH W (by
  rw[<-hW];exact aD.set 0 (.int .i64 nx) {P with next:=nx} ha dP fG cO (by omega) rfl)
 rw[fi]at tj c14;have cB:(m.idx+1<P.next-1/\((m.idx+1<P.mat+1/\nx=P.mat+1)\/(P.mat+1<=m.idx+1/\nx=m.idx+1)))\/(P.next-1<=m.idx+1/\((P.next-1<P.mat+1/\nx=P.mat+1)\/(P.mat+1<=P.next-1/\nx=P.next-1))):=by omega
 replace hW:=zH hW;replace aD:=zH aD;replace fG:=zH fG;replace h0:=zH h0;replace Nl:=zH Nl;clear hA vD jR p2 p3 e1 e2 e3 kH;obtain⟨af,aY,aL,bW,dK⟩:=hl;obtain⟨fr,rfl,ai⟩:=an af;rw[ed,ai _ _ aY,ai _ _ aL,ai _ _ bW,ai _ _ dK];clear af ai aY aL bW dK;refine df 6 f119 rfl ?_;replace fi:=zH fi;rcases cB with⟨x1,⟨x2,x3⟩|⟨x2,x3⟩⟩|⟨x1,⟨x2,x3⟩|⟨x2,x3⟩⟩
 all_goals
  have KJ:wx.setCell ⟨pr,s*4,none⟩ (.int .i64 nx)=W:=hW.out;rw[x3]at KJ;replace KJ:=zH KJ;clear x3;go_wp2_with fail;rw[KJ.out];go_wp2_with fail;refine eG.mono ?_;rintro e wn ⟨rfl,hp⟩;replace hp:=zH hp;clear eG;go_wp2_with fail;exact aP rfl rfl ⟨rfl,hp.out⟩
end
end Go.Proofs.YtjcninheccmpoaaGreat
