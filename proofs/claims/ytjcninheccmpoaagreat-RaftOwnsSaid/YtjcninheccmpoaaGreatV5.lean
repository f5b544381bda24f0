import Derived.Test.YtjcninheccmpoaaGreatV4
import Derived.Lib.AppendZeros
import Derived.Lib.LazyBuf
set_option maxRecDepth 100000
set_option maxHeartbeats 8000000
set_option linter.all false
namespace Go.Proofs.YtjcninheccmpoaaGreat
open Go.RowKit Go.Proofs.Tryz
section
open Go.MapKept
section
variable {aa ak:Nat->Nat}{b g:Nat}{w w':World}{R R':Rf}{v v':Rw}
theorem ax.turn(X:List Nat)(h:ax aa b w g R v)(hs:ao w' g 107 (bV R' v'))(hl:∀i j,0<i->i<=13->i∉X->j<w.heap.size->aa j=b+i->ak j=b+i)
  (h1:1∉X) (hF:Fr (fun j=>j=g\/∃i,i∈X/\aa j=b+i) w w')
  (t:tb ak (b+2) w' v'.trk R'.track\/(2∉X/\v'.trk=v.trk/\R'.track=R.track))
  (p:bR ak (b+3) w' 163 4 v'.peers R'.peers.length (R'.peers.flatMap mW)\/(3∉X/\v'.peers=v.peers/\R'.peers=R.peers))
  (q:bR ak (b+4) w' 167 3 v'.waits R'.waits.length (R'.waits.flatMap sZ)\/(4∉X/\v'.waits=v.waits/\R'.waits=R.waits))
  (y:ts ak (b+5) w' v'.yes R'.yes\/(5∉X/\v'.yes=v.yes/\R'.yes=R.yes))
  (d:bP ak (b+6) w' v'.dat R'.snap.data\/(6∉X/\v'.dat=v.dat/\R'.snap.data=R.snap.data))
  (gd:bR ak (b+7) w' 5 1 v'.gat R'.gath.data.length (R'.gath.data.map vb)\/(7∉X/\v'.gat=v.gat/\R'.gath.data=R.gath.data))
  (e:dQ ak (b+8) (b+13) w' v'.ent R'.out.entries\/((8∉X/\13∉X)/\v'.ent=v.ent/\R'.out.entries=R.out.entries))
  (c:dQ ak (b+9) (b+13) w' v'.com R'.out.commits\/((9∉X/\13∉X)/\v'.com=v.com/\R'.out.commits=R.out.commits))
  (n:qS ak (b+13) w' v'.snp R'.out.snap\/(13∉X/\v'.snp=v.snp/\R'.out.snap=R.out.snap))
  (r:bR ak (b+11) w' 134 2 v'.rds R'.out.reads.length (R'.out.reads.flatMap qM)\/(11∉X/\v'.rds=v.rds/\R'.out.reads=R.out.reads))
  (m:gI ak (b+12) (b+13) w' v'.mgs R'.out.msgs\/((12∉X/\13∉X)/\v'.mgs=v.mgs/\R'.out.msgs=R.out.msgs)):ax ak b w' g R' v':=by
 have h0:=h.relabel (ak:=aj aa w.heap.size b) fun j hj _=>ac hj
 have B:∀i j,0<i->aj aa w.heap.size b j=b+i->j<w.heap.size/\aa j=b+i:=fun i j hi e=>by
  rcases Nat.lt_or_ge j w.heap.size with hj|hj
  ·exact⟨hj,(ac hj).symm.trans e⟩
  ·rw[az hj]at e;omega
 have L:∀i,0<i->i<=13->i∉X->∀j,j<w'.heap.size->aj aa w.heap.size b j=b+i->ak j=b+i:=fun i h1 h2 hX j _ e=>hl i j h1 h2 hX (B i j h1 e).1 (B i j h1 e).2
 have K:∀i,1<i->i<=13->i∉X->∀j,aj aa w.heap.size b j=b+i->j<w.heap.size->w'.heap[j]?=w.heap[j]?:=fun i h0 h1 hX j hj aU=>hF.block j aU fun hh=>by
  have hj:=(B i j (by omega) hj).2;rcases hh with rfl|⟨k,hk,hh⟩
  ·have:=h.sl;omega
  ·have:k=i:=by omega
   rw[this]at hk;exact hX hk
 refine⟨hs,hl 1 g (by omega) (by omega) h1 h.s.lt h.sl,?_,?_,?_,?_,?_,?_,?_,?_,?_,?_,?_⟩
 ·rcases t with t|⟨hX,e1,e2⟩
  ·exact t
  ·rw[e1,e2];exact(h0.t.keep (K 2 (by omega) (by omega) hX)).relabel (L 2 (by omega) (by omega) hX)
 ·rcases p with p|⟨hX,e1,e2⟩
  ·exact p
  ·rw[e1,e2];exact(h0.p.keep (K 3 (by omega) (by omega) hX)).relabel (L 3 (by omega) (by omega) hX)
 ·rcases q with q|⟨hX,e1,e2⟩
  ·exact q
  ·rw[e1,e2];exact(h0.q.keep (K 4 (by omega) (by omega) hX)).relabel (L 4 (by omega) (by omega) hX)
 ·rcases y with y|⟨hX,e1,e2⟩
  ·exact y
  ·rw[e1,e2];exact(h0.y.keep (K 5 (by omega) (by omega) hX)).relabel (L 5 (by omega) (by omega) hX)
 ·rcases d with d|⟨hX,e1,e2⟩
  ·exact d
  ·rw[e1,e2];exact(h0.d.keep (K 6 (by omega) (by omega) hX)).relabel (L 6 (by omega) (by omega) hX)
 ·rcases gd with gd|⟨hX,e1,e2⟩
  ·exact gd
  ·rw[e1,e2];exact(h0.gd.keep (K 7 (by omega) (by omega) hX)).relabel (L 7 (by omega) (by omega) hX)
 ·rcases e with e|⟨⟨hX,hY⟩,e1,e2⟩
  ·exact e
  ·rw[e1,e2];exact(h0.e.keep (K 8 (by omega) (by omega) hX) (K 13 (by omega) (by omega) hY)).relabel (L 8 (by omega) (by omega) hX) (L 13 (by omega) (by omega) hY)
 ·rcases c with c|⟨⟨hX,hY⟩,e1,e2⟩
  ·exact c
  ·rw[e1,e2];exact(h0.c.keep (K 9 (by omega) (by omega) hX) (K 13 (by omega) (by omega) hY)).relabel (L 9 (by omega) (by omega) hX) (L 13 (by omega) (by omega) hY)
 ·rcases n with n|⟨hX,e1,e2⟩
  ·exact n
  ·rw[e1,e2];exact(h0.n.keep (K 13 (by omega) (by omega) hX)).relabel (L 13 (by omega) (by omega) hX)
 ·rcases r with r|⟨hX,e1,e2⟩
  ·exact r
  ·rw[e1,e2];exact(h0.r.keep (K 11 (by omega) (by omega) hX)).relabel (L 11 (by omega) (by omega) hX)
 ·rcases m with m|⟨⟨hX,hY⟩,e1,e2⟩
  ·exact m
  ·rw[e1,e2];exact(h0.m.keep (K 12 (by omega) (by omega) hX) (K 13 (by omega) (by omega) hY)).relabel (L 12 (by omega) (by omega) hX) (L 13 (by omega) (by omega) hY)
theorem ap.turn(X:List Nat)(h:ax aa b w g R v)(hs:ao w' g 107 (bV R' v'))(hl:∀j,j<w.heap.size->ak j=aa j)
  (h1:∀i,i∈X->1<i/\i<=12) (hF:Fr (fun j=>j=g\/∃i,i∈X/\aa j=b+i) w w')
  (t:tb ak (b+2) w' v'.trk R'.track\/(2∉X/\v'.trk=v.trk/\R'.track=R.track))
  (p:bR ak (b+3) w' 163 4 v'.peers R'.peers.length (R'.peers.flatMap mW)\/(3∉X/\v'.peers=v.peers/\R'.peers=R.peers))
  (q:bR ak (b+4) w' 167 3 v'.waits R'.waits.length (R'.waits.flatMap sZ)\/(4∉X/\v'.waits=v.waits/\R'.waits=R.waits))
  (y:ts ak (b+5) w' v'.yes R'.yes\/(5∉X/\v'.yes=v.yes/\R'.yes=R.yes))
  (d:bP ak (b+6) w' v'.dat R'.snap.data\/(6∉X/\v'.dat=v.dat/\R'.snap.data=R.snap.data))
  (gd:bR ak (b+7) w' 5 1 v'.gat R'.gath.data.length (R'.gath.data.map vb)\/(7∉X/\v'.gat=v.gat/\R'.gath.data=R.gath.data))
  (e:dQ ak (b+8) (b+13) w' v'.ent R'.out.entries\/((8∉X/\13∉X)/\v'.ent=v.ent/\R'.out.entries=R.out.entries))
  (c:dQ ak (b+9) (b+13) w' v'.com R'.out.commits\/((9∉X/\13∉X)/\v'.com=v.com/\R'.out.commits=R.out.commits))
  (n:qS ak (b+13) w' v'.snp R'.out.snap\/(13∉X/\v'.snp=v.snp/\R'.out.snap=R.out.snap))
  (r:bR ak (b+11) w' 134 2 v'.rds R'.out.reads.length (R'.out.reads.flatMap qM)\/(11∉X/\v'.rds=v.rds/\R'.out.reads=R.out.reads))
  (m:gI ak (b+12) (b+13) w' v'.mgs R'.out.msgs\/((12∉X/\13∉X)/\v'.mgs=v.mgs/\R'.out.msgs=R.out.msgs)):ap aa b w g R' w':=by
 refine⟨ak,v',h.turn X hs (fun i j _ _ _ hj e=>(hl j hj).trans e) (fun hh=>by have:=h1 1 hh;omega) hF t p q y d gd e c n r m,fun j hj _=>hl j hj,fun j hj hm=>?_,hF.mono fun j hj=>?_⟩
 ·unfold aS at hm ⊢;rw[hl j hj];exact hm
 ·have:=h.sl;rcases hj with rfl|⟨i,hi,e⟩
  ·exact⟨by omega,by omega⟩
  ·have:=h1 i hi;exact⟨by omega,by omega⟩
theorem Fr.map{b:Nat}(hg:w.grownBy w' (some b)):Fr (fun j=>j=b) w w':=
 have h:=(Below.refl 0 w).grown hg zz (fun _ _=>Nat.zero_le _)
 ⟨h.os,h.tape,h.output,h.size,fun k hk hn=>hg.block k hk fun e=>hn (Option.some.inj e)⟩
theorem Fr.two{X Y Z:Nat->Prop}{w1 w2 w3:World}(h:Fr X w1 w2)(h':Fr Y w2 w3)(hX:∀j,X j->Z j\/w1.heap.size<=j)(hY:∀j,Y j->Z j\/w1.heap.size<=j):Fr Z w1 w3:=
 ⟨h'.os.trans h.os,h'.tape.trans h.tape,h'.output.trans h.output,Nat.le_trans h.size h'.size,fun k hk hn=>
  (h'.block k (Nat.lt_of_lt_of_le hk h.size) fun hx=>(hY k hx).elim hn fun h0=>absurd h0 (by omega)).trans (h.block k hk fun hx=>(hX k hx).elim hn fun h0=>absurd h0 (by omega))⟩
theorem tX(role:Int)(h:ax aa b w g R v)(jb:R.id<=1000) :
  Calls prog 96 #[.pointer (some ⟨g,0,none⟩),.int .i64 role] w fun e w'=>e=.returned (.tuple #[])/\ap aa b w g {R with role:=role,leader:=0,yes:=[(R.id:Int)]} w':=by
 have cW:=h.s.lt;obtain⟨c3,c4,c13,c14,-⟩:=h.s.cs [3,4,13,14];obtain⟨f3,f13,f14,-⟩:=h.s.fs [3,13,14];simp only[bV,vi,Zx]at c3 c4 c13 c14;have Dx:Fr (fun j=>j=g) w ((w.setCell ⟨g,13,none⟩ (.int .i64 role)).setCell ⟨g,14,none⟩ (.int .i64 0)):=(Fr.set g 13 _).trans (Fr.set g 14 _) fun _ h=>.inl h
 have fU:((w.setCell ⟨g,13,none⟩ (.int .i64 role)).setCell ⟨g,14,none⟩ (.int .i64 0)).heap.size=w.heap.size:=by simp[World.setCell]
 have xh:ao ((w.setCell ⟨g,13,none⟩ (.int .i64 role)).setCell ⟨g,14,none⟩ (.int .i64 0)) g 107 (bV {R with role:=role,leader:=0} v):=by
  have s:=(h.s.set_ 13 (.int .i64 role)).set_ 14 (.int .i64 0);simp only[bV,Zy]at s;exact s
 have eY:=fj.made ((w.setCell ⟨g,13,none⟩ (.int .i64 role)).setCell ⟨g,14,none⟩ (.int .i64 0));rw[fU]at eY;have dX:Below _ ((w.setCell ⟨g,13,none⟩ (.int .i64 role)).setCell ⟨g,14,none⟩ (.int .i64 0)) (((w.setCell ⟨g,13,none⟩ (.int .i64 role)).setCell ⟨g,14,none⟩ (.int .i64 0)).alloc (.map #[] 0)):=(Below.refl ((w.setCell ⟨g,13,none⟩ (.int .i64 role)).setCell ⟨g,14,none⟩ (.int .i64 0)).heap.size _).alloc zl _;obtain⟨wa,hwa⟩:=zN (((w.setCell ⟨g,13,none⟩ (.int .i64 role)).setCell ⟨g,14,none⟩ (.int .i64 0)));rw[hwa]at Dx fU xh eY dX;obtain⟨w2,cZ⟩:=zN (wa.alloc (.map #[] 0));rw[cZ]at eY dX;obtain⟨w3,RI,jS,iy⟩:=sC eY underlying101 (s:=(R.id:Int)) (by omega) (by omega) (.bool true);have ki:=xh.kept dX;have iE:ao w3 g 107 (bV {R with role:=role,leader:=0} v):=((Fr.map iy).block g ki.lt (by omega)).trans ki;have c4':=ki.cell 4;have d3:=iE.cell 3;have e3:=iE.free 3;simp only[bV,vi,Zx]at d3 c4';have Le:fj (w3.setCell ⟨g,3,none⟩ (.map (some w.heap.size))) w.heap.size [(R.id:Int)]:=jS.keep ((Fr.set g 3 _).block _ jS.lt (by omega));have hF:Fr (fun j=>j=g\/∃i,i∈[5]/\aa j=b+i) w (w3.setCell ⟨g,3,none⟩ (.map (some w.heap.size))):=
  (((Dx.two (Fr.of_below (X:=fun j=>j=g) dX) (fun j e=>.inl (.inl e)) fun j e=>.inl (.inl e)).two (Fr.map iy) (fun j e=>.inl e) fun j e=>.inr (by omega)).two (Fr.set g 3 _) (fun j e=>.inl e) fun j e=>.inl (.inl e))
 have DA:ao (w3.setCell ⟨g,3,none⟩ (.map (some w.heap.size))) g 107 (bV {R with role:=role,leader:=0,yes:=[(R.id:Int)]} {v with yes:=.map (some w.heap.size)}):=by
  have s:=iE.set_ 3 (.map (some w.heap.size));simp only[bV,Zy]at s;exact s
 have hy:ts (aj aa w.heap.size (b+5)) (b+5) (w3.setCell ⟨g,3,none⟩ (.map (some w.heap.size))) (.map (some w.heap.size)) [(R.id:Int)]:=by
  obtain⟨es,clock,q1,q2,q3,q4⟩:=Le;exact .inr ⟨_,es,clock,rfl,az zl,q1,q2,q3,q4⟩
 have hP:=zH (show ap aa b w g {R with role:=role,leader:=0,yes:=[(R.id:Int)]} (w3.setCell ⟨g,3,none⟩ (.map (some w.heap.size)))from ap.turn (ak:=aj aa w.heap.size (b+5)) [5] h DA (fun j hj=>ac hj) (by simp) hF
  tI tI tI (.inl hy) tI tI tI tI tI tI tI)
 clear h eY jS Le hF Dx xh ki iE DA hy iy dX;go_enter func96,ntmps96;go_wp2_with fail;rw[show ∀w,(Instr.makeMap 101 none).run prog w=.ok (.map (some w.heap.size)) (w.alloc (.map #[] 0))from fun _=>rfl];go_wp2_with fail;exact am rfl rfl ⟨rfl,hP.out⟩
end
end
section
open Go.Maps Go.MapKept Go.WideMaps
open Go.ChangeMaps (setBlock)
theorem mK{n:Int}{l l':List Int}(h:∀s,s∈l↔s∈l'):lv n l=lv n l':=by
 have:lk n.toNat l=lk n.toNat l':=by
  unfold lk;congr 1;apply List.filter_congr;intro i _;exact decide_eq_decide.2 (h _)
 unfold lv;rw[this]
def uF(w:World)(r b:Nat):Nat:=match w.heap[r]?,w.heap[b]? with
 | some (.mapIter _ _ seen _),some (.map es _)=>(leftOf es seen).size
 | _,_=>0
section
variable {w w':World}{r b n:Nat}{l:List Int}{left:Int->Prop}{last:Option Int}
theorem lB.n_eq(h:lB w r b l left n last):uF w r b=n:=by
 obtain⟨es,clock,since,c0,seen,h1,h2,aD,hold,VG,hn,_⟩:=h.it;unfold uF;rw[h1,h2];exact hn.symm
theorem lB.iter(h:lB w r b l left n last):∃x s y z,w.heap[r]?=some (.mapIter x s y z):=by
 obtain⟨es,clock,since,c0,seen,h1,_⟩:=h.it;exact⟨_,_,_,_,h1⟩
theorem pF{B:Nat}{row:Option Nat}(h:w.grownBy w' row)(hB:B<=w.heap.size)(bS:∀g,row=some g->B<=g):Below B w w':=
 zb.grown h hB (fun g hg=>bS g hg)
theorem zw{base:Nat}{e:TypeId}{size n:Nat}{v:Value}{xs:List Value}(h:w.ownsRow base e size v n xs)(hk:∀(j:Nat) (cs:Array Value),w.heap[j]?=some (Obj.cells cs e)->w'.heap[j]?=some (Obj.cells cs e)):w'.ownsRow base e size v n xs:=by
 refine⟨h.1,?_⟩;rcases h.2 with h0|⟨g,cap,cur,h1,h2,h3,h4⟩
 ·exact .inl h0
 ·exact .inr ⟨g,cap,cur,h1,h2,hk _ _ h3,h4⟩
theorem oA{base:Nat}{e:TypeId}{size n m j:Nat}{A:Option Addr}{xs:List Value}{o:Obj}(h:w.ownsRow base e size (.slice A n m) n xs)(hg:w.grownBy w' (Value.slice A n m).ownBlock)(hj:w.heap[j]?=some o)(fe:∀cs,o≠.cells cs e (0,0)):w'.heap[j]?=some o:=by
 rw[<-hj];refine hg.block j (aV hj) fun e1=>?_
 rcases h.2 with⟨h0,_⟩|⟨g,cap,cur,h1,_,h3,_⟩
 ·rw[h0]at e1;simp[Value.ownBlock]at e1
 ·rw[h1]at e1;have e2:j=g:=by simpa[Value.ownBlock]using e1
  rw[<-e2,hj]at h3;exact fe _ (Option.some.inj h3)
end
section
variable {aa:Nat->Nat}{b g:Nat}{w:World}{R:Rf}{v:Rw}
theorem ap.below{w1 w2:World}{R1:Rf}(h:ap aa b w g R1 w1)(hb:Below w1.heap.size w1 w2):ap aa b w g R1 w2:=by
 obtain⟨ak,v',h1,h2,h3,h4⟩:=h;exact⟨ak,v',h1.below hb,h2,h3,h4.trans (Fr.of_below (X:=aS aa b) hb) fun j hj=>.inl hj⟩
theorem sD(s:Int)(h:ax aa b w g R v)(h0:0<=s)(rm:s<=1000)(gB:R.yes≠[])(af:R.yes.length<=100000) :
  Calls prog 98 #[.pointer (some ⟨g,0,none⟩),.int .i64 s] w fun e w'=>e=.returned (.bool (R.says s).won)/\ap aa b w g (R.says s) w':=by
 have cW:=h.s.lt;obtain⟨bm,hv,fR,hk⟩:∃bm,v.yes=.map (some bm)/\aa bm=b+5/\fj w bm R.yes:=by
  rcases h.y with⟨_,hn⟩|⟨bm,es,clock,h1,h2,h3,h4,h5,h6⟩
  ·exact absurd hn gB
  ·exact⟨bm,h1,h2,es,clock,h3,h4,h5,h6⟩
 obtain⟨c3,c5,-⟩:=h.s.cs [3,5];simp only[bV,vi,Zx]at c3 c5;rw[hv]at c3;have K9:g≠bm:=fun e=>by
  have:=h.sl;rw[e,fR]at this;omega
 obtain⟨w1,RI,cA,iM⟩:=sC hk underlying101 h0 rm (.bool true);have ir:=Fr.map iM;have xh:ao w1 g 107 (bV R v):=(ir.block g cW K9).trans h.s;obtain⟨d3,d5,-⟩:=xh.cs [3,5];simp only[bV,vi,Zx]at d3 d5;rw[hv]at d3;have qe:ap aa b w g (R.says s) w1:=by
  obtain⟨es,clock,q1,q2,q3,q4⟩:=cA;refine ap.turn (v':=v) (ak:=aa) [5] h xh (fun j _=>rfl) (by simp) (ir.mono fun j e=>.inr ⟨5,by simp,by rw[e];exact fR⟩)
   tI tI tI (.inl ?_) tI tI tI tI tI tI tI
  rw[hv];exact .inr ⟨bm,es,clock,rfl,fR,q1,q2,q3,q4⟩
 have cD:(R.yes++[s]).length<=100001:=by simp;exact af
 have nD:(R.says s).won=lv R.n (R.yes++[s]):=rfl;obtain⟨l,hl⟩:=zN (R.yes++[s]);rw[hl]at cA cD nD;obtain⟨w2,nn,ls,JT,hR,o,cZ⟩:=zO cA underlying101;have ef:Below w1.heap.size w1 w2:=by rw[cZ];exact zb.alloc zl o
 have Fj:w1.heap.size≠bm:=by have:=cA.lt;omega
 have rz:g<w1.heap.size:=xh.lt;replace qe:=zH qe;replace nD:=zH nD;clear h hk cA ir hl cZ fR gB;obtain⟨r,hr⟩:=zN (w1.heap.size);rw[hr]at hR ef Fj ls;go_enter func98,ntmps98;go_wp2_with fail
 go_loopw [5] (fun v wr=>∃(left:Int->Prop) (q:Nat) (last:Option Int) (K:List Int) (A:Option Addr) (m cc:Nat),v=.slice A m cc/\wr.ownsRow r 3 1 (.slice A m cc) m (K.map vi)/\(∀s,s∈K↔(s∈l/\¬left s))/\lB wr r bm l left q last/\m+q<=l.length/\Below r w1 wr) (fun _ wr=>uF wr r bm)
 case atStart=>exact⟨_,nn,_,[],none,0,0,rfl,bX _ _,fun s=>⟨fun h=>(by cases h),fun h=>absurd h.1 h.2⟩,hR,by omega,ef⟩
 case round=>
  clear hR ef;obtain⟨left,q,last,K,A,m,cc,rfl,aB,hK,hR,U8,br⟩:=hrel;have TR:K.length=m:=by have:=aB.1;simpa using this
  have DL:g<r:=by omega
  have d5w:=(br.cell (p:=⟨g,5,none⟩) DL).trans d5;rcases nl hR Fj 0 with⟨h0,hl,cu⟩|⟨s',v',w2',o2,q',Ry,Zu,cZ,cu,ja⟩
  ·have aE:∀s,s∈K↔s∈l:=fun s=>by
    rw[hK];exact⟨fun h=>h.1,fun h=>⟨h,hl s⟩⟩
   have ti:=bB aB;have aH:=Da R.n A m cc K wr (fv.of_own aB) ti.2 ti.1;rw[mK aE]at aH;have hQ:=zH (show ap aa b w g (R.says s) wr from qe.out.below (by rw[hr];exact br));clear aE hK hR aB U8 TR h0 hl;go_wp2_with fail;refine aH.mono ?_;rintro e w9 ⟨rfl,rfl⟩;go_wp2_with fail;go_ret;exact⟨by rw[nD.out];rfl,hQ.out⟩
  ·have Gw:=mh ja;obtain⟨ve,Gw⟩:=Gw;have NA:r<wr.heap.size:=by
    obtain⟨x,y,z,t,h1⟩:=hR.iter;exact aV h1
   have BB:wr.grownBy (setBlock w2' r o2) (some r):=by
    rcases cZ with rfl|rfl
    ·exact⟨rfl,rfl,rfl,by simp[setBlock],fun j _ fe=>by simp only[setBlock];rw[Array.getElem?_setIfInBounds_ne (fun e=>fe (by rw[e]))]⟩
    ·exact⟨rfl,rfl,rfl,by show wr.heap.size<=(wr.heap.setIfInBounds r o2).size;simp,fun j _ fe=>by show(wr.heap.setIfInBounds r o2)[j]?=_;rw[Array.getElem?_setIfInBounds_ne (fun e=>fe (by rw[e]))]⟩
   have bY:(setBlock w2' r o2).ownsRow r 3 1 (.slice A m cc) m (K.map vi):=zw aB fun j cs hj=>(BB.block j (aV hj) (fun e=>by
    injection e with e;obtain⟨x,y,z,t,h1⟩:=hR.iter;rw[e,h1]at hj;cases hj)).trans hj
   have bN:=br.trans (pF BB (by have:=br.size;omega) (fun x hx=>by cases hx;exact Nat.le_refl _));have lz:uF wr r bm=q:=hR.n_eq;clear BB hR br cZ NA aB;generalize jm:setBlock w2' r o2=w3 at *;clear jm;have cO:Below w3.heap.size w3 (w3.alloc (.cells #[.int .i64 s'] 3)):=zb.alloc zl _;have lA:=fv.one w3 s';have gz:=bf bY cO;have te:lB (w3.alloc (.cells #[.int .i64 s'] 3)) r bm l (fun t=>left t/\t≠s') q' (some s'):=ja.keep (cO.block r (by
    obtain⟨x,y,z,t,h1⟩:=ja.iter;exact aV h1)) (cO.block bm ja.m.lt)
   have gT:=ab bN cO (by have:=bN.size;omega);have bE:r<=(w3.alloc (.cells #[.int .i64 s'] 3)).heap.size:=by have:=gT.size;omega
   have fw:m+1<=1000000000:=by omega
   go_wp2_with (at_builtin;refine bh rfl (.tmp 23) (.tmp 25) rfl r rfl gz rfl lA fw bE ?_;intro A5 c5 w5 dq jl cM);have xg:lB w5 r bm l (fun t=>left t/\t≠s') q' (some s'):=by
    refine te.keep ?_ ?_
    ·obtain⟨x,y,z,t,h1⟩:=te.iter;rw[h1];exact oA gz jl h1 (fun cs e=>by cases e)
    ·obtain⟨es,clock,h1,_⟩:=te.m;rw[h1];exact oA gz jl h1 (fun cs e=>by cases e)
   have GO:=xg.n_eq;have dP:s'∈l:=by
    obtain⟨es,clock,h1,h2,h3,h4⟩:=ja.m;obtain⟨es',clock',since,c0,seen,k1,k2,k3,k4,k5,k6,k7,k8,k9,k10⟩:=ja.it;obtain⟨e,seen0,q1,q2,_⟩:=k10 s' rfl;rw[h1]at k2;cases k2;exact(h4 s').2 ⟨e,q1,q2⟩
   refine⟨⟨_,q',_,K++[s'],A5,m+1,c5,rfl,dq,fun t=>?_,xg,by omega,gT.trans cM⟩,by rw[GO,lz];exact Ry⟩;rw[List.mem_append,List.mem_singleton,hK];constructor
   ·rintro(h|rfl)
    ·exact⟨h.1,fun h2=>h.2 h2.1⟩
    ·exact⟨dP,fun h2=>h2.2 rfl⟩
   ·rintro⟨h1,h2⟩;by_cases e:t=s'
    ·exact .inr e
    ·exact .inl ⟨h1,fun h3=>h2 ⟨h3,e⟩⟩
end
end
section
open Go.MapKept
theorem lj{w:World}{ops:Array Oper}{rest:List Oper}{o:Oper}{a:Act}{Q:Exit->Act->World->Prop}(lq:o.guard=none)(s x:Operand)
  (ho:o.op=.call {callee:=.builtin .append,args:=#[s,x],argTypes:=#[24,24]})
  (base:Nat) {v:Value} {n:Nat} {l:List UInt8} (hs:a.eval s=v) (aB:w.ownsRow base 5 1 v n (l.map vb))
  {A:Option Addr} {m c:Nat} {r:List UInt8} (hx:a.eval x=.slice A m c) (hr:Rd w A m r) (hb:n+m<=1000000000) (bE:base<=w.heap.size)
  (h:∀A' c' w',w'.ownsRow base 5 1 (.slice A' (n+m) c') (n+m) ((l++r).map vb)->w.grownBy w' v.ownBlock->Below base w w'->wpList prog ops Q rest (a.put o.dst (.slice A' (n+m) c')) w'):wpList prog ops Q (o::rest) a w:=by
 obtain⟨i0,iF,jT,iW,gC⟩:=info_parts mJ;refine bg w lq s x 24 ho base 5 i0 _ 1 1 underlying24 iF jT iW gC rfl (by omega) v n _ hs aB A m c _ hx hr (fun u hu=>Iw u hu) (by unfold maxLen;omega) (by omega) bE ?_;intro A' c' w' h1 h2 _;exact h A' c' w' (by rw[List.map_append];exact h1) h2 (eS aB h2 bE)
theorem El(w:World):(w.alloc (.cells #[] 5)).ownsRow w.heap.size 5 1 (.slice (some ⟨w.heap.size,0,none⟩) 0 0) 0 (([]:List UInt8).map vb):=qL 5 [] 0 rfl zz
theorem tZ(A:Option Addr)(n c:Nat)(l:List UInt8)(w:World)(hl:Rd w A n l)(hn:n<=1000000000) :
  Calls prog 87 #[.slice A n c] w fun e w'=>∃A' c',e=.returned (.slice A' n c')/\w'.ownsRow w.heap.size 5 1 (.slice A' n c') n (l.map vb)/\Below w.heap.size w w':=by
 have af:=hl.len;cases A with
 | none=>
  obtain rfl:n=0:=by
   rcases Nat.eq_zero_or_pos n with h|h
   ·exact h
   ·obtain⟨ad,h,_⟩:=hl.2 h;cases h
  obtain rfl:l=[]:=List.eq_nil_of_length_eq_zero af;go_enter func87,ntmps87;go_wp2_with fail;rw[run_eql_slice_nil _ 24 5 none 0 c underlying24];go_wp2_with fail;go_ret;exact⟨none,0,rfl,bX _ _,Below.refl _ _⟩
 | some ad=>
  have hb:=(Below.refl w.heap.size w).alloc zl (.cells #[] 5);have cD:=hl.below hb;have ho:=El w;go_enter func87,ntmps87;go_wp2_with fail;rw[run_eql_slice_nil _ 24 5 (some ad) n c underlying24];go_wp2_with (at_builtin;refine lj rfl (.tmp 5) (.tmp 6) rfl w.heap.size rfl ho rfl cD (by omega) hb.size ?_;intro A3 c3 w3 bY iy bN);go_ret;rw[Nat.zero_add,List.nil_append]at bY;refine⟨A3,c3,?_,bY,hb.trans bN⟩;rfl
section
variable {aa:Nat->Nat}{b g:Nat}{w w1 w2:World}{R R1:Rf}{v:Rw}
theorem ap.fresh'{i:Nat}(h:ap (aj aa w.heap.size i) b w1 g R1 w2)(hb:Below w.heap.size w w1):ap aa b w g R1 w2:=by
 obtain⟨ak,v',h1,h2,h3,h4⟩:=h;have hs:=hb.size;have hm:∀j,j<w.heap.size->(aS (aj aa w.heap.size i) b j↔aS aa b j):=fun j hj=>by
  unfold aS;rw[ac hj]
 refine⟨ak,v',h1,fun j hj hn=>?_,fun j hj hn=>h3 j (by omega) ((hm j hj).2 hn),(Fr.of_below (X:=aS aa b) hb).trans h4 fun j hj=>?_⟩
 ·rw[h2 j (by omega) fun h=>hn ((hm j hj).1 h)];exact ac hj
 ·rcases Nat.lt_or_ge j w.heap.size with hl|hl
  ·exact .inl ((hm j hl).1 hj)
  ·exact .inr hl
theorem ax.fresh'(i:Nat)(h:ax aa b w g R v)(hb:Below w.heap.size w w1):ax (aj aa w.heap.size i) b w1 g R v:=
 (h.relabel (ak:=aj aa w.heap.size i) fun _ hj _=>ac hj).below hb
theorem bR.at_{i n size:Nat}{T:TypeId}{x:Value}{xs:List Value}(h:bR aa i w T size x n xs)(hn:0<n):∃q c,x=.slice (some ⟨q,0,none⟩) n c/\n<=c/\aa q=i/\q<w.heap.size/\(∀j u,xs[j]?=some u->w.cell? ⟨q,j,none⟩=some u)/\∀j,w.frozen? ⟨q,j,none⟩=false:=by
 obtain⟨A,c,rfl,h1,h2⟩:=h;obtain⟨q,cap,hv,hb,_⟩:=h1.form hn;injection hv with hA _ hc;subst hA;subst hc;have aU:=(aw h1 _ c rfl q ⟨_,rfl,rfl⟩).1;refine⟨q,c,rfl,(bB h1).1,h2 q ⟨_,rfl,rfl⟩,aU,fun j u hu=>?_,h1.frozenAt⟩;have hl:=(List.getElem?_eq_some_iff.1 hu).1;rw[h1.1]at hl;rw[h1.cellAt j hl];exact hu
theorem jC(p:Pr):(mW p).length=4:=rfl
theorem ax.peer_at(h:ax aa b w g R v){s:Nat}(hs:s<R.peers.length):∃q c,v.peers=.slice (some ⟨q,0,none⟩) R.peers.length c/\aa q=b+3/\q<w.heap.size/\
  w.cell? ⟨q,s*4,none⟩=some (.int .i64 (R.peer s).next)/\w.cell? ⟨q,s*4+1,none⟩=some (.int .i64 (R.peer s).mat)/\w.cell? ⟨q,s*4+2,none⟩=some (.int .i64 (R.peer s).offset)/\w.cell? ⟨q,s*4+3,none⟩=some (.int .i64 (R.peer s).round)/\
  ∀j,w.frozen? ⟨q,j,none⟩=false:=by
 obtain⟨q,c,h1,h2,h3,h4,h5,h6⟩:=h.p.at_ (by omega);have hp:R.peers[s]?=some (R.peer s):=by unfold Rf.peer;rw[List.getElem?_eq_getElem hs];rfl
 have key:∀j u,j<4->(mW (R.peer s))[j]?=some u->w.cell? ⟨q,s*4+j,none⟩=some u:=fun j u hj hu=>h5 _ _ ((dW jC hj hp).trans hu)
 exact⟨q,c,h1,h3,h4,key 0 _ (by omega) rfl,key 1 _ (by omega) rfl,key 2 _ (by omega) rfl,key 3 _ (by omega) rfl,h6⟩
theorem uE(s:Nat)(h:ax aa b w g R v)(hs:s<R.peers.length)(hn:R.out.msgs.length<=100000)(hN:R.track.L.length<=1000000)
  (LI:1<=(R.peer s).next) (tL:(R.peer s).next<=4000000000000) (Nn:0<=(R.peer s).offset) (nP:(R.peer s).offset<=R.snap.data.length) (hd:R.snap.data.length<=65536) (Ju:0<R.track.index->0<R.snap.data.length) :
  Calls prog 95 #[.pointer (some ⟨g,0,none⟩),.int .i64 s] w fun e w'=>e=.returned (.tuple #[])/\ap aa b w g (R.lacks s) w':=by
 have cW:=h.s.lt;obtain⟨q,c,hv,qp,BL,p0,p1,p2,p3,_⟩:=h.peer_at hs;obtain⟨d0,d8,-⟩:=h.s.cs [0,8];simp only[bV,vi,Zx]at d0 d8;rw[hv]at d0;have bE:=sS h.t;obtain⟨p,hp⟩:=zN (R.peer s);rw[hp]at p0 p1 p2 p3 LI tL Nn nP;go_enter func95,ntmps95;go_wp2_with fail;refine bE.mono ?_;rintro e w1 ⟨rfl,br⟩;have h1:=h.below br;have p0':=(br.cell BL).trans p0;have p2':=(br.cell BL).trans p2;have d1':=h1.s.cell 1;have d8':=h1.s.cell 8;have d9':=h1.s.cell 9;have d10':=h1.s.cell 10;have d11':=h1.s.cell 11;have d12':=h1.s.cell 12;simp only[bV,vi,Zx]at d1' d8' d9' d10' d11' d12';have dA:∀x∈[g,q],x<w1.heap.size:=by simp;exact⟨by have:=br.size;omega,by have:=br.size;omega⟩
 obtain⟨kp0,kp2,kd1,kd8,kd9,kdA,kdB⟩:=LV [g,q] p0' p2' d1' d8' d9' d10' d11';have H:=zH h;have H1:=zH h1;by_cases aU:p.next-1<R.track.index
 ·have Ql:=h1.d;clear h h1 bE;obtain⟨Ad,cd,tK,gp,DH,U6,Li⟩:∃A c,v.dat=.slice A R.snap.data.length c/\Rd w1 A R.snap.data.length R.snap.data/\R.snap.data.length<=c/\c<=maxLen/\(0<R.snap.data.length->∀ad,A=some ad->aa ad.block=b+6):=by
   obtain⟨A,c,h1,h2,h3,h4,h5⟩:=Ql;exact⟨A,c,h1,h2,h3,h4,fun h0 ad e=>h5 h0 ad e⟩
  have YZ:=Ju (by omega);obtain⟨ad,rfl,lQ⟩:=gp.2 YZ;obtain⟨o,ho⟩:∃o:Nat,p.offset=o:=⟨p.offset.toNat,by omega⟩;rw[ho]at Nn nP p2' kp2;have ZH:o<=R.snap.data.length:=by omega
  obtain⟨N,F6⟩:=zN ((min (R.snap.data.length:Int) ((o:Int)+160)).toNat-o);obtain⟨l,hl⟩:=zN ((R.snap.data.drop o).take 160);have Lh:l.length=N:=by rw[<-hl,List.length_take,List.length_drop];omega
  have iS:Rd w1 (some (ad.add o)) N l:=by
   refine⟨by rw[List.length_map,Lh,Nat.mul_one],fun _=>⟨_,rfl,fun j u hu=>?_⟩⟩;rw[Addr.add_add];refine lQ (o+j) u ?_;rw[<-hl,List.map_take,List.map_drop,List.getElem?_take]at hu;split at hu
   ·rw[List.getElem?_drop]at hu;exact hu
   ·cases hu
  have hL:=zH (show R.lacks s=R.send {dh with kind:=7,tgt:=(s:Int),idx:=R.snap.idx,logTerm:=R.snap.term,offset:=(o:Int),total:=R.snap.data.length,data:=l,round:=R.round} by unfold Rf.lacks;rw[hp,if_pos aU,ho,<-hl];rfl);obtain⟨va,XZ,W4⟩:∃va:Option Addr,(if cd=o then some ad else some (ad.add o))=va/\Rd w1 va N l:=by
   by_cases Xi:cd=o
   ·rw[if_pos Xi];refine⟨_,rfl,?_⟩;have TU:N=0:=by omega
    rw[TU]at Lh ⊢;rw[List.eq_nil_of_length_eq_zero Lh];exact⟨rfl,fun h=>absurd h (by omega)⟩
   ·rw[if_neg Xi];exact⟨_,rfl,iS⟩
  replace hl:=zH hl;rw[tK]at kdB;go_wp2_with fail;refine eE [g,q] w1 [([0,1,2,3,4,5,6,7,8,9,10,11,12,13,14,15,16,17,18,19],20)] [21,22] ?_;refine aF fun K1 cQ=>?_
  simp only[ah,Zx];repeat go_big_quiet_step(fail)
  apply wpQuiet_nil;go_wp2_with fail;refine⟨aQ,cQ _ _ ?_⟩;refine al ?_;simp only[ah,Zx];repeat go_big_quiet_step(fail)
  apply wpQuiet_nil;try rw[XZ]
  have tl:Below w1.heap.size w1 w1.drew.drew:=ay zb 2;have Gp:=tZ va N (cd-o) l w1.drew.drew (cn.below W4 tl) (by omega);have kp2:=ae (w:=w1.drew) (gs:=[g,q]) p2' (by simp);have kd1:=ae (w:=w1.drew) (gs:=[g,q]) d1' (by simp);have kd9:=ae (w:=w1.drew) (gs:=[g,q]) d9' (by simp);have kdA:=ae (w:=w1.drew) (gs:=[g,q]) d10' (by simp);rw[tK]at d11';have kdB:=ae (w:=w1.drew) (gs:=[g,q]) d11' (by simp);clear XZ tK F6 W4 iS Ql;go_wp2_with fail;refine bU (C:=dS [g,q] w1.drew) [([0,1,2,3,4,5,6,7,8,9,10,11,12,13,14,15,16,17,18,19,20,21,22,24,25,26,27,28],23)] ([29],30) (by kernel_rfl) (by kernel_rfl) (fun _ _ _ _ e h=>⟨e.symm.trans h.1,h.2⟩) aQ ?_;refine aq fun K2 iu=>?_
  simp only[ah,Zx];repeat go_big_quiet_step(fail)
  apply wpQuiet_nil;go_wp2_with fail;refine Gp.mono ?_;rintro e w3 ⟨A3,c3,rfl,bY,bN⟩;go_wp2_with fail;have gl:Below w1.heap.size w1 w3:=tl.trans bN;have eF:=ab br gl zl;refine⟨av (w:=w1.drew) dA ((ay zb 1).trans bN),iu _ _ ?_⟩;refine aC ?_;simp only[ah,Zx];repeat go_big_quiet_step(fail)
  apply wpQuiet_nil;have hm:jV (aj aa w.heap.size (b+13)) (b+13) w3 ((.slice none 0 0,.slice A3 N c3),{dh with kind:=7,tgt:=(s:Int),idx:=R.snap.idx,logTerm:=R.snap.term,offset:=(o:Int),total:=R.snap.data.length,data:=l,round:=R.round}):=by
   refine⟨nR.nil _ _ _,?_,Av.of_own bY⟩;have ti:=bB bY;refine⟨A3,c3,by show Value.slice A3 N c3=Value.slice A3 l.length c3;rw[Lh],by show cn w3 1 A3 l.length _;rw[Lh];exact cn.of_own bY,by show l.length<=c3;rw[Lh];exact ti.1,ti.2,fun _ ad e=>?_⟩;have:=aw bY A3 c3 rfl ad.block ⟨ad,e,rfl⟩;exact az (by have:=br.size;have:w1.drew.drew.heap.size=w1.heap.size:=rfl;omega)
  have dZ:=sE _ _ _ (H.out.fresh' (b+13) eF) hm ⟨rfl,rfl⟩ hn;unfold eI at dZ;simp only[vi]at dZ;clear Gp hm bY;go_wp2_with fail;refine dZ.mono ?_;rintro e w4 ⟨rfl,hP⟩;have hQ:=zH (show ap aa b w g (R.lacks s) w4 by rw[hL.out];exact hP.fresh' eF);go_wp2_with fail;exact aP rfl rfl ⟨rfl,hQ.out⟩
 ·have cp:=sU (p.next-1) (h1.below (w':=w1.drew) (zb.drew)).t hN;obtain⟨tt,mV⟩:∃x,R.track.termF (p.next-1)=x:=⟨_,rfl⟩;rw[mV]at cp;have fd:=Int.not_lt.1 aU;have hL:=zH (show R.lacks s=R.send {dh with kind:=5,tgt:=(s:Int),idx:=p.next-1,logTerm:=tt.1,entries:=R.track.sliceF p.next 6,commit:=R.commit,round:=R.round} by unfold Rf.lacks;rw[hp,if_neg aU,mV]);replace mV:=zH mV;clear h h1 bE;go_wp2_with fail;refine eE [g,q] w1 [([0,1,2,3,4,5,6,7,8],9)] [10,11,12,13,14] ?_;refine aF fun K1 cQ=>?_
  simp only[ah,Zx];repeat go_big_quiet_step(fail)
  apply wpQuiet_nil;go_wp2_with fail;refine cp.mono ?_;rintro e w2 ⟨rfl,bQ⟩;go_wp2_with fail;have ef:Below w1.heap.size w1 w2:=(zb.drew).trans bQ;have dF:=ab br ef zl;refine⟨av dA ef,cQ _ _ ?_⟩;refine al ?_;simp only[ah,Zx];repeat go_big_quiet_step(fail)
  apply wpQuiet_nil;have h2:=H1.out.below ef;have p0w:=(ef.cell (ar p0')).trans p0';obtain⟨d1w,d8w,d12w,-⟩:=h2.s.cs [1,8,12];simp only[bV,vi,Zx]at d1w d8w d12w;obtain⟨qp0,qd1,qd8,qd12⟩:=IA [g,q] p0w d1w d8w d12w;have UN:∀x∈[g,q],x<w2.heap.size:=fun x hx=>Nat.lt_of_lt_of_le (dA x hx) ef.size
  have lV:=pp p.next 6 (h2.below (w':=w2.drew) (zb.drew)).t hN;clear h2 cp kp0 kp2 kd1 kd8 kd9 kdA kdB;go_wp2_with fail;refine nj [g,q] w2 [([0,1,2,3,4,5,6,7,8,9,10,11,12,13,14,15,17,18,19,20,21,22,23,24,25],16)] ([26],27) ?_;refine aq fun K2 iu=>?_
  simp only[ah,Zx];repeat go_big_quiet_step(fail)
  apply wpQuiet_nil;go_wp2_with fail;refine lV.mono ?_;rintro e w3 ⟨A3,n3,c3,zs3,rfl,Md,bN⟩;go_wp2_with fail;have PX:Below w2.heap.size w2 w3:=(zb.drew).trans bN;have eF:=ab dF PX zl;refine⟨av UN PX,iu _ _ ?_⟩;refine aC ?_;simp only[ah,Zx];repeat go_big_quiet_step(fail)
  apply wpQuiet_nil;have hm:jV (aj aa w.heap.size (b+13)) (b+13) w3 ((.slice A3 n3 c3,.slice none 0 0),{dh with kind:=5,tgt:=(s:Int),idx:=p.next-1,logTerm:=tt.1,entries:=R.track.sliceF p.next 6,commit:=R.commit,round:=R.round}):=
   ⟨⟨cP.of_new Md fun j hj _=>az (by have:=dF.size;have:w2.drew.heap.size=w2.heap.size:=rfl;omega),Av.of_own Md.1⟩,np.nil _ _ _⟩
  have dZ:=sE _ _ _ (H.out.fresh' (b+13) eF) hm ⟨rfl,rfl⟩ hn;unfold eI at dZ;simp only[vi]at dZ;clear lV hm Md;go_wp2_with fail;refine dZ.mono ?_;rintro e w4 ⟨rfl,hP⟩;have hQ:=zH (show ap aa b w g (R.lacks s) w4 by rw[hL.out];exact hP.fresh' eF);go_wp2_with fail;exact am rfl rfl ⟨rfl,hQ.out⟩
end
end
section
open Go.MapKept
structure gr(R:Rf):Prop where
 len:R.peers.length=R.n+1
 n7:R.n<=7
 nx:∀s,s<=R.n->1<=(R.peer s).next/\(R.peer s).next<=4000000000000
 off:∀s,s<=R.n->0<=(R.peer s).offset/\(R.peer s).offset<=R.snap.data.length
 dat:R.snap.data.length<=65536
 dat0:0<R.track.index->0<R.snap.data.length
 trk:R.track.L.length<=1000000
theorem gr.out{R:Rf}(h:gr R)(o:Ot):gr {R with out:=o}:=⟨h.len,h.n7,h.nx,h.off,h.dat,h.dat0,h.trk⟩
theorem D6(R:Rf)(s:Nat):∃m,R.lacks s={R with out:={R.out with msgs:=R.out.msgs++[m]}}:=by
 unfold Rf.lacks;split
 ·exact⟨_,rfl⟩
 ·exact⟨_,rfl⟩
theorem fA(l:List Nat):∀R:Rf,∃ms,l.foldl Rf.lacks R={R with out:={R.out with msgs:=R.out.msgs++ms}}/\ms.length=l.length:=by
 induction l with
 | nil=>intro R;exact⟨[],by rw[List.append_nil];rfl,rfl⟩
 | cons s l ih=>
  intro R;obtain⟨m,hm⟩:=D6 R s;obtain⟨ms,h1,h2⟩:=ih (R.lacks s);refine⟨m::ms,?_,by simp[h2]⟩;show l.foldl Rf.lacks (R.lacks s)=_;rw[h1,hm];simp
theorem Cb{R:Rf}{s:Nat}(h:s∈R.others):1<=s/\s<=R.n/\s≠R.id:=by
 unfold Rf.others at h;rw[List.mem_filter,List.mem_range'_1]at h;have:=of_decide_eq_true h.2;omega
theorem gY(R:Rf):R.others.length<=R.n:=by
 unfold Rf.others;refine Nat.le_trans (List.length_filter_le _ _) ?_;rw[List.length_range'];exact Nat.le_refl _
theorem wL{w:World}{base n c:Nat}{A:Option Addr}{l:List Int}(h:w.ownsRow base 3 1 (.slice A n c) n (l.map vi)){k:Nat}(hk:k<n) :
  ∃q x,A=some ⟨q,0,none⟩/\base<=q/\q<w.heap.size/\l[k]?=some x/\w.cell? ⟨q,k,none⟩=some (.int .i64 x):=by
 obtain⟨q,cap,hv,hb,_⟩:=h.form (by omega);injection hv with hA _ hc;subst hA;subst hc;have hl:l.length=n:=by have:=h.1;simpa using this
 refine⟨q,l[k]'(by omega),rfl,hb,(aw h _ c rfl q ⟨_,rfl,rfl⟩).1,List.getElem?_eq_getElem (by omega),?_⟩;rw[h.cellAt k (by omega),List.getElem?_map,List.getElem?_eq_getElem (by omega)];rfl
section
variable {aa:Nat->Nat}{b g:Nat}{w:World}{R:Rf}{v:Rw}
theorem mr(h:ax aa b w g R v)(hP:gr R)(hn:R.out.msgs.length<=90000) :
  Calls prog 48 #[.pointer (some ⟨g,0,none⟩)] w fun e w'=>e=.returned (.tuple #[])/\ap aa b w g R.all w':=by
 have Rp:=nH h hP.n7;have fl:R.all=R.others.foldl Rf.lacks R:=rfl;have vW:=fun s (hs:s∈R.others)=>Cb hs
 have uu:=gY R;have pI:=hP.n7;obtain⟨l,hl⟩:=zN (R.others);rw[hl]at Rp fl vW uu;replace fl:=zH fl;go_enter func48,ntmps48;go_wp2_with fail;refine Rp.mono ?_;rintro e w1 ⟨A,c,rfl,aB,br⟩;have h1:=h.fresh br;have YT:=br.size;obtain⟨n,rC⟩:=zN (l.length);rw[rC]at aB uu;go_wp2_with fail;try rw[rC]
 replace rC:=zH rC
 go_loopw [7] (fun i wr=>∃k:Nat,k<=n/\i=.int .i64 k/\ap (aj aa w.heap.size b) b w1 g ((l.take k).foldl Rf.lacks R) wr) (fun i _=>n-(intOf i).toNat)
 case atStart=>exact⟨0,Nat.zero_le _,rfl,⟨_,_,h1,fun _ _ _=>rfl,fun _ _ h=>h,Fr.refl _ _⟩⟩
 case round=>
  obtain⟨k,hk,rfl,hQ⟩:=hrel;by_cases aU:k<n
  ·obtain⟨q,x,rfl,nB,jM,hx,c0⟩:=wL aB aU;obtain⟨s,hs,rfl⟩:∃s:Nat,l[k]?=some s/\(s:Int)=x:=by
    unfold yT at hx;rw[List.getElem?_map]at hx;cases kH:l[k]? with
    | none=>rw[kH]at hx;cases hx
    | some s=>rw[kH]at hx;exact⟨s,rfl,Option.some.inj hx⟩
   have c1:=(World.cell?_of_block (a:=⟨q,k,none⟩) (hQ.new nB jM)).trans c0;have BN:=vW s (List.mem_of_getElem? hs);obtain⟨ms,e1,e2⟩:=fA (l.take k) R;have hmk:ms.length<=k:=by rw[e2,List.length_take];omega
   have du:(l.take (k+1)).foldl Rf.lacks R=((l.take k).foldl Rf.lacks R).lacks s:=by
    rw[List.take_add_one,hs,List.foldl_append];rfl
   rw[e1]at hQ du;have Bm:=hP.out {R.out with msgs:=R.out.msgs++ms};have aH:=hQ.call (fun bs v2 h2=>uE s h2 (by rw[Bm.len];show s<R.n+1;omega) (by show(R.out.msgs++ms).length<=_;rw[List.length_append];omega) Bm.trk (Bm.nx s BN.2.1).1 (Bm.nx s BN.2.1).2 (Bm.off s BN.2.1).1 (Bm.off s BN.2.1).2 Bm.dat Bm.dat0);rw[<-du]at aH;clear hQ du e1 Bm hx hs aB;go_wp2_with fail;refine aH.mono ?_;rintro e w4 ⟨rfl,hQ⟩;clear aH;go_wp2_with fail;exact⟨⟨k+1,aU,by go_num,hQ⟩,by simp[intOf];omega⟩
  ·obtain rfl:k=n:=by omega
   have hF:=zH (show ap aa b w g R.all wr by
    rw[List.take_of_length_le (by rw[rC.out];exact Nat.le_refl _),<-fl.out]at hQ;exact hQ.fresh br)
   clear hQ;go_wp2_with fail;exact am rfl rfl ⟨rfl,hF.out⟩
end
end
section
open Go.MapKept
def O9(p:Pr):Value:=.agg #[.int .i64 p.next,.int .i64 p.mat,.int .i64 p.offset,.int .i64 p.round]
theorem zx(p:Pr)(w:World):Calls prog 122 #[O9 p] w fun e w'=>e=.returned (.int .i64 p.mat)/\Below w.heap.size w w':=by
 have hb:=(Below.refl w.heap.size w).alloc zl (.cells #[.int .i64 p.next,.int .i64 p.mat,.int .i64 p.offset,.int .i64 p.round] 163);unfold O9;go_enter func122,ntmps122;go_wp2_with fail;go_ret;exact⟨rfl,hb⟩
theorem tO(p:Pr)(w:World):Calls prog 112 #[O9 p] w fun e w'=>e=.returned (.int .i64 p.round)/\Below w.heap.size w w':=by
 have hb:=(Below.refl w.heap.size w).alloc zl (.cells #[.int .i64 p.next,.int .i64 p.mat,.int .i64 p.offset,.int .i64 p.round] 163);unfold O9;go_enter func112,ntmps112;go_wp2_with fail;go_ret;exact⟨rfl,hb⟩
def fC(R:Rf)(own:Int)(f:Pr->Int)(k:Nat):List Int:=(List.range' 1 k).map fun s=>if s=R.id then own else f (R.peer s)
theorem iX(R:Rf)(own:Int)(f:Pr->Int)(k:Nat):fC R own f (k+1)=fC R own f k++[if k+1=R.id then own else f (R.peer (k+1))]:=by
 unfold fC;rw[List.range'_concat,List.map_append];simp only[Nat.one_mul,Nat.add_comm 1 k];rfl
section
variable {aa:Nat->Nat}{b g:Nat}{w:World}{R:Rf}{v:Rw}
theorem wG(own:Int)(h:ax aa b w g R v)(hp:R.peers.length=R.n+1)(pI:R.n<=7) :
  Calls prog 111 #[.pointer (some ⟨g,0,none⟩),.int .i64 own,.func (.func 122) #[] #[]] w fun e w'=>∃A c,e=.returned (.slice A R.n c)/\w'.ownsRow w.heap.size 3 1 (.slice A R.n c) R.n ((R.matchL own Pr.mat).map vi)/\Below w.heap.size w w':=by
 have cW:=h.s.lt;have hM:R.matchL own Pr.mat=fC R own Pr.mat R.n:=rfl;replace hM:=zH hM;go_enter func111,ntmps111;go_wp2_with fail
 go_loopw [7,8] (fun o s' wr=>∃(k:Nat) (A:Option Addr) (c:Nat),k<=R.n/\s'=.int .i64 ((k:Int)+1)/\o=.slice A k c/\wr.ownsRow w.heap.size 3 1 (.slice A k c) k ((fC R own Pr.mat k).map vi)/\Below w.heap.size w wr) (fun _ s' _=>R.n+1-(intOf s').toNat)
 case atStart=>exact⟨0,none,0,Nat.zero_le _,rfl,rfl,(bX _ _:w.ownsRow w.heap.size 3 1 (.slice none 0 0) 0 []),Below.refl _ _⟩
 case round=>
  obtain⟨k,A,c,hk,rfl,rfl,aB,hb⟩:=hrel;have h':=h.below hb;obtain⟨c4,c5,-⟩:=h'.s.cs [4,5];simp only[bV,vi,Zx]at c4 c5;by_cases aU:k<R.n
  ·have aO:=zH (show R.n+1-(k+1+1)<R.n+1-(k+1) by omega);have fd:(k:Int)+1<=R.n:=by omega
   have cu:=iX R own Pr.mat k;have fw:k+1<=1000000000:=by omega
   by_cases jb:k+1=R.id
   ·rw[if_pos jb]at cu;have jg:(R.id:Int)=(k:Int)+1:=by omega
    rw[jg]at c4;have lA:=fv.one wr own;have aI:Below wr.heap.size wr (wr.alloc (.cells #[.int .i64 own] 3)):=zb.alloc zl _;have cw:=bf aB aI;have bQ:=ab hb aI zl;replace cu:=zH cu;clear jg jb h' aB;go_wp2_with (at_builtin;refine bh rfl (.tmp 23) (.tmp 25) rfl w.heap.size rfl cw rfl lA fw bQ.size ?_;intro A3 c3 w3 bY iy bN);exact⟨⟨k+1,A3,c3,aU,by go_num,rfl,by rw[cu.out];exact bY,bQ.trans bN⟩,by simp[intOf];have:=aO.out;omega⟩
   ·rw[if_neg jb]at cu;have i1:(((k:Int)+1)==(R.id:Int))=false:=beq_eq_false_iff_ne.2 (by omega);obtain⟨q,cq,hv,qp,BL,p0,p1,p2,p3,_⟩:=h'.peer_at (s:=k+1) (by rw[hp];omega);have c0:=h'.s.cell 0;simp only[bV,List.getElem?_toArray,List.getElem?_cons_zero]at c0;rw[hv]at c0;have nA:k+1<R.peers.length:=by omega
    have aH:=zx (R.peer (k+1)) wr;obtain⟨p,xu⟩:=zN (R.peer (k+1));rw[xu]at p0 p1 p2 p3 aH cu;replace cu:=zH cu;unfold O9 at aH;have cw:=fun w2 (bQ:Below wr.heap.size wr w2)=>bf aB bQ
    replace cw:=zH cw;clear xu jb h' hv aB;go_wp2_with fail;refine aH.mono ?_;rintro e w2 ⟨rfl,bQ⟩;have lA:=fv.one w2 p.mat;have aI:Below w2.heap.size w2 (w2.alloc (.cells #[.int .i64 p.mat] 3)):=zb.alloc zl _;have cO:=ab bQ aI zl;have gz:=cw.out _ cO;have cM:=ab hb cO zl;clear aH;go_wp2_with (at_builtin;refine bh rfl (.tmp 27) (.tmp 38) rfl w.heap.size rfl gz rfl lA fw cM.size ?_;intro A3 c3 w3 bY iy bN);exact⟨⟨k+1,A3,c3,aU,by go_num,rfl,by rw[cu.out];exact bY,cM.trans bN⟩,by simp[intOf];have:=aO.out;omega⟩
  ·obtain rfl:k=R.n:=by omega
   go_wp2_with fail;go_ret;exact⟨A,c,rfl,by rw[hM.out];exact aB,hb⟩
theorem rR(own:Int)(h:ax aa b w g R v)(hp:R.peers.length=R.n+1)(pI:R.n<=7) :
  Calls prog 111 #[.pointer (some ⟨g,0,none⟩),.int .i64 own,.func (.func 112) #[] #[]] w fun e w'=>∃A c,e=.returned (.slice A R.n c)/\w'.ownsRow w.heap.size 3 1 (.slice A R.n c) R.n ((R.matchL own Pr.round).map vi)/\Below w.heap.size w w':=by
 have cW:=h.s.lt;have hM:R.matchL own Pr.round=fC R own Pr.round R.n:=rfl;replace hM:=zH hM;go_enter func111,ntmps111;go_wp2_with fail
 go_loopw [7,8] (fun o s' wr=>∃(k:Nat) (A:Option Addr) (c:Nat),k<=R.n/\s'=.int .i64 ((k:Int)+1)/\o=.slice A k c/\wr.ownsRow w.heap.size 3 1 (.slice A k c) k ((fC R own Pr.round k).map vi)/\Below w.heap.size w wr) (fun _ s' _=>R.n+1-(intOf s').toNat)
 case atStart=>exact⟨0,none,0,Nat.zero_le _,rfl,rfl,(bX _ _:w.ownsRow w.heap.size 3 1 (.slice none 0 0) 0 []),Below.refl _ _⟩
 case round=>
  obtain⟨k,A,c,hk,rfl,rfl,aB,hb⟩:=hrel;have h':=h.below hb;obtain⟨c4,c5,-⟩:=h'.s.cs [4,5];simp only[bV,vi,Zx]at c4 c5;by_cases aU:k<R.n
  ·have aO:=zH (show R.n+1-(k+1+1)<R.n+1-(k+1) by omega);have fd:(k:Int)+1<=R.n:=by omega
   have cu:=iX R own Pr.round k;have fw:k+1<=1000000000:=by omega
   by_cases jb:k+1=R.id
   ·rw[if_pos jb]at cu;have jg:(R.id:Int)=(k:Int)+1:=by omega
    rw[jg]at c4;have lA:=fv.one wr own;have aI:Below wr.heap.size wr (wr.alloc (.cells #[.int .i64 own] 3)):=zb.alloc zl _;have cw:=bf aB aI;have bQ:=ab hb aI zl;replace cu:=zH cu;clear jg jb h' aB;go_wp2_with (at_builtin;refine bh rfl (.tmp 23) (.tmp 25) rfl w.heap.size rfl cw rfl lA fw bQ.size ?_;intro A3 c3 w3 bY iy bN);exact⟨⟨k+1,A3,c3,aU,by go_num,rfl,by rw[cu.out];exact bY,bQ.trans bN⟩,by simp[intOf];have:=aO.out;omega⟩
   ·rw[if_neg jb]at cu;have i1:(((k:Int)+1)==(R.id:Int))=false:=beq_eq_false_iff_ne.2 (by omega);obtain⟨q,cq,hv,qp,BL,p0,p1,p2,p3,_⟩:=h'.peer_at (s:=k+1) (by rw[hp];omega);have c0:=h'.s.cell 0;simp only[bV,List.getElem?_toArray,List.getElem?_cons_zero]at c0;rw[hv]at c0;have nA:k+1<R.peers.length:=by omega
    have aH:=tO (R.peer (k+1)) wr;obtain⟨p,xu⟩:=zN (R.peer (k+1));rw[xu]at p0 p1 p2 p3 aH cu;replace cu:=zH cu;unfold O9 at aH;have cw:=fun w2 (bQ:Below wr.heap.size wr w2)=>bf aB bQ
    replace cw:=zH cw;clear xu jb h' hv aB;go_wp2_with fail;refine aH.mono ?_;rintro e w2 ⟨rfl,bQ⟩;have lA:=fv.one w2 p.round;have aI:Below w2.heap.size w2 (w2.alloc (.cells #[.int .i64 p.round] 3)):=zb.alloc zl _;have cO:=ab bQ aI zl;have gz:=cw.out _ cO;have cM:=ab hb cO zl;clear aH;go_wp2_with (at_builtin;refine bh rfl (.tmp 27) (.tmp 38) rfl w.heap.size rfl gz rfl lA fw cM.size ?_;intro A3 c3 w3 bY iy bN);exact⟨⟨k+1,A3,c3,aU,by go_num,rfl,by rw[cu.out];exact bY,cM.trans bN⟩,by simp[intOf];have:=aO.out;omega⟩
  ·obtain rfl:k=R.n:=by omega
   go_wp2_with fail;go_ret;exact⟨A,c,rfl,by rw[hM.out];exact aB,hb⟩
end
end
section
open Go.MapKept
section
variable {aa:Nat->Nat}{b g:Nat}{w:World}{R:Rf}{v:Rw}
theorem lM(k:Int)(h:ax aa b w g R v)(UV:-4000000000000<=k)(cA:k<=4000000000000)(fO:0<=R.commit)(lw:R.commit<=4000000000000)(hN:R.track.L.length<=1000000)(hn:R.out.commits.length<=1000000) :
  Calls prog 123 #[.pointer (some ⟨g,0,none⟩),.int .i64 k] w fun e w'=>e=.returned (.tuple #[])/\ap aa b w g (R.commits k) w'/\Fr (fun j=>j=g\/aa j=b+9) w w':=by
 have cW:=h.s.lt;obtain⟨d8,d12,d27,-⟩:=h.s.cs [8,12,27];simp only[bV,vi,Zx]at d8 d12 d27;by_cases aU:R.commit<k
 ·have hC:=zH (show R.commits k={R with commit:=k,out:={R.out with commits:=R.out.commits++R.track.sliceF (R.commit+1) (k-R.commit)}}from if_pos aU);have lV:=pp (R.commit+1) (k-R.commit) (h.below (w':=w.drew) (zb.drew)).t hN;obtain⟨zs,⟨Ac,cc,Tf,bS,yD⟩,xl,tn⟩:=id h.c;rw[Tf]at d27;obtain⟨k8,k12,k27⟩:=tT [g] d8 d12 d27;have dA:∀x∈[g],x<w.heap.size:=by simp;exact cW
  have hH:=zH h;clear h;go_enter func123,ntmps123;go_wp2_with fail;refine nj [g] w [([0,1,2,3,4,5,6,7,8,9,10,11,12,13,14,15,16,17,18,19,20],21),([],22)] ([23,24,25],26) ?_;refine aq fun K1 cQ=>?_
  simp only[ah,Zx];repeat go_big_quiet_step(fail)
  apply wpQuiet_nil;go_wp2_with fail;refine lV.mono ?_;rintro e w2 ⟨A2,n2,c2,ys,rfl,Bi,bQ⟩;go_wp2_with fail;have dF:Below w.heap.size w w2:=(zb.drew).trans bQ;refine⟨av dA dF,cQ _ _ ?_⟩;refine aq fun K2 iu=>?_
  simp only[ah,Zx];apply wpQuiet_nil;have CP:=bf bS dF;have IL:ff w2 A2 n2 ys:=cn.of_own Bi.1;have wu:=IL.len;have fo:=Bi.2.1.one;have VW:n2<=1000000:=by
   have e:=congrArg List.length Bi.2.2;rw[List.length_map]at e;have e2:(R.track.sliceF (R.commit+1) (k-R.commit)).length<=R.track.L.length:=by
    unfold bD.sliceF;split
    ·exact Nat.zero_le _
    ·rw[List.length_take,List.length_drop];omega
   omega
  have fw:R.out.commits.length+n2<=1000000000:=by omega
  have aE:∀(A3:Option Addr) (c3:Nat) (w3:World),w3.ownsRow 0 59 6 (.slice A3 (R.out.commits.length+n2) c3) (R.out.commits.length+n2) ((zs++ys).flatMap cl)->Fr (aA Ac) w2 w3->(∀j,aA A3 j->aA Ac j\/w2.heap.size<=j)->
    w3.heap[g]?=w.heap[g]?/\ao w3 g 107 (bV R v)/\ap aa b w g (R.commits k) ((w3.setCell ⟨g,27,none⟩ (.slice A3 (R.out.commits.length+n2) c3)).setCell ⟨g,12,none⟩ (.int .i64 k))/\Fr (fun j=>j=g\/aa j=b+9) w ((w3.setCell ⟨g,27,none⟩ (.slice A3 (R.out.commits.length+n2) c3)).setCell ⟨g,12,none⟩ (.int .i64 k)):=fun A3 c3 w3 cH dk Lu=>by
   have h:=hH.out;have Xp:¬aA Ac g:=fun hh=>by have:=yD g hh;have:=h.sl;omega
   have QB:g<w2.heap.size:=by have:=dF.size;omega
   have eg:w3.heap[g]?=w.heap[g]?:=(dk.block g QB Xp).trans (dF.block g cW);have iE:ao w3 g 107 (bV R v):=eg.trans h.s;refine⟨eg,iE,?_⟩;have fh:Fr (fun j=>j=g) w3 ((w3.setCell ⟨g,27,none⟩ (.slice A3 (R.out.commits.length+n2) c3)).setCell ⟨g,12,none⟩ (.int .i64 k)):=(Fr.set g 27 _).trans (Fr.set g 12 _) fun _ h=>.inl h
   obtain⟨w5,LH⟩:=zN (((w3.setCell ⟨g,27,none⟩ (.slice A3 (R.out.commits.length+n2) c3)).setCell ⟨g,12,none⟩ (.int .i64 k)));have Bq:ao w5 g 107 (bV {R with commit:=k,out:={R.out with commits:=R.out.commits++R.track.sliceF (R.commit+1) (k-R.commit)}} {v with com:=.slice A3 (R.out.commits.length+n2) c3}):=by
    rw[<-LH];have s:=(iE.set_ 27 (.slice A3 (R.out.commits.length+n2) c3)).set_ 12 (.int .i64 k);simp only[bV,Zy]at s;exact s
   rw[LH]at fh ⊢;rw[hC.out];have GH:aj (aj aa w.heap.size (b+13)) w2.heap.size (b+9) g=b+1:=(ac QB).trans ((ac cW).trans h.sl);have Z1:=dF.size;have VA:=dk.size;have Dx:Fr (fun j=>j=g\/aa j=b+9) w w5:=(((Fr.of_below (X:=fun j=>j=g) dF).two dk (fun j e=>.inl (.inl e)) fun j e=>.inl (.inr (yD j e))).two fh (fun j e=>.inl e) fun j e=>.inl (.inl e));refine⟨?_,Dx⟩;refine ap.turn (v':={v with com:=.slice A3 (R.out.commits.length+n2) c3}) (ak:=aj (aj aa w.heap.size (b+13)) w2.heap.size (b+9)) [9] h Bq (fun j hj=>(ac (by omega)).trans (ac hj)) (by simp)
    (((Fr.of_below (X:=fun j=>j=g) dF).two dk (fun j e=>.inl (.inl e)) fun j e=>.inl (.inr ⟨9,by simp,yD j e⟩)).two fh (fun j e=>.inl e) fun j e=>.inl (.inl e))
    tI tI tI tI tI tI tI (.inl ?_) tI tI tI
   have um:∀j,j≠g->j<w3.heap.size->w5.heap[j]?=w3.heap[j]?:=fun j hj hl=>fh.block j hl hj
   refine dQ.keep (w:=w3) ⟨zs++ys,?_,?_,?_⟩ (fun j hj hl=>um j (fun e=>by rw[e,GH]at hj;omega) hl) (fun j hj hl=>um j (fun e=>by rw[e,GH]at hj;omega) hl)
   ·rw[List.length_append,<-Bi.2.2,List.length_map,wu];refine⟨A3,c3,rfl,cH,fun j hj=>?_⟩;rcases Lu j hj with h6|h6
    ·have h7:=yD j h6;have h8:j<w.heap.size:=(aw bS Ac cc rfl j h6).1;exact(ac (by omega)).trans ((ac h8).trans h7)
    ·exact az h6
   ·have hold:∀j,j<w2.heap.size->aM (aj aa w.heap.size (b+13)) (b+13) j->aM (aj (aj aa w.heap.size (b+13)) w2.heap.size (b+9)) (b+13) j:=fun j hj e=>(ac hj).trans e
    have aD:bA (aM (aj aa w.heap.size (b+13)) (b+13)) w2 w3:=fun j e hj=>dk.block j hj fun hh=>by
     have h7:=yD j hh;have h8:j<w.heap.size:=(aw bS Ac cc rfl j hh).1;have e:aj aa w.heap.size (b+13) j=b+13:=e;rw[ac h8]at e;omega
    have yq:bo (aM (aj aa w.heap.size (b+13)) (b+13)) w2 (zs++ys):=by
     refine bo.append ((xl.mono fun j hj e=>(ac hj).trans e).keep (bA.below dF)) (Bi.2.1.mono fun j hj e=>az ?_);exact e.1
    exact(yq.mono hold).keep fun j e hj=>aD j ((ac hj).symm.trans e) hj
   ·rw[List.map_append,tn,Bi.2.2]
  clear xl tn bS;go_wp2_with (at_builtin;refine aW rfl (.tmp 15) (.tmp 31) rfl 0 rfl CP rfl IL fo fw zz ?_;intro A3 c3 w3 cH dk bN hrw3;obtain⟨iy,iE,hP⟩:=aE A3 c3 w3 cH dk hrw3;replace hP:=zH hP;clear aE cH dk bN hrw3);obtain⟨f27,f12,-⟩:=iE.fs [27,12];obtain⟨e27,e12,-⟩:=iE.cs [27,12];simp only[bV,vi,Zx]at e27 e12;refine⟨dT (by simp;exact iy),iu _ _ ?_⟩;refine aC ?_;simp only[ah,Zx];repeat go_big_quiet_step(fail)
  apply wpQuiet_nil;go_wp2_with fail;exact am rfl rfl ⟨rfl,hP.out⟩
 ·have hC:=zH (show R.commits k=R from if_neg aU);have hP:=zH (show ap aa b w g R w/\Fr (fun j=>j=g\/aa j=b+9) w w from⟨⟨aa,v,h,fun _ _ _=>rfl,fun _ _ h=>h,Fr.refl _ _⟩,Fr.refl _ _⟩);have fd:=Int.not_lt.1 aU;clear h aU;go_enter func123,ntmps123;go_wp2_with fail;exact am rfl rfl ⟨rfl,by rw[hC.out];exact hP.out⟩
end
end
section
open Go.MapKept
theorem tb.inv{aa:Nat->Nat}{i:Nat}{w:World}{x:Value}{t:bD}(h:tb aa i w x t):t.Inv:=by
 obtain⟨g,S,A,n,c,zs,h1,h2,h3⟩:=h;exact h2.i
section
variable {aa:Nat->Nat}{b g:Nat}{w:World}{R:Rf}{v:Rw}
theorem kp(h:ax aa b w g R v)(hp:R.peers.length=R.n+1)(pI:R.n<=7)(fO:0<=R.commit)(lw:R.commit<=4000000000000)(hN:R.track.L.length<=1000000)(hn:R.out.commits.length<=1000000) :
  Calls prog 68 #[.pointer (some ⟨g,0,none⟩)] w fun e w'=>e=.returned (.tuple #[])/\ap aa b w g R.agrees w'/\Fr (fun j=>j=g\/aa j=b+9) w w':=by
 have cW:=h.s.lt;have d8:=h.s.cell 8;simp only[bV,Zx]at d8;have bH:=i7 h.t hN;have dJ:=h.t.inv;obtain⟨l1,cD⟩:∃l,R.track.lastF.1=l:=⟨_,rfl⟩;obtain⟨k,hk⟩:=zN (R.agreesTo);obtain⟨tt,mV⟩:∃x,R.track.termF k=x:=⟨_,rfl⟩;have hA:R.agrees=if R.commit<k/\tt=(R.hard.term,0)then R.commits k else R:=by unfold Rf.agrees;rw[hk,mV]
 have yy:eL R.n (R.matchL l1 Pr.mat)=k:=by rw[<-hk,<-cD];rfl
 rw[cD]at bH;have hH:=zH h;have vU:tt.2=0->0<=k/\k<=4000000000000:=fun e=>by
  have e2:R.track.termF k=(tt.1,0):=by rw[mV,<-e]
  have:=eR e2;have h1:=dJ.b;omega
 replace vU:=zH vU;replace hA:=zH hA;clear h cD hk dJ;go_enter func68,ntmps68;go_wp2_with fail;refine bH.mono ?_;rintro e w1 ⟨rfl,br⟩;have h1:=hH.out.below br;have d5:=h1.s.cell 5;simp only[bV,vi,Zx]at d5;have k5:=EY [g] d5;have dA:∀x∈[g],x<w1.heap.size:=by simp;exact h1.s.lt
 have DR:=wG l1 (h1.below (w':=w1.drew) (zb.drew)) hp pI;clear bH h1;go_wp2_with fail;refine eE [g] w1 [([0,1,2,3,4,5],6),([],7)] [8] ?_;refine aF fun K1 cQ=>?_
 simp only[ah,Zx];repeat go_big_quiet_step(fail)
 apply wpQuiet_nil;go_wp2_with fail;refine DR.mono ?_;rintro e w2 ⟨A2,c2,rfl,cw,bQ⟩;have gw:=ko (R.n:Int) A2 R.n c2 _ w2 (fv.of_own cw);rw[yy]at gw;go_wp2_with fail;have ef:Below w1.heap.size w1 w2:=(zb.drew).trans bQ;refine⟨av dA ef,cQ _ _ ?_⟩;refine aF fun K2 iu=>?_
 simp only[ah,Zx];apply wpQuiet_nil;clear DR cw;go_wp2_with fail;refine gw.mono ?_;rintro e w3 ⟨rfl,bN⟩;go_wp2_with fail;have gl:Below w1.heap.size w1 w3:=ab ef bN zl;refine⟨av dA gl,iu _ _ ?_⟩;refine al ?_;simp only[ah,Zx];repeat go_big_quiet_step(fail)
 apply wpQuiet_nil;have eF:=ab br gl zl;have h3:=hH.out.below eF;have d8w:=h3.s.cell 8;simp only[bV,vi,Zx]at d8w;have cp:=sU k h3.t hN;rw[mV]at cp;clear h3 gw mV;go_wp2_with fail;refine cp.mono ?_;rintro e w4 ⟨rfl,cO⟩;have iH:=ab eF cO zl;have h4:=hH.out.below iH;obtain⟨d12,d6,-⟩:=h4.s.cs [12,6];simp only[bV,vi,Zx]at d12 d6;clear cp;have uA:=zH (show ap aa b w g R w4/\Fr (fun j=>j=g\/aa j=b+9) w w4 from⟨⟨aa,v,h4,fun _ _ _=>rfl,fun _ _ h=>h,Fr.of_below iH⟩,Fr.of_below iH⟩);by_cases c1:R.commit<k
 ·by_cases c2:tt.2=0
  ·by_cases c3:tt.1=R.hard.term
   ·have hR:=zH (show R.agrees=R.commits k by rw[hA.out,if_pos ⟨c1,by rw[<-c3,<-c2]⟩]);have CG:=vU.out c2;have aH:=lM k h4 (by omega) CG.2 fO lw hN hn;have e2:(tt.2==0)=true:=by simp[c2]
    have e3:(tt.1==R.hard.term)=true:=by simp[c3]
    clear h4 c2 c3 CG;go_wp2_with fail;refine aH.mono ?_;rintro e w5 ⟨rfl,hP⟩;have hQ:=zH (show ap aa b w g R.agrees w5/\Fr (fun j=>j=g\/aa j=b+9) w w5 by rw[hR.out];exact⟨hP.1.behind iH,(Fr.of_below (X:=fun j=>j=g\/aa j=b+9) iH).trans hP.2 fun j e=>.inl e⟩);clear aH hP;go_wp2_with fail;exact am rfl rfl ⟨rfl,hQ.out⟩
   ·have hR:=zH (show R.agrees=R by rw[hA.out,if_neg fun h=>c3 (by rw[h.2])]);have e2:(tt.2==0)=true:=by simp[c2]
    have e3:(tt.1==R.hard.term)=false:=by simp[c3]
    clear h4 c2 c3;go_wp2_with fail;exact am rfl rfl ⟨rfl,by rw[hR.out];exact uA.out⟩
  ·have hR:=zH (show R.agrees=R by rw[hA.out,if_neg fun h=>c2 (by rw[h.2])]);have e2:(tt.2==0)=false:=by simp[c2]
   clear h4 c2;go_wp2_with fail;exact am rfl rfl ⟨rfl,by rw[hR.out];exact uA.out⟩
 ·have hR:=zH (show R.agrees=R by rw[hA.out,if_neg fun h=>c1 h.1]);clear h4;go_wp2_with fail;exact am rfl rfl ⟨rfl,by rw[hR.out];exact uA.out⟩
end
end
section
open Go.MapKept
theorem vB:59∉TD:=by simp[TD]
theorem sT{aa:Nat->Nat}{i q:Nat}{S:Nat->Prop}{w w':World}{g n c M:Nat}{t t':bD}{A:Option Addr}{zs:List (Value×En)}(hT:cX 0 S w g t A n c zs)(hl:∀j,(j=g\/aA A j\/S j)->aa j=i)(hP:iJ 0 S w g A t' M w')(hM:w.heap.size<=M) :
  ∃ak:Nat->Nat,(∀j,j<w.heap.size->ak j=aa j)/\(∀vy fs,aG (bG TD M w') w' vy fs->aG (aM ak q) w' vy fs)/\tb ak i w' (.pointer (some ⟨g,0,none⟩)) t'/\Fr (aM aa i) w w':=by
 obtain⟨A',n',c',zs',S',tf,W5,pG,hMw,hF⟩:=hP;have cW:=hT.b.lt
 classical
 refine⟨fun j=>if j<w.heap.size then aa j else if aA A' j\/S' j then i else q,fun j hj=>if_pos hj,fun vy fs hf=>hf.mono fun j hj hn=>?_,⟨g,S',A',n',c',zs',rfl,tf,fun j hj=>?_⟩,hF.mono fun j hj=>hl j (hj.elim .inl fun h=>.inr (.inl h))⟩
 ·obtain⟨h1,cs,fz,ty,h2,h3⟩:=hn;show(if j<w.heap.size then aa j else if aA A' j\/S' j then i else q)=q;rw[if_neg (by omega),if_neg];rintro(h|h)
  ·obtain⟨_,_,cs',h4⟩:=aw tf.o A' c' rfl j h;rw[h2]at h4;injection h4 with h4;injection h4 with _ h4;rw[h4]at h3;exact vB h3
  ·rcases W5 j h with h5|h5
   ·obtain⟨_,_,_,e,_⟩:=hT.s j h5;have:=aV e;omega
   ·omega
 ·show(if j<w.heap.size then aa j else if aA A' j\/S' j then i else q)=i;by_cases ny:j<w.heap.size
  ·rw[if_pos ny];refine hl j ?_;rcases hj with h|h|h
   ·exact .inl h
   ·exact .inr (.inl ((pG j h).resolve_right (by omega)))
   ·exact .inr (.inr ((W5 j h).resolve_right (by omega)))
  ·rw[if_neg ny,if_pos];rcases hj with h|h|h
   ·omega
   ·exact .inl h
   ·exact .inr h
section
variable {aa:Nat->Nat}{b g:Nat}{w:World}{R:Rf}{v:Rw}
theorem ax.track{ak:Nat->Nat}{w':World}{t':bD}(h:ax aa b w g R v)(hl:∀j,j<w.heap.size->ak j=aa j)(hT:tb ak (b+2) w' v.trk t')(hF:Fr (aM aa (b+2)) w w') :
  ax ak b w' g {R with track:=t'} v/\Fr (aS aa b) w w':=by
 have hs:ao w' g 107 (bV {R with track:=t'} v):=(hF.block g h.s.lt fun e=>by have e:aa g=b+2:=e;have:=h.sl;omega).trans h.s;refine⟨h.turn [2] hs (fun i j _ _ _ hj e=>(hl j hj).trans e) (by simp) (hF.mono fun j e=>.inr ⟨2,by simp,e⟩) (.inl hT)
  tI tI tI tI tI tI tI tI tI tI,hF.mono fun j e=>?_⟩
 have e:aa j=b+2:=e;exact⟨by omega,by omega⟩
def lD(aa:Nat->Nat)(b:Nat)(w:World)(g:Nat)(R':Rf)(v:Rw)(w':World)(vy:Value)(fs:List Fa):Prop:=
 ∃ak:Nat->Nat,ax ak b w' g R' v/\(∀j,j<w.heap.size->ak j=aa j)/\Fr (aS aa b) w w'/\aG (aM ak (b+13)) w' vy fs
theorem ES(S2:Nat->Prop)(tm:Int)(x:En)(V:Option Addr)(m d:Nat)(h:ax aa b w g R v)(hN:R.track.L.length<=1000000)(hf:aG S2 w (.slice V m d) x.facts)(hm:m<=maxLen)(ki:∀j,S2 j->aa j≠b+2) :
  Calls prog 66 #[v.trk,.int .i64 tm,qc x (.slice V m d)] w fun e w'=>∃vy,e=.returned (.tuple #[mM (R.track.putF tm x).1.1 vy,.int .i64 (R.track.putF tm x).1.2])/\lD aa b w g {R with track:=(R.track.putF tm x).2} v w' vy (R.track.putF tm x).1.1.facts:=by
 obtain⟨gt,S,A,n,c,zs,hv,hT,hl⟩:=id h.t;rw[hv];refine(Ir S2 tm x V m d hT (by have:=hT.len.1;omega) zz hf hm fun j hj hh=>ki j hj (hl j (hh.elim .inl fun h=>.inr (.inl h)))).mono ?_;rintro e w' ⟨vy,rfl,M,SP,hM,hP⟩;obtain⟨ak,q1,q2,q3,q4⟩:=sT (q:=b+13) hT hl hP hM;rw[<-hv]at q3;obtain⟨h1,h2⟩:=h.track q1 q3 q4;exact⟨vy,rfl,ak,h1,q1,h2,q2 _ _ SP⟩
end
end
section
variable {P:Program}{l:List Oper}{C:World->Prop}{Q:Exit->Act->World->Prop}
def LU(P:Program)(l:List Oper)(C:World->Prop)(Q:Exit->Act->World->Prop)(next:Act->World->Prop):Nat->List Nat->Act->World->Prop
 | 0,_,a,w=>next a w
 | n+1,g,a,w=>∀i∈g,wpList P l.toArray (dD C (LU P l C Q next n (g.erase i)) Q) (ah l [i]) a w
def Oo(P:Program)(l:List Oper)(C:World->Prop)(Q:Exit->Act->World->Prop):List (List Nat×List Nat)->List Nat->Act->World->Prop
 | [],last,a,w=>wpQuiet P l.toArray C (fun a'=>Q .normal a' w) (ah l last) a
 | (seg,g)::more,last,a,w=>wpQuiet P l.toArray C (fun a'=>LU P l C Q (Oo P l C Q more last) g.length g a' w) (ah l seg) a
def FU(l:List Oper)(k:Array Bool->Bool):Nat->List Nat->Array Bool->Bool
 | 0,_,listed=>k listed
 | n+1,g,listed=>(!g.isEmpty)&&Region.ready .any l.toArray listed==g&&g.all fun i=>FU l k n (g.erase i) (listed.setIfInBounds i true)
def Cx(l:List Oper):List (List Nat×List Nat)->List Nat->Array Bool->Bool
 | [],last,listed=>match eu l last listed with
  | some r=>(Region.ready .any l.toArray r).isEmpty
  | none=>false
 | (seg,g)::more,last,listed=>match eu l seg listed with
  | some r=>FU l (Cx l more last) g.length g r
  | none=>false
def Cw:List (List Nat×List Nat)->Nat
 | []=>0
 | s::more=>s.1.length+(s.2.length+Cw more)
end
inductive lC where
 | last (seg:List Nat)
 | one (seg:List Nat) (i:Nat) (p:lC)
 | two (seg:List Nat) (i j:Nat) (p q:lC)
def lC.len:lC->Nat
 | .last seg=>seg.length
 | .one seg _ p=>seg.length+(p.len+1)
 | .two seg _ _ p _=>seg.length+(p.len+1)
def lC.row(l:List Oper):lC->Array Bool->Bool
 | .last seg,listed=>match eu l seg listed with
  | some r=>(Region.ready .any l.toArray r).isEmpty
  | none=>false
 | .one seg i p,listed=>match eu l seg listed with
  | some r=>Region.ready .any l.toArray r==[i]&&p.row l (r.setIfInBounds i true)
  | none=>false
 | .two seg i j p q,listed=>match eu l seg listed with
  | some r=>Region.ready .any l.toArray r==[i,j]&&(p.len==q.len)&&p.row l (r.setIfInBounds i true)&&q.row l (r.setIfInBounds j true)
  | none=>false
def H0(l:List Oper)(p:lC):Bool:=Region.noSelect l.toArray&&(p.len==l.length)&&p.row l (Array.replicate l.length false)
section
variable {P:Program}{l:List Oper}{C:World->Prop}{Q:Exit->Act->World->Prop}
def eD(P:Program)(l:List Oper)(C:World->Prop)(Q:Exit->Act->World->Prop):lC->Act->World->Prop
 | .last seg,a,w=>wpQuiet P l.toArray C (fun a'=>Q .normal a' w) (ah l seg) a
 | .one seg i p,a,w=>wpQuiet P l.toArray C (fun a'=>wpList P l.toArray (dD C (eD P l C Q p) Q) (ah l [i]) a' w) (ah l seg) a
 | .two seg i j p q,a,w=>wpQuiet P l.toArray C (fun a'=>wpList P l.toArray (dD C (eD P l C Q p) Q) (ah l [i]) a' w/\wpList P l.toArray (dD C (eD P l C Q q) Q) (ah l [j]) a' w) (ah l seg) a
theorem dx{seg:List Nat}{a:Act}{w:World}(h:wpQuiet P l.toArray C (fun a'=>Q .normal a' w) (ah l seg) a):eD P l C Q (.last seg) a w:=h
theorem bF{seg:List Nat}{i:Nat}{p:lC}{a:Act}{w:World}
  (h:∀K:Act->World->Prop,(∀a w,eD P l C Q p a w->K a w)->wpQuiet P l.toArray C (fun a'=>wpList P l.toArray (dD C K Q) (ah l [i]) a' w) (ah l seg) a):eD P l C Q (.one seg i p) a w:=
 h _ fun _ _ h=>h
theorem ie{seg:List Nat}{i j:Nat}{p q:lC}{a:Act}{w:World}
  (h:∀K K':Act->World->Prop,(∀a w,eD P l C Q p a w->K a w)->(∀a w,eD P l C Q q a w->K' a w)->
   wpQuiet P l.toArray C (fun a'=>wpList P l.toArray (dD C K Q) (ah l [i]) a' w/\wpList P l.toArray (dD C K' Q) (ah l [j]) a' w) (ah l seg) a):eD P l C Q (.two seg i j p q) a w:=
 h _ _ (fun _ _ h=>h) fun _ _ h=>h
theorem ph{next:Act->World->Prop}{m i:Nat}{listed:Array Bool}{a:Act}{w:World}(nC:i∈Region.ready .any l.toArray listed)
  (ha:wpList P l.toArray (dD C next Q) (ah l [i]) a w) (hk:∀a w,next a w->C w->wpAnyH P .any l.toArray Q C m (listed.setIfInBounds i true) a w) :
  wpOp P l.toArray Q i (fun a2 w2=>C w2/\wpAnyH P .any l.toArray Q C m (listed.setIfInBounds i true) a2 w2) a w:=by
 obtain⟨_,o,ho,_⟩:=mem_ready.1 nC;have Nm:l[i]?=some o:=by simpa using ho
 have hp:ah l [i]=[o]:=by simp[ah,Nm]
 rw[hp]at ha;unfold wpOp;rw[ho];simp only[];unfold wpList at ha;have jy:∀a2 w2,wpList P l.toArray (dD C next Q) [] a2 w2->C w2/\wpAnyH P .any l.toArray Q C m (listed.setIfInBounds i true) a2 w2:=
  fun a2 w2 h2=>⟨h2.1,hk a2 w2 h2.2 h2.1⟩
 split
 ·rename_i hw;rw[if_pos hw]at ha;exact ha.imp (vj jy) (fun h2=>h2)
 ·rename_i hw;rw[if_neg hw]at ha;exact jy _ _ ha
theorem H3(hs:Region.noSelect l.toArray=true)(hQ:∀c (a b:Act) w,a.defers=b.defers->Q (.panic c) a w->Q (.panic c) b w)(p:lC) :
  ∀(listed:Array Bool) (a:Act) (w:World),p.row l listed=true->C w->eD P l C Q p a w->wpAnyH P .any l.toArray Q C p.len listed a w:=by
 induction p with
 | last seg=>
  intro listed a w hr hC h;unfold lC.row at hr;cases hc:eu l seg listed with
  | none=>rw[hc]at hr;cases hr
  | some r=>
   rw[hc]at hr;have:=jW (P:=P) (C:=C) (Q:=Q) hs hQ seg listed r a w 0 (fun a'=>Q .normal a' w) hc hC h (fun a' ha=>wpAnyH_done (by simpa using hr) ha 0);simpa[lC.len]using this
 | one seg i p ih=>
  intro listed a w hr hC h;unfold lC.row at hr;cases hc:eu l seg listed with
  | none=>rw[hc]at hr;cases hr
  | some r=>
   rw[hc]at hr;simp only[Bool.and_eq_true,beq_iff_eq]at hr;refine jW (P:=P) (C:=C) (Q:=Q) hs hQ seg listed r a w _ _ hc hC h fun a' ha=>?_
   refine wpAnyH_all hr.1 (by simp) fun k hk=>?_
   obtain rfl:k=i:=by simpa using hk
   exact ph (by rw[hr.1];exact hk) ha fun a w h1 h2=>ih _ a w hr.2 h2 h1
 | two seg i j p q ihp ihq=>
  intro listed a w hr hC h;unfold lC.row at hr;cases hc:eu l seg listed with
  | none=>rw[hc]at hr;cases hr
  | some r=>
   rw[hc]at hr;simp only[Bool.and_eq_true,beq_iff_eq]at hr;obtain⟨⟨⟨h1,h2⟩,h3⟩,h4⟩:=hr;refine jW (P:=P) (C:=C) (Q:=Q) hs hQ seg listed r a w _ _ hc hC h fun a' ha=>?_
   refine wpAnyH_all h1 (by simp) fun k hk=>?_
   have yy:k=i\/k=j:=by simpa using hk
   rcases yy with rfl|rfl
   ·exact ph (by rw[h1];exact hk) ha.1 fun a w h5 h6=>ihp _ a w h3 h6 h5
   ·exact ph (by rw[h1];exact hk) ha.2 fun a w h5 h6=>by have:=ihq _ a w h4 h6 h5;rw[<-h2]at this;exact this
theorem sX{id:Nat}{a:Act}{w:World}(p:lC)(hm:P.follows .mixedOrders=true)(hB:H0 l p=true)
  (hQ:∀c (a b:Act) w,a.defers=b.defers->Q (.panic c) a w->Q (.panic c) b w) (hC:C w.drew) (h:eD P l C Q p a w.drew):(Code.region id l.toArray true).wp P Q a w:=by
 simp only[H0,Bool.and_eq_true,beq_iff_eq]at hB;obtain⟨⟨hs,af⟩,bS⟩:=hB;refine wp_region_held (S:=C) hm ?_;have:=H3 (P:=P) hs hQ p _ a w.drew bS hC h;rw[af]at this;simpa using this
end
theorem Sq {P:Program}{l:List Oper}{id:Nat}{a:Act}{Q:Exit->Act->World->Prop}(gs:List Nat)(w:World)(p:lC)(h:eD P l (dS gs w) Q p a w.drew)(hm:P.follows .mixedOrders=true:=by kernel_rfl)(hB:H0 l p=true:=by kernel_rfl)(hQ:∀c (a b:Act) w,a.defers=b.defers->Q (.panic c) a w->Q (.panic c) b w:=by exact fun _ _ _ _ e h=>⟨e.symm.trans h.1,h.2⟩):(Code.region id l.toArray true).wp P Q a w:=
 sX p hm hB hQ aQ h
section
open Go.MapKept
theorem Eo:(prog.info? 163).map (fun i=>(i.zero,i.size,i.bytes))=some (some (.agg #[.int .i64 0,.int .i64 0,.int .i64 0,.int .i64 0]),4,32):=by kernel_rfl
def me(n k:Nat)(x:Int):List Pr:=(List.range n).map fun i=>if i<k then⟨x,0,0,0⟩else KF
theorem Ex(n:Nat)(x:Int):me n n x=List.replicate n ⟨x,0,0,0⟩:=by
 unfold me;apply List.ext_getElem
 ·simp
 ·intro i h1 h2;have:i<n:=by simpa using h1
  simp[this]
theorem mg(n k:Nat)(x:Int):(me n k x).length=n:=by unfold me;simp
theorem mf(n k i:Nat)(x:Int)(h:i<n):(me n k x)[i]?=some (if i<k then⟨x,0,0,0⟩else KF):=by
 unfold me;rw[List.getElem?_map,List.getElem?_range h];rfl
theorem Ia(n k:Nat)(x:Int)(h:k<n):(me n k x).set k ⟨x,0,0,0⟩=me n (k+1) x:=by
 apply List.ext_getElem?;intro i;rw[List.getElem?_set];rcases Nat.lt_or_ge i n with hi|hi
 ·rw[mf n (k+1) i x hi,mf n k i x hi];by_cases e:k=i
  ·rw[if_pos e,if_pos (by rw[mg];omega),if_pos (by omega)]
  ·rw[if_neg e];by_cases hk:i<k
   ·rw[if_pos hk,if_pos (by omega)]
   ·rw[if_neg hk,if_neg (by omega)]
 ·rw[if_neg (by omega),List.getElem?_eq_none (by rw[mg];exact hi),List.getElem?_eq_none (by rw[mg];exact hi)]
theorem je{α:Type}{f:α->List Value}{k:Nat}(hf:∀z,(f z).length=k){z z':α}{j:Nat}{u:Value}(hj:j<k)(hz:f z'=(f z).set j u):∀{l:List α} {i:Nat},l[i]?=some z->(l.flatMap f).set (i*k+j) u=(l.set i z').flatMap f
 | [],_,h=>by simp at h
 | a::l,0,h=>by
  obtain rfl:a=z:=by simpa using h
  rw[List.flatMap_cons,List.set_cons_zero,List.flatMap_cons,Nat.zero_mul,Nat.zero_add,List.set_append_left _ _ (by rw[hf];exact hj),hz]
 | a::l,i+1,h=>by
  have h':l[i]?=some z:=by simpa using h
  have ih:=je hf hj hz h';rw[List.flatMap_cons,List.set_cons_succ,List.flatMap_cons,List.set_append_right _ _ (by rw[hf,Nat.succ_mul];omega),hf,<-ih];congr 2;rw[Nat.succ_mul];omega
theorem Ch(n k:Nat)(x:Int)(h:k<n):((me n k x).flatMap mW).set (k*4) (vi x)=(me n (k+1) x).flatMap mW:=by
 rw[<-Ia n k x h];have h0:(me n k x)[k]?=some KF:=by rw[mf n k k x h,if_neg (Nat.lt_irrefl k)]
 exact je jC (z:=KF) (z':=⟨x,0,0,0⟩) (j:=0) (by omega) rfl h0
theorem BZ(n:Nat)(x:Int):(madeCells (Value.agg #[.int .i64 0,.int .i64 0,.int .i64 0,.int .i64 0]).cells (n*4)).toList=(me n 0 x).flatMap mW:=by
 refine List.ext_getElem? fun i=>?_
 rcases Nat.lt_or_ge i (n*4)with hi|hi
 ·have h1:((me n 0 x).flatMap mW)[i/4*4+i%4]?=(mW KF)[i%4]?:=dW jC (Nat.mod_lt _ (by omega)) (mf n 0 (i/4) x (by omega));rw[show i/4*4+i%4=i by omega]at h1;rw[h1];have h4:i%4=0\/i%4=1\/i%4=2\/i%4=3:=by omega
  rcases h4 with h4|h4|h4|h4 <;> simp[madeCells,hi,Value.cells,h4,mW,KF,vi]
 ·rw[List.getElem?_eq_none (by rw[Array.length_toList,size_madeCells];exact hi),List.getElem?_eq_none (by rw[eO jC,mg];exact hi)]
section
variable {aa:Nat->Nat}{b g p:Nat}{w w':World}{R R':Rf}{v:Rw}{vy:Value}{fs:List Fa}{cs:Array Value}
def gP(aa:Nat->Nat)(b:Nat)(w:World)(g:Nat)(R':Rf)(v:Rw)(w':World)(p:Nat)(vy:Value)(fs:List Fa)(cs:Array Value):Prop:=
 ∃ak:Nat->Nat,ax ak b w' g R' v/\(∀j,j<w.heap.size->ak j=aa j)/\Fr (aS aa b) w w'/\aG (aM ak (b+13)) w' vy fs/\ao w' p 59 cs/\¬bw ak b p/\w.heap.size<=p
theorem lD.boxed(cs:Array Value)(h:lD aa b w g R' v w' vy fs):gP aa b w g R' v (w'.alloc (.cells cs 59)) w'.heap.size vy fs cs:=by
 obtain⟨ak,h1,h2,h3,h4⟩:=h;have hb:Below w'.heap.size w' (w'.alloc (.cells cs 59)):=(Below.refl w'.heap.size w').alloc zl _;have hs:=h3.size;refine⟨aj ak w'.heap.size b,h1.fresh hb,fun j hj=>(ac (by omega)).trans (h2 j hj),h3.trans (Fr.of_below (X:=aS aa b) hb) fun j hj=>.inl hj,?_,ao.new _ _ _,?_,hs⟩
 ·exact(h4.mono fun j hj e=>(ac hj).trans e).keep (bA.below hb)
 ·unfold bw;rw[az zl];omega
theorem lD.box(h:lD (aj aa w.heap.size b) b (w.alloc (.cells cs 59)) g R' v w' vy fs):gP aa b w g R' v w' w.heap.size vy fs cs:=by
 obtain⟨ak,h1,h2,h3,h4⟩:=h;have hb:Below w.heap.size w (w.alloc (.cells cs 59)):=(Below.refl w.heap.size w).alloc zl _;have hk:=ao.new w 59 cs;have hl:=hk.lt;have e1:ak w.heap.size=b:=(h2 _ hl).trans (az zl);refine⟨ak,h1,fun j hj=>(h2 j (by omega)).trans (ac hj),(Fr.of_below (X:=aS aa b) hb).trans h3 fun j hj=>?_,h4,(h3.block _ hl ?_).trans hk,?_,Nat.le_refl _⟩
 ·rcases Nat.lt_or_ge j w.heap.size with h|h
  ·unfold aS at hj;rw[ac h]at hj;exact .inl hj
  ·exact .inr h
 ·unfold aS;rw[az zl];omega
 ·unfold bw;rw[e1];omega
theorem gP.set(x:En)(h:gP aa b w g R' v w' p vy fs cs)(hc:cs.size=6):gP aa b w g R' v (set6 w' p (vy,x)) p vy fs (cl (vy,x)).toArray:=by
 obtain⟨ak,h1,h2,h3,h4,h5,h6,h7⟩:=h;have hF:=Fr.set6 w' p (vy,x);refine⟨ak,h1.keep fun j hj hl=>hF.block j hl fun e=>h6 (e▸hj),h2,h3.trans hF fun j e=>.inr (by omega),h4.keep (hF.stay fun j hj _ e=>h6 ?_),(eT (vy,x) h5 hc).1,h6,h7⟩;rw[<-e];have hj:ak j=b+13:=hj;exact⟨by omega,by omega⟩
theorem gP.post(h:gP aa b w g R' v w' p vy fs cs):ap aa b w g R' w':=by
 obtain⟨ak,h1,h2,h3,h4,h5,h6,h7⟩:=h;exact⟨ak,v,h1,fun j hj _=>h2 j hj,fun j hj hm=>by unfold aS at hm ⊢;rw[h2 j hj];exact hm,h3⟩
theorem gP.saves(x:En)(h:gP aa b w g R' v w' p vy x.facts cs)(hN:R'.out.entries.length<=100000) :
  Calls prog 67 #[.pointer (some ⟨g,0,none⟩),.slice (some ⟨w'.heap.size,0,none⟩) 1 1] (w'.alloc (.cells (cl (vy,x)).toArray 59)) fun e w2=>e=.returned (.tuple #[])/\ap aa b w g (R'.save [x]) w2:=by
 obtain⟨ak,h1,h2,h3,h4,h5,h6,h7⟩:=h;have hb:Below w'.heap.size w' (w'.alloc (.cells (cl (vy,x)).toArray 59)):=(Below.refl w'.heap.size w').alloc zl _;have hf:=(h4.mono (S':=aM (aj ak w'.heap.size b) (b+13)) fun j hj e=>(ac hj).trans e).keep (bA.below hb);have cW:=h1.s.lt;refine(pk (some ⟨w'.heap.size,0,none⟩) 1 1 [(vy,x)] (h1.fresh hb) (ff.one (ao.new _ _ _)) (fun z hz=>?_) (fun _ j hj e=>?_) (by omega) hN).mono ?_
 ·rw[List.mem_singleton.1 hz];exact hf
 ·obtain⟨ad,e1,e2⟩:=hj;cases e1;have e2:w'.heap.size=j:=e2;omega
 ·rintro e w2 ⟨rfl,hP⟩;refine⟨rfl,(hP.fresh hb).next (fun j hj _=>h2 j hj) (fun j hj hm=>?_) h3⟩;unfold aS at hm ⊢;rw[h2 j hj];exact hm
end
theorem cy{w w':World}{g:Nat}(h:w'.heap[g]?=w.heap[g]?):dS [g] w w':=dT fun q hq=>by
 obtain rfl:q=g:=by simpa using hq
 exact h
section
variable {aa:Nat->Nat}{b g p:Nat}{w w':World}{R R':Rf}{v:Rw}{vy:Value}{fs:List Fa}{cs:Array Value}
theorem gP.blk(h:gP aa b w g R' v w' p vy fs cs):ao w' p 59 cs/\p≠g/\ao w' g 107 (bV R' v):=by
 obtain⟨ak,h1,h2,h3,h4,h5,h6,h7⟩:=h;refine⟨h5,fun e=>h6 ?_,h1.s⟩;rw[e];have:=h1.sl;exact⟨by omega,by omega⟩
theorem oJ(S2:Nat->Prop)(tm:Int)(x:En)(V:Option Addr)(m d:Nat)(h:ax aa b w g R v)(hN:R.track.L.length<=1000000)(hf:aG S2 w (.slice V m d) x.facts)(hm:m<=maxLen)(ki:∀j,S2 j->aa j≠b+2) :
  Calls prog 66 #[v.trk,.int .i64 tm,.agg #[.int .i64 x.op,.int .i64 x.sess,.int .i64 x.seq,.slice V m d]] w fun e w'=>∃A1 n1 c1,e=.returned (.tuple #[.agg #[.int .i64 (R.track.putF tm x).1.1.idx,.int .i64 (R.track.putF tm x).1.1.term,.int .i64 (R.track.putF tm x).1.1.op,.int .i64 (R.track.putF tm x).1.1.sess,.int .i64 (R.track.putF tm x).1.1.seq,.slice A1 n1 c1],.int .i64 (R.track.putF tm x).1.2])/\
   lD aa b w g {R with track:=(R.track.putF tm x).2} v w' (.slice A1 n1 c1) (R.track.putF tm x).1.1.facts:=by
 refine(ES S2 tm x V m d h hN hf hm ki).mono ?_;rintro e w' ⟨vy,rfl,hT⟩;obtain⟨ak,h1,h2,h3,h4⟩:=hT;obtain⟨A,n,c,rfl,_⟩:=h4.form;exact⟨A,n,c,rfl,ak,h1,h2,h3,h4⟩
end
theorem g8(t:bD)(tm:Int)(x:En):(t.putF tm x).2.index=t.index/\(t.putF tm x).2.L.length<=t.L.length+1:=by
 unfold bD.putF;split
 ·exact⟨rfl,Nat.le_succ _⟩
 ·split
  ·exact⟨rfl,Nat.le_succ _⟩
  ·exact⟨rfl,by simp⟩
theorem FM{R:Rf}(pI:R.n<=7)(hN:R.track.L.length<=900000)(h0:0<=R.track.lastF.1)(h1:R.track.lastF.1<=1099511627776)(hd:R.snap.data.length<=65536)(Ju:0<R.track.index->0<R.snap.data.length):gr R.crown:=by
 have hp:∀s,s<=R.n->R.crown.peer s=⟨R.track.lastF.1+1,0,0,0⟩:=fun s hs=>by
  show((List.replicate (R.n+1) (⟨R.track.lastF.1+1,0,0,0⟩:Pr))[s]?).getD KF=_;rw[List.getElem?_replicate,if_pos (by omega)];rfl
 refine⟨by show(List.replicate _ _).length=_;rw[List.length_replicate];rfl,pI,fun s hs=>?_,fun s hs=>?_,hd,Ju,by show R.track.L.length<=_;omega⟩
 ·rw[hp s hs];exact⟨by show 1<=R.track.lastF.1+1;omega,by show R.track.lastF.1+1<=_;omega⟩
 ·rw[hp s hs];exact⟨Int.le_refl 0,Int.natCast_nonneg _⟩
theorem gr.track{R:Rf}(h:gr R)(t:bD)(hi:0<t.index->0<R.snap.data.length)(hl:t.L.length<=1000000):gr {R with track:=t}:=⟨h.len,h.n7,h.nx,h.off,h.dat,hi,hl⟩
section
variable {aa:Nat->Nat}{b g:Nat}{w:World}{R:Rf}{v:Rw}
theorem D8(h:ax aa b w g R v)(pI:R.n<=7)(hN:R.track.L.length<=900000)(hm:R.out.msgs.length<=80000)(he:R.out.entries.length<=90000)(hc:R.out.commits.length<=1000000)(fO:0<=R.commit)(lw:R.commit<=4000000000000)
  (hd:R.snap.data.length<=65536) (Ju:0<R.track.index->0<R.snap.data.length) :
  Calls prog 105 #[.pointer (some ⟨g,0,none⟩)] w fun e w'=>e=.returned (.tuple #[])/\ap aa b w g R.leads w':=by
 have cW:=h.s.lt;have d8:=h.s.cell 8;simp only[bV,Zx]at d8;have bH:=i7 h.t (by omega);have dJ:=h.t.inv;have oe:=dJ.last;have uy:=dJ.room;have lS:=dJ.b;obtain⟨l1,cD⟩:∃l,R.track.lastF.1=l:=⟨_,rfl⟩;rw[cD]at bH oe;have DP:0<=l1/\l1<=1099511627776:=by omega
 have hH:=zH h;replace cD:=zH cD;clear h dJ oe uy lS;go_enter func105,ntmps105;go_wp2_with fail;refine bH.mono ?_;rintro e w1 ⟨rfl,br⟩;have h1:=hH.out.fresh br;obtain⟨e4,e5,e13,e14,e15,-⟩:=h1.s.cs [4,5,13,14,15];obtain⟨g13,g14,g15,-⟩:=h1.s.fs [13,14,15];simp only[bV,vi,Zx]at e4 e5 e13 e14 e15;obtain⟨w2,cZ⟩:=zN (((w1.setCell ⟨g,13,none⟩ (.int .i64 3)).setCell ⟨g,14,none⟩ (.int .i64 R.id)).setCell ⟨g,15,none⟩ (.int .i64 0));have dC:Fr (fun j=>j=g) w1 w2:=by rw[<-cZ];exact((Fr.set g 13 _).trans (Fr.set g 14 _) fun _ h=>.inl h).trans (Fr.set g 15 _) fun _ h=>.inl h
 have ki:ao w2 g 107 (bV {R with role:=3,leader:=R.id,clock:=0} v):=by
  rw[<-cZ];have s:=((h1.s.set_ 13 (.int .i64 3)).set_ 14 (.int .i64 R.id)).set_ 15 (.int .i64 0);simp only[bV,Zy]at s;exact s
 have h2:=h1.nums (R':={R with role:=3,leader:=R.id,clock:=0}) ki dC rfl rfl rfl rfl rfl rfl rfl rfl rfl rfl rfl;obtain⟨N,Dy⟩:∃N:Nat,N=R.n+1:=⟨_,rfl⟩;have TV:(R.n:Int)+1=(N:Int):=by omega
 have hN8:N<=8:=by omega
 obtain⟨i0,iF,jT,iW,gC⟩:=info_parts Eo;obtain⟨w3,ls,r1,r2⟩:=run_make_full (P:=prog) w2 w2.heap.size 97 163 i0 _ 4 underlying97 iF jT iW .i64 .i64 N (by rw[gC];omega) (by unfold maxLen;omega) zl;rw[BZ N (l1+1)]at r1;have bN:Below w2.heap.size w2 w3:=zb.grown r2 zl (fun k hk=>by cases hk);obtain⟨q,hq⟩:=zN (w2.heap.size);have XM:w.heap.size<=q:=by have:=br.size;have:=dC.size;omega
 have JF:g<q:=by have:=ki.lt;omega
 have iE:=ki.kept bN;have e5':=ki.cell 5;rw[hq]at r1 ls;obtain⟨e0,e1,e2,-⟩:=iE.cs [0,1,2];obtain⟨g0,g1,g2,-⟩:=iE.fs [0,1,2];simp only[bV,vi,Zx]at e0 e1 e2 e5';replace h2:=zH h2;replace dC:=zH dC;clear bH h1 iF jT iW gC ki r2;replace Dy:=zH Dy;replace TV:=zH TV;go_wp2_with fail;rw[TV.out,ls];clear ls;go_wp2_with fail;obtain⟨w4,fV⟩:=zN ((((w3.setCell ⟨g,0,none⟩ (.slice (some ⟨q,0,none⟩) N N)).setCell ⟨g,1,none⟩ (.int .i64 1)).setCell ⟨g,2,none⟩ (.slice none 0 0)));try rw[fV]
 have jw:Fr (fun j=>j=g) w3 w4:=by rw[<-fV];exact((Fr.set g 0 _).trans (Fr.set g 1 _) fun _ h=>.inl h).trans (Fr.set g 2 _) fun _ h=>.inl h
 have DA:ao w4 g 107 (bV {R with role:=3,leader:=R.id,clock:=0,round:=1} {v with peers:=.slice (some ⟨q,0,none⟩) N N,waits:=.slice none 0 0}):=by
  rw[<-fV];have s:=((iE.set_ 0 (.slice (some ⟨q,0,none⟩) N N)).set_ 1 (.int .i64 1)).set_ 2 (.slice none 0 0);simp only[bV,Zy]at s;exact s
 have r4:w4.ownsRow q 163 4 (.slice (some ⟨q,0,none⟩) N N) N ((me N 0 (l1+1)).flatMap mW):=cN r1 fun j hj hl=>jw.block j hl (by
  have:=(aw r1 _ N rfl j hj).2.1;omega)
 have GW:q<w4.heap.size:=by
  have:=(aw r4 _ N rfl q ⟨_,rfl,rfl⟩).1;exact this
 clear iE r1 e0 e1 e2 g0 g1 g2 e4 e5 e5' e13 e14 e15 g13 g14 g15 cZ;replace jw:=zH jw
 go_loopw [44] (fun i wr=>∃k:Nat,k<=N/\i=.int .i64 k/\wr.ownsRow q 163 4 (.slice (some ⟨q,0,none⟩) N N) N ((me N k (l1+1)).flatMap mW)/\Fr (fun j=>j=q) w4 wr) (fun i _=>N-(intOf i).toNat)
 case atStart=>exact⟨0,Nat.zero_le _,rfl,r4,Fr.refl _ _⟩
 case round=>
  clear r4;obtain⟨k,hk,rfl,aB,KG⟩:=hrel;have SI:ao wr g 107 (bV {R with role:=3,leader:=R.id,clock:=0,round:=1} {v with peers:=.slice (some ⟨q,0,none⟩) N N,waits:=.slice none 0 0}):=(KG.block g DA.lt (by omega)).trans DA;by_cases aU:k<N
  ·have e0:=SI.cell 0;simp only[bV,List.getElem?_toArray,List.getElem?_cons_zero]at e0;have aD:=(aB.stored (k*4) (vi (l1+1))).1;rw[Ch N k (l1+1) aU]at aD;have ck:=aB.cellAt (k*4) (by omega);have fk:=aB.frozenAt (k*4);have hold:((me N k (l1+1)).flatMap mW)[k*4]?=some (.int .i64 0):=(dW jC (j:=0) (by omega) (mf N k k (l1+1) aU)).trans (by rw[if_neg (Nat.lt_irrefl k)];rfl);rw[hold]at ck;have Yu:Fr (fun j=>j=q) w4 (wr.setCell ⟨q,k*4,none⟩ (.int .i64 (l1+1))):=KG.trans (Fr.set q (k*4) _) fun _ h=>.inl h
   have aO:=zH (show N-(k+1)<N-k by omega);clear aB hold SI KG;go_wp2_with fail;exact⟨⟨k+1,aU,by go_num,aD,Yu⟩,by simp[intOf];exact aO.out⟩
  ·obtain rfl:N=k:=by omega
   have h1:=hH.out.fresh br;have Mf:=Dy.out;have nB:w1.heap.size<=q:=by have:=dC.out.size;omega
   have KH:ap (aj aa w.heap.size b) b w1 g R.crown wr:=by
    refine ap.turn (v':={v with peers:=.slice (some ⟨q,0,none⟩) N N,waits:=.slice none 0 0}) (ak:=aj (aj aa w.heap.size b) w1.heap.size (b+3)) [3,4] h1 SI (fun j hj=>ac hj) (by simp)
     ((((dC.out.two (Fr.of_below (X:=fun j=>j=g) bN) (fun j e=>.inl (.inl e)) fun j e=>.inl (.inl e)).two jw.out (fun j e=>.inl e) fun j e=>.inl (.inl e))).two KG (fun j e=>.inl e) fun j e=>.inr (by omega))
     tI (.inl ?_) (.inl ?_) tI tI tI tI tI tI tI tI
    ·have e:R.crown.peers=me N N (l1+1):=by rw[Ex,<-cD.out,Mf];rfl
     rw[e,mg];refine⟨_,_,rfl,eB aB zz,fun j hj=>?_⟩;obtain⟨ad,e1,rfl⟩:=hj;cases e1;exact az nB
    ·exact bR.nil _ _ _ _ _
   have cR:=FM pI hN (by rw[cD.out];exact DP.1) (by rw[cD.out];exact DP.2) hd Ju;obtain⟨Kd,vc,hC,q1,q2,q3⟩:=KH;clear h1 SI DA aB KG;obtain⟨d8,d6,-⟩:=hC.s.cs [8,6];simp only[bV,vi,Zx]at d8 d6;obtain⟨k8,k6⟩:=pU [g] d8 d6;obtain⟨pf,jq⟩:=zN (R.crown.track.putF R.crown.hard.term gc);have iR:R.leads1=if pf.1.2=0 then({R.crown with track:=pf.2}:Rf).save [pf.1.1]else {R.crown with track:=pf.2}:=by unfold Rf.leads1;rw[<-jq]
   have GV:=g8 R.crown.track R.crown.hard.term gc;have ey:=oJ (fun _=>False) R.crown.hard.term gc none 0 0 (hC.below (w':=wr.drew) (zb.drew)) (by show R.track.L.length<=_;omega) (aG.nil _ _) zz (fun _ h=>h.elim);have jZ:Below wr.drew.heap.size wr.drew (wr.drew.alloc (.cells #[.int .i64 0,.int .i64 0,.int .i64 0,.int .i64 0,.int .i64 0,.slice none 0 0] 59)):=zb.alloc zl _;have ez:=oJ (fun _=>False) R.crown.hard.term gc none 0 0 ((hC.below (w':=wr.drew) (zb.drew)).fresh jZ) (by show R.track.L.length<=_;omega) (aG.nil _ _) zz (fun _ h=>h.elim);rw[jq]at ey ez GV;simp only[gc]at ey ez;have vZ:gr R.leads1:=by
    have hx:=(cR.track pf.2 (fun e=>Ju (by rw[GV.1]at e;exact e)) (by have h1:=GV.2;have h2:R.crown.track.L.length<=900000:=hN;omega));rw[iR];split
    ·exact hx.out _
    ·exact hx
   have SZ:R.leads1.out.msgs.length<=90000:=by rw[iR];split <;> (show R.out.msgs.length<=_;omega)
   have YX:R.leads1.out.commits.length<=1000000:=by rw[iR];split <;> exact hc
   have oM:R.leads1.commit=R.commit:=by rw[iR];split <;> rfl
   have qf:=zH (show ∀w9 ag v1,ax ag b w9 g R.leads1.all v1->Calls prog 68 #[.pointer (some ⟨g,0,none⟩)] w9 fun e w'=>e=.returned (.tuple #[])/\ap ag b w9 g R.leads1.all.agrees w' from fun w9 ag v1 h=>by
    obtain⟨ms,e,_⟩:=fA R.leads1.others R.leads1;have e':R.leads1.all=_:=e;rw[e']at h ⊢;refine(kp h vZ.len vZ.n7 (by show 0<=R.leads1.commit;rw[oM];exact fO) (by show R.leads1.commit<=_;rw[oM];exact lw) vZ.trk YX).mono ?_;rintro e w' ⟨h1,h2,_⟩;exact⟨h1,h2⟩)
   replace vZ:=zH vZ;have qF:wr.heap[g]?=some (.cells (bV R.crown vc) 107 (0,0)):=hC.s;have DL:=hC.s.lt;have MO:R.crown.out.entries.length<=100000:=by show R.out.entries.length<=_;omega
   go_wp2_with fail;refine Sq [g] wr (.two [0,1,2,3,4,5,6,7,8,9] 10 14 (.one [11,12,13] 14 (.one [] 15 (.last [16]))) (.one [] 10 (.one [11,12,13] 15 (.last [16])))) ?_;refine ie fun K1 K2 cQ iu=>?_
   simp only[ah,Zx];repeat go_big_quiet_step(fail)
   apply wpQuiet_nil;constructor
   ·go_wp2_with fail;refine ey.mono ?_;rintro e w5 ⟨A1,n1,c1,rfl,hT⟩;go_wp2_with fail;have jl:w5.heap[g]?=wr.heap[g]?:=by obtain⟨dU,h5,_⟩:=id hT;exact h5.s.trans qF.symm
    refine⟨cy jl,cQ _ _ ?_⟩;clear ey ez;refine bF fun K3 jY=>?_
    simp only[ah,Zx];repeat go_big_quiet_step(fail)
    apply wpQuiet_nil;go_wp2_with fail;have hM:=hT.boxed #[.int .i64 0,.int .i64 0,.int .i64 0,.int .i64 0,.int .i64 0,.slice none 0 0];generalize Fl:w5.alloc (.cells #[.int .i64 0,.int .i64 0,.int .i64 0,.int .i64 0,.int .i64 0,.slice none 0 0] 59)=w6 at *;generalize w5.heap.size=p at *;have ln:w6.heap[g]?=wr.heap[g]?:=by rw[qF];exact hM.blk.2.2
    refine⟨cy ln,jY _ _ ?_⟩;refine bF fun K4 ro=>?_
    simp only[ah,Zx];apply wpQuiet_nil;obtain⟨fP,rG,nd⟩:=hM.blk;obtain⟨z0,z1,z2,z3,z4,z5,-⟩:=fP.cs [0,1,2,3,4,5];simp only[Zx]at z0 z1 z2 z3 z4 z5;obtain⟨y0,y1,y2,y3,y4,y5,-⟩:=fP.fs [0,1,2,3,4,5];have fh:=Fr.set6 w6 p (.slice A1 n1 c1,pf.1.1);have uj:(set6 w6 p (.slice A1 n1 c1,pf.1.1)).heap[g]?=wr.heap[g]?:=(fh.block g nd.lt fun e=>rG e.symm).trans ln;have nY:=hM.set pf.1.1 rfl;go_wp2_with fail;refine⟨cy uj,ro _ _ ?_⟩;show eD _ _ _ _ _ _ (set6 w6 p (.slice A1 n1 c1,pf.1.1));generalize set6 w6 p (.slice A1 n1 c1,pf.1.1)=w7 at *;clear hM fP z0 z1 z2 z3 z4 z5 y0 y1 y2 y3 y4 y5 fh nd;refine dx ?_;simp only[ah,Zx];repeat go_big_quiet_step(fail)
    apply wpQuiet_nil;obtain⟨mS,_,_⟩:=nY.blk;obtain⟨z0,z1,z2,z3,z4,z5,-⟩:=mS.cs [0,1,2,3,4,5];simp only[cl,vi,Zx]at z0 z1 z2 z3 z4 z5;by_cases hz:pf.1.2=0
    ·rw[if_pos hz]at iR;have pc:=nY.saves pf.1.1 MO;have xz:(pf.1.2==0)=true:=by simp[hz]
     simp only[cl,vi]at pc;replace iR:=zH iR;clear nY mS hz;go_wp2_with fail;refine pc.mono ?_;rintro e w8 ⟨rfl,hP⟩;clear pc;go_wp2_with fail;have fl:=(show ap Kd b wr.drew g R.leads1 w8 by rw[iR.out];exact hP).call (fun ag v1 h=>mr h vZ.out SZ);refine fl.mono ?_;rintro e w9 ⟨rfl,mA⟩;have gw:=mA.call (fun ag v1 h=>qf.out w9 ag v1 h);clear fl mA;go_wp2_with fail;refine gw.mono ?_;rintro e wE ⟨rfl,yd⟩;have hQ:=zH (show ap aa b w g R.leads wE from((yd.behind (w:=wr) (zb.drew)).next q1 q2 q3).fresh br);clear gw yd;go_wp2_with fail;exact am rfl rfl ⟨rfl,hQ.out⟩
    ·rw[if_neg hz]at iR;have hP:=nY.post;have xz:(pf.1.2==0)=false:=by simp[hz]
     replace iR:=zH iR;clear nY mS hz;go_wp2_with fail;have fl:=(show ap Kd b wr.drew g R.leads1 w7 by rw[iR.out];exact hP).call (fun ag v1 h=>mr h vZ.out SZ);refine fl.mono ?_;rintro e w9 ⟨rfl,mA⟩;have gw:=mA.call (fun ag v1 h=>qf.out w9 ag v1 h);clear fl mA;go_wp2_with fail;refine gw.mono ?_;rintro e wE ⟨rfl,yd⟩;have hQ:=zH (show ap aa b w g R.leads wE from((yd.behind (w:=wr) (zb.drew)).next q1 q2 q3).fresh br);clear gw yd;go_wp2_with fail;exact am rfl rfl ⟨rfl,hQ.out⟩
   ·go_wp2_with fail;refine⟨cy (jZ.block g DL),iu _ _ ?_⟩;refine bF fun K3 jY=>?_
    simp only[ah,Zx];apply wpQuiet_nil;go_wp2_with fail;refine ez.mono ?_;rintro e w6 ⟨A1,n1,c1,rfl,hT⟩;go_wp2_with fail;have hM:=hT.box;have DV:wr.drew.heap.size=wr.heap.size:=rfl;rw[DV]at hM;generalize wr.heap.size=p at *;have ln:w6.heap[g]?=wr.heap[g]?:=by rw[qF];exact hM.blk.2.2
    refine⟨cy ln,jY _ _ ?_⟩;clear ey ez;refine bF fun K4x Bl=>?_
    simp only[ah,Zx];repeat go_big_quiet_step(fail)
    apply wpQuiet_nil;obtain⟨fP,rG,nd⟩:=hM.blk;obtain⟨z0,z1,z2,z3,z4,z5,-⟩:=fP.cs [0,1,2,3,4,5];simp only[Zx]at z0 z1 z2 z3 z4 z5;obtain⟨y0,y1,y2,y3,y4,y5,-⟩:=fP.fs [0,1,2,3,4,5];have fh:=Fr.set6 w6 p (.slice A1 n1 c1,pf.1.1);have uj:(set6 w6 p (.slice A1 n1 c1,pf.1.1)).heap[g]?=wr.heap[g]?:=(fh.block g nd.lt fun e=>rG e.symm).trans ln;have nY:=hM.set pf.1.1 rfl;go_wp2_with fail;refine⟨cy uj,Bl _ _ ?_⟩;show eD _ _ _ _ _ _ (set6 w6 p (.slice A1 n1 c1,pf.1.1));generalize set6 w6 p (.slice A1 n1 c1,pf.1.1)=w7 at *;clear hM fP z0 z1 z2 z3 z4 z5 y0 y1 y2 y3 y4 y5 fh nd;refine dx ?_;simp only[ah,Zx];repeat go_big_quiet_step(fail)
    apply wpQuiet_nil;obtain⟨mS,_,_⟩:=nY.blk;obtain⟨z0,z1,z2,z3,z4,z5,-⟩:=mS.cs [0,1,2,3,4,5];simp only[cl,vi,Zx]at z0 z1 z2 z3 z4 z5;by_cases hz:pf.1.2=0
    ·rw[if_pos hz]at iR;have pc:=nY.saves pf.1.1 MO;have xz:(pf.1.2==0)=true:=by simp[hz]
     simp only[cl,vi]at pc;replace iR:=zH iR;clear nY mS hz;go_wp2_with fail;refine pc.mono ?_;rintro e w8 ⟨rfl,hP⟩;clear pc;go_wp2_with fail;have fl:=(show ap Kd b wr.drew g R.leads1 w8 by rw[iR.out];exact hP).call (fun ag v1 h=>mr h vZ.out SZ);refine fl.mono ?_;rintro e w9 ⟨rfl,mA⟩;have gw:=mA.call (fun ag v1 h=>qf.out w9 ag v1 h);clear fl mA;go_wp2_with fail;refine gw.mono ?_;rintro e wE ⟨rfl,yd⟩;have hQ:=zH (show ap aa b w g R.leads wE from((yd.behind (w:=wr) (zb.drew)).next q1 q2 q3).fresh br);clear gw yd;go_wp2_with fail;exact am rfl rfl ⟨rfl,hQ.out⟩
    ·rw[if_neg hz]at iR;have hP:=nY.post;have xz:(pf.1.2==0)=false:=by simp[hz]
     replace iR:=zH iR;clear nY mS hz;go_wp2_with fail;have fl:=(show ap Kd b wr.drew g R.leads1 w7 by rw[iR.out];exact hP).call (fun ag v1 h=>mr h vZ.out SZ);refine fl.mono ?_;rintro e w9 ⟨rfl,mA⟩;have gw:=mA.call (fun ag v1 h=>qf.out w9 ag v1 h);clear fl mA;go_wp2_with fail;refine gw.mono ?_;rintro e wE ⟨rfl,yd⟩;have hQ:=zH (show ap aa b w g R.leads wE from((yd.behind (w:=wr) (zb.drew)).next q1 q2 q3).fresh br);clear gw yd;go_wp2_with fail;exact am rfl rfl ⟨rfl,hQ.out⟩
end
end
structure Ok(K M:Nat)(R:Rf):Prop where
 id:1<=R.id/\R.id<=R.n/\R.n<=7
 tm:0<=R.hard.term/\R.hard.term<=1099511627776
 tr:R.track.Inv
 cm:0<=R.commit/\R.commit<=1099511627776
 dat:R.snap.data.length<=65536
 dat0:0<R.track.index->0<R.snap.data.length
 gat:R.gath.data.length<=65536
 trk:R.track.L.length<=K
 ws:R.waits.length<=16
 yl:R.yes.length<=K
 ck:0<=R.clock/\R.clock<=K/\0<=R.round/\R.round<=K
 ms:R.out.msgs.length<=M
 es:R.out.entries.length<=M
 cs:R.out.commits.length<=M
 rs:R.out.reads.length<=M
 ys:R.role=1\/R.role=2->R.yes≠[]
 ld:R.role=3->R.peers.length=R.n+1/\∀p∈R.peers,(0<=p.mat/\p.mat<=1099511627776)/\(1<=p.next/\p.next<=1099511627777)/\0<=p.offset/\p.offset<=R.snap.data.length
section
variable {K K' M M':Nat}{R:Rf}
theorem Ok.mono(h:Ok K M R)(hK:K<=K')(hM:M<=M'):Ok K' M' R where
 id:=h.id
 tm:=h.tm
 tr:=h.tr
 cm:=h.cm
 dat:=h.dat
 dat0:=h.dat0
 gat:=h.gat
 trk:=Nat.le_trans h.trk hK
 ws:=h.ws
 yl:=Nat.le_trans h.yl hK
 ck:=by have:=h.ck;omega
 ms:=Nat.le_trans h.ms hM
 es:=Nat.le_trans h.es hM
 cs:=Nat.le_trans h.cs hM
 rs:=Nat.le_trans h.rs hM
 ys:=h.ys
 ld:=h.ld
theorem Ok.peers(h:Ok K M R)(hr:R.role=3)(hK:K<=1000000):gr R:=by
 obtain⟨h1,h2⟩:=h.ld hr;have hp:∀s,s<=R.n->R.peer s∈R.peers:=fun s hs=>by
  unfold Rf.peer;rw[List.getElem?_eq_getElem (by omega)];exact List.getElem_mem _
 exact⟨h1,h.id.2.2,fun s hs=>by have:=(h2 _ (hp s hs)).2.1;omega,fun s hs=>(h2 _ (hp s hs)).2.2,h.dat,h.dat0,Nat.le_trans h.trk hK⟩
theorem Ok.outs(h:Ok K M R){o:Ot}(h1:o.msgs.length<=M)(h2:o.entries.length<=M)(h3:o.commits.length<=M)(h4:o.reads.length<=M):Ok K M {R with out:=o}:=
 {h with ms:=h1,es:=h2,cs:=h3,rs:=h4}
theorem Ok.send(h:Ok K M R)(m:Mg):Ok K (M+1) (R.send m):=by
 have h':=h.mono (Nat.le_refl K) (Nat.le_succ M);exact h'.outs (by simp;exact h.ms) h'.es h'.cs h'.rs
theorem Ok.lacks(h:Ok K M R)(s:Nat):Ok K (M+1) (R.lacks s):=by
 unfold Rf.lacks;split
 ·exact h.send _
 ·exact h.send _
theorem Ok.all(h:Ok K M R):Ok K (M+7) R.all:=by
 obtain⟨ms,e,hl⟩:=fA R.others R;have ho:=gY R;have h7:=h.id.2.2;have h':=h.mono (Nat.le_refl K) (Nat.le_add_right M 7);have e2:R.all={R with out:={R.out with msgs:=R.out.msgs++ms}}:=e;rw[e2];exact h'.outs (by have:=h.ms;simp;omega) h'.es h'.cs h'.rs
theorem nJ(t:bD)(i n:Int):(t.sliceF i n).length<=t.L.length:=by
 unfold bD.sliceF;split
 ·exact Nat.zero_le _
 ·rw[List.length_take,List.length_drop];omega
theorem Ok.save(h:Ok K M R)(l:List En):Ok K (M+l.length) (R.save l):=by
 have h':=h.mono (Nat.le_refl K) (Nat.le_add_right M l.length);exact h'.outs h'.ms (by have:=h.es;simp;omega) h'.cs h'.rs
theorem Ok.commits(h:Ok K M R){k:Int}(hk:k<=1099511627776):Ok K (M+K) (R.commits k):=by
 have h':=h.mono (Nat.le_refl K) (Nat.le_add_right M K);unfold Rf.commits;split
 ·have hc:=h.cm;have h2:Ok K (M+K) {R with commit:=k}:={h' with cm:=⟨by show 0<=k;omega,hk⟩};refine h2.outs h'.ms h'.es ?_ h'.rs;have:=nJ R.track (R.commit+1) (k-R.commit);have:=h.trk;have:=h.cs;simp;omega
 ·exact h'
theorem Ok.agrees(h:Ok K M R):Ok K (M+K) R.agrees:=by
 unfold Rf.agrees;split
 ·rename_i hc;have h1:=eR hc.2;have h2:=h.tr.room;exact h.commits (by omega)
 ·exact h.mono (Nat.le_refl K) (Nat.le_add_right M K)
theorem Ok.crown(h:Ok K M R)(hK:1<=K):Ok K M R.crown:=
 {h with
  ws:=Nat.zero_le _
  ck:=⟨Int.le_refl 0,Int.natCast_nonneg _,by show(0:Int)<=1;omega,by show(1:Int)<=K;omega⟩
  ys:=fun e=>by rcases e with e|e <;> cases e
  ld:=fun _=>by
   refine⟨by show(List.replicate _ _).length=_;rw[List.length_replicate];rfl,fun p hp=>?_⟩;have e:=List.eq_of_mem_replicate (show p∈List.replicate _ _ from hp);have h1:=h.tr.last;have h2:=h.tr.room;have h3:=h.tr.b;rw[e];exact⟨⟨Int.le_refl 0,by show(0:Int)<=_;omega⟩,⟨by show 1<=R.track.lastF.1+1;omega,by show R.track.lastF.1+1<=_;omega⟩,Int.le_refl 0,Int.natCast_nonneg _⟩}
theorem Ok.put(h:Ok K M R)(tm:Int)(x:En):Ok (K+1) M {R with track:=(R.track.putF tm x).2}:=by
 have h':=h.mono (Nat.le_succ K) (Nat.le_refl M);have hi:=g8 R.track tm x;exact {h' with
  tr:=h.tr.putF tm x
  trk:=by show(R.track.putF tm x).2.L.length<=_;have:=hi.2;have:=h.trk;omega
  dat0:=fun e=>h.dat0 (by have e:0<(R.track.putF tm x).2.index:=e;rw[hi.1]at e;exact e)}
theorem Ok.leads1(h:Ok K M R)(hK:1<=K):Ok (K+1) (M+1) R.leads1:=by
 have h1:=(h.crown hK).put R.crown.hard.term gc;unfold Rf.leads1;simp only;split
 ·exact h1.save [(R.crown.track.putF R.crown.hard.term gc).1.1]
 ·exact h1.mono zl (Nat.le_succ M)
theorem yY(R:Rf):R.leads1.role=3:=by
 unfold Rf.leads1;simp only;split <;> rfl
theorem Ok.leads(h:Ok K M R)(hK:1<=K):Ok (K+1) (M+K+20) R.leads:=
 ((h.leads1 hK).all.agrees).mono zl (by omega)
theorem Ok.says(h:Ok K M R)(s:Int):Ok (K+1) M (R.says s):=by
 have h':=h.mono (Nat.le_succ K) (Nat.le_refl M);exact {h' with
  yl:=by show(R.yes++[s]).length<=_;have:=h.yl;simp;exact this
  ys:=fun _=>by show R.yes++[s]≠[];simp}
end
def kr(id:Nat)(T:Int)(m:Mg):Mg:={m with frm:=id,term:=if m.term=0 then T else m.term}
theorem gj(f:Nat->Mg)(l:List Nat):∀R:Rf,l.foldl (fun R' (s:Nat)=>R'.send (f s)) R={R with out:={R.out with msgs:=R.out.msgs++l.map fun s=>kr R.id R.hard.term (f s)}}:=by
 induction l with
 | nil=>intro R;rw[List.map_nil,List.append_nil];rfl
 | cons s l ih=>
  intro R;have e:R.send (f s)={R with out:={R.out with msgs:=R.out.msgs++[kr R.id R.hard.term (f s)]}}:=rfl;rw[List.foldl_cons,ih,e];simp only[List.map_cons,List.append_assoc,List.singleton_append]
def gO(RB:Rf)(f:Nat->Mg)(k:Nat):Rf:={RB with out:={RB.out with msgs:=RB.out.msgs++(RB.others.take k).map fun s=>kr RB.id RB.hard.term (f s)}}
theorem sG(RB:Rf)(f:Nat->Mg):gO RB f 0=RB:=by
 unfold gO;rw[List.take_zero,List.map_nil,List.append_nil]
theorem sF{RB:Rf}{f:Nat->Mg}{k s:Nat}(hs:RB.others[k]?=some s):(gO RB f k).send (f s)=gO RB f (k+1):=by
 have e:(gO RB f k).send (f s)={RB with out:={RB.out with msgs:=(RB.out.msgs++(RB.others.take k).map fun s=>kr RB.id RB.hard.term (f s))++[kr RB.id RB.hard.term (f s)]}}:=rfl;rw[e];unfold gO;rw[List.take_add_one,hs,List.map_append,List.append_assoc];rfl
theorem mH(RB:Rf)(f:Nat->Mg)(k:Nat):(gO RB f k).out.msgs.length<=RB.out.msgs.length+k:=by
 unfold gO;simp;omega
def iI(R:Rf):Rf:={R with hard:=⟨R.hard.term+1,R.id⟩,role:=2,leader:=0,yes:=[(R.id:Int)],out:={R.out with save:=true}}
def qb(R:Rf):Rf:={R with role:=1,leader:=0,yes:=[(R.id:Int)]}
def fq(l1 l2:Int)(s:Nat):Mg:={dh with kind:=3,tgt:=(s:Int),idx:=l1,logTerm:=l2}
def jd(T l1 l2:Int)(s:Nat):Mg:={dh with kind:=1,tgt:=(s:Int),term:=T+1,idx:=l1,logTerm:=l2}
theorem jE(R:Rf):R.stands2.says R.id=
  {R with hard:=⟨R.hard.term+1,R.id⟩,role:=2,leader:=0,yes:=[(R.id:Int)],out:={R.out with save:=true,msgs:=R.out.msgs++R.others.map fun s=>kr R.id (R.hard.term+1) (fq R.track.lastF.1 R.track.lastF.2 s)}}:=by
 have h:=gj (fq R.track.lastF.1 R.track.lastF.2) R.stands1.others R.stands1;have h2:R.stands2=R.stands1.others.foldl (fun R' (s:Nat)=>R'.send (fq R.track.lastF.1 R.track.lastF.2 s)) R.stands1:=rfl;unfold Rf.says;rw[h2,h];rfl
theorem i8(R:Rf):R.asks2.says R.id=
  {R with role:=1,leader:=0,yes:=[(R.id:Int)],out:={R.out with msgs:=R.out.msgs++R.others.map fun s=>kr R.id R.hard.term (jd R.hard.term R.track.lastF.1 R.track.lastF.2 s)}}:=by
 have h:=gj (jd R.hard.term R.track.lastF.1 R.track.lastF.2) R.asks1.others R.asks1;have h2:R.asks2=R.asks1.others.foldl (fun R' (s:Nat)=>R'.send (jd R.hard.term R.track.lastF.1 R.track.lastF.2 s)) R.asks1:=rfl;unfold Rf.says;rw[h2,h];rfl
theorem Cn(R:Rf){l1 l2:Int}{k:Nat}(h1:R.track.lastF.1=l1)(h2:R.track.lastF.2=l2)(hk:R.others.length<=k):({(gO (iI R) (fq l1 l2) k).says R.id with yes:=[(R.id:Int)]}:Rf)=R.stands2.says R.id:=by
 rw[jE,h1,h2];unfold gO;rw[show(iI R).others=R.others from rfl,List.take_of_length_le hk];rfl
theorem Fx(R:Rf){l1 l2:Int}{k:Nat}(h1:R.track.lastF.1=l1)(h2:R.track.lastF.2=l2)(hk:R.others.length<=k):({(gO (qb R) (jd R.hard.term l1 l2) k).says R.id with yes:=[(R.id:Int)]}:Rf)=R.asks2.says R.id:=by
 rw[i8,h1,h2];unfold gO;rw[show(qb R).others=R.others from rfl,List.take_of_length_le hk];rfl
section
variable {K K' M M':Nat}{R:Rf}
theorem Ok.standing(h:Ok K M R)(ht:R.hard.term<1099511627776):Ok (K+1) (M+7) (R.stands2.says R.id):=by
 rw[jE];have h':=h.mono (Nat.le_succ K) (Nat.le_add_right M 7);have ho:=gY R;have h7:=h.id.2.2;have h0:=h.tm;exact {h' with
  tm:=⟨by show 0<=R.hard.term+1;omega,by show R.hard.term+1<=_;omega⟩
  yl:=by show 1<=K+1;omega
  ms:=by have:=h.ms;simp;omega
  ys:=fun _=>by simp
  ld:=fun e=>by cases e}
theorem Ok.stands(h:Ok K M R)(ht:R.hard.term<1099511627776):Ok (K+2) (M+K+30) R.stands:=by
 unfold Rf.stands;split
 ·exact((h.standing ht).leads (by omega)).mono (by omega) (by omega)
 ·exact(h.standing ht).mono (by omega) (by omega)
theorem Ok.asking(h:Ok K M R):Ok (K+1) (M+7) (R.asks2.says R.id):=by
 rw[i8];have h':=h.mono (Nat.le_succ K) (Nat.le_add_right M 7);have ho:=gY R;have h7:=h.id.2.2;exact {h' with
  yl:=by show 1<=K+1;omega
  ms:=by have:=h.ms;simp;omega
  ys:=fun _=>by simp
  ld:=fun e=>by cases e}
theorem Ok.asks(h:Ok K M R)(ht:R.hard.term<1099511627776):Ok (K+3) (M+K+40) R.asks:=by
 unfold Rf.asks;split
 ·exact(h.asking.stands (by rw[i8];exact ht)).mono (by omega) (by omega)
 ·exact h.asking.mono (by omega) (by omega)
end
section
open Go.MapKept
section
variable {aa:Nat->Nat}{b g:Nat}{w w':World}{R:Rf}{v:Rw}
theorem ax.yesAs(h:ax aa b w g R v){l:List Int}(hl:∀k,k∈R.yes↔k∈l)(fe:R.yes≠[]):ax aa b w g {R with yes:=l} v:=by
 refine⟨h.s,h.sl,h.t,h.p,h.q,?_,h.d,h.gd,h.e,h.c,h.n,h.r,h.m⟩;rcases h.y with⟨_,h0⟩|⟨bm,es,clock,h1,h2,h3,h4,h5,h6⟩
 ·exact absurd h0 fe
 ·exact .inr ⟨bm,es,clock,h1,h2,h3,h4,h5,fun k=>(hl k).symm.trans (h6 k)⟩
theorem ap.yesAs(h:ap aa b w g R w'){l:List Int}(hl:∀k,k∈R.yes↔k∈l)(fe:R.yes≠[]):ap aa b w g {R with yes:=l} w':=by
 obtain⟨ak,v',h1,h2,h3,h4⟩:=h;exact⟨ak,v',h1.yesAs hl fe,h2,h3,h4⟩
theorem yZ{K M:Nat}(h:ax aa b w g R v)(hk:Ok K M R)(hK:K<=100000)(hM:M<=70000) :
  Calls prog 105 #[.pointer (some ⟨g,0,none⟩)] w fun e w'=>e=.returned (.tuple #[])/\ap aa b w g R.leads w':=
 D8 h hk.id.2.2 (by have:=hk.trk;omega) (by have:=hk.ms;omega) (by have:=hk.es;omega) (by have:=hk.cs;omega) hk.cm.1 (by have:=hk.cm;omega) hk.dat hk.dat0
theorem sI{K M:Nat}(h:ax aa b w g R v)(hk:Ok K M R)(hK:K<=90000)(hM:M<=60000)(ht:R.hard.term<1099511627776) :
  Calls prog 99 #[.pointer (some ⟨g,0,none⟩)] w fun e w'=>e=.returned (.tuple #[])/\ap aa b w g R.stands w':=by
 have cW:=h.s.lt;obtain⟨c4,c6,-⟩:=h.s.cs [4,6];simp only[bV,vi,Zx]at c4 c6;obtain⟨k4,k6⟩:=pU [g] c4 c6;have c7':=h.s.cell 7;have c22':=h.s.cell 22;obtain⟨f6,f7,f22,-⟩:=h.s.fs [6,7,22];simp only[bV,vi,Zx]at c7' c22';obtain⟨w1,ct⟩:=zN ((((w.setCell ⟨g,6,none⟩ (.int .i64 (R.hard.term+1))).setCell ⟨g,7,none⟩ (.int .i64 R.id)).setCell ⟨g,22,none⟩ (.bool true)).drew);have ir:Fr (fun j=>j=g) w w1:=by rw[<-ct];exact(((Fr.set g 6 _).trans (Fr.set g 7 _) fun _ h=>.inl h).trans (Fr.set g 22 _) fun _ h=>.inl h).trans (Fr.of_below (X:=fun j=>j=g) (zb.drew)) fun _ h=>.inl h
 have xh:ao w1 g 107 (bV {R with hard:=⟨R.hard.term+1,R.id⟩,out:={R.out with save:=true}} v):=by
  rw[<-ct];have s:=((h.s.set_ 6 (.int .i64 (R.hard.term+1))).set_ 7 (.int .i64 R.id)).set_ 22 (.bool true);simp only[bV,Zy]at s;exact s
 have h1:=h.nums (R':={R with hard:=⟨R.hard.term+1,R.id⟩,out:={R.out with save:=true}}) xh ir rfl rfl rfl rfl rfl rfl rfl rfl rfl rfl rfl;have jb:=hk.id;have qG:=hk.tm;have rr:Calls prog 96 #[.pointer (some ⟨g,0,none⟩),.int .i64 2] w1 fun e w'=>e=.returned (.tuple #[])/\ap aa b w1 g (iI R) w':=tX 2 h1 (by show R.id<=1000;omega)
 have Me:Fr (aS aa b) w w1:=ir.mono fun j e=>by rw[e];exact⟨by have:=h.sl;omega,by have:=h.sl;omega⟩
 replace Me:=zH Me;have cR:=hk.standing ht;obtain⟨RS,Fc⟩:=zN (R.stands2.says R.id);have wl:R.stands=if RS.won then RS.leads else RS:=by unfold Rf.stands;rw[Fc]
 rw[Fc]at cR;replace wl:=zH wl;replace Fc:=zH Fc;replace cR:=zH cR;clear h xh ir h1;have uu:=gY R;have hN:R.track.L.length<=1000000:=by have:=hk.trk;omega
 have xq:=hk.ms;obtain⟨l,hl⟩:=zN (R.others);have JO:(iI R).others=l:=hl;obtain⟨n,rC⟩:=zN (l.length);rw[hl,rC]at uu;replace hl:=zH hl;replace rC:=zH rC;replace hk:=zH hk;go_enter func99,ntmps99;go_wp2_with fail;refine nj [g] w [] ([0,1,2,3,4,5,6,7,8,9,10,11,12,13],14) ?_;refine aC ?_;simp only[ah,Zx];repeat go_big_quiet_step(fail)
 apply wpQuiet_nil;go_wp2_with fail;try rw[ct]
 refine rr.mono ?_;rintro e w2 ⟨rfl,bs,v2,h2,p1,p2,p3⟩;clear rr ct c4 c6 k4 k6 c7' c22' f6 f7 f22;have d8:=h2.s.cell 8;simp only[bV,vi,Zx]at d8;have bH:=i7 h2.t hN;obtain⟨l1,cD⟩:∃l,R.track.lastF.1=l:=⟨_,rfl⟩;obtain⟨l2,dG⟩:∃l,R.track.lastF.2=l:=⟨_,rfl⟩;rw[show(iI R).track=R.track from rfl,cD,dG]at bH;replace cD:=zH cD;replace dG:=zH dG;go_wp2_with fail;refine bH.mono ?_;rintro e w3 ⟨rfl,bN⟩;have h3:=h2.fresh bN;have rE:=nH h3 jb.2.2;rw[JO,rC.out]at rE;clear bH h2;go_wp2_with fail;refine rE.mono ?_;rintro e w4 ⟨A,c,rfl,aB,cO⟩;have Uc:=cO.size;have h4:=h3.fresh cO;obtain⟨V2,QY⟩:=zN (aj (aj bs w2.heap.size b) w3.heap.size b);clear rE h3;go_wp2_with fail
 go_loopw [37] (fun i wr=>∃k:Nat,k<=n/\i=.int .i64 k/\ap (aj (aj bs w2.heap.size b) w3.heap.size b) b w4 g (gO (iI R) (fq l1 l2) k) wr) (fun i _=>n-(intOf i).toNat)
 case atStart=>exact⟨0,Nat.zero_le _,rfl,by rw[sG];exact⟨_,_,h4,fun _ _ _=>rfl,fun _ _ h=>h,Fr.refl _ _⟩⟩
 case round=>
  obtain⟨k,hk,rfl,hQ⟩:=hrel;by_cases aU:k<n
  ·obtain⟨q,x,rfl,nB,jM,hx,c0⟩:=wL aB aU;obtain⟨s,hs,rfl⟩:∃s:Nat,l[k]?=some s/\(s:Int)=x:=by
    unfold yT at hx;rw[List.getElem?_map]at hx;cases kH:l[k]? with
    | none=>rw[kH]at hx;cases hx
    | some s=>rw[kH]at hx;exact⟨s,rfl,Option.some.inj hx⟩
   have c1:=(World.cell?_of_block (a:=⟨q,k,none⟩) (hQ.new nB jM)).trans c0;have cu:=sF (RB:=iI R) (f:=fq l1 l2) (k:=k) (s:=s) (by rw[JO];exact hs);have af:=mH (iI R) (fq l1 l2) k;have aH:=hQ.call (fun bs v2 h2=>gi (fq l1 l2 s) rfl rfl h2 (by have:(iI R).out.msgs.length=R.out.msgs.length:=rfl;omega));rw[cu]at aH;unfold eI at aH;simp only[vi,fq,dh]at aH;have aO:=zH (show n-(k+1)<n-k by omega);clear hQ cu af hx hs aB;go_wp2_with fail;refine aH.mono ?_;rintro e w5 ⟨rfl,hQ⟩;clear aH;go_wp2_with fail;exact⟨⟨k+1,aU,by go_num,hQ⟩,by simp[intOf];exact aO.out⟩
  ·obtain rfl:n=k:=by omega
   have CJ:=mH (iI R) (fq l1 l2) n;have om:=hQ.call (fun ag v1 h=>sD (R.id:Int) h (by omega) (by omega) (by show[(R.id:Int)]≠[];simp) (by show[(R.id:Int)].length<=_;simp));obtain⟨dU,v5,h5,_⟩:=id hQ;have d4:=h5.s.cell 4;simp only[bV,vi,Zx]at d4;have d4':wr.cell? ⟨g,4,none⟩=some (.int .i64 R.id):=d4;have aE:=Cn R (k:=n) cD.out dG.out (by rw[hl.out,rC.out];exact Nat.le_refl _);rw[Fc.out]at aE;have hw:((gO (iI R) (fq l1 l2) n).says R.id).won=RS.won:=by
    rw[<-aE];exact mK fun s=>by show s∈[(R.id:Int)]++[(R.id:Int)]↔s∈[(R.id:Int)];simp
   rw[hw]at om;have gB:∀w9,ap (aj (aj bs w2.heap.size b) w3.heap.size b) b w4 g ((gO (iI R) (fq l1 l2) n).says R.id) w9->ap (aj (aj bs w2.heap.size b) w3.heap.size b) b w4 g RS w9:=fun w9 hP=>by
    rw[<-aE];exact hP.yesAs (fun s=>by show s∈[(R.id:Int)]++[(R.id:Int)]↔s∈[(R.id:Int)];simp) (by show[(R.id:Int)]++[(R.id:Int)]≠[];simp)
   replace gB:=zH gB;clear hQ hw aE h5 d4 aB;have bH:∀wE,ap (aj (aj bs w2.heap.size b) w3.heap.size b) b w4 g R.stands wE->ap aa b w g R.stands wE:=fun wE hP=>((((hP.fresh cO).fresh bN).next p1 p2 p3).next (fun _ _ _=>rfl) (fun _ _ h=>h) Me.out)
   replace bH:=zH bH;obtain⟨x,hx⟩:=zN (RS.won);rw[hx]at om;have aD:=zH (show R.stands=if x=true then RS.leads else RS by rw[wl.out,hx]);clear hx;go_wp2_with fail;refine om.mono ?_;rintro e w5 ⟨rfl,hP⟩;have nv:=gB.out _ hP;clear om hP;cases x
   ·have hQ:=zH (show ap aa b w g R.stands w5 from bH.out _ (by rw[aD.out];exact nv));clear nv;go_wp2_with fail;exact am rfl rfl ⟨rfl,hQ.out⟩
   ·have aH:=nv.call (fun ag v1 h=>yZ h cR.out (by omega) (by omega));clear nv;go_wp2_with fail;refine aH.mono ?_;rintro e w6 ⟨rfl,vG⟩;have hQ:=zH (show ap aa b w g R.stands w6 from bH.out _ (by rw[aD.out];exact vG));clear aH vG;go_wp2_with fail;exact am rfl rfl ⟨rfl,hQ.out⟩
end
end
section
open Go.MapKept
section
variable {aa:Nat->Nat}{b g:Nat}{w w':World}{R:Rf}{v:Rw}
theorem Fz{K M:Nat}(h:ax aa b w g R v)(hk:Ok K M R)(hK:K<=80000)(hM:M<=50000)(ht:R.hard.term<1099511627776) :
  Calls prog 51 #[.pointer (some ⟨g,0,none⟩)] w fun e w'=>e=.returned (.tuple #[])/\ap aa b w g R.asks w':=by
 have cW:=h.s.lt;have c6:=h.s.cell 6;simp only[bV,vi,Zx]at c6;have jb:=hk.id;have qG:=hk.tm;have rr:Calls prog 96 #[.pointer (some ⟨g,0,none⟩),.int .i64 1] w fun e w'=>e=.returned (.tuple #[])/\ap aa b w g (qb R) w':=tX 1 h (by omega)
 have cR:=hk.asking;obtain⟨RS,Fc⟩:=zN (R.asks2.says R.id);have Gd:R.asks=if RS.won then RS.stands else RS:=by unfold Rf.asks;rw[Fc]
 have T0:RS.hard.term<1099511627776:=by rw[<-Fc,i8];exact ht
 replace T0:=zH T0;rw[Fc]at cR;replace Gd:=zH Gd;replace Fc:=zH Fc;replace cR:=zH cR;clear h;have uu:=gY R;have hN:R.track.L.length<=1000000:=by have:=hk.trk;omega
 have xq:=hk.ms;obtain⟨l,hl⟩:=zN (R.others);have JO:(qb R).others=l:=hl;obtain⟨n,rC⟩:=zN (l.length);rw[hl,rC]at uu;replace hl:=zH hl;replace rC:=zH rC;replace hk:=zH hk;go_enter func51,ntmps51;go_wp2_with fail;refine rr.mono ?_;rintro e w2 ⟨rfl,bs,v2,h2,p1,p2,p3⟩;clear rr c6;have d8:=h2.s.cell 8;simp only[bV,vi,Zx]at d8;have bH:=i7 h2.t hN;obtain⟨l1,cD⟩:∃l,R.track.lastF.1=l:=⟨_,rfl⟩;obtain⟨l2,dG⟩:∃l,R.track.lastF.2=l:=⟨_,rfl⟩;rw[show(qb R).track=R.track from rfl,cD,dG]at bH;replace cD:=zH cD;replace dG:=zH dG;go_wp2_with fail;refine bH.mono ?_;rintro e w3 ⟨rfl,bN⟩;have h3:=h2.fresh bN;have rE:=nH h3 jb.2.2;rw[JO,rC.out]at rE;clear bH h2;go_wp2_with fail;refine rE.mono ?_;rintro e w4 ⟨A,c,rfl,aB,cO⟩;have Uc:=cO.size;have h4:=h3.fresh cO;obtain⟨V2,QY⟩:=zN (aj (aj bs w2.heap.size b) w3.heap.size b);clear rE h3;go_wp2_with fail
 go_loopw [25] (fun i wr=>∃k:Nat,k<=n/\i=.int .i64 k/\ap (aj (aj bs w2.heap.size b) w3.heap.size b) b w4 g (gO (qb R) (jd R.hard.term l1 l2) k) wr) (fun i _=>n-(intOf i).toNat)
 case atStart=>exact⟨0,Nat.zero_le _,rfl,by rw[sG];exact⟨_,_,h4,fun _ _ _=>rfl,fun _ _ h=>h,Fr.refl _ _⟩⟩
 case round=>
  obtain⟨k,hk,rfl,hQ⟩:=hrel;by_cases aU:k<n
  ·obtain⟨q,x,rfl,nB,jM,hx,c0⟩:=wL aB aU;obtain⟨s,hs,rfl⟩:∃s:Nat,l[k]?=some s/\(s:Int)=x:=by
    unfold yT at hx;rw[List.getElem?_map]at hx;cases kH:l[k]? with
    | none=>rw[kH]at hx;cases hx
    | some s=>rw[kH]at hx;exact⟨s,rfl,Option.some.inj hx⟩
   obtain⟨dU,v5,h5,_⟩:=id hQ;have d6:=h5.s.cell 6;simp only[bV,vi,Zx]at d6;have d6':wr.cell? ⟨g,6,none⟩=some (.int .i64 R.hard.term):=d6;have c1:=(World.cell?_of_block (a:=⟨q,k,none⟩) (hQ.new nB jM)).trans c0;have cu:=sF (RB:=qb R) (f:=jd R.hard.term l1 l2) (k:=k) (s:=s) (by rw[JO];exact hs);have af:=mH (qb R) (jd R.hard.term l1 l2) k;have aH:=hQ.call (fun bs v2 h2=>gi (jd R.hard.term l1 l2 s) rfl rfl h2 (by have:(qb R).out.msgs.length=R.out.msgs.length:=rfl;omega));rw[cu]at aH;unfold eI at aH;simp only[vi,jd,dh]at aH;have aO:=zH (show n-(k+1)<n-k by omega);clear hQ cu af hx hs aB h5 d6;go_wp2_with fail;refine aH.mono ?_;rintro e w5 ⟨rfl,hQ⟩;clear aH;go_wp2_with fail;exact⟨⟨k+1,aU,by go_num,hQ⟩,by simp[intOf];exact aO.out⟩
  ·obtain rfl:n=k:=by omega
   have CJ:=mH (qb R) (jd R.hard.term l1 l2) n;have om:=hQ.call (fun ag v1 h=>sD (R.id:Int) h (by omega) (by omega) (by show[(R.id:Int)]≠[];simp) (by show[(R.id:Int)].length<=_;simp));obtain⟨dU,v5,h5,_⟩:=id hQ;have d4:=h5.s.cell 4;simp only[bV,vi,Zx]at d4;have d4':wr.cell? ⟨g,4,none⟩=some (.int .i64 R.id):=d4;have aE:=Fx R (k:=n) cD.out dG.out (by rw[hl.out,rC.out];exact Nat.le_refl _);rw[Fc.out]at aE;have hw:((gO (qb R) (jd R.hard.term l1 l2) n).says R.id).won=RS.won:=by
    rw[<-aE];exact mK fun s=>by show s∈[(R.id:Int)]++[(R.id:Int)]↔s∈[(R.id:Int)];simp
   rw[hw]at om;have gB:∀w9,ap (aj (aj bs w2.heap.size b) w3.heap.size b) b w4 g ((gO (qb R) (jd R.hard.term l1 l2) n).says R.id) w9->ap (aj (aj bs w2.heap.size b) w3.heap.size b) b w4 g RS w9:=fun w9 hP=>by
    rw[<-aE];exact hP.yesAs (fun s=>by show s∈[(R.id:Int)]++[(R.id:Int)]↔s∈[(R.id:Int)];simp) (by show[(R.id:Int)]++[(R.id:Int)]≠[];simp)
   replace gB:=zH gB;clear hQ hw aE h5 d4 aB;have bH:∀wE,ap (aj (aj bs w2.heap.size b) w3.heap.size b) b w4 g R.asks wE->ap aa b w g R.asks wE:=fun wE hP=>((((hP.fresh cO).fresh bN).next p1 p2 p3))
   replace bH:=zH bH;obtain⟨x,hx⟩:=zN (RS.won);rw[hx]at om;have aD:=zH (show R.asks=if x=true then RS.stands else RS by rw[Gd.out,hx]);clear hx;go_wp2_with fail;refine om.mono ?_;rintro e w5 ⟨rfl,hP⟩;have nv:=gB.out _ hP;clear om hP;cases x
   ·have hQ:=zH (show ap aa b w g R.asks w5 from bH.out _ (by rw[aD.out];exact nv));clear nv;go_wp2_with fail;exact am rfl rfl ⟨rfl,hQ.out⟩
   ·have aH:=nv.call (fun ag v1 h=>sI h cR.out (by omega) (by omega) T0.out);clear nv;go_wp2_with fail;refine aH.mono ?_;rintro e w6 ⟨rfl,vG⟩;have hQ:=zH (show ap aa b w g R.asks w6 from bH.out _ (by rw[aD.out];exact vG));clear aH vG;go_wp2_with fail;exact am rfl rfl ⟨rfl,hQ.out⟩
end
end
section
open Go.MapKept
structure Ox where
 ea:Option Addr
 ec:Nat
 ca:Option Addr
 cc:Nat
 sp:Option Addr
 ra:Option Addr
 rc:Nat
 ma:Option Addr
 mc:Nat
def pX:Ox:=⟨none,0,none,0,none,none,0,none,0⟩
def be(O:Ot)(X:Ox):Array Value:=#[.bool O.save,.bool O.reset,.int .i64 O.hard.term,.int .i64 O.hard.vote,.slice X.ea O.entries.length X.ec,.slice X.ca O.commits.length X.cc,.pointer X.sp,.slice X.ra O.reads.length X.rc,.slice X.ma O.msgs.length X.mc]
def gq(aa:Nat->Nat)(i:Nat)(w:World)(O:Ot)(X:Ox):Prop:=IU aa i w O (.slice X.ea O.entries.length X.ec) (.slice X.ca O.commits.length X.cc) (.pointer X.sp) (.slice X.ra O.reads.length X.rc) (.slice X.ma O.msgs.length X.mc)
theorem gq.keep{aa:Nat->Nat}{i:Nat}{w w':World}{O:Ot}{X:Ox}(h:gq aa i w O X)(hk:∀j,aa j=i->j<w.heap.size->w'.heap[j]?=w.heap[j]?):gq aa i w' O X:=
 ⟨h.e.keep hk hk,h.c.keep hk hk,h.s.keep hk,h.r.keep hk,h.m.keep hk hk⟩
theorem gq.zero(aa:Nat->Nat)(i:Nat)(w:World):gq aa i w gk pX:=⟨dQ.nil _ _ _ _,dQ.nil _ _ _ _,rfl,bR.nil _ _ _ _ _,gI.nil _ _ _ _⟩
def cE(w:World)(q:Nat)(O:Ot)(X:Ox):World:=
 ((((((((w.setCell ⟨q,0,none⟩ (.bool O.save)).setCell ⟨q,1,none⟩ (.bool O.reset)).setCell ⟨q,2,none⟩ (.int .i64 O.hard.term)).setCell ⟨q,3,none⟩ (.int .i64 O.hard.vote)).setCell ⟨q,4,none⟩ (.slice X.ea O.entries.length X.ec)).setCell ⟨q,5,none⟩ (.slice X.ca O.commits.length X.cc)).setCell ⟨q,6,none⟩ (.pointer X.sp)).setCell ⟨q,7,none⟩ (.slice X.ra O.reads.length X.rc)).setCell ⟨q,8,none⟩ (.slice X.ma O.msgs.length X.mc)
theorem kS(w:World)(q:Nat)(O:Ot)(X:Ox):Fr (fun j=>j=q) w (cE w q O X):=
 have e:∀{a b:World},Fr (fun j=>j=q) w a->Fr (fun j=>j=q) a b->Fr (fun j=>j=q) w b:=fun h h'=>h.trans h' fun _ h=>.inl h
 e (e (e (e (e (e (e (e (Fr.set q _ _) (Fr.set q _ _)) (Fr.set q _ _)) (Fr.set q _ _)) (Fr.set q _ _)) (Fr.set q _ _)) (Fr.set q _ _)) (Fr.set q _ _)) (Fr.set q _ _)
def bL:Array Value:=#[.bool false,.bool false,.int .i64 0,.int .i64 0,.slice none 0 0,.slice none 0 0,.pointer none,.slice none 0 0,.slice none 0 0]
theorem oF{w:World}{q:Nat}{T:TypeId}(O:Ot)(X:Ox)(h:ao w q T bL):ao (cE w q O X) q T (be O X):=by
 have s:=((((((((h.set_ 0 (.bool O.save)).set_ 1 (.bool O.reset)).set_ 2 (.int .i64 O.hard.term)).set_ 3 (.int .i64 O.hard.vote)).set_ 4 (.slice X.ea O.entries.length X.ec)).set_ 5 (.slice X.ca O.commits.length X.cc)).set_ 6 (.pointer X.sp)).set_ 7 (.slice X.ra O.reads.length X.rc)).set_ 8 (.slice X.ma O.msgs.length X.mc);simp only[bL,Zy]at s;exact s
def dI(aa:Nat->Nat)(b i:Nat)(w:World)(g:Nat)(O:Ot)(R':Rf)(X:Ox)(w':World):Prop:=
 ∃(ak:Nat->Nat) (v':Rw),ax ak b w' g R' v'/\gq ak i w' O X/\(∀j,j<w.heap.size->¬bw aa b j->ak j=aa j)/\(∀j,j<w.heap.size->bw aa b j->bw ak b j\/ak j=i)/\Fr (aS aa b) w w'
section
variable {aa ag:Nat->Nat}{b g i q:Nat}{w w' w1 w2:World}{R R' R1:Rf}{v:Rw}{O:Ot}{X:Ox}{cs:Array Value}
theorem gX(h1:∀j,j<w.heap.size->¬aS aa b j->ag j=aa j){j:Nat}(hj:j<w.heap.size)(hm:aS ag b j):aS aa b j:=by
 rcases Classical.em (aS aa b j)with h|h
 ·exact h
 ·unfold aS at hm h;rw[h1 j hj h]at hm;exact absurd hm h
theorem dI.next(h:dI ag b i w1 g O R' X w2)(h1:∀j,j<w.heap.size->¬aS aa b j->ag j=aa j)(h2:∀j,j<w.heap.size->aS aa b j->aS ag b j)(hF:Fr (aS aa b) w w1):dI aa b i w g O R' X w2:=by
 obtain⟨ak,v',q1,q2,q3,q4,q5⟩:=h;have hs:=hF.size;have hx:∀j,j<w.heap.size->¬aS aa b j->ag j=aa j:=h1;refine⟨ak,v',q1,q2,fun j hj hm=>?_,fun j hj hm=>q4 j (by omega) ?_,hF.trans q5 fun j hj=>?_⟩
 ·have e:=h1 j hj fun h=>hm ⟨h.1,by have:=h.2;omega⟩
  rw[q3 j (by omega) fun h=>hm (by unfold bw at h ⊢;rw[e]at h;exact h)];exact e
 ·rcases Classical.em (aS aa b j)with h|h
  ·have:=h2 j hj h;exact⟨this.1,by have:=this.2;omega⟩
  ·unfold bw at hm ⊢;rw[hx j hj h];exact hm
 ·rcases Nat.lt_or_ge j w.heap.size with hl|hl
  ·exact .inl (gX h1 hl hj)
  ·exact .inr hl
theorem Im(i:Nat)(h:ax aa b w g R v) :
  Calls prog 52 #[.pointer (some ⟨g,0,none⟩)] w fun e w'=>∃X,e=.returned (.agg (be R.tell.1 X))/\dI aa b i w g R.tell.1 R.tell.2 X w':=by
 refine(zY i h).mono ?_;rintro e w' ⟨rfl,h1,h2,h3⟩;obtain⟨_,⟨A1,d1,E7,_⟩,_⟩:=id h2.e;obtain⟨_,⟨A2,d2,E8,_⟩,_⟩:=id h2.c;obtain⟨A3,Ja⟩:∃p,v.snp=.pointer p:=by
  have hn:=h2.s;cases hx:R.tell.1.snap with
  | none=>rw[hx]at hn;exact⟨_,hn⟩
  | some s=>rw[hx]at hn;obtain⟨q,vd,e,_⟩:=hn;exact⟨_,e⟩
 obtain⟨A4,d4,Jb,_⟩:=id h2.r;obtain⟨_,⟨A5,d5,Jc,_⟩,_⟩:=id h2.m;rw[E7,E8,Ja,Jb,Jc]at h2;refine⟨⟨A1,d1,A2,d2,A3,A4,d4,A5,d5⟩,?_,_,_,h1,h2,fun j hj hm=>?_,fun j hj hm=>?_,h3⟩
 ·rw[E7,E8,Ja,Jb,Jc];rfl
 ·unfold dg;rw[if_neg];unfold bw at hm;omega
 ·by_cases hc:aa j=b+8\/aa j=b+9\/aa j=b+11\/aa j=b+12\/aa j=b+13
  ·exact .inr (if_pos hc)
  ·refine .inl ?_;have e:dg aa b i j=aa j:=if_neg hc;unfold bw at hm ⊢;rw[e];exact hm
theorem ap.take(i:Nat)(h:ap aa b w g R1 w1) :
  Calls prog 52 #[.pointer (some ⟨g,0,none⟩)] w1 fun e w'=>∃X,e=.returned (.agg (be R1.tell.1 X))/\dI aa b i w g R1.tell.1 R1.tell.2 X w':=by
 obtain⟨ag,v1,h1,q1,q2,q3⟩:=h;refine(Im i h1).mono ?_;rintro e w' ⟨X,rfl,hT⟩;exact⟨X,rfl,hT.next q1 q2 q3⟩
theorem dI.kept(h:dI (aj aa w.heap.size b) b i w1 g O R' X w2)(hq:w.heap.size<=q)(hk:ao w1 q 49 cs):ao w2 q 49 cs:=by
 obtain⟨ak,v',q1,q2,q3,q4,q5⟩:=h;refine(q5.block q hk.lt fun hm=>?_).trans hk;unfold aS at hm;rw[az hq]at hm;omega
theorem dI.put9(h:dI (aj aa w.heap.size b) b i w1 g O R' X w2)(hb:Below w.heap.size w w1)(hq:w.heap.size<=q)(hk:ao w1 q 49 bL)(lS:i≠b) :
  ao (cE w2 q O X) q 49 (be O X)/\dI aa b i w g O R' X (cE w2 q O X):=by
 have eY:=h.kept hq hk;obtain⟨ak,v',q1,q2,q3,q4,q5⟩:=h;have hF:=kS w2 q O X;have hs:=hb.size;have hn:¬bw (aj aa w.heap.size b) b q:=fun hm=>by
  unfold bw at hm;rw[az hq]at hm;omega
 have na:ak q=b:=(q3 q hk.lt hn).trans (az hq);have Na:∀j,j<w.heap.size->(aS (aj aa w.heap.size b) b j↔aS aa b j):=fun j hj=>by
  unfold aS;rw[ac hj]
 have hm:∀j,j<w.heap.size->(bw (aj aa w.heap.size b) b j↔bw aa b j):=fun j hj=>by
  unfold bw;rw[ac hj]
 refine⟨oF O X eY,ak,v',q1.keep fun j hj hl=>hF.block j hl fun e=>?_,q2.keep fun j hj hl=>hF.block j hl fun e=>lS ?_,fun j hj hx=>?_,fun j hj hx=>q4 j (by omega) ((hm j hj).2 hx),?_⟩
 ·unfold bw at hj;rw[e,na]at hj;omega
 ·rw[<-hj,e];exact na
 ·rw[q3 j (by omega) fun h=>hx ((hm j hj).1 h)];exact ac hj
 ·refine((Fr.of_below (X:=aS aa b) hb).trans q5 fun j hj=>?_).trans hF fun j e=>.inr (by omega)
  rcases Nat.lt_or_ge j w.heap.size with hl|hl
  ·exact .inl ((Na j hl).1 hj)
  ·exact .inr hl
end
end
end Go.Proofs.YtjcninheccmpoaaGreat
