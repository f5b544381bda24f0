import Derived.Test.YtjcninheccmpoaaGreatV11
import Derived.Deep.MidRow
import Derived.ProofKit
import Derived.OpenShut
import Derived.Deep.Slices
import Derived.Deep.Fields
import Derived.ChangeSame
import Derived.ChangeSlices
import Derived.SliceStrings
import Derived.Deep.LoopGhost
set_option maxRecDepth 100000
set_option maxHeartbeats 8000000
set_option linter.all false
namespace Go.Proofs.YtjcninheccmpoaaGreat
open Go.RowKit Go.Proofs.Tryz
def iN(n:Int)(m:Nat):Nat:=((if n<0 then -(n+1)else n)%(m:Int)).toNat
theorem HZ(n:Int){m:Nat}(h:0<m):iN n m<m:=by
 unfold iN;have h1:=Int.emod_lt_of_pos (if n<0 then -(n+1)else n) (b:=(m:Int)) (by omega);have h2:=Int.emod_nonneg (if n<0 then -(n+1)else n) (b:=(m:Int)) (by omega);omega
theorem HY(n:Int){m:Nat}(h:0<m):(if n<0 then -(n+1)else n).tmod m=(iN n m:Nat):=by
 have h2:=Int.emod_nonneg (if n<0 then -(n+1)else n) (b:=(m:Int)) (by omega);unfold iN;rw[Int.toNat_of_nonneg h2];exact Int.tmod_eq_emod_of_nonneg (by split <;> omega)
theorem Ey(n:Int)(m:Nat)(w:World)(h1:-9223372036854775808<=n)(h2:n<=9223372036854775807)(hm:0<m)(tG:m<=1000000000) :
  Calls prog 16 #[.int .i64 n,.int .i64 m] w fun e w'=>e=.returned (.int .i64 (iN n m:Nat))/\w=w':=by
 have He:=HY n hm;have h0:((m:Int)==0)=false:=beq_eq_false_iff_ne.2 (by omega);by_cases h:n<0
 ·have hd:decide (n<0)=true:=decide_eq_true h;rw[if_pos h,Int.neg_tmod]at He;have He:=zH He;go_enter func16,ntmps16;go_wp2_with fail;go_ret;refine⟨?_,rfl⟩;rw[<-He.out];rfl
 ·have hd:decide (n<0)=false:=decide_eq_false h;rw[if_neg h,Int.tmod_eq_emod_of_nonneg (by omega)]at He;have He:=zH He;go_enter func16,ntmps16;go_wp2_with fail;go_ret;refine⟨?_,rfl⟩;rw[<-He.out];rfl
theorem uW{A B:Option Addr}{n c d:Nat}{l:List UInt8}{w:World}(h1:Rd w A n l)(h2:Rd w B n l)(hn:n<=maxLen) :
  Calls prog 125 #[.slice A n c,.slice B n d] w fun e w'=>e=.returned (.bool true)/\∃q,w'=w.drewN q:=by
 unfold maxLen at hn;go_enter func125,ntmps125;go_wp2_with fail
 go_loopw [5] (fun i wr=>∃k q:Nat,k<=n/\i=.int .i64 k/\wr=w.drewN q) (fun i _=>n-(intOf i).toNat)
 case atStart=>exact⟨0,0,Nat.zero_le _,rfl,rfl⟩
 case round=>
  obtain⟨k,q,hk,rfl,rfl⟩:=hrel;by_cases aU:k<n
  ·obtain⟨ad,rfl,c1⟩:=h1.at_ aU;obtain⟨ad2,rfl,c2⟩:=h2.at_ aU;generalize l[k]?.getD 0=b at *;go_wp2_with fail
   go_quiet (fail)
   go_wp2_with fail;exact⟨⟨k+1,_,aU,by go_num,rfl⟩,by simp[intOf];omega⟩
  ·go_wp2_with fail;go_ret;exact⟨rfl,q,rfl⟩
theorem pD(w:World)(q:Nat):Below w.heap.size w (w.drewN q):=ay zb q
theorem wV(i t:Int){A B:Option Addr}{n c d:Nat}{l:List UInt8}{w:World}(h1:Rd w A n l)(h2:Rd w B n l)(hn:n<=maxLen) :
  Calls prog 71 #[.agg #[.int .i64 i,.int .i64 t,.slice A n c],.agg #[.int .i64 i,.int .i64 t,.slice B n d]] w fun e w'=>e=.returned (.bool true)/\Below w.heap.size w w':=by
 have br:Below w.heap.size w (w.alloc (.cells #[.int .i64 i,.int .i64 t,.slice A n c] 26)):=zb.alloc zl _;have cA:=ao.new w 26 #[.int .i64 i,.int .i64 t,.slice A n c];obtain⟨w1,ct⟩:=zN (w.alloc (.cells #[.int .i64 i,.int .i64 t,.slice A n c] 26));rw[ct]at br cA;have bQ:Below w1.heap.size w1 (w1.alloc (.cells #[.int .i64 i,.int .i64 t,.slice B n d] 26)):=zb.alloc zl _;have eY:=ao.new w1 26 #[.int .i64 i,.int .i64 t,.slice B n d];have BE:=cA.kept bQ;have fU:w1.heap.size=w.heap.size+1:=by rw[<-ct];simp
 rw[fU]at eY;have ef:=ab br bQ zl;have OL:=uW (c:=c) (d:=d) (cn.below h1 ef) (cn.below h2 ef) hn;obtain⟨w2,cZ⟩:=zN ((w.alloc (.cells #[.int .i64 i,.int .i64 t,.slice A n c] 26)).alloc (.cells #[.int .i64 i,.int .i64 t,.slice B n d] 26));rw[<-ct,cZ]at BE eY ef OL;obtain⟨y0,y1,y2,-⟩:=BE.cs [0,1,2];simp only[Zx]at y0 y1 y2;obtain⟨z0,z1,z2,-⟩:=eY.cs [0,1,2];simp only[Zx]at z0 z1 z2;replace cZ:=zH cZ;clear ct br bQ cA fU h1 h2;go_enter func71,ntmps71;go_wp2_with fail;rw[cZ.out];try go_wp2_with fail
 refine OL.mono ?_;rintro e w3 ⟨rfl,q,hq⟩;have k0:=BE.drewN q;have k1:=eY.drewN q;have aE:=zH (ab ef (pD w2 q) zl);rw[<-hq]at k0 k1 aE;obtain⟨u0,u1,u2,-⟩:=k0.cs [0,1,2];simp only[Zx]at u0 u1 u2;obtain⟨v0,v1,v2,-⟩:=k1.cs [0,1,2];simp only[Zx]at v0 v1 v2;clear OL BE eY k0 k1 y0 y1 y2 z0 z1 z2 hq;go_wp2_with fail;go_ret;exact⟨by simp,aE.out⟩
theorem RdM.at_{w:World}{A:Option Addr}{n k:Nat}{zs:List ((Value×Value)×Mg)}(h:cn w 13 A n (zs.flatMap zj))(hk:k<n) :
  ∃ad ve vd x,A=some ad/\zs[k]?=some ((ve,vd),x)/\w.cell? (ad.add (k*13))=some (vi x.kind)/\w.cell? ⟨(ad.add (k*13)).block,(ad.add (k*13)).off+1,none⟩=some (vi x.frm)/\w.cell? ⟨(ad.add (k*13)).block,(ad.add (k*13)).off+2,none⟩=some (vi x.tgt)/\w.cell? ⟨(ad.add (k*13)).block,(ad.add (k*13)).off+3,none⟩=some (vi x.term)/\w.cell? ⟨(ad.add (k*13)).block,(ad.add (k*13)).off+4,none⟩=some (vi x.idx)/\w.cell? ⟨(ad.add (k*13)).block,(ad.add (k*13)).off+5,none⟩=some (vi x.logTerm)/\w.cell? ⟨(ad.add (k*13)).block,(ad.add (k*13)).off+6,none⟩=some (vi x.commit)/\w.cell? ⟨(ad.add (k*13)).block,(ad.add (k*13)).off+7,none⟩=some (vi x.round)/\w.cell? ⟨(ad.add (k*13)).block,(ad.add (k*13)).off+8,none⟩=some (.bool x.reject)/\w.cell? ⟨(ad.add (k*13)).block,(ad.add (k*13)).off+9,none⟩=some (vi x.offset)/\w.cell? ⟨(ad.add (k*13)).block,(ad.add (k*13)).off+10,none⟩=some (vi x.total)/\w.cell? ⟨(ad.add (k*13)).block,(ad.add (k*13)).off+11,none⟩=some (ve)/\w.cell? ⟨(ad.add (k*13)).block,(ad.add (k*13)).off+12,none⟩=some (vd):=by
 have hl:zs.length=n:=by
  have:=h.1;rw[eO ov]at this;omega
 obtain⟨ad,rfl,hc⟩:=h.2 (by omega);have hz:zs[k]?=some (zs[k]'(by omega)):=List.getElem?_eq_getElem (by omega);obtain⟨⟨⟨ve,vd⟩,x⟩,Sa⟩:∃z,z=zs[k]'(by omega):=⟨_,rfl⟩;rw[<-Sa]at hz;have key:∀j u,j<13->(zj ((ve,vd),x))[j]?=some u->w.cell? (ad.add (k*13+j))=some u:=fun j u hj hu=>hc _ _ ((dW ov hj hz).trans hu)
 have c0:=key 0 _ (by omega) rfl;have c1:=key 1 _ (by omega) rfl;have c2:=key 2 _ (by omega) rfl;have c3:=key 3 _ (by omega) rfl;have c4:=key 4 _ (by omega) rfl;have c5:=key 5 _ (by omega) rfl;have c6:=key 6 _ (by omega) rfl;have c7:=key 7 _ (by omega) rfl;have c8:=key 8 _ (by omega) rfl;have c9:=key 9 _ (by omega) rfl;have c10:=key 10 _ (by omega) rfl;have c11:=key 11 _ (by omega) rfl;have c12:=key 12 _ (by omega) rfl;rw[<-eK,io _ _ (by omega)]at c1 c2 c3 c4 c5 c6 c7 c8 c9 c10 c11 c12;exact⟨ad,ve,vd,x,rfl,hz,c0,c1,c2,c3,c4,c5,c6,c7,c8,c9,c10,c11,c12⟩
theorem wU{aa ak:Nat->Nat}{i i':Nat}{A B:Option Addr}{n c d:Nat}{xs ys:List ((Value×Value)×Mg)}{w:World}(h1:cn w 13 A n (xs.flatMap zj))(h2:cn w 13 B n (ys.flatMap zj))(he:xs.map (·.2)=ys.map (·.2))(d1:∀z∈xs,jV aa i w z)(d2:∀z∈ys,jV ak i' w z)(hn:n<=maxLen) :
  Calls prog 72 #[.slice A n c,.slice B n d] w fun e w'=>e=.returned (.bool true)/\Below w.heap.size w w':=by
 unfold maxLen at hn;have he:=zH he;go_enter func72,ntmps72;go_wp2_with fail
 go_loopw [5] (fun i wr=>∃k:Nat,k<=n/\i=.int .i64 k/\Below w.heap.size w wr) (fun i _=>n-(intOf i).toNat)
 case atStart=>exact⟨0,Nat.zero_le _,rfl,Below.refl _ _⟩
 case round=>
  obtain⟨k,hk,rfl,gL⟩:=hrel;by_cases aU:k<n
  ·obtain⟨ad,ve,vd,x,hA,hz,p0,p1,p2,p3,p4,p5,p6,p7,p8,p9,p10,p11,p12⟩:=RdM.at_ (cn.below h1 gL) aU;obtain⟨ve2,vd2,x2,gC⟩:∃a b e,ys[k]?=some ((a,b),e):=by
    obtain⟨_,a,b,e,_,h,_⟩:=RdM.at_ (cn.below h2 gL) aU;exact⟨a,b,e,h⟩
   have hxx:x=x2:=by
    have e:=congrArg (fun l=>l[k]?) he.out;simp only[List.getElem?_map,hz,gC,Option.map_some,Option.some.injEq]at e;exact e
   subst hxx;have qm:=d1 _ (List.mem_of_getElem? hz);have tG:=d2 _ (List.mem_of_getElem? gC);obtain⟨⟨⟨Ae,ne,ce,zs,e1,re1,de1,me1,be1,be2,_⟩,_⟩,⟨Ab,cb,e2,rb1,bb1,bb2,_⟩,_⟩:=qm;obtain⟨⟨⟨Be,ne2,de,zs2,e3,re2,de2,me2,_,_,_⟩,_⟩,⟨Bb,db,e4,rb2,_,_,_⟩,_⟩:=tG;simp only at e1 e2 e3 e4 me1 me2 rb1 rb2 bb1;have iU:ne=x.entries.length:=by rw[<-me1,List.length_map];exact re1.len.symm
   have kJ:ne2=x.entries.length:=by rw[<-me2,List.length_map];exact re2.len.symm
   have fe:ne=ne2:=by omega
   rw[fe]at be1;subst fe;obtain⟨nb,lr⟩:=zN (x.data.length);rw[lr]at e2 e4 rb1 rb2 bb1;have Nk:ne<=maxLen:=by omega
   have Nj:nb<=maxLen:=by omega
   clear be1 be2 bb1 bb2;subst e1;subst e2;subst e3;subst e4;subst hA;simp only[vi]at p0 p1 p2 p3 p4 p5 p6 p7 p9 p10;have aI:Below wr.heap.size wr (wr.alloc (.cells #[.int .i64 x.kind,.int .i64 x.frm,.int .i64 x.tgt,.int .i64 x.term,.int .i64 x.idx,.int .i64 x.logTerm,.int .i64 x.commit,.int .i64 x.round,.bool x.reject,.int .i64 x.offset,.int .i64 x.total,.slice Ae ne ce,.slice Ab nb cb] 39)):=zb.alloc zl _;have IJ:=ao.new wr 39 #[.int .i64 x.kind,.int .i64 x.frm,.int .i64 x.tgt,.int .i64 x.term,.int .i64 x.idx,.int .i64 x.logTerm,.int .i64 x.commit,.int .i64 x.round,.bool x.reject,.int .i64 x.offset,.int .i64 x.total,.slice Ae ne ce,.slice Ab nb cb];obtain⟨wA,BQ⟩:=zN (wr.alloc (.cells #[.int .i64 x.kind,.int .i64 x.frm,.int .i64 x.tgt,.int .i64 x.term,.int .i64 x.idx,.int .i64 x.logTerm,.int .i64 x.commit,.int .i64 x.round,.bool x.reject,.int .i64 x.offset,.int .i64 x.total,.slice Ae ne ce,.slice Ab nb cb] 39));rw[BQ]at aI IJ;obtain⟨ad2,ve2,vd2,x3,hB,LJ,q0,q1,q2,q3,q4,q5,q6,q7,q8,q9,q10,q11,q12⟩:=RdM.at_ (cn.below h2 (ab gL aI zl)) aU;rw[gC]at LJ;injection LJ with LJ;injection LJ with LJ J7;injection LJ with hz5 hz6;subst hz5;subst hz6;subst J7;subst hB;simp only[vi]at q0 q1 q2 q3 q4 q5 q6 q7 q9 q10;rw[<-BQ]at q0 q1 q2 q3 q4 q5 q6 q7 q8 q9 q10 q11 q12;have dX:Below wA.heap.size wA (wA.alloc (.cells #[.int .i64 x.kind,.int .i64 x.frm,.int .i64 x.tgt,.int .i64 x.term,.int .i64 x.idx,.int .i64 x.logTerm,.int .i64 x.commit,.int .i64 x.round,.bool x.reject,.int .i64 x.offset,.int .i64 x.total,.slice Be ne de,.slice Bb nb db] 39)):=zb.alloc zl _;have vT:=ao.new wA 39 #[.int .i64 x.kind,.int .i64 x.frm,.int .i64 x.tgt,.int .i64 x.term,.int .i64 x.idx,.int .i64 x.logTerm,.int .i64 x.commit,.int .i64 x.round,.bool x.reject,.int .i64 x.offset,.int .i64 x.total,.slice Be ne de,.slice Bb nb db];have BF:=IJ.kept dX;have fU:wA.heap.size=wr.heap.size+1:=by rw[<-BQ];simp
   rw[fU]at vT;have ME:=ab aI dX zl;obtain⟨wB,Th⟩:=zN ((wr.alloc (.cells #[.int .i64 x.kind,.int .i64 x.frm,.int .i64 x.tgt,.int .i64 x.term,.int .i64 x.idx,.int .i64 x.logTerm,.int .i64 x.commit,.int .i64 x.round,.bool x.reject,.int .i64 x.offset,.int .i64 x.total,.slice Ae ne ce,.slice Ab nb cb] 39)).alloc (.cells #[.int .i64 x.kind,.int .i64 x.frm,.int .i64 x.tgt,.int .i64 x.term,.int .i64 x.idx,.int .i64 x.logTerm,.int .i64 x.commit,.int .i64 x.round,.bool x.reject,.int .i64 x.offset,.int .i64 x.total,.slice Be ne de,.slice Bb nb db] 39));rw[<-BQ,Th]at BF vT ME;have yo:=ab gL ME zl;have Xh:=kQ (c:=ce) (d:=de) (ff.below re1 yo) (ff.below re2 yo) (me1.trans me2.symm) (de1.keep (bA.below yo)) (de2.keep (bA.below yo)) Nk;have PL:Rd wB Ab nb x.data:=cn.below rb1 yo;have PM:Rd wB Bb nb x.data:=cn.below rb2 yo;have y11:=BF.cell 11;simp only[Zx]at y11;have z11:=vT.cell 11;simp only[Zx]at z11;have aO:=zH (show n-(k+1)<n-k by omega);replace Th:=zH Th;replace iU:=zH iU;replace kJ:=zH kJ;replace lr:=zH lr;replace Nk:=zH Nk;replace Nj:=zH Nj;have UW:=zH (And.intro BF vT);have Qb:=zH yo;clear BQ aI dX IJ BF vT fU ME gL yo re1 re2 de1 de2 me1 me2 rb1 rb2 hz gC d1 d2 h1 h2;go_wp2_with fail;rw[Th.out];try go_wp2_with fail
   refine Xh.mono ?_;rintro e wC ⟨rfl,IE⟩;have Uq:=uW (c:=cb) (d:=db) (cn.below PL IE) (cn.below PM IE) Nj.out;have Ue:=zH IE;obtain⟨BF,vT⟩:=id UW.out;have kA:=BF.kept IE;have kB:=vT.kept IE;have y12:=kA.cell 12;simp only[Zx]at y12;have z12:=kB.cell 12;simp only[Zx]at z12;clear Xh PL PM IE BF vT y11 z11;have kAB:=zH (And.intro kA kB);clear kA kB;go_wp2_with fail;refine Uq.mono ?_;rintro e wD ⟨rfl,qn,X2⟩;obtain⟨kA,kB⟩:=id kAB.out;have kA2:=kA.drewN qn;have kB2:=kB.drewN qn;have MG:=zH (ab (ab Qb.out Ue.out zl) (pD wC qn) zl);rw[<-X2]at kA2 kB2 MG;clear Uq kA kB y12 z12 X2;obtain⟨y0,y1,y2,y3,y4,y5,y6,y7,y8,y9,y10,-⟩:=kA2.cs [0,1,2,3,4,5,6,7,8,9,10];simp only[Zx]at y0 y1 y2 y3 y4 y5 y6 y7 y8 y9 y10;obtain⟨z0,z1,z2,z3,z4,z5,z6,z7,z8,z9,z10,-⟩:=kB2.cs [0,1,2,3,4,5,6,7,8,9,10];simp only[Zx]at z0 z1 z2 z3 z4 z5 z6 z7 z8 z9 z10;obtain⟨rj,kL⟩:∃b,x.reject=b:=⟨_,rfl⟩;rw[kL]at y8 z8;replace kL:=zH kL;clear kA2 kB2;cases rj
   all_goals
    go_wp2_with fail;exact⟨⟨k+1,aU,by go_num,MG.out⟩,by simp[intOf];exact aO.out⟩
  ·have hQ:=zH gL;clear gL h1 h2 d1 d2;go_wp2_with fail;go_ret;exact⟨rfl,hQ.out⟩
structure At(aa:Nat->Nat)(i:Nat)(bs:Nat->Nat)(q:Nat)(O:Ot)(X:Ox)(Y:Oy)(p r:Nat)(w0 w:World):Prop where
 bel:Below w0.heap.size w0 w
 a:ao w p 49 (be O X)
 b:ao w r 52 (bl O Y)
 x:gq aa i w O X
 y:im bs q w O Y
theorem im.keep'{aa:Nat->Nat}{q:Nat}{w w':World}{O:Ot}{Y:Oy}(h:im aa q w O Y)(hk:∀j,aa j=q->j<w.heap.size->w'.heap[j]?=w.heap[j]?):im aa q w' O Y:=
 ⟨h.e.keep hk hk,h.c.keep hk hk,h.s.keep hk,h.r.keep hk,h.m.keep hk hk⟩
theorem At.below{aa bs:Nat->Nat}{i q p r:Nat}{O:Ot}{X:Ox}{Y:Oy}{w0 w w':World}(h:At aa i bs q O X Y p r w0 w)(hb:Below w.heap.size w w'):At aa i bs q O X Y p r w0 w':=
 ⟨ab h.bel hb zl,h.a.kept hb,h.b.kept hb,h.x.keep fun j _ hl=>hb.block j hl,h.y.keep' fun j _ hl=>hb.block j hl⟩
def LL(l:List Value)(p r:Nat):Prop:=l.length=115/\l[2]?=some (.pointer (some ⟨p,0,none⟩))/\l[3]?=some (.pointer (some ⟨r,0,none⟩))
def WC(l:List Value)(p r:Nat):Prop:=l.length=115/\l[2]?=some (.pointer (some ⟨p,0,none⟩))/\l[3]?=some (.pointer (some ⟨r,0,none⟩))/\l[7]?=some (.bool true)
def WD(l:List Value)(p r:Nat):Prop:=l.length=115/\l[2]?=some (.pointer (some ⟨p,0,none⟩))/\l[3]?=some (.pointer (some ⟨r,0,none⟩))/\l[7]?=some (.bool true)/\l[8]?=some (.bool true)
def WE(l:List Value):Prop:=l.length=115/\l[7]?=some (.bool true)/\l[8]?=some (.bool true)/\l[9]?=some (.bool true)
theorem RdR.at_{w:World}{A:Option Addr}{n k:Nat}{zs:List (Int×Int)}(h:cn w 2 A n (zs.flatMap qM))(hk:k<n) :
  ∃ad x,A=some ad/\zs[k]?=some x/\w.cell? (ad.add (k*2))=some (.int .i64 x.1)/\w.cell? ⟨(ad.add (k*2)).block,(ad.add (k*2)).off+1,none⟩=some (.int .i64 x.2):=by
 have hl:zs.length=n:=by
  have:=h.1;rw[eO (k:=2) (fun _=>rfl)]at this;omega
 obtain⟨ad,rfl,hc⟩:=h.2 (by omega);have hz:zs[k]?=some (zs[k]'(by omega)):=List.getElem?_eq_getElem (by omega);obtain⟨x,Sa⟩:∃z,z=zs[k]'(by omega):=⟨_,rfl⟩;rw[<-Sa]at hz;have key:∀j u,j<2->(qM x)[j]?=some u->w.cell? (ad.add (k*2+j))=some u:=fun j u hj hu=>hc _ _ ((dW (k:=2) (fun _=>rfl) hj hz).trans hu)
 have c0:=key 0 _ (by omega) rfl;have c1:=key 1 _ (by omega) rfl;rw[<-eK,io _ _ (by omega)]at c1;exact⟨ad,x,rfl,hz,c0,c1⟩
section
variable {aa bs:Nat->Nat}{i q p r:Nat}{O:Ot}{X:Ox}{Y:Oy}{w0 wx:World}{K:Act->World->Prop}{Q':Exit->Act->World->Prop}{l:List Value}
theorem lk0(hl:l.length=115/\l[0]?=some (.agg (be O X))/\l[1]?=some (.agg (bl O Y)))(hK:∀l',LL l' wx.heap.size (wx.heap.size+1)->K ⟨l'.toArray,[]⟩ ((wx.alloc (.cells (be O X) 49)).alloc (.cells (bl O Y) 52))):sQ 0 f23 K Q' l wx:=by
 unfold be bl at *;obtain⟨af,aY,ci⟩:=hl;obtain⟨fr,rfl,ai⟩:=an af;rw[kP,ai _ _ aY,ai _ _ ci];clear af ai aY ci;refine df 0 f23 rfl ?_;go_wp2_with fail;exact⟨rfl,rfl,rfl⟩
theorem lk1(aD:At aa i bs q O X Y p r w0 wx)(hl:LL l p r)(hK:∀l',LL l' p r->K ⟨l'.toArray,[]⟩ wx):sQ 1 f23 K Q' l wx:=by
 obtain⟨y0,y1,y2,y3,y6,y7,-⟩:=aD.a.cs [0,1,2,3,6,7];simp only[be,Zx]at y0 y1 y2 y3 y6 y7;obtain⟨z0,z1,z2,z3,z6,z10,-⟩:=aD.b.cs [0,1,2,3,6,10];simp only[bl,Zx]at z0 z1 z2 z3 z6 z10;rcases(show(O.snap=none/\X.sp=none)\/(∃s g,O.snap=some s/\X.sp=some ⟨g,0,none⟩) by
  have hs:=aD.x.s;cases hx:O.snap with
  | none=>rw[hx]at hs;exact .inl ⟨rfl,by injection hs⟩
  | some s=>rw[hx]at hs;obtain⟨g,vd,e,_⟩:=hs;exact .inr ⟨s,g,rfl,by injection e⟩)with⟨iU,kJ⟩|⟨s,g,iU,kJ⟩
 all_goals
  rw[kJ]at y6;rw[iU]at z6;replace aD:=zH aD;clear iU kJ;obtain⟨N,hN⟩:=zN (O.reads.length);rw[hN]at y7 z10;clear hN;generalize O.save=sv at *;generalize O.reset=rs at *;obtain⟨af,gn,aL⟩:=hl;obtain⟨fr,rfl,ai⟩:=an af;rw[kP,ai _ _ gn,ai _ _ aL];clear af ai gn aL;refine df 1 f23 rfl ?_;simp only[Option.isSome]at z6;cases sv <;> cases rs
  all_goals
   go_wp2_with fail;exact⟨rfl,rfl,rfl⟩
theorem lk2(aD:At aa i bs q O X Y p r w0 wx)(hl:LL l p r)(hK:∀l' w',LL l' p r->At aa i bs q O X Y p r w0 w'->K ⟨l'.toArray,[]⟩ w'):(C8 2 (bv f23)).wp prog (Exit.then K (bodyPost prog f23 fun e w''=>e=.returned (.bool true)/\Below w0.heap.size w0 w'')) ⟨l.toArray,[]⟩ wx:=by
 have y6:=aD.a.cell 6;simp only[be,Zx]at y6;obtain⟨z7,z8,z9,-⟩:=aD.b.cs [7,8,9];simp only[bl,Zx]at z7 z8 z9;cases hx:O.snap with
 | none=>
  have kJ:X.sp=none:=by
   have hs:=aD.x.s;rw[hx]at hs;injection hs
  rw[kJ]at y6;replace aD:=zH aD;obtain⟨af,gn,aL⟩:=hl;obtain⟨fr,rfl,ai⟩:=an af;rw[kP,ai _ _ gn,ai _ _ aL];clear af ai gn aL;refine df 2 f23 rfl ?_;go_wp2_with fail;exact hK _ _ ⟨rfl,rfl,rfl⟩ aD.out
 | some s=>
  have hs:=aD.x.s;rw[hx]at hs;obtain⟨g,vd,e,GH,M3,qi⟩:=hs;injection e with e;rw[e]at y6;obtain⟨⟨Ab,cb,e2,rb1,bb1,bb2,_⟩,_⟩:=qi;have hy:=aD.y.s;rw[hx]at z7 z8 z9 hy;obtain⟨Bb,db,e4,rb2,_,_,_⟩:=hy;simp only[js,jt,nK]at z7 z8 z9 e4 rb2;injection e4 with e5 _ e6;subst e5;subst e6;subst e2;obtain⟨s0,s1,s2,-⟩:=M3.cs [0,1,2];simp only[Zx]at s0 s1 s2;simp only[vi]at s0 s1;have eG:=wV (c:=cb) (d:=Y.sc) s.idx s.term (w:=wx.drew) rb1 rb2 (by omega);have cW:=M3.lt;have aE:=zH (fun w' (hb:Below wx.heap.size wx.drew w')=>aD.below (w':=w') (ab ((Below.refl wx.heap.size wx).drew) hb zl));obtain⟨k6,k7,k8,k9,q0,q1,q2⟩:=LV [p,r,g] y6 z7 z8 z9 s0 s1 s2;have dA:∀x∈[p,r,g],x<wx.heap.size:=by simp;exact⟨aD.a.lt,aD.b.lt,cW⟩
  obtain⟨nb,lr⟩:∃n,s.data.length=n:=⟨_,rfl⟩;rw[lr]at s2 z9 q2 k9 eG;replace aD:=zH aD;clear rb1 rb2 M3 hx lr bb1 bb2 e;obtain⟨af,gn,aL⟩:=hl;obtain⟨fr,rfl,ai⟩:=an af;rw[kP,ai _ _ gn,ai _ _ aL];clear af ai gn aL;refine df 2 f23 rfl ?_;go_wp2_with fail;refine eE [p,r,g] wx [([0,1,2,3,4,5],6)] [7] ?_;refine aF fun K1 cQ=>?_
  simp only[ah,Zx];repeat go_big_quiet_step(fail)
  apply wpQuiet_nil;go_wp2_with fail;refine eG.mono ?_;rintro e w5 ⟨rfl,cM⟩;have hS:=zH (aE.out w5 cM);have MB:Below wx.heap.size wx w5:=ab ((Below.refl wx.heap.size wx).drew) cM zl;clear eG cM;go_wp2_with fail;refine⟨av dA MB,cQ _ _ ?_⟩;refine al ?_;simp only[ah,Zx];repeat go_big_quiet_step(fail)
  apply wpQuiet_nil;go_wp2_with fail;exact hK _ _ ⟨rfl,rfl,rfl⟩ hS.out
theorem lk3(aD:At aa i bs q O X Y p r w0 wx)(hl:LL l p r)(hK:∀l' w',LL l' p r->At aa i bs q O X Y p r w0 w'->K ⟨l'.toArray,[]⟩ w'):(C8 3 (bv f23)).wp prog (Exit.then K (bodyPost prog f23 fun e w''=>e=.returned (.bool true)/\Below w0.heap.size w0 w'')) ⟨l.toArray,[]⟩ wx:=by
 have j5:=aD;replace aD:=zH aD;obtain⟨n,hn⟩:=zN (O.reads.length);have qo:n<=maxLen:=by
  obtain⟨A,c,_,ho,_⟩:=id j5.x.r;have:=bB ho;omega
 unfold maxLen at qo;replace j5:=zH j5;replace hn:=zH hn;obtain⟨af,gn,aL⟩:=hl;obtain⟨fr,rfl,ai⟩:=an af;rw[kP,ai _ _ gn,ai _ _ aL];clear af ai gn aL;refine df 3 f23 rfl ?_;go_wp2_with fail
 go_loopw [6] (fun i6 wr=>∃k:Nat,k<=n/\i6=.int .i64 k/\At aa i bs q O X Y p r w0 wr) (fun i6 _=>n-(intOf i6).toNat)
 case atStart=>exact⟨0,Nat.zero_le _,rfl,aD.out⟩
 case round=>
  obtain⟨k,hk,rfl,hs⟩:=hrel;obtain⟨A,ca,e1,nP,_⟩:=id hs.x.r;obtain⟨B',cb,e2,yI,_⟩:=id hs.y.r;injection e1 with e1 _ e3;injection e2 with e2 _ e4;subst e1;subst e2;subst e3;subst e4;rw[hn.out]at nP yI;have y7:=hs.a.cell 7;simp only[be,vi,Zx]at y7;have z10:=hs.b.cell 10;simp only[bl,vi,Zx]at z10;rw[hn.out]at y7 z10;by_cases aU:k<n
  ·obtain⟨ad,x,hA,hz,c0,c1⟩:=RdR.at_ (cn.of_own nP) aU;obtain⟨ad2,x2,hB,gC,d0,d1⟩:=RdR.at_ (cn.of_own yI) aU;rw[hz]at gC;injection gC with gC;subst gC;have aO:=zH (show n-(k+1)<n-k by omega);have hQ:=zH (hs.below ((Below.refl wr.heap.size wr).drew));rw[hA]at y7;rw[hB]at z10;obtain⟨k7,k10,q0,q1,q2,q3⟩:=Pb [p,r,(ad.add (k*2)).block,(ad2.add (k*2)).block] y7 z10 c0 c1 d0 d1;clear hs nP yI hA hB hz;go_wp2_with fail;refine eE [p,r,(ad.add (k*2)).block,(ad2.add (k*2)).block] wr [] [0,1,2,3,4,5,6,7,8,9,10,11,12,13,14,15,16,17,18,19,20,21,22,23,24,25,26,27] ?_;refine al ?_;simp only[ah,Zx];repeat go_big_quiet_step(fail)
   apply wpQuiet_nil;go_wp2_with fail;exact⟨⟨k+1,aU,by go_num,hQ.out⟩,by simp[intOf];exact aO.out⟩
  ·have hQ:=zH hs;obtain rfl:k=n:=by omega
   clear hs nP yI;go_wp2_with fail;exact hK _ _ ⟨rfl,rfl,rfl⟩ hQ.out
theorem lk4(aD:At aa i bs q O X Y p r w0 wx)(hl:LL l p r)(hK:∀l' w',WC l' p r->At aa i bs q O X Y p r w0 w'->K ⟨l'.toArray,[]⟩ w'):sQ 4 f23 K Q' l wx:=by
 have y4:=aD.a.cell 4;simp only[be,Zx]at y4;have z4:=aD.b.cell 4;simp only[bl,Zx]at z4;obtain⟨zs,⟨A,c,e1,nP,_⟩,d1,m1⟩:=id aD.x.e;obtain⟨zs2,⟨A2,c2,e2,yI,_⟩,d2,m2⟩:=id aD.y.e;injection e1 with e1 _ e3;injection e2 with e2 _ e4;subst e1;subst e2;subst e3;subst e4;have fw:=bB nP;have eG:=kQ (c:=X.ec) (d:=Y.ec) (cn.of_own nP) (cn.of_own yI) (m1.trans m2.symm) d1 d2 (by omega);obtain⟨n,hn⟩:=zN (O.entries.length);rw[hn]at y4 z4 eG;have aE:=zH (fun w' hb=>aD.below (w':=w') hb);clear nP yI d1 d2 m1 m2 hn fw;replace aD:=zH aD;obtain⟨af,gn,aL⟩:=hl;obtain⟨fr,rfl,ai⟩:=an af;rw[kP,ai _ _ gn,ai _ _ aL];clear af ai gn aL;refine df 4 f23 rfl ?_;go_wp2_with fail;refine eG.mono ?_;rintro e w5 ⟨rfl,cM⟩;have hS:=zH (aE.out w5 cM);clear eG cM;go_wp2_with fail;exact hK _ _ ⟨rfl,rfl,rfl,rfl⟩ hS.out
theorem lk5(aD:At aa i bs q O X Y p r w0 wx)(hl:WC l p r)(hK:∀l' w',WD l' p r->At aa i bs q O X Y p r w0 w'->K ⟨l'.toArray,[]⟩ w'):sQ 5 f23 K Q' l wx:=by
 have y5:=aD.a.cell 5;simp only[be,Zx]at y5;have z5:=aD.b.cell 5;simp only[bl,Zx]at z5;obtain⟨zs,⟨A,c,e1,nP,_⟩,d1,m1⟩:=id aD.x.c;obtain⟨zs2,⟨A2,c2,e2,yI,_⟩,d2,m2⟩:=id aD.y.c;injection e1 with e1 _ e3;injection e2 with e2 _ e4;subst e1;subst e2;subst e3;subst e4;have fw:=bB nP;have eG:=kQ (c:=X.cc) (d:=Y.cc) (cn.of_own nP) (cn.of_own yI) (m1.trans m2.symm) d1 d2 (by omega);obtain⟨n,hn⟩:=zN (O.commits.length);rw[hn]at y5 z5 eG;have aE:=zH (fun w' hb=>aD.below (w':=w') hb);clear nP yI d1 d2 m1 m2 hn fw;replace aD:=zH aD;obtain⟨af,gn,aL,jA⟩:=hl;obtain⟨fr,rfl,ai⟩:=an af;rw[kP,ai _ _ gn,ai _ _ aL,ai _ _ jA];clear af ai gn aL jA;refine df 5 f23 rfl ?_;go_wp2_with fail;refine eG.mono ?_;rintro e w5 ⟨rfl,cM⟩;have hS:=zH (aE.out w5 cM);clear eG cM;go_wp2_with fail;exact hK _ _ ⟨rfl,rfl,rfl,rfl,rfl⟩ hS.out
theorem lk6(aD:At aa i bs q O X Y p r w0 wx)(hl:WD l p r)(hK:∀l' w',WE l'->At aa i bs q O X Y p r w0 w'->K ⟨l'.toArray,[]⟩ w'):sQ 6 f23 K Q' l wx:=by
 have y8:=aD.a.cell 8;simp only[be,Zx]at y8;have z11:=aD.b.cell 11;simp only[bl,Zx]at z11;obtain⟨zs,⟨A,c,e1,nP,_⟩,d1,m1⟩:=id aD.x.m;obtain⟨zs2,⟨A2,c2,e2,yI,_⟩,d2,m2⟩:=id aD.y.m;injection e1 with e1 _ e3;injection e2 with e2 _ e4;subst e1;subst e2;subst e3;subst e4;have fw:=bB nP;have eG:=wU (c:=X.mc) (d:=Y.mc) (cn.of_own nP) (cn.of_own yI) (m1.trans m2.symm) d1 d2 (by omega);obtain⟨n,hn⟩:=zN (O.msgs.length);rw[hn]at y8 z11 eG;have aE:=zH (fun w' hb=>aD.below (w':=w') hb);clear nP yI d1 d2 m1 m2 hn fw;replace aD:=zH aD;obtain⟨af,gn,aL,jA,xx⟩:=hl;obtain⟨fr,rfl,ai⟩:=an af;rw[kP,ai _ _ gn,ai _ _ aL,ai _ _ jA,ai _ _ xx];clear af ai gn aL jA xx;refine df 6 f23 rfl ?_;go_wp2_with fail;refine eG.mono ?_;rintro e w5 ⟨rfl,cM⟩;have hS:=zH (aE.out w5 cM);clear eG cM;go_wp2_with fail;exact hK _ _ ⟨rfl,rfl,rfl,rfl⟩ hS.out
theorem lk7(hb:Below w0.heap.size w0 wx)(hl:WE l):(Ip 7 (bv f23)).wp prog (bodyPost prog f23 fun e w''=>e=.returned (.bool true)/\Below w0.heap.size w0 w'') ⟨l.toArray,[]⟩ wx:=by
 replace hb:=zH hb;obtain⟨af,jA,xx,cj⟩:=hl;obtain⟨fr,rfl,ai⟩:=an af;rw[kP,ai _ _ jA,ai _ _ xx,ai _ _ cj];clear af ai jA xx cj;refine Fm 7 f23 rfl ?_;go_wp2_with fail;go_ret;exact⟨rfl,hb.out⟩
theorem Hg(hx:gq aa i wx O X)(hy:im bs q wx O Y) :
  Calls prog 23 #[.agg (be O X),.agg (bl O Y)] wx fun e w''=>e=.returned (.bool true)/\Below wx.heap.size wx w'':=by
 have br:Below wx.heap.size wx (wx.alloc (.cells (be O X) 49)):=zb.alloc zl _;have cA:=ao.new wx 49 (be O X);have bQ:Below (wx.alloc (.cells (be O X) 49)).heap.size (wx.alloc (.cells (be O X) 49)) ((wx.alloc (.cells (be O X) 49)).alloc (.cells (bl O Y) 52)):=zb.alloc zl _;have eY:=ao.new (wx.alloc (.cells (be O X) 49)) 52 (bl O Y);have fU:(wx.alloc (.cells (be O X) 49)).heap.size=wx.heap.size+1:=by simp
 rw[fU]at eY;have hb:=ab br bQ zl;have aD:At aa i bs q O X Y wx.heap.size (wx.heap.size+1) wx ((wx.alloc (.cells (be O X) 49)).alloc (.cells (bl O Y) 52)):=
  ⟨hb,cA.kept bQ,eY,hx.keep fun j _ hl=>hb.block j hl,hy.keep' fun j _ hl=>hb.block j hl⟩
 refine cV (args:=[.agg (be O X),.agg (bl O Y)]) 115 func23 (by kernel_rfl) ntmps23 (by simp) fun la jL fQ=>?_
 refine aJ (by kernel_rfl) (lk0 ⟨jL,fQ 0 _ rfl,fQ 1 _ rfl⟩ fun l0 j3=>?_);refine aJ (by kernel_rfl) (lk1 aD j3 fun l1 cD=>?_);refine aJ (by kernel_rfl) (lk2 aD cD fun l2 w2 dG BM=>?_);refine aJ (by kernel_rfl) (lk3 BM dG fun l3 w3 lx mU=>?_);refine aJ (by kernel_rfl) (lk4 mU lx fun l4 w4 od O4=>?_);refine aJ (by kernel_rfl) (lk5 O4 od fun l5 w5 oY NB=>?_);refine aJ (by kernel_rfl) (lk6 NB oY fun l6 w6 un nd=>?_);exact lk7 nd.bel un
end
section
open Go.MapKept
def Aq:Array Value:=#[.int .i64 0,.int .i64 0,.int .i64 0,.int .i64 0,.int .i64 0,.int .i64 0,.int .i64 0]
def uX(R:Rf):Array Value:=#[.int .i64 R.role,.int .i64 R.leader,.int .i64 R.hard.term,.int .i64 R.hard.vote,.int .i64 R.commit,.int .i64 R.track.index,.int .i64 R.track.lastF.1]
section
variable {aa:Nat->Nat}{b g:Nat}{w:World}{R:Rf}{v:Rw}
theorem sJ(h:ax aa b w g R v)(hN:R.track.L.length<=1000000) :
  Calls prog 31 #[.pointer (some ⟨g,0,none⟩)] w fun e w'=>e=.returned (.agg (uX R))/\Below w.heap.size w w':=by
 have cW:=h.s.lt;have aI:Below w.heap.size w (w.alloc (.cells Aq 84)):=zb.alloc zl _;have bM:=ao.new w 84 Aq;obtain⟨w1,ct⟩:=zN (w.alloc (.cells #[.int .i64 0,.int .i64 0,.int .i64 0,.int .i64 0,.int .i64 0,.int .i64 0,.int .i64 0] 84));rw[show w.alloc (.cells Aq 84)=w1 from ct]at aI bM;have h1:=h.below aI;have a8:=h.s.cell 8;simp only[bV,vi,Zx]at a8;have c8:=h1.s.cell 8;simp only[bV,vi,Zx]at c8;have bE:=sS h1.t;obtain⟨l1,cD⟩:∃l,R.track.lastF.1=l:=⟨_,rfl⟩;obtain⟨i1,oN⟩:∃i,R.track.index=i:=⟨_,rfl⟩;rw[oN]at bE;have aD:uX R=#[.int .i64 R.role,.int .i64 R.leader,.int .i64 R.hard.term,.int .i64 R.hard.vote,.int .i64 R.commit,.int .i64 i1,.int .i64 l1]:=by unfold uX;rw[cD,oN]
 replace ct:=zH ct;replace aD:=zH aD;replace cD:=zH cD;replace oN:=zH oN;have hH:=zH h1;clear h h1;go_enter func31,ntmps31;go_wp2_with fail;rw[ct.out];try go_wp2_with fail
 refine bE.mono ?_;rintro e w2 ⟨rfl,bQ⟩;have h2:=hH.out.below bQ;have d8:=h2.s.cell 8;simp only[bV,vi,Zx]at d8;have bH:=i7 h2.t hN;rw[cD.out]at bH;clear bE h2;go_wp2_with fail;refine bH.mono ?_;rintro e w3 ⟨rfl,bN⟩;have gl:=ab bQ bN zl;have h3:=hH.out.below gl;have jS:=bM.kept gl;obtain⟨e6,e7,e12,e13,e14,-⟩:=h3.s.cs [6,7,12,13,14];simp only[bV,vi,Zx]at e6 e7 e12 e13 e14;obtain⟨k6,k7,k12,k13,k14⟩:=Ov [g] e6 e7 e12 e13 e14;obtain⟨z0,z1,z2,z3,z4,z5,z6,-⟩:=jS.cs [0,1,2,3,4,5,6];simp only[Aq,vi,Zx]at z0 z1 z2 z3 z4 z5 z6;obtain⟨u0,u1,u2,u3,u4,u5,u6,-⟩:=jS.fs [0,1,2,3,4,5,6];have iy:g<w3.heap.size:=h3.s.lt;have eF:=ab aI gl zl;obtain⟨w4,fV⟩:=zN ((((((((w3.setCell ⟨w.heap.size,0,none⟩ (.int .i64 R.role)).setCell ⟨w.heap.size,1,none⟩ (.int .i64 R.leader)).setCell ⟨w.heap.size,2,none⟩ (.int .i64 R.hard.term)).setCell ⟨w.heap.size,3,none⟩ (.int .i64 R.hard.vote)).setCell ⟨w.heap.size,4,none⟩ (.int .i64 R.commit)).setCell ⟨w.heap.size,5,none⟩ (.int .i64 i1)).setCell ⟨w.heap.size,6,none⟩ (.int .i64 l1)).drew);have Mb:ao w4 w.heap.size 84 #[.int .i64 R.role,.int .i64 R.leader,.int .i64 R.hard.term,.int .i64 R.hard.vote,.int .i64 R.commit,.int .i64 i1,.int .i64 l1]:=by
  have s:=((((((jS.set_ 0 (.int .i64 R.role)).set_ 1 (.int .i64 R.leader)).set_ 2 (.int .i64 R.hard.term)).set_ 3 (.int .i64 R.hard.vote)).set_ 4 (.int .i64 R.commit)).set_ 5 (.int .i64 i1)).set_ 6 (.int .i64 l1);simp only[Aq,Zy]at s;have s2:=s.kept (zb.drew);rw[fV]at s2;exact s2
 have cO:Below w.heap.size w w4:=by
  rw[<-fV];exact(((((((eF.setCell zl _).setCell zl _).setCell zl _).setCell zl _).setCell zl _).setCell zl _).setCell zl _).drew
 replace fV:=zH fV;clear bH h3 jS;go_wp2_with fail;refine nj [g] w3 [] ([0,1,2,3,4,5,6,7,8,9,10,11,12,13,14,15,16,17,18],19) ?_;refine aC ?_;simp only[ah,Zx];repeat go_big_quiet_step(fail)
 apply wpQuiet_nil;go_wp2_with fail;rw[fV.out];obtain⟨r0,r1,r2,r3,r4,r5,r6,-⟩:=Mb.cs [0,1,2,3,4,5,6];simp only[Zx]at r0 r1 r2 r3 r4 r5 r6;exact bodyPost_ret (v:=.agg #[.int .i64 R.role,.int .i64 R.leader,.int .i64 R.hard.term,.int .i64 R.hard.vote,.int .i64 R.commit,.int .i64 i1,.int .i64 l1]) (by simp[results,results31,go_sem,r0,r1,r2,r3,r4,r5,r6]) rfl ⟨by rw[aD.out],cO⟩
end
end
section
variable {aa bs:Nat->Nat}{b c q ga gb:Nat}{w:World}{R:Rf}{v:Rw}{va:Aw}
theorem wY(h:ax aa b w ga R v)(h2:aK bs c q w gb R va)(hN:R.track.L.length<=1000000) :
  Calls prog 25 #[.pointer (some ⟨ga,0,none⟩),.pointer (some ⟨gb,0,none⟩)] w fun e w'=>e=.returned (.bool true)/\Below w.heap.size w w':=by
 have hs:=sJ h hN;obtain⟨L,hL⟩:=zN (R.track.lastF.1);obtain⟨LT,YA⟩:∃L,R.track.lastF.2=L:=⟨_,rfl⟩;have aD:uX R=#[.int .i64 R.role,.int .i64 R.leader,.int .i64 R.hard.term,.int .i64 R.hard.vote,.int .i64 R.commit,.int .i64 R.track.index,.int .i64 L]:=by unfold uX;rw[hL]
 rw[aD]at hs;replace h:=zH h;replace aD:=zH aD;go_enter func25,ntmps25;go_wp2_with fail;refine hs.mono ?_;rintro e w1 ⟨rfl,br⟩;have KN:=h2.below br;have bQ:Below w1.heap.size w1 (w1.alloc (.cells #[.int .i64 R.role,.int .i64 R.leader,.int .i64 R.hard.term,.int .i64 R.hard.vote,.int .i64 R.commit,.int .i64 R.track.index,.int .i64 L] 84)):=zb.alloc zl _;have eY:=ao.new w1 84 #[.int .i64 R.role,.int .i64 R.leader,.int .i64 R.hard.term,.int .i64 R.hard.vote,.int .i64 R.commit,.int .i64 R.track.index,.int .i64 L];obtain⟨w2,cZ⟩:=zN (w1.alloc (.cells #[.int .i64 R.role,.int .i64 R.leader,.int .i64 R.hard.term,.int .i64 R.hard.vote,.int .i64 R.commit,.int .i64 R.track.index,.int .i64 L] 84));rw[cZ]at bQ eY;have xj:=KN.below bQ;have bH:=jF xj.t hN;rw[hL,YA]at bH;have y4:=xj.s.cell 4;simp only[bu,vi,Zx]at y4;obtain⟨gt,iV,_,_,_⟩:=xj.trk_at;rw[iV]at y4 bH;rw[<-cZ]at y4;have ef:=ab br bQ zl;have TU:=ef;replace cZ:=zH cZ;replace iV:=zH iV;clear hs br bQ KN;go_wp2_with fail;rw[cZ.out];refine bH.mono ?_;rintro e w3 ⟨rfl,bN⟩;have KO:=xj.below bN;have jS:=eY.kept bN;obtain⟨gt',yL,_,AK,rI⟩:=KO.trk_at;rw[iV.out]at yL;injection yL with yL;injection yL with yL;injection yL with yL;subst yL;obtain⟨z2,z3,z4,z5,z8,z9,z10,-⟩:=KO.s.cs [2,3,4,5,8,9,10];simp only[bu,vi,vi,Zx]at z2 z3 z4 z5 z8 z9 z10;obtain⟨s0,s1,s2,s3,s4,s5,s6,-⟩:=jS.cs [0,1,2,3,4,5,6];simp only[Zx]at s0 s1 s2 s3 s4 s5 s6;rw[iV.out]at z4;have aE:=zH ((ab ef bN zl).drew);obtain⟨sb,VF⟩:=zN (w1.heap.size);rw[VF]at s0 s1 s2 s3 s4 s5 s6 ⊢;obtain⟨e2,e3,e4,e5,e9,e10,et,f0,f1,f2,f3,f4,f5⟩:=Ap [gb,gt,sb] z2 z3 z4 z8 z9 z10 rI s0 s1 s2 s3 s4 s5;have f6:=EY [gb,gt,sb] s6;clear bH xj eY KO jS bN h2 ef TU y4 VF;go_wp2_with fail;refine eE [gb,gt,sb] w3 [] [0,1,2,3,4,5,6,7,8,9,10,11,12,13,14,15,16,17,18,19,20,21,22,23,24,25,26,27,28,29,30,31,32,33,34,35,36,37,38,39,40,41,42,43,44,45,46,47,48,49,50,51,52] ?_;refine al ?_;simp only[ah,Zx];repeat go_big_quiet_step(fail)
 apply wpQuiet_nil;go_wp2_with fail;go_ret;exact⟨by simp,aE.out⟩
end
structure aT(X:Nat->Prop)(aa ak:Nat->Nat)(w w':World):Prop where
 size:w.heap.size<=w'.heap.size
 stay:∀j,j<w.heap.size->¬X j->ak j=aa j/\w'.heap[j]?=w.heap[j]?
 wld:w'.os=w.os/\w'.tape=w.tape/\w'.output=w.output
def cv(i:Nat)(aa ak:Nat->Nat)(w w':World):Prop:=aT (fun j=>aa j≠i) aa ak w w'
section
variable {X Y:Nat->Prop}{aa ak ag bs:Nat->Nat}{w w' w1 w2:World}{b c q i ga gb:Nat}{R R':Rf}{v:Rw}{va:Aw}
theorem aT.refl(X:Nat->Prop)(aa:Nat->Nat)(w:World):aT X aa aa w w:=⟨Nat.le_refl _,fun _ _ _=>⟨rfl,rfl⟩,rfl,rfl,rfl⟩
theorem aT.mono(h:aT X aa ak w w')(hX:∀j,j<w.heap.size->X j->Y j):aT Y aa ak w w':=⟨h.size,fun j hj hn=>h.stay j hj fun hx=>hn (hX j hj hx),h.wld⟩
theorem aT.trans(h:aT X aa ag w w1)(h':aT Y ag bs w1 w2)(hY:∀j,j<w.heap.size->¬X j->ag j=aa j->¬Y j):aT X aa bs w w2:=
 ⟨Nat.le_trans h.size h'.size,fun j hj hn=>by
  obtain⟨h1,h2⟩:=h.stay j hj hn;obtain⟨h3,h4⟩:=h'.stay j (Nat.lt_of_lt_of_le hj h.size) (hY j hj hn h1);exact⟨h3.trans h1,h4.trans h2⟩,h'.wld.1.trans h.wld.1,h'.wld.2.1.trans h.wld.2.1,h'.wld.2.2.trans h.wld.2.2⟩
theorem aT.of_fr(hF:Fr Y w w')(h:∀j,j<w.heap.size->¬X j->ak j=aa j/\¬Y j):aT X aa ak w w':=⟨hF.size,fun j hj hn=>⟨(h j hj hn).1,hF.block j hj (h j hj hn).2⟩,hF.os,hF.tape,hF.output⟩
theorem cv.below(h:aT (fun j=>aa j≠i) aa ak w w')(hl:∀j,j<w.heap.size->aa j=i):Below w.heap.size w w':=⟨h.wld.1,h.wld.2.1,h.wld.2.2,h.size,fun j hj=>(h.stay j hj fun hn=>hn (hl j hj)).2⟩
theorem cv.refl(i:Nat)(aa:Nat->Nat)(w:World):cv i aa aa w w:=aT.refl _ _ _
theorem cv.trans(h:cv i aa ag w w1)(h':cv i ag bs w1 w2):cv i aa bs w w2:=aT.trans h h' fun j _ hn e hx=>hx (e.trans (Classical.not_not.1 hn))
theorem aT.keeps(h:aT X aa ak w w')(i:Nat)(hi:∀j,j<w.heap.size->aa j=i->¬X j):cv i aa ak w w':=h.mono fun j hj hx e=>hi j hj e hx
theorem aT.new(i:Nat)(aa:Nat->Nat)(hb:Below w.heap.size w w'):aT (fun _=>False) aa (aj aa w.heap.size i) w w':=⟨hb.size,fun j hj _=>⟨ac hj,hb.block j hj⟩,hb.os,hb.tape,hb.output⟩
theorem aT.same(aa:Nat->Nat)(hb:Below w.heap.size w w'):aT (fun _=>False) aa aa w w':=⟨hb.size,fun j hj _=>⟨rfl,hb.block j hj⟩,hb.os,hb.tape,hb.output⟩
theorem aT.hold{P:(Nat->Nat)->World->Prop}(good:Nat->Prop)(z:Nat)(hz:¬good z)(qe:∀aa ak w,P aa w->(∀j,j<w.heap.size->good (aa j)->ak j=aa j)->P ak w)
  (CB:∀aa w w',P aa w->(∀j,good (aa j)->j<w.heap.size->w'.heap[j]?=w.heap[j]?)->P aa w') (h:aT X aa ak w w') (hX:∀j,j<w.heap.size->good (aa j)->¬X j) (hp:P aa w):P ak w':=by
 have m1:∀j,j<w.heap.size->aj aa w.heap.size z j=aa j:=fun j hj=>ac hj
 have h1:=qe aa (aj aa w.heap.size z) w hp fun j hj _=>m1 j hj
 have h2:=CB _ w w' h1 fun j hg hj=>by
  rw[m1 j hj]at hg;exact(h.stay j hj (hX j hj hg)).2
 refine qe _ ak w' h2 fun j hj hg=>?_
 rcases Nat.lt_or_ge j w.heap.size with hl|hl
 ·rw[m1 j hl]at hg ⊢;exact(h.stay j hl (hX j hl hg)).1
 ·rw[az hl]at hg;exact absurd hg hz
theorem aT.raft(h:aT X aa ak w w')(hX:∀j,j<w.heap.size->bw aa b j->¬X j)(hr:ax aa b w ga R v):ax ak b w' ga R v:=
 h.hold (P:=fun aa w=>ax aa b w ga R v) (fun k=>b<k/\k<=b+13) b (by omega) (fun _ _ _ h1 h2=>h1.relabel h2) (fun _ _ _ h1 h2=>h1.keep h2) hX hr
theorem aT.ans(hc:c≠q)(h:aT X aa ak w w')(hX:∀j,j<w.heap.size->dv aa c q j->¬X j)(hr:aK aa c q w gb R va):aK ak c q w' gb R va:=
 h.hold (P:=fun aa w=>aK aa c q w gb R va) (fun k=>(c<k/\k<=c+9)\/k=q) c (by omega) (fun _ _ _ h1 h2=>h1.relabel h2) (fun _ _ _ h1 h2=>h1.keep h2) hX hr
theorem cv.hold{P:(Nat->Nat)->World->Prop}(qe:∀aa ak w,P aa w->(∀j,j<w.heap.size->aa j=i->ak j=i)->P ak w)
  (CB:∀aa w w',P aa w->(∀j,aa j=i->j<w.heap.size->w'.heap[j]?=w.heap[j]?)->P aa w') (h:cv i aa ak w w') (hp:P aa w):P ak w':=
 aT.hold (fun k=>k=i) (i+1) (by omega) (fun _ _ _ h1 h2=>qe _ _ _ h1 fun j hj e=>(h2 j hj e).trans e) CB h (fun j _ e hx=>hx e) hp
theorem cv.ens{u:Value}{L:List En}(h:cv i aa ak w w')(he:cP aa i w u L):cP ak i w' u L:=
 h.hold (P:=fun aa w=>cP aa i w u L) (fun _ _ _ h1 h2=>h1.relabel h2) (fun _ _ _ h1 h2=>h1.keep h2) he
theorem cv.byt{u:Value}{L:List UInt8}(h:cv i aa ak w w')(he:bP aa i w u L):bP ak i w' u L:=
 h.hold (P:=fun aa w=>bP aa i w u L) (fun _ _ _ h1 h2=>h1.relabel h2) (fun _ _ _ h1 h2=>h1.keep h2) he
theorem cv.facts{u:Value}{L:List Fa}(h:cv i aa ak w w')(he:aG (aM aa i) w u L):aG (aM ak i) w' u L:=
 h.hold (P:=fun aa w=>aG (aM aa i) w u L) (fun _ _ _ h1 h2=>h1.mono h2) (fun _ _ _ h1 h2=>h1.keep h2) he
theorem gq.relabel{O:Ot}{x:Ox}(h:gq aa i w O x)(hl:∀j,j<w.heap.size->aa j=i->ak j=i):gq ak i w O x:=
 ⟨h.e.relabel hl hl,h.c.relabel hl hl,h.s.relabel hl,h.r.relabel hl,h.m.relabel hl hl⟩
theorem cv.outX{O:Ot}{x:Ox}(h:cv i aa ak w w')(he:gq aa i w O x):gq ak i w' O x:=
 h.hold (P:=fun aa w=>gq aa i w O x) (fun _ _ _ h1 h2=>h1.relabel h2) (fun _ _ _ h1 h2=>h1.keep h2) he
def vp(b c q:Nat):Prop:=b+13<=c/\c+10<q
def jJ(aa:Nat->Nat)(b c q:Nat)(w:World)(ga gb:Nat)(R:Rf):Prop:=(∃v,ax aa b w ga R v)/\∃va,aK aa c q w gb R va
theorem vp.apart(h:vp b c q):aN c q:=.inr (by have:=h.2;omega)
theorem jJ.hold(hs:vp b c q)(h:jJ aa b c q w ga gb R)(hl:aT X aa ak w w')(hX:∀j,j<w.heap.size->bw aa b j\/dv aa c q j->¬X j):jJ ak b c q w' ga gb R:=by
 obtain⟨⟨v,h1⟩,va,h2⟩:=h;have:=hs.2;exact⟨⟨v,hl.raft (fun j hj hm=>hX j hj (.inl hm)) h1⟩,va,hl.ans (by omega) (fun j hj hm=>hX j hj (.inr hm)) h2⟩
theorem jJ.below(hs:vp b c q)(h:jJ aa b c q w ga gb R)(hb:Below w.heap.size w w'):jJ aa b c q w' ga gb R:=h.hold hs (aT.same aa hb) fun _ _ _ hf=>hf
theorem dI.leaves{O:Ot}{x:Ox}(hs:vp b c q)(h:dI aa b i w ga O R' x w')(h2:aK aa c q w gb R va) :
  ∃ak,(∃v',ax ak b w' ga R' v')/\gq ak i w' O x/\aK ak c q w' gb R va/\aT (bw aa b) aa ak w w':=by
 obtain⟨ak,v',q1,q2,q3,q4,q5⟩:=h;have hl:aT (bw aa b) aa ak w w':=aT.of_fr q5 fun j hj hn=>⟨q3 j hj hn,fun hm=>hn ⟨hm.1,by have:=hm.2;omega⟩⟩
 have h3:=hs.1;have h4:=hs.2;refine⟨ak,⟨v',q1⟩,q2,hl.ans (by omega) (fun j hj hm ht=>?_) h2,hl⟩;unfold dv at hm;unfold bw at ht;omega
theorem cU.leaves{O:Ot}{y:Oy}(hs:vp b c q)(h:cU aa c q w gb O R' y w')(h2:ax aa b w ga R v) :
  ∃ak,(∃v',aK ak c q w' gb R' v')/\im ak q w' O y/\ax ak b w' ga R v/\aT (aX aa c) aa ak w w':=by
 obtain⟨ak,v',q1,q2,q3,q4,q5⟩:=h;have hl:aT (aX aa c) aa ak w w':=aT.of_fr q5 fun j hj hn=>⟨q3 j hj hn,hn⟩
 have h3:=hs.1;refine⟨ak,⟨v',q1⟩,q2,hl.raft (fun j hj hm ht=>?_) h2,hl⟩;unfold bw at hm;unfold aX at ht;omega
theorem ei(hl:aT (bw aa b) aa ak w w')(hi:i<=b\/b+13<i):cv i aa ak w w':=hl.keeps i fun j _ e hm=>by unfold bw at hm;omega
theorem nG(hl:aT (aX aa c) aa ak w w')(hi:i<=c\/c+9<i):cv i aa ak w w':=hl.keeps i fun j _ e hm=>by unfold aX at hm;omega
theorem cv.blk{g:Nat}{T:TypeId}{cs:Array Value}(h:cv i aa ak w w')(hb:ao w g T cs)(hg:aa g=i):ao w' g T cs/\ak g=i:=by
 obtain⟨h1,h2⟩:=h.stay g hb.lt fun hn=>hn hg
 exact⟨h2.trans hb,h1.trans hg⟩
end
structure Ac where
 kind:Int
 n:Int
 msg:Mg
 cmd:En
 data:List UInt8
structure As where
 ea:Option Addr
 en:Nat
 ec:Nat
 da:Option Addr
 dn:Nat
 dc:Nat
 fa:Option Addr
 fn:Nat
 fc:Nat
 ba:Option Addr
 bn:Nat
 bc:Nat
def lG(x:Ac)(s:As):Array Value:=
 #[.int .i64 x.kind,.int .i64 x.n,.int .i64 x.msg.kind,.int .i64 x.msg.frm,.int .i64 x.msg.tgt,.int .i64 x.msg.term,.int .i64 x.msg.idx,.int .i64 x.msg.logTerm,.int .i64 x.msg.commit,.int .i64 x.msg.round,.bool x.msg.reject,.int .i64 x.msg.offset,.int .i64 x.msg.total,
  .slice s.ea s.en s.ec,.slice s.da s.dn s.dc,.int .i64 x.cmd.op,.int .i64 x.cmd.sess,.int .i64 x.cmd.seq,.slice s.fa s.fn s.fc,.slice s.ba s.bn s.bc]
structure Fo(aa:Nat->Nat)(q:Nat)(w:World)(x:Ac)(s:As):Prop where
 e:cP aa q w (.slice s.ea s.en s.ec) x.msg.entries
 d:bP aa q w (.slice s.da s.dn s.dc) x.msg.data
 f:aG (aM aa q) w (.slice s.fa s.fn s.fc) x.cmd.facts
 fm:s.fn<=maxLen
 b:bP aa q w (.slice s.ba s.bn s.bc) x.data
 nb:-9223372036854775808<=x.n/\x.n<=9223372036854775807
 kb:-9223372036854775808<=x.kind/\x.kind<=9223372036854775807
def Ac.cutE(x:Ac):Ac:={x with msg:={x.msg with entries:=x.msg.entries.take 10}}
def Ac.cutD(x:Ac):Ac:={x with msg:={x.msg with data:=x.msg.data.take 300}}
def Ac.cutB(x:Ac):Ac:={x with data:=x.data.take 1000}
def Ac.cut(x:Ac):Ac:=x.cutE.cutD.cutB
def As.cutE(s:As):As:={s with en:=min s.en 10}
def As.cutD(s:As):As:={s with dn:=min s.dn 300}
def As.cutB(s:As):As:={s with bn:=min s.bn 1000}
section
variable {aa ak:Nat->Nat}{q i n c k:Nat}{w w':World}{x:Ac}{s:As}{A:Option Addr}{L:List En}{l:List UInt8}
theorem cP.len(h:cP aa i w (.slice A n c) L):L.length=n/\n<=c/\c<=maxLen:=by
 obtain⟨A0,n0,c0,zs,e,h2,_,h4,h5,h6,_⟩:=h;injection e with e1 e2 e3;subst e1 e2 e3;exact⟨by rw[<-h4,List.length_map];exact h2.len,h5,h6⟩
theorem bP.len(h:bP aa i w (.slice A n c) l):l.length=n/\n<=c/\c<=maxLen:=by
 obtain⟨A0,c0,e,h1,h2,h3,_⟩:=h;injection e with e1 e2 e3;subst e1 e3;exact⟨e2.symm,by omega,h3⟩
theorem cP.take(k:Nat)(h:cP aa i w (.slice A n c) L):cP aa i w (.slice A (min n k) c) (L.take k):=by
 obtain⟨A0,n0,c0,zs,e,h2,h3,h4,h5,h6,h7⟩:=h;injection e with e1 e2 e3;subst e1 e2 e3;have h1:=cn.take (size:=6) h2 (k:=min n k) (Nat.min_le_left _ _);rw[<-oV eX]at h1;have hl:=h2.len;have e:zs.take (min n k)=zs.take k:=by
  rcases Nat.le_total n k with h0|h0
  ·rw[Nat.min_eq_left h0,List.take_of_length_le (by omega),List.take_of_length_le (by omega)]
  ·rw[Nat.min_eq_right h0]
 rw[e]at h1;exact⟨A,min n k,c,zs.take k,rfl,h1,h3.sub fun y hy=>List.mem_of_mem_take hy,by rw[List.map_take,h4],Nat.le_trans (Nat.min_le_left _ _) h5,h6,fun h0=>h7 (by omega)⟩
theorem bP.take(k:Nat)(h:bP aa i w (.slice A n c) l):bP aa i w (.slice A (min n k) c) (l.take k):=by
 obtain⟨hl,_,_⟩:=h.len;obtain⟨A0,c0,e,h1,h2,h3,h4⟩:=h;injection e with e1 e2 e3;subst e1 e3;have h5:=cn.take (size:=1) h1 (k:=min n k) (by omega);rw[Nat.mul_one,<-List.map_take]at h5;have e:l.take (min n k)=l.take k:=by
  rcases Nat.le_total n k with h0|h0
  ·rw[Nat.min_eq_left h0,List.take_of_length_le (by omega),List.take_of_length_le (by omega)]
  ·rw[Nat.min_eq_right h0]
 rw[e]at h5;have e2:(l.take k).length=min n k:=by rw[List.length_take,hl,Nat.min_comm]
 exact⟨A,c,by rw[e2],by rw[e2];exact h5,by rw[e2];omega,h3,fun h0=>h4 (by rw[e2]at h0;omega)⟩
theorem cv.act(hk:cv q aa ak w w')(h:Fo aa q w x s):Fo ak q w' x s:={h with e:=hk.ens h.e,d:=hk.byt h.d,f:=hk.facts h.f,b:=hk.byt h.b}
end
structure iP(K:Nat)(R:Rf):Prop where
 ok:Ok K 0 R
 low:dz R
 fit:dt R
section
variable {K:Nat}{R:Rf}
theorem iP.mono{K':Nat}(h:iP K R)(hK:K<=K'):iP K' R:=⟨h.ok.mono hK (Nat.le_refl 0),h.low,h.fit⟩
theorem iP.tick(h:iP K R)(d:Int):iP (K+11) (R.tick d).2:=⟨h.ok.ticked d,h.low.tick d,h.fit.tick d⟩
theorem iP.step(h:iP K R)(hK:1<=K)(m:Mg):iP (K+11) (R.step m).2:=⟨h.ok.stepped hK m,h.low.step m,h.fit.step m⟩
theorem iP.propose(h:iP K R)(x:En):iP (K+11) (R.propose x).2:=⟨h.ok.proposed x,h.low.propose x,h.fit.propose x⟩
end
section
open Go.MapKept
end


section
open Go.MapKept

end


def Ow(l:List Value)(b r:Nat):Prop:=l.length=23/\l[1]?=some (.pointer (some ⟨b,0,none⟩))/\l[2]?=some (.pointer (some ⟨r,0,none⟩))
def nO:Array Value:=#[.int .i64 0,.int .i64 0,.int .i64 0,.int .i64 0,.slice none 0 0,.slice none 0 0]
def pZ.few(s:pZ):pZ:={s with snap:={s.snap with data:=s.snap.data.take 2000},entries:=s.entries.take 30}
section
variable {b r m1 c1 md cd:Nat}{A1 Ad:Option Addr}{wx w':World}{K:Act->World->Prop}{Q':Exit->Act->World->Prop}{l:List Value}{s:pZ}{H:Ending->World->Prop}
theorem Yi(hl:l.length=23/\l[0]?=some (.agg (eQ s Ad A1 md cd m1 c1)))(hK:∀l':List Value,Ow l' wx.heap.size (wx.heap.size+1)->K ⟨l'.toArray,[]⟩ ((wx.alloc (.cells (eQ s Ad A1 md cd m1 c1) 29)).alloc (.cells nO 29))):sQ 0 f12 K Q' l wx:=by
 unfold eQ nO at *;obtain⟨af,aY⟩:=hl;obtain⟨fr,rfl,ai⟩:=an af;rw[uV,ai _ _ aY];clear af ai aY;refine df 0 f12 rfl ?_;go_wp2_with fail;exact⟨rfl,rfl,rfl⟩
theorem Yj(hb:ao wx b 29 (eQ s Ad A1 md cd m1 c1))(hc:m1<=c1)(hl:Ow l b r)(hK:∀(l':List Value) (w':World),Ow l' b r/\ao w' b 29 (eQ s Ad A1 md cd (min m1 30) c1)/\Fr (fun j=>j=b) wx w'->K ⟨l'.toArray,[]⟩ w'):sQ 1 f12 K Q' l wx:=by
 have y:=hb.cell 5;have f:=hb.free 5;simp only[eQ,Zx]at y;have xk:=hb.lt;rcases Nat.lt_or_ge 30 m1 with h0|h0
 ·have hs:=hb.set_ 5 (.slice A1 30 c1);have hF:=Fr.set (w:=wx) b 5 (.slice A1 30 c1);have e1:ao (wx.setCell ⟨b,5,none⟩ (.slice A1 30 c1)) b 29 (eQ s Ad A1 md cd (min m1 30) c1):=by rw[Nat.min_eq_right (by omega)];exact hs
  replace e1:=zH e1;replace hF:=zH hF;clear hb hs;have lw:30<=c1:=by omega
  obtain⟨af,ci,gn⟩:=hl;obtain⟨fr,rfl,ai⟩:=an af;rw[uV,ai _ _ ci,ai _ _ gn];clear af ai ci gn;refine df 1 f12 rfl ?_;go_wp2_with fail;exact⟨⟨rfl,rfl,rfl⟩,e1.out,hF.out⟩
 ·have e1:ao wx b 29 (eQ s Ad A1 md cd (min m1 30) c1):=by rw[Nat.min_eq_left (by omega)];exact hb
  have hF:=Fr.refl (fun j=>j=b) wx;replace e1:=zH e1;replace hF:=zH hF;clear hb;obtain⟨af,ci,gn⟩:=hl;obtain⟨fr,rfl,ai⟩:=an af;rw[uV,ai _ _ ci,ai _ _ gn];clear af ai ci gn;refine df 1 f12 rfl ?_;go_wp2_with fail;exact⟨⟨rfl,rfl,rfl⟩,e1.out,hF.out⟩
theorem Yk(hb:ao wx b 29 (eQ s Ad A1 md cd m1 c1))(hc:md<=cd)(hl:Ow l b r)(hK:∀(l':List Value) (w':World),Ow l' b r/\ao w' b 29 (eQ s Ad A1 (min md 2000) cd m1 c1)/\Fr (fun j=>j=b) wx w'->K ⟨l'.toArray,[]⟩ w'):sQ 2 f12 K Q' l wx:=by
 have y:=hb.cell 4;have f:=hb.free 4;simp only[eQ,Zx]at y;have xk:=hb.lt;rcases Nat.lt_or_ge 2000 md with h0|h0
 ·have hs:=hb.set_ 4 (.slice Ad 2000 cd);have hF:=Fr.set (w:=wx) b 4 (.slice Ad 2000 cd);have e1:ao (wx.setCell ⟨b,4,none⟩ (.slice Ad 2000 cd)) b 29 (eQ s Ad A1 (min md 2000) cd m1 c1):=by rw[Nat.min_eq_right (by omega)];exact hs
  replace e1:=zH e1;replace hF:=zH hF;clear hb hs;have lw:2000<=cd:=by omega
  obtain⟨af,ci,gn⟩:=hl;obtain⟨fr,rfl,ai⟩:=an af;rw[uV,ai _ _ ci,ai _ _ gn];clear af ai ci gn;refine df 2 f12 rfl ?_;go_wp2_with fail;exact⟨⟨rfl,rfl,rfl⟩,e1.out,hF.out⟩
 ·have e1:ao wx b 29 (eQ s Ad A1 (min md 2000) cd m1 c1):=by rw[Nat.min_eq_left (by omega)];exact hb
  have hF:=Fr.refl (fun j=>j=b) wx;replace e1:=zH e1;replace hF:=zH hF;clear hb;obtain⟨af,ci,gn⟩:=hl;obtain⟨fr,rfl,ai⟩:=an af;rw[uV,ai _ _ ci,ai _ _ gn];clear af ai ci gn;refine df 2 f12 rfl ?_;go_wp2_with fail;exact⟨⟨rfl,rfl,rfl⟩,e1.out,hF.out⟩
theorem Yl(hb:ao wx b 29 (eQ s Ad A1 md cd m1 c1))(hr:ao wx r 29 nO)(hl:Ow l b r)(hH:∀w',Fr (fun j=>j=r) wx w'->H (.returned (.agg (eQ s Ad A1 md cd m1 c1))) w'):tP 3 f12 H l wx:=by
 obtain⟨y0,y1,y2,y3,y4,y5,-⟩:=hb.cs [0,1,2,3,4,5];simp only[eQ,vi,Zx]at y0 y1 y2 y3 y4 y5;obtain⟨f0,f1,f2,f3,f4,f5,-⟩:=hr.fs [0,1,2,3,4,5];obtain⟨z0,z1,z2,z3,z4,z5,-⟩:=hr.cs [0,1,2,3,4,5];simp only[nO,vi,Zx]at z0 z1 z2 z3 z4 z5;have CO:=hr.lt;obtain⟨wE,dL⟩:=zN (((((((wx.setCell ⟨r,0,none⟩ (.int .i64 s.hard.term)).setCell ⟨r,1,none⟩ (.int .i64 s.hard.vote)).setCell ⟨r,2,none⟩ (.int .i64 s.snap.idx)).setCell ⟨r,3,none⟩ (.int .i64 s.snap.term)).setCell ⟨r,4,none⟩ (.slice Ad md cd)).setCell ⟨r,5,none⟩ (.slice A1 m1 c1)));have hF:Fr (fun j=>j=r) wx wE:=by
  rw[<-dL];have e:∀{a b:World},Fr (fun j=>j=r) wx a->Fr (fun j=>j=r) a b->Fr (fun j=>j=r) wx b:=fun h h'=>h.trans h' fun _ h=>.inl h
  exact e (e (e (e (e (Fr.set r 0 _) (Fr.set r 1 _)) (Fr.set r 2 _)) (Fr.set r 3 _)) (Fr.set r 4 _)) (Fr.set r 5 _)
 have hB:ao wE r 29 (eQ s Ad A1 md cd m1 c1):=by
  rw[<-dL];exact(((((hr.set_ 0 _).set_ 1 _).set_ 2 _).set_ 3 _).set_ 4 _).set_ 5 _
 have Yy:=zH (hH wE hF);replace dL:=zH dL;replace hB:=zH hB;clear hb hr hF hH;obtain⟨af,ci,gn⟩:=hl;obtain⟨fr,rfl,ai⟩:=an af;rw[uV,ai _ _ ci,ai _ _ gn];clear af ai ci gn;refine Fm 3 f12 rfl ?_;go_wp2_with fail;rw[dL.out];replace hB:=hB.out;obtain⟨r0,r1,r2,r3,r4,r5,-⟩:=hB.cs [0,1,2,3,4,5];simp only[eQ,vi,Zx]at r0 r1 r2 r3 r4 r5;exact bodyPost_ret (v:=.agg (eQ s Ad A1 md cd m1 c1)) (by simp[results,results12,go_sem,eQ,r0,r1,r2,r3,r4,r5]) rfl Yy.out
theorem I7(hm:m1<=c1)(hd:md<=cd):Calls prog 12 #[.agg (eQ s Ad A1 md cd m1 c1)] wx fun e w'=>e=.returned (.agg (eQ s Ad A1 (min md 2000) cd (min m1 30) c1))/\Below wx.heap.size wx w':=by
 refine cV (args:=[.agg (eQ s Ad A1 md cd m1 c1)]) 23 func12 (by kernel_rfl) ntmps12 (by simp) fun la jL fQ=>?_
 obtain⟨jo,cA,eY⟩:=gE wx 29 29 (eQ s Ad A1 md cd m1 c1) nO;refine aJ (by kernel_rfl) (Yi ⟨jL,fQ 0 _ rfl⟩ fun l0 j3=>?_);obtain⟨w1,ct⟩:=zN ((wx.alloc (.cells (eQ s Ad A1 md cd m1 c1) 29)).alloc (.cells nO 29));rw[ct]at jo cA eY;rw[ct];refine aJ (by kernel_rfl) (Yj cA hm j3 fun l1 w2 h1=>?_);obtain⟨cD,jS,ir⟩:=h1;refine aJ (by kernel_rfl) (Yk jS hd cD fun l2 w3 h2=>?_);obtain⟨dG,Le,dC⟩:=h2;have hF:=ir.trans dC fun _ h=>.inl h
 have GX:ao w3 (wx.heap.size+1) 29 nO:=(hF.block _ eY.lt (by omega)).trans eY;refine Yl Le GX dG fun w4 jw=>⟨rfl,?_⟩
 have hX:=(hF.mono (X':=fun j=>wx.heap.size<=j) fun j e=>by subst e;exact Nat.le_refl _).trans jw fun j e=>.inl (by subst e;omega)
 exact jo.trans (hX.below (B:=wx.heap.size) (fun _ h=>h) jo.size)
end
def IV:pZ:=⟨⟨0,0⟩,LX,[]⟩
def rQ:Rf:=Rf.mk 1 3 ⟨0,0⟩ ⟨0,0,[]⟩ LX 0 0 0 0 0 [] [] 0 [] Fq gk
theorem NX:Rf.new 1 3 IV=some rQ:=by rfl
def lvK(k w:Int):Rf:={rQ with clock:=k,wait:=w}
def IS(k t:Int):Mg:={dh with kind:=k,frm:=1,tgt:=t,term:=1}
def Ea:Rf:={rQ with role:=1,yes:=[1]}
def pe:Rf:={rQ with role:=2,yes:=[1],hard:=⟨1,1⟩}
def Tj:Mg:={dh with kind:=2,frm:=2,tgt:=1,term:=1}
theorem Sd:Ea.step Tj=(⟨true,false,⟨1,1⟩,[],[],none,[],[IS 3 2,IS 3 3]⟩,pe):=by rfl
def NU:En:=lh 1 1 gc
def IR:Mg:={dh with kind:=4,frm:=3,tgt:=1,term:=1}
theorem NV:eL 3 [1,0,0]=0:=(ju (N:=3) (by decide) _).trans (re (N:=3) (l:=[1,0,0]) (by decide) ⟨.inl rfl,by decide,by decide⟩).symm
theorem NW:eL 3 [1,1,0]=1:=(ju (N:=3) (by decide) _).trans (re (N:=3) (l:=[1,1,0]) (by decide) ⟨.inr ⟨0,by decide,by decide,by decide⟩,by decide,by decide⟩).symm
def gW:Rf:={rQ with role:=3,leader:=1,yes:=[1,3],hard:=⟨1,1⟩,round:=1,track:=⟨0,0,[NU]⟩,peers:=[⟨1,0,0,0⟩,⟨1,0,0,0⟩,⟨1,0,0,0⟩,⟨1,0,0,0⟩]}
def Tk(s:Int):Mg:={dh with kind:=5,frm:=1,tgt:=s,term:=1,entries:=[NU],round:=1}
def zd:Ot:=⟨true,false,⟨0,0⟩,[NU],[],none,[],[Tk 2,Tk 3]⟩
theorem Sf:(({pe with yes:=[1,3]}:Rf).leads1.all)={gW with out:=zd}:=by rfl
theorem Sg:({gW with out:=zd}:Rf).agrees={gW with out:=zd}:=by
 unfold Rf.agrees;have e:({gW with out:=zd}:Rf).agreesTo=0:=NV;rw[e];rfl
theorem Sh:pe.does IR={gW with out:=zd}:=by
 have e:pe.does IR=({pe with yes:=[1,3]}:Rf).leads1.all.agrees:=by rfl
 rw[e,Sf,Sg]
theorem Se:pe.step IR=({zd with hard:=⟨1,1⟩},gW):=by
 have e:pe.step IR=(if(pe.does IR).role=3 then(pe.does IR).reads else pe.does IR).tell:=by rfl
 rw[e,Sh];rfl
def xB:Mg:={dh with kind:=6,frm:=2,tgt:=1,term:=1,idx:=1}
def V3:Rf:={gW with commit:=1,peers:=[⟨1,0,0,0⟩,⟨1,0,0,0⟩,⟨2,1,0,0⟩,⟨1,0,0,0⟩],out:={gk with commits:=[NU]}}
theorem LK:gW.does xB=V3:=by
 have e:gW.does xB=({gW with peers:=[⟨1,0,0,0⟩,⟨1,0,0,0⟩,⟨2,1,0,0⟩,⟨1,0,0,0⟩]}:Rf).agrees:=by rfl
 have e2:({gW with peers:=[⟨1,0,0,0⟩,⟨1,0,0,0⟩,⟨2,1,0,0⟩,⟨1,0,0,0⟩]}:Rf).agreesTo=1:=NW;rw[e];unfold Rf.agrees;rw[e2];rfl
theorem V4:(gW.step xB).1={gk with commits:=[NU]}:=by
 have e:gW.step xB=(if(gW.does xB).role=3 then(gW.does xB).reads else gW.does xB).tell:=by rfl
 rw[e,LK];rfl
theorem Si:(gW.step xB).2.role=3:=by
 have e:gW.step xB=(if(gW.does xB).role=3 then(gW.does xB).reads else gW.does xB).tell:=by rfl
 rw[e,LK];rfl
def Tl(k:Nat):Rf:=if k=0 then rQ else if k<=9 then lvK k 10 else Ea
def CV(k:Nat):Ot:=if k=10 then {gk with msgs:=[IS 1 2,IS 1 3]}else gk
theorem zf:∀k,k<10->(Tl k).tick 0=(CV (k+1),Tl (k+1))
 | 0,_=>rfl
 | 1,_=>rfl
 | 2,_=>rfl
 | 3,_=>rfl
 | 4,_=>rfl
 | 5,_=>rfl
 | 6,_=>rfl
 | 7,_=>rfl
 | 8,_=>rfl
 | 9,_=>rfl
 | k+10,h=>absurd h (by omega)
theorem NY:Ok 1 0 rQ:=(zn (id:=1) (n:=3) (s:=IV) (by unfold jN;decide) rfl).1
theorem Hi:∀k,k<=10->Ok (1+11*k) 0 (Tl k)
 | 0,_=>NY
 | k+1,h=>by
  have h1:=(Hi k (by omega)).ticked 0;rw[zf k (by omega)]at h1;exact h1.mono (by omega) zl
def AM(aa:Nat->Nat)(w:World)(p:Nat)(O:Ot):Prop:=∃X,gq aa 20 w O X/\ao w p 49 (be O X)/\aa p=30
def qP(w0:World)(ga:Nat)(R:Rf)(L:List (Nat×Ot))(w:World):Prop:=∃aa v,ax aa 1 w ga R v/\(∀z∈L,AM aa w z.1 z.2)/\(∀j,j<w0.heap.size->aa j=0)/\Below w0.heap.size w0 w
section
variable {aa ak:Nat->Nat}{w w' w0:World}{ga p:Nat}{R R':Rf}{O:Ot}{L:List (Nat×Ot)}{X:Ox}{v:Rw}
theorem AM.leaves{Z:Nat->Prop}(h:AM aa w p O)(hl:aT Z aa ak w w')(hZ:∀j,j<w.heap.size->(aa j=20\/aa j=30)->¬Z j):AM ak w' p O:=by
 obtain⟨X,h1,h2,h3⟩:=h;obtain⟨h4,h5⟩:=(hl.keeps 30 fun j hj e=>hZ j hj (.inr e)).blk h2 h3;exact⟨X,(hl.keeps 20 fun j hj e=>hZ j hj (.inl e)).outX h1,h4,h5⟩
theorem qP.act(hL:∀z∈L,AM aa w z.1 z.2)(h0:∀j,j<w0.heap.size->aa j=0)(hB:Below w0.heap.size w0 w)(hT:dI aa 1 20 w ga O R' X w'):qP w0 ga R' ((w'.heap.size,O)::L) (w'.alloc (.cells (be O X) 49)):=by
 obtain⟨ak,v',q1,q2,q3,q4,q5⟩:=hT;have hl:aT (bw aa 1) aa ak w w':=aT.of_fr q5 fun j hj hn=>⟨q3 j hj hn,fun hm=>hn ⟨hm.1,by have:=hm.2;omega⟩⟩
 have hb:Below w'.heap.size w' (w'.alloc (.cells (be O X) 49)):=zb.alloc zl _;have hn:=aT.new (aa:=ak) 30 hb;have Vy:=hB.size;have lz:∀j,j<w0.heap.size->¬bw aa 1 j:=fun j hj hm=>by have:=h0 j hj;unfold bw at hm;omega
 refine⟨_,v',q1.fresh' 30 hb,fun z hz=>?_,fun j hj=>?_,?_⟩
 ·rcases List.mem_cons.1 hz with rfl|hz
  ·exact⟨X,(hn.keeps 20 fun _ _ _ hf=>hf).outX q2,ao.new _ _ _,az zl⟩
  ·exact((hL z hz).leaves hl fun j _ e hm=>by unfold bw at hm;omega).leaves hn fun _ _ _ hf=>hf
 ·rw[ac (by have:=q5.size;omega)];exact(q3 j (by omega) (lz j hj)).trans (h0 j hj)
 ·have h1:Below w0.heap.size w0 w':=⟨q5.os.trans hB.os,q5.tape.trans hB.tape,q5.output.trans hB.output,Nat.le_trans hB.size q5.size,fun j hj=>(q5.block j (by omega) fun hm=>lz j hj ⟨hm.1,by have:=hm.2;omega⟩).trans (hB.block j hj)⟩;exact ab h1 hb zl
theorem Cl{O0:Ot}{X0:Ox}{T:TypeId}(O:Ot)(X:Ox)(h:ao w p T (be O0 X0)):ao (cE w p O X) p T (be O X):=by
 have s:=((((((((h.set_ 0 (.bool O.save)).set_ 1 (.bool O.reset)).set_ 2 (.int .i64 O.hard.term)).set_ 3 (.int .i64 O.hard.vote)).set_ 4 (.slice X.ea O.entries.length X.ec)).set_ 5 (.slice X.ca O.commits.length X.cc)).set_ 6 (.pointer X.sp)).set_ 7 (.slice X.ra O.reads.length X.rc)).set_ 8 (.slice X.ma O.msgs.length X.mc);simp only[be,Zy]at s;exact s
theorem qP.tick{w2:World}{O0:Ot}(h:AM aa w p O0)(h0:∀j,j<w0.heap.size->aa j=0)(hB:Below w0.heap.size w0 w)(hT:dI aa 1 20 w ga O R' X w')(hw:cE w' p O X=w2):qP w0 ga R' [(p,O)] w2:=by
 obtain⟨X0,_,h2,h3⟩:=h;obtain⟨ak,v',q1,q2,q3,q4,q5⟩:=hT;have e:ak p=30:=(q3 p h2.lt (by unfold bw;omega)).trans h3;have h5:ao w' p 49 (be O0 X0):=(q5.block p h2.lt (by unfold aS;omega)).trans h2;have hF:=kS w' p O X;rw[hw]at hF;have Vy:=hB.size;have lz:∀j,j<w0.heap.size->¬bw aa 1 j:=fun j hj hm=>by have:=h0 j hj;unfold bw at hm;omega
 refine⟨ak,v',q1.keep fun j hm hj=>hF.block j hj fun ej=>?_,fun z hz=>?_,fun j hj=>(q3 j (by omega) (lz j hj)).trans (h0 j hj),?_⟩
 ·subst ej;unfold bw at hm;omega
 ·rcases List.mem_cons.1 hz with rfl|hz
  ·refine⟨X,q2.keep fun j hm hj=>hF.block j hj fun ej=>?_,hw▸Cl O X h5,e⟩;subst ej;omega
  ·cases hz
 ·have h1:Below w0.heap.size w0 w':=⟨q5.os.trans hB.os,q5.tape.trans hB.tape,q5.output.trans hB.output,Nat.le_trans hB.size q5.size,fun j hj=>(q5.block j (by omega) fun hm=>lz j hj ⟨hm.1,by have:=hm.2;omega⟩).trans (hB.block j hj)⟩;exact⟨hF.os.trans h1.os,hF.tape.trans h1.tape,hF.output.trans h1.output,Nat.le_trans h1.size hF.size,fun j hj=>(hF.block j (Nat.lt_of_lt_of_le hj h1.size) fun ej=>by subst ej;have:=h0 j hj;omega).trans (h1.block j hj)⟩
theorem AM.after{O0:Ot}(h:AM aa w p O0)(hT:dI aa 1 20 w ga O R' X w'):∃X0,ao w' p 49 (be O0 X0):=by
 obtain⟨X0,_,h2,h3⟩:=h;obtain⟨ak,v',q1,q2,q3,q4,q5⟩:=hT;exact⟨X0,(q5.block p h2.lt (by unfold aS;omega)).trans h2⟩
theorem AM.below{O0:Ot}(h:AM aa w p O0)(hb:Below w.heap.size w w'):AM aa w' p O0:=h.leaves (aT.same aa hb) fun _ _ _ hf=>hf
def tN:Ot:=⟨true,false,⟨1,1⟩,[],[],none,[],[IS 3 2,IS 3 3]⟩
def ze:Ot:={zd with hard:=⟨1,1⟩}
def D9:Ot:={gk with commits:=[NU]}
def Hh:Rf:=(gW.step xB).2
theorem Hj:Ok 200 0 Ea:=(Hi 10 (by omega)).mono (by omega) (by omega)
theorem Hk:Ok 300 0 pe:=by
 have h:=Hj.stepped (by omega) Tj;rw[Sd]at h;exact h.mono (by omega) (by omega)
theorem Hl:Ok 400 0 gW:=by
 have h:=Hk.stepped (by omega) IR;rw[Se]at h;exact h.mono (by omega) (by omega)
theorem NZ:Ok 500 0 Hh:=(Hl.stepped (by omega) xB).mono (by omega) (by omega)
theorem Sj:gW.step xB=(D9,Hh):=by
 have h:=V4;rw[<-Prod.eta (gW.step xB),h];rfl
theorem uH{i q n c:Nat}{A:Option Addr}{m:Mg}{ms:List Mg}(h:gI aa i q w (.slice A n c) (m::ms)):∃g,A=some ⟨g,0,none⟩/\n=ms.length+1/\n<=c/\w.cell? ⟨g,0,none⟩=some (.int .i64 m.kind)/\w.cell? ⟨g,3,none⟩=some (.int .i64 m.term)/\w.cell? ⟨g,7,none⟩=some (.int .i64 m.round)/\g<w.heap.size:=by
 obtain⟨zs,h1,_,h3⟩:=h;obtain⟨g,c0,e,h4,_,h5,h6,_⟩:=h1.at_ (by simp);injection e with e1 e2 e3;cases zs with
 | nil=>cases h3
 | cons z zs=>
  simp only[List.map_cons,List.cons.injEq]at h3;rw[List.flatMap_cons]at h6;have hz:∀j u,(zj z)[j]?=some u->w.cell? ⟨g,j,none⟩=some u:=fun j u hu=>h6 j u (by rw[List.getElem?_append_left ((List.getElem?_eq_some_iff.1 hu).1)];exact hu)
  rw[<-h3.1];exact⟨g,e1,by rw[e2];rfl,by rw[e2,e3];exact h4,hz 0 _ rfl,hz 3 _ rfl,hz 7 _ rfl,h5⟩
theorem Dq{i q n c:Nat}{A:Option Addr}{m:En}{ms:List En}(h:dQ aa i q w (.slice A n c) (m::ms)):∃g,A=some ⟨g,0,none⟩/\n=ms.length+1/\n<=c/\w.cell? ⟨g,0,none⟩=some (.int .i64 m.idx)/\g<w.heap.size:=by
 obtain⟨zs,h1,_,h3⟩:=h;obtain⟨g,c0,e,h4,_,h5,h6,_⟩:=h1.at_ (by simp);injection e with e1 e2 e3;cases zs with
 | nil=>cases h3
 | cons z zs=>
  simp only[List.map_cons,List.cons.injEq]at h3;rw[List.flatMap_cons]at h6;have hz:∀j u,(cl z)[j]?=some u->w.cell? ⟨g,j,none⟩=some u:=fun j u hu=>h6 j u (by rw[List.getElem?_append_left ((List.getElem?_eq_some_iff.1 hu).1)];exact hu)
  rw[<-h3.1];exact⟨g,e1,by rw[e2];rfl,by rw[e2,e3];exact h4,hz 0 _ rfl,h5⟩
theorem V5(h:AM aa w p (CV 10)):∃q c,2<=c/\w.cell? ⟨p,8,none⟩=some (.slice (some ⟨q,0,none⟩) 2 c)/\w.cell? ⟨q,0,none⟩=some (.int .i64 1)/\w.cell? ⟨q,3,none⟩=some (.int .i64 1)/\p<w.heap.size/\q<w.heap.size:=by
 obtain⟨X,h1,h2,_⟩:=h;obtain⟨q,e1,_,e3,e4,e5,_,e6⟩:=uH (m:=IS 1 2) (ms:=[IS 1 3]) h1.m;exact⟨q,X.mc,e3,(h2.cell 8).trans (by show some (Value.slice X.ma 2 X.mc)=_;rw[e1]),e4,e5,h2.lt,e6⟩
theorem V6(h:AM aa w p tN):∃A c,w.cell? ⟨p,0,none⟩=some (.bool true)/\w.cell? ⟨p,2,none⟩=some (.int .i64 1)/\w.cell? ⟨p,3,none⟩=some (.int .i64 1)/\w.cell? ⟨p,8,none⟩=some (.slice A 2 c):=by
 obtain⟨X,h1,h2,_⟩:=h;exact⟨X.ma,X.mc,h2.cell 0,h2.cell 2,h2.cell 3,h2.cell 8⟩
theorem V7(h:AM aa w p ze):∃A d q c,2<=c/\w.cell? ⟨p,4,none⟩=some (.slice A 1 d)/\w.cell? ⟨p,8,none⟩=some (.slice (some ⟨q,0,none⟩) 2 c)/\w.cell? ⟨q,7,none⟩=some (.int .i64 1):=by
 obtain⟨X,h1,h2,_⟩:=h;obtain⟨q,e1,_,e3,e4,e5,e7,e6⟩:=uH (m:=Tk 2) (ms:=[Tk 3]) h1.m;exact⟨X.ea,X.ec,q,X.mc,e3,h2.cell 4,(h2.cell 8).trans (by show some (Value.slice X.ma 2 X.mc)=_;rw[e1]),e7⟩
theorem V8(h:AM aa w p D9):∃q c,1<=c/\w.cell? ⟨p,5,none⟩=some (.slice (some ⟨q,0,none⟩) 1 c)/\w.cell? ⟨q,0,none⟩=some (.int .i64 1):=by
 obtain⟨X,h1,h2,_⟩:=h;obtain⟨q,e1,_,e3,e4,e6⟩:=Dq (m:=NU) (ms:=[]) h1.c;exact⟨q,X.cc,e3,(h2.cell 5).trans (by show some (Value.slice X.ca 1 X.cc)=_;rw[e1]),e4⟩
end
def Tn(l:List Value):Prop:=l.length=100
def Oz(l:List Value)(ga:Nat):Prop:=l.length=100/\l[1]?=some (.pointer (some ⟨ga,0,none⟩))
def Su(l:List Value)(ga p:Nat):Prop:=l.length=100/\l[1]?=some (.pointer (some ⟨ga,0,none⟩))/\l[2]?=some (.pointer (some ⟨p,0,none⟩))
def Wz(l:List Value)(ga p4:Nat):Prop:=l.length=100/\l[1]?=some (.pointer (some ⟨ga,0,none⟩))/\l[4]?=some (.pointer (some ⟨p4,0,none⟩))
def WA(l:List Value)(ga p4 p5:Nat):Prop:=l.length=100/\l[1]?=some (.pointer (some ⟨ga,0,none⟩))/\l[4]?=some (.pointer (some ⟨p4,0,none⟩))/\l[5]?=some (.pointer (some ⟨p5,0,none⟩))
def WB(l:List Value)(ga p4 p5 p6:Nat):Prop:=l.length=100/\l[1]?=some (.pointer (some ⟨ga,0,none⟩))/\l[4]?=some (.pointer (some ⟨p4,0,none⟩))/\l[5]?=some (.pointer (some ⟨p5,0,none⟩))/\l[6]?=some (.pointer (some ⟨p6,0,none⟩))
section
variable {ga p p4 p5 p6:Nat}{wx w' w0:World}{K:Act->World->Prop}{Q':Exit->Act->World->Prop}{l:List Value}{H:Ending->World->Prop}
theorem lv0(hl:Tn l)(hK:∀l':List Value,Tn l'->K ⟨l'.toArray,[]⟩ wx):sP 0 f15 K H l wx:=by
 have hl:l.length=100/\True:=⟨hl,trivial⟩;obtain⟨af,-⟩:=hl;obtain⟨fr,rfl,ai⟩:=an af;rw[jO];clear af ai;refine oK (o:=Tm 0 (bv f15)) rfl ?_;go_wp2_with fail;rfl
theorem lv1(hl:Tn l)(hK:∀(l':List Value) (ga:Nat) (w':World),Oz l' ga/\qP wx ga rQ [] w'->K ⟨l'.toArray,[]⟩ w'):sP 1 f15 K H l wx:=by
 have gm:=CW (aa:=fun _=>0) (w:=wx) 1 0 1 3 IV none none 0 0 0 0 (cP.nil _ _ _) (bP.nil _ _ _) (.inl (by omega)) (by omega) rfl (fun j _ hm=>by have h1:=hm.1;simp at h1);rw[NX]at gm;unfold IV LX at gm;obtain⟨af,-⟩:=(⟨hl,trivial⟩:l.length=100/\True);obtain⟨fr,rfl,ai⟩:=an af;rw[jO];clear af ai;refine oK (o:=Tm 1 (bv f15)) rfl ?_;go_wp2_with fail;refine gm.mono ?_;rintro e w1 ⟨br,h1⟩;rcases h1 with⟨h1,_⟩|⟨R,g,ak,v',h1,rfl,hR,WN,_⟩
 ·cases h1
 ·injection h1 with h1;subst h1;have hS:=zH (show qP wx g rQ [] w1 from⟨ak,v',hR,(fun z hz=>by cases hz),WN,br⟩);clear br gm hR WN;go_wp2_with fail;exact hK _ g _ ⟨⟨rfl,rfl⟩,hS.out⟩
theorem lv2(hl:Oz l ga)(hK:∀l':List Value,Oz l' ga->K ⟨l'.toArray,[]⟩ wx):sP 2 f15 K H l wx:=by
 obtain⟨af,ci⟩:=hl;obtain⟨fr,rfl,ai⟩:=an af;rw[jO,ai _ _ ci];clear af ai ci;refine df 2 f15 rfl ?_;go_wp2_with fail;exact⟨rfl,rfl⟩
theorem lv3(hl:Oz l ga)(hK:∀(l':List Value) (w':World),Su l' ga wx.heap.size/\w'=wx.alloc (.cells bL 49)->K ⟨l'.toArray,[]⟩ w'):sP 3 f15 K H l wx:=by
 unfold bL at hK;obtain⟨af,ci⟩:=hl;obtain⟨fr,rfl,ai⟩:=an af;rw[jO,ai _ _ ci];clear af ai ci;refine df 3 f15 rfl ?_;go_wp2_with fail;exact⟨rfl,rfl,rfl⟩
theorem lv4(hS:qP w0 ga rQ [(p,gk)] wx)(hl:Su l ga p)(hK:∀(l':List Value) (w':World),Su l' ga p/\qP w0 ga Ea [(p,CV 10)] w'->K ⟨l'.toArray,[]⟩ w'):sP 4 f15 K H l wx:=by
 replace hS:=zH hS;obtain⟨af,ci,gn⟩:=hl;obtain⟨fr,rfl,ai⟩:=an af;rw[jO,ai _ _ ci,ai _ _ gn];clear af ai ci gn;refine df 4 f15 rfl ?_;go_wp2_with fail
 go_loopw [3] (fun i wr=>∃k:Nat,k<=10/\i=.int .i64 k/\qP w0 ga (Tl k) [(p,CV k)] wr) (fun i _=>10-(intOf i).toNat)
 case atStart=>exact⟨0,Nat.zero_le _,rfl,hS.out⟩
 case round=>
  obtain⟨k,hk,rfl,hs⟩:=hrel;by_cases aU:k<10
  ·obtain⟨aa,v,hR,hX,yc,tx⟩:=hs;have hX:=hX _ (List.mem_cons_self ..);have cR:=(Hi k hk).mono (K':=200) (M':=0) (by omega) zl;have ht:=Aj 20 0 hR cR (by omega) (by omega) (by omega) (by omega) (by omega);rw[zf k aU]at ht;have aO:=zH (show 10-(k+1)<10-k by omega);unfold be at ht;obtain⟨X0,Mr,CD,rq⟩:=id hX;have gM:=CD.free;replace hX:=zH hX;replace yc:=zH yc;replace tx:=zH tx;clear hR Mr cR CD;go_wp2_with fail;refine ht.mono ?_;rintro e w1 ⟨X,rfl,hT⟩;obtain⟨w2,cZ⟩:=zN (cE w1 p (CV (k+1)) X);have ki:=zH (qP.tick hX.out yc.out tx.out hT cZ);obtain⟨X1,FX⟩:=hX.out.after hT;obtain⟨y0,y1,y2,y3,y4,y5,y6,y7,y8,-⟩:=FX.cs [0,1,2,3,4,5,6,7,8];simp only[be,vi,Zx]at y0 y1 y2 y3 y4 y5 y6 y7 y8;obtain⟨f0,f1,f2,f3,f4,f5,f6,f7,f8,-⟩:=FX.fs [0,1,2,3,4,5,6,7,8];have nA:=FX.lt;replace cZ:=zH cZ;clear hT ht FX;go_wp2_with fail;exact⟨⟨k+1,aU,by go_num,by show qP _ _ _ _ (cE w1 p (CV (k+1)) X);rw[cZ.out];exact ki.out⟩,by have h9:=aO.out;simp[intOf];omega⟩
  ·obtain rfl:k=10:=by omega
   have hs:=zH hs;go_wp2_with fail;exact⟨⟨rfl,rfl,rfl⟩,hs.out⟩
theorem lv5(hS:qP w0 ga Ea [(p,CV 10)] wx)(hl:Su l ga p)(hK:∀l':List Value,Oz l' ga->K ⟨l'.toArray,[]⟩ wx):sP 5 f15 K H l wx:=by
 obtain⟨aa,v,hR,hX,_,_⟩:=hS;obtain⟨q,c,hc,y8,z0,z3,hp,hq⟩:=V5 (hX _ (List.mem_cons_self ..));clear hR hX;obtain⟨af,ci,gn⟩:=hl;obtain⟨fr,rfl,ai⟩:=an af;rw[jO,ai _ _ ci,ai _ _ gn];clear af ai ci gn;refine df 5 f15 rfl ?_;go_wp2_with fail;exact⟨rfl,rfl⟩
theorem lv6(hS:qP w0 ga Ea [(p,CV 10)] wx)(hl:Oz l ga)(hK:∀(l':List Value) (pn:Nat) (w':World),Wz l' ga pn/\qP w0 ga pe ((pn,tN)::[(p,CV 10)]) w'->K ⟨l'.toArray,[]⟩ w'):sP 6 f15 K H l wx:=by
 obtain⟨aa,v,hR,hX,yc,tx⟩:=hS;have ht:=oH 20 Tj none none 0 0 0 0 0 hR Hj (by omega) (by omega) (by omega) (by omega) (.inl (by omega)) (cP.nil _ _ _) (bP.nil _ _ _) rfl rfl;rw[Sd]at ht;simp only[eI,Tj,dh,vi]at ht;have hX:=zH hX;replace yc:=zH yc;replace tx:=zH tx;obtain⟨O,hO⟩:=zN (tN);rw[show(⟨true,false,⟨1,1⟩,[],[],none,[],[IS 3 2,IS 3 3]⟩:Ot)=tN from rfl]at ht;rw[hO]at ht hK;unfold be at ht;clear hR;obtain⟨af,ci⟩:=hl;obtain⟨fr,rfl,ai⟩:=an af;rw[jO,ai _ _ ci];clear af ai ci;refine df 6 f15 rfl ?_;go_wp2_with fail;refine ht.mono ?_;rintro e w1 ⟨X,rfl,hT⟩;have ki:=zH (qP.act hX.out yc.out tx.out hT);clear hT ht;go_wp2_with fail;exact hK _ _ _ ⟨⟨rfl,rfl,rfl⟩,ki.out⟩
theorem lv7(hS:qP w0 ga pe [(p4,tN),(p,CV 10)] wx)(hl:Wz l ga p4)(hK:∀(l':List Value) (pn:Nat) (w':World),WA l' ga p4 pn/\qP w0 ga gW ((pn,ze)::[(p4,tN),(p,CV 10)]) w'->K ⟨l'.toArray,[]⟩ w'):sP 7 f15 K H l wx:=by
 obtain⟨aa,v,hR,hX,yc,tx⟩:=hS;have ht:=oH 20 IR none none 0 0 0 0 0 hR Hk (by omega) (by omega) (by omega) (by omega) (.inl (by omega)) (cP.nil _ _ _) (bP.nil _ _ _) rfl rfl;rw[Se]at ht;simp only[eI,IR,dh,vi]at ht;have hX:=zH hX;replace yc:=zH yc;replace tx:=zH tx;obtain⟨O,hO⟩:=zN (ze);rw[show({zd with hard:=⟨1,1⟩}:Ot)=ze from rfl]at ht;rw[hO]at ht hK;unfold be at ht;clear hR;obtain⟨af,ci,bW⟩:=hl;obtain⟨fr,rfl,ai⟩:=an af;rw[jO,ai _ _ ci,ai _ _ bW];clear af ai ci bW;refine df 7 f15 rfl ?_;go_wp2_with fail;refine ht.mono ?_;rintro e w1 ⟨X,rfl,hT⟩;have ki:=zH (qP.act hX.out yc.out tx.out hT);clear hT ht;go_wp2_with fail;exact hK _ _ _ ⟨⟨rfl,rfl,rfl,rfl⟩,ki.out⟩
theorem lv8(hS:qP w0 ga gW [(p5,ze),(p4,tN),(p,CV 10)] wx)(hl:WA l ga p4 p5)(hK:∀(l':List Value) (pn:Nat) (w':World),WB l' ga p4 p5 pn/\qP w0 ga Hh ((pn,D9)::[(p5,ze),(p4,tN),(p,CV 10)]) w'->K ⟨l'.toArray,[]⟩ w'):sP 8 f15 K H l wx:=by
 obtain⟨aa,v,hR,hX,yc,tx⟩:=hS;have ht:=oH 20 xB none none 0 0 0 0 0 hR Hl (by omega) (by omega) (by omega) (by omega) (.inl (by omega)) (cP.nil _ _ _) (bP.nil _ _ _) rfl rfl;rw[Sj]at ht;simp only[eI,xB,dh,vi]at ht;have hX:=zH hX;replace yc:=zH yc;replace tx:=zH tx;obtain⟨O,hO⟩:=zN (D9)
 skip
 rw[hO]at ht hK;unfold be at ht;clear hR;obtain⟨af,ci,bW,dK⟩:=hl;obtain⟨fr,rfl,ai⟩:=an af;rw[jO,ai _ _ ci,ai _ _ bW,ai _ _ dK];clear af ai ci bW dK;refine df 8 f15 rfl ?_;go_wp2_with fail;refine ht.mono ?_;rintro e w1 ⟨X,rfl,hT⟩;have ki:=zH (qP.act hX.out yc.out tx.out hT);clear hT ht;go_wp2_with fail;exact hK _ _ _ ⟨⟨rfl,rfl,rfl,rfl,rfl⟩,ki.out⟩
theorem lv9(hS:qP w0 ga Hh [(p6,D9),(p5,ze),(p4,tN),(p,CV 10)] wx)(hl:WB l ga p4 p5 p6)(hH:∀w',Below w0.heap.size w0 w'->H (.returned (.bool true)) w'):tP 9 f15 H l wx:=by
 obtain⟨aa,v,hR,hX,_,tx⟩:=hS;have h6:=hX (p6,D9) (by simp);have h5:=hX (p5,ze) (by simp);have h4:=hX (p4,tN) (by simp);have aD:=sJ hR (by have:=NZ.trk;omega);have Lr:Hh.role=3:=Si;unfold uX at aD;rw[Lr]at aD;obtain⟨A,c4,y0,y2,y3,y8⟩:=V6 h4;have OQ:∀(a b c d e f:Int) (w:World),(Instr.field 84 (.agg #[.int .i64 3,.int .i64 a,.int .i64 b,.int .i64 c,.int .i64 d,.int .i64 e,.int .i64 f]) 0).run prog w=.ok (.int .i64 3) w:=fun _ _ _ _ _ _ _=>by kernel_rfl
 replace hH:=zH hH;clear hR hX Lr;obtain⟨af,ci,bW,dK,fM⟩:=hl;obtain⟨fr,rfl,ai⟩:=an af;rw[jO,ai _ _ ci,ai _ _ bW,ai _ _ dK,ai _ _ fM];clear af ai ci bW dK fM;refine Fm 9 f15 rfl ?_;go_wp2_with fail;refine aD.mono ?_;rintro e w1 ⟨rfl,br⟩;have WT:=zH (ab tx br zl);obtain⟨A5,d5,q5,c5,OJ,r4,r8,r7⟩:=V7 (h5.below br);obtain⟨q6,c6,hc6,s5,s0⟩:=V8 (h6.below br);clear aD h4 h5 h6 br tx y0 y2 y3 y8;go_wp2_with fail;exact hH.out _ WT.out
theorem uG:Calls prog 15 #[] wx fun e w'=>e=.returned (.bool true)/\Below wx.heap.size wx w':=by
 refine cV (args:=[]) 100 func15 (by kernel_rfl) ntmps15 (by simp) fun la jL fQ=>?_
 refine aJ (by kernel_rfl) (lv0 jL fun l0 j3=>?_);refine aJ (by kernel_rfl) (lv1 j3 fun l1 ga w1 h1=>?_);obtain⟨cD,xh⟩:=h1;refine aJ (by kernel_rfl) (lv2 cD fun l2 dG=>?_);refine aJ (by kernel_rfl) (lv3 dG fun l3 w3 h3=>?_);obtain⟨lx,rfl⟩:=h3;have iE:qP wx ga rQ [(w1.heap.size,gk)] (w1.alloc (.cells bL 49)):=by
  obtain⟨aa,v,hR,_,yc,tx⟩:=xh;have hb:Below w1.heap.size w1 (w1.alloc (.cells bL 49)):=zb.alloc zl _;refine⟨_,v,hR.fresh' 30 hb,fun z hz=>?_,fun j hj=>(ac (Nat.lt_of_lt_of_le hj tx.size)).trans (yc j hj),ab tx hb zl⟩;rcases List.mem_cons.1 hz with rfl|hz
  ·exact⟨pX,gq.zero _ _ _,ao.new _ _ _,az zl⟩
  ·cases hz
 refine aJ (by kernel_rfl) (lv4 iE lx fun l4 w4 h4=>?_);obtain⟨od,DA⟩:=h4;refine aJ (by kernel_rfl) (lv5 DA od fun l5 oY=>?_);refine aJ (by kernel_rfl) (lv6 DA oY fun l6 p4 w6 h6=>?_);refine aJ (by kernel_rfl) (lv7 h6.2 h6.1 fun l7 p5 w7 h7=>?_);refine aJ (by kernel_rfl) (lv8 h7.2 h7.1 fun l8 p6 w8 h8=>?_);exact lv9 h8.2 h8.1 fun _ hb=>⟨rfl,hb⟩
end
theorem HB{id n:Int}{s:pZ}{R:Rf}(h:Rf.new id n s=some R)(he:s.entries.length<=30):iP 31 R:=by
 by_cases hm:jN id n s
 ·have h1:=hm.1;have h2:=hm.2.1;obtain⟨N,rfl⟩:∃N:Nat,n=N:=⟨n.toNat,by omega⟩;obtain⟨I,rfl⟩:∃I:Nat,id=I:=⟨id.toNat,by omega⟩;obtain⟨p,hp⟩:=zN (bD.takeF (bD.mk s.snap.idx s.snap.term []) s.snap.idx s.snap.term (s.entries.filter fun x=>decide (s.snap.idx<x.idx)));have e:=wI hm hp;rw[e]at h;have h3:=zn hm hp;have h4:=Ec hm p.2;split at h
  ·cases h
  ·injection h with h;subst h;exact⟨h3.1.mono (by omega) zl,h3.2,h4⟩
 ·rw[rY hm]at h;cases h
def IW(z:Ac×As):List Value:=(lG z.1 z.2).toList
theorem nT(z:Ac×As):(IW z).length=20:=rfl
structure mY(aa:Nat->Nat)(q:Nat)(w:World)(A:Option Addr)(m:Nat)(zs:List (Ac×As)):Prop where
 r:cn w 20 A m (zs.flatMap IW)
 a:0<m->∀ad,A=some ad->aa ad.block=q
 h:∀z∈zs,Fo aa q w z.1 z.2
section
variable {aa ak:Nat->Nat}{w w' w1 w2:World}{b c q ga gb m:Nat}{A:Option Addr}{zs:List (Ac×As)}{R:Rf}{v:Rw}
theorem mY.len(h:mY aa q w A m zs):zs.length=m:=by
 have h1:=h.r.1;rw[eO nT]at h1;omega
theorem cv.acts(hk:cv q aa ak w w')(h:mY aa q w A m zs):mY ak q w' A m zs:=
 ⟨cn.stay (S:=fun j=>aa j=q) h.r (fun h0 ad e=>h.a h0 ad e) fun j hj hl=>(hk.stay j hl fun hn=>hn hj).2,
  fun h0 ad e=>(hk.stay _ (cn.lt h.r h0 (by omega) e) fun hn=>hn (h.a h0 ad e)).1.trans (h.a h0 ad e),fun z hz=>hk.act (h.h z hz)⟩
theorem mY.at_(h:mY aa q w A m zs){k:Nat}(hk:k<m):∃ad z,A=some ad/\zs[k]?=some z/\Fo aa q w z.1 z.2/\(ad.add (k*20)).block<w.heap.size/\
  (∀u,(IW z)[0]?=some u->w.cell? (ad.add (k*20))=some u)/\∀i u,0<i->i<20->(IW z)[i]?=some u->w.cell? ⟨(ad.add (k*20)).block,(ad.add (k*20)).off+i,none⟩=some u:=by
 have hl:=h.len;obtain⟨ad,e,hc⟩:=h.r.2 (by omega);have hz:zs[k]?=some (zs[k]'(by omega)):=List.getElem?_eq_getElem (by omega);have key:∀i u,i<20->(IW (zs[k]'(by omega)))[i]?=some u->w.cell? (ad.add (k*20+i))=some u:=fun i u hi hu=>hc _ _ ((dW nT hi hz).trans hu)
 refine⟨ad,zs[k]'(by omega),e,hz,h.h _ (List.getElem_mem _),(show(ad.add (k*20)).block=ad.block by unfold Addr.add;split <;> rfl)▸cn.lt h.r (by omega) (by omega) e,fun u hu=>key 0 u (by omega) hu,fun i u h0 hi hu=>?_⟩;have h2:=key i u hi hu;rw[<-eK,io _ _ (by omega)]at h2;exact h2
def EO(aa:Nat->Nat)(b c B:Nat)(j:Nat):Nat:=if b<aa j/\aa j<=b+13 then aa j else if j<B then aa j else c+10
theorem Io{B j:Nat}(h:j<B):EO aa b c B j=aa j:=by
 unfold EO;split
 ·rfl
 ·first|rfl|rw[if_pos h]
theorem EQ{B:Nat}(h:ax aa b w ga R v):ax (EO aa b c B) b w ga R v:=h.relabel fun j _ hm=>if_pos hm
theorem EP{B:Nat}(hs:vp b c q)(h0:∀j,j<B->aa j=q\/aa j=c+10)(j:Nat):¬aX (EO aa b c B) c j:=by
 unfold aX EO;have:=hs.1;have:=hs.2;split
 ·omega
 ·split
  ·rename_i hj;have:=h0 j hj;omega
  ·omega
theorem FD{id n:Int}{s:pZ}(hs:vp b c q){pa:Option Addr}(h1:mq aa b w (Rf.new id n s) (.returned (.pointer pa)) w1) :
  (Rf.new id n s=none/\pa=none/\cv q aa aa w w1)\/∃R g ag v,Rf.new id n s=some R/\pa=some ⟨g,0,none⟩/\ax ag b w1 g R v/\aT (fun _=>False) aa ag w w1/\((∀j,j<w.heap.size->aa j=q\/aa j=c+10)->∀j,¬aX ag c j):=by
 obtain⟨hb,⟨h2,h3⟩|⟨R,g,ag,v,h2,h3,h4,h5,_⟩⟩:=h1
 ·injection h3 with h3;injection h3 with h3;exact .inl ⟨h2,h3,(aT.same aa hb).keeps q fun _ _ _ hf=>hf⟩
 ·injection h3 with h3;injection h3 with h3;refine .inr ⟨R,g,EO ag b c w.heap.size,v,h2,h3,EQ h4,⟨hb.size,fun j hj _=>⟨(Io hj).trans (h5 j hj),hb.block j hj⟩,hb.os,hb.tape,hb.output⟩,fun h0 j=>EP hs (fun j hj=>?_) j⟩;rw[h5 j hj];exact h0 j hj
end
section
open Go.ChangeShapes Go.WideShapes Go.Deep
theorem i64_of_wf{z:Int}(h:(Lit.int .i64 z).wf=true):-9223372036854775808<=z/\z<=9223372036854775807:=by
 simp[Lit.wf,IntKind.min,IntKind.max,IntKind.signed,IntKind.bits]at h;omega
theorem Iv{z:Int}(h:(Lit.int .u8 z).wf=true):0<=z/\z<256:=by
 simp[Lit.wf,IntKind.min,IntKind.max,IntKind.signed,IntKind.bits]at h;omega
section
variable {H:Type}{enc:TypeId×Value->H}{P:Program}{w:World}{base:Nat}{spare:Nat->Bool}{dj:Bool}
theorem ox{t e:TypeId}{fs:Array Field}{fuel:Nat}{cs:List Value}{x:DataW H×List MemPlace}(ht:P.underlying t=some (.slice e))(he:P.underlying e=some (.struct fs))
  (fo:oneCellFields P fs=true) (hC:P.cellsOf e=fs.size) (h:DataW.trod enc P w base spare dj fuel t cs=some x) :
  (cs=[.slice none 0 0]/\x=(.nil,[]))\/
  ∃(a:Addr) (len cap m:Nat) (D:Nat->DataW H) (Pl:Nat->List MemPlace),cs=[.slice (some a) len cap]/\base<=a.block/\len<=cap/\cap<=maxLen/\m=(if spare a.block then cap else len)/\
   x=(.slice ((List.range len).map D) ((List.range (m-len)).map fun j=>D (len+j)),MemPlace.row a (m*fs.size)++(List.range m).flatMap Pl)/\
   ∀i,i<m->∃(ys:List (DataW H×List MemPlace)) (n:Nat),D i=.agg (ys.map (·.1))/\Pl i=ys.flatMap (·.2)/\ys.length=fs.size/\
    ∀(j:Nat) (f:Field),fs[j]?=some f->∃(v:Value) (y:DataW H×List MemPlace),w.cell? (a.add (i*fs.size+j))=some v/\ys[j]?=some y/\DataW.trod enc P w base spare dj n f.type [v]=some y:=by
 rcases open_slice ht h with h0|⟨a,len,cap,m,n,D,Pl,cB,hb,hl,hm,CK,hx,hi⟩
 ·exact .inl h0
 ·refine .inr ⟨a,len,cap,m,D,Pl,cB,hb,hl,hm,CK,by rw[hC]at hx;exact hx,fun i him=>?_⟩;obtain⟨cs',hc,NH⟩:=hi i him;rw[hC]at hc;obtain⟨ys,n',S0,hy,af,wu,hf⟩:=DataW.trod_struct he NH;obtain⟨_,eG,DE⟩:=World.cells?_some hc;simp only[Prod.mk.injEq]at hy;refine⟨ys,n',hy.1,hy.2,wu,fun j f hj=>?_⟩;obtain⟨ho,hk⟩:=hone_of fo j f hj;have ny:j<fs.size:=(Array.getElem?_eq_some_iff.1 hj).1;have eh:=DE j ny;have hv:cs'[j]?=some (cs'[j]'(by omega)):=List.getElem?_eq_getElem (by omega);have h1:=hf j f hj;rw[ho,hk]at h1;have Ro:(cs'.drop j).take 1=[cs'[j]'(by omega)]:=by
   rw[List.drop_eq_getElem_cons (by omega)];rfl
  rw[Ro]at h1;have VW:ys[j]?=some (ys[j]'(by omega)):=List.getElem?_eq_getElem (by omega);refine⟨_,_,?_,VW,h1.trans VW⟩;rw[<-Go.Deep.add_add,eh,hv]
theorem B6{t e:TypeId}{fuel:Nat}{v:Value}{x:DataW H×List MemPlace}(ht:P.underlying t=some (.slice e))(he:P.underlying e=some (.int .u8))(hc:P.cellsOf e=1)
  (h:DataW.trod enc P w base spare dj fuel t [v]=some x):∃A n c l,v=.slice A n c/\Rd w A n l/\n<=c/\c<=maxLen:=by
 rcases open_ints ht he hc h with⟨cB,_⟩|⟨a,l,c,zs,cB,_,hl,hm,hz,_,eh,hwf⟩
 ·obtain rfl:v=.slice none 0 0:=by simpa using cB
  exact⟨none,0,0,[],rfl,Rd.none_,Nat.le_refl _,Nat.zero_le _⟩
 ·obtain rfl:v=.slice (some a) l c:=by simpa using cB
  have XD:l<=zs.length:=by rw[hz];split <;> omega
  refine⟨some a,l,c,(zs.take l).map (fun z=>UInt8.ofNat z.toNat),rfl,⟨by simp;omega,fun _=>⟨a,rfl,fun j u hu=>?_⟩⟩,hl,hm⟩;simp only[List.map_map,List.getElem?_map,Option.map_eq_some_iff]at hu;obtain⟨z,iW,rfl⟩:=hu;rw[List.getElem?_take]at iW;split at iW
  ·have hj:j<zs.length:=(List.getElem?_eq_some_iff.1 iW).1;have IQ:zs.getD j 0=z:=by rw[List.getD_eq_getElem?_getD,iW];rfl
   have hw:=Iv (hwf z (List.mem_of_getElem? iW));rw[eh j hj,IQ];have:((z.toNat%256:Nat):Int)=z:=by omega
   simp[vb,this]
  ·cases iW
theorem HN{t e:TypeId}{fuel:Nat}{v:Value}{x:DataW H×List MemPlace}(ht:P.underlying t=some (.slice e))(he:P.underlying e=some (.int .i64))(hc:P.cellsOf e=1)
  (h:DataW.trod enc P w base spare dj fuel t [v]=some x):∃A n c l,v=.slice A n c/\fv w A n l/\n<=c/\c<=maxLen:=by
 rcases open_ints ht he hc h with⟨cB,_⟩|⟨a,l,c,zs,cB,_,hl,hm,hz,_,eh,hwz⟩
 ·obtain rfl:v=.slice none 0 0:=by simpa using cB
  exact⟨none,0,0,[],rfl,fv.none_,Nat.le_refl _,Nat.zero_le _⟩
 ·obtain rfl:v=.slice (some a) l c:=by simpa using cB
  have XD:l<=zs.length:=by rw[hz];split <;> omega
  refine⟨some a,l,c,zs.take l,rfl,⟨by simp;omega,fun _=>⟨a,rfl,fun j u hu=>?_⟩⟩,hl,hm⟩;rw[List.getElem?_map,List.getElem?_take]at hu;split at hu
  ·have hj:j<zs.length:=by omega
   rw[List.getElem?_eq_getElem hj]at hu;have Jt:=eh j hj;have IQ:zs.getD j 0=zs[j]:=by rw[List.getD_eq_getElem?_getD,List.getElem?_eq_getElem hj];rfl
   rw[Jt,IQ];exact hu
  ·simp at hu
theorem HO{t e:TypeId}{fuel:Nat}{v:Value}{x:DataW H×List MemPlace}(ht:P.underlying t=some (.slice e))(he:P.underlying e=some .string)(hc:P.cellsOf e=1)
  (h:DataW.trod enc P w base spare dj fuel t [v]=some x):∃A n c l,v=.slice A n c/\vo w A n l/\n<=c/\c<=maxLen:=by
 rcases open_strings ht he hc h with⟨cB,_⟩|⟨a,l,c,zs,cB,_,hl,hm,hz,_,eh,hwz⟩
 ·obtain rfl:v=.slice none 0 0:=by simpa using cB
  exact⟨none,0,0,[],rfl,⟨rfl,fun h=>absurd h (by omega)⟩,Nat.le_refl _,Nat.zero_le _⟩
 ·obtain rfl:v=.slice (some a) l c:=by simpa using cB
  have XD:l<=zs.length:=by rw[hz];split <;> omega
  refine⟨some a,l,c,zs.take l,rfl,⟨by simp;omega,fun _=>⟨a,rfl,fun j u hu=>?_⟩⟩,hl,hm⟩;rw[List.getElem?_map,List.getElem?_take]at hu;split at hu
  ·have hj:j<zs.length:=by omega
   rw[List.getElem?_eq_getElem hj]at hu;have Jt:=eh j hj;have IQ:zs.getD j ByteArray.empty=zs[j]:=by rw[List.getD_eq_getElem?_getD,List.getElem?_eq_getElem hj];rfl
   rw[Jt,IQ];exact hu
  ·simp at hu
end
theorem qH{α:Type}{Q:Nat->α->Prop}(n:Nat)(h:∀i,i<n->∃x,Q i x):∃xs:List α,xs.length=n/\∀i x,xs[i]?=some x->Q i x:=by
 induction n with
 | zero=>exact⟨[],rfl,fun i x hx=>by simp at hx⟩
 | succ n ih=>
  obtain⟨xs,hl,hx⟩:=ih fun i hi=>h i (by omega)
  obtain⟨y,hy⟩:=h n (by omega);refine⟨xs++[y],by simp[hl],fun i x hi=>?_⟩;rcases Nat.lt_or_ge i n with aU|ry
  ·rw[List.getElem?_append_left (by omega)]at hi;exact hx i x hi
  ·rw[List.getElem?_append_right (by omega),hl]at hi;rcases Nat.eq_zero_or_pos (i-n)with h0|h0
   ·rw[h0]at hi;have:y=x:=by simpa using hi
    subst this;rw[show i=n by omega];exact hy
   ·rw[List.getElem?_eq_none (by simp;omega)]at hi;cases hi
theorem qN{w:World}{size n c:Nat}{A:Option Addr}{xs:List Value}(hr:cn w size A n xs)(h0:0<size)(vX:n<=c)(hc:c<=maxLen):Sl (fun j=>j<w.heap.size) w size (.slice A n c) n xs:=
 ⟨A,c,rfl,hr,vX,hc,fun hn _ e=>hr.lt hn h0 e⟩
theorem Ce{α:Type}{w:World}{a:Addr}{f:α->List Value}{k:Nat}(hk:0<k)(hf:∀z,(f z).length=k){l:List α}(h:∀(i:Nat) z,l[i]?=some z->∀j u,j<k->(f z)[j]?=some u->w.cell? (a.add (i*k+j))=some u):cn w k (some a) l.length (l.flatMap f):=by
 refine⟨eO hf l,fun _=>⟨a,rfl,fun q u hu=>?_⟩⟩;have hq:=(List.getElem?_eq_some_iff.1 hu).1;rw[eO hf]at hq;have hi:q/k<l.length:=Nat.div_lt_of_lt_mul (by rw[Nat.mul_comm];exact hq);have hz:l[q/k]?=some (l[q/k]'hi):=List.getElem?_eq_getElem hi;have hm:=Nat.mod_lt q hk;have e:q=q/k*k+q%k:=by rw[Nat.mul_comm];exact(Nat.div_add_mod q k).symm
 have h1:=dW hf hm hz;rw[<-e,hu]at h1;have:=h _ _ hz _ u hm h1.symm;rw[<-e]at this;exact this
section
variable {H:Type}{enc:TypeId×Value->H}{w:World}{base:Nat}{spare:Nat->Bool}{dj:Bool}{fuel:Nat}{v:Value}{x:DataW H×List MemPlace}
theorem aZ{P:Program}{e:TypeId}{fs:Array Field}{cs:List Value}{j:Nat}{f:Field}(he:P.underlying e=some (.struct fs))(hj:fs[j]?=some f)(k:Nat)(hk:P.cellsOf f.type=k)(h:DataW.trod enc P w base spare dj fuel e cs=some x) :
  ∃n y,DataW.trod enc P w base spare dj n f.type ((cs.drop f.offset).take k)=some y:=by
 subst hk;obtain⟨ys,n,_,_,_,wu,hf⟩:=DataW.trod_struct he h;have ny:j<fs.size:=(Array.getElem?_eq_some_iff.1 hj).1;exact⟨n,_,(hf j f hj).trans (List.getElem?_eq_getElem (by omega))⟩
theorem Ee(h:DataW.trod enc prog w base spare dj fuel 193 [v]=some x):∃p,gf (fun j=>j<w.heap.size) w v p:=by
 obtain⟨A,n,c,l,rfl,hr,h1,h2⟩:=HO underlying193 underlying9 (by kernel_rfl) h;have hr:cn w 1 A n (l.map Pa):=hr;refine⟨l,?_⟩;have:=qN hr (by omega) h1 h2;have hl:=hr.1;rw[List.length_map,Nat.mul_one]at hl;unfold gf;rw[hl];exact this
theorem Ef(h:DataW.trod enc prog w base spare dj fuel 76 [v]=some x):∃p,fF (fun j=>j<w.heap.size) w v p:=by
 obtain⟨A,n,c,l,rfl,hr,h1,h2⟩:=HN underlying76 underlying3 (by kernel_rfl) h;have hr:cn w 1 A n (l.map vi):=hr;refine⟨l,?_⟩;have:=qN hr (by omega) h1 h2;have hl:=hr.1;rw[List.length_map,Nat.mul_one]at hl;unfold fF;rw[hl];exact this
theorem B8(h:DataW.trod enc prog w base spare dj fuel 189 [v]=some x):∃ps,dR (fun j=>j<w.heap.size) w v ps:=by
 rcases open_slice underlying189 h with⟨cB,_⟩|⟨a,len,cap,m,n,D,Pl,cB,_,hl,hm,CK,_,hi⟩
 ·obtain rfl:v=.slice none 0 0:=by simpa using cB
  exact⟨[],[],Sl.nil _ _ _,fun i p h=>by cases h⟩
 ·obtain rfl:v=.slice (some a) len cap:=by simpa using cB
  have qo:len<=m:=by rw[CK];split <;> omega
  have hC:prog.cellsOf 193=1:=by kernel_rfl
  obtain⟨L,h1,h2⟩:=qH (Q:=fun i (y:Value×List ByteArray)=>w.cell? (a.add i)=some y.1/\gf (fun j=>j<w.heap.size) w y.1 y.2) len (fun i tE=>by
   obtain⟨cs',hc,ht⟩:=hi i (by omega);rw[hC]at hc;obtain⟨_,eG,DE⟩:=World.cells?_some hc;obtain⟨u,rfl⟩:∃u,cs'=[u]:=by
    match cs',eG with
    | [u],_=>exact⟨u,rfl⟩
   obtain⟨p,hp⟩:=Ee ht;have h0:=DE 0 (by omega);rw[Nat.mul_one,ns]at h0;exact⟨(u,p),h0,hp⟩)
  subst h1;refine⟨L.map (·.2),L.map (·.1),?_,fun i p hp=>?_⟩
  ·rw[List.length_map];refine qN ⟨by simp,fun _=>⟨a,rfl,fun j u hu=>?_⟩⟩ (by omega) hl hm;rw[List.getElem?_map]at hu;obtain⟨y,hy,rfl⟩:=Option.map_eq_some_iff.1 hu;exact(h2 j y hy).1
  ·rw[List.getElem?_map]at hp;obtain⟨y,hy,rfl⟩:=Option.map_eq_some_iff.1 hp;exact⟨y.1,by rw[List.getElem?_map,hy];rfl,(h2 i y hy).2⟩
theorem B7(h:DataW.trod enc prog w base spare dj fuel 40 [v]=some x):∃fs,aG (fun j=>j<w.heap.size) w v fs:=by
 rcases ox underlying40 underlying191 (by kernel_rfl) (by kernel_rfl) h with⟨cB,_⟩|⟨a,len,cap,m,D,Pl,cB,_,hl,hm,CK,_,hi⟩
 ·obtain rfl:v=.slice none 0 0:=by simpa using cB
  exact⟨[],aG.nil _ _⟩
 ·obtain rfl:v=.slice (some a) len cap:=by simpa using cB
  have qo:len<=m:=by rw[CK];split <;> omega
  obtain⟨L,h1,h2⟩:=qH (Q:=fun i (y:(Value×Value)×Fa)=>(∀j u,j<2->(Po y.1)[j]?=some u->w.cell? (a.add (i*2+j))=some u)/\dR (fun j=>j<w.heap.size) w y.1.1 y.2.paths/\fF (fun j=>j<w.heap.size) w y.1.2 y.2.vals) len (fun i tE=>by
   obtain⟨ys,n',_,_,_,Qu⟩:=hi i (by omega);obtain⟨v0,y0,fO,_,rI⟩:=Qu 0 _ rfl;obtain⟨v1,y1,lw,_,O5⟩:=Qu 1 _ rfl;obtain⟨ps,hp⟩:=B8 rI;obtain⟨is,hv⟩:=Ef O5;refine⟨((v0,v1),⟨ps,is⟩),fun j u hj hu=>?_,hp,hv⟩
   match j,hj with
   | 0,_=>obtain rfl:=Option.some.inj hu;exact fO
   | 1,_=>obtain rfl:=Option.some.inj hu;exact lw)
  subst h1;refine⟨L.map (·.2),L.map (·.1),?_,by simp,fun i f hf=>?_⟩
  ·rw[List.length_map];have hr:cn w 2 (some a) (L.map (·.1)).length ((L.map (·.1)).flatMap Po):=Ce (by omega) vC fun i z hz=>by
    rw[List.getElem?_map]at hz;obtain⟨y,hy,rfl⟩:=Option.map_eq_some_iff.1 hz;exact(h2 i y hy).1
   rw[List.length_map]at hr;exact qN hr (by omega) hl hm
  ·rw[List.getElem?_map]at hf;obtain⟨y,hy,rfl⟩:=Option.map_eq_some_iff.1 hf;exact⟨y.1,by rw[List.getElem?_map,hy];rfl,(h2 i y hy).2⟩
theorem zt{v0 v1 v2 v3:Value}(h:DataW.trod enc prog w base spare dj fuel 42 [v0,v1,v2,v3]=some x):∃e:En,v0=vi e.op/\v1=vi e.sess/\v2=vi e.seq/\aG (fun j=>j<w.heap.size) w v3 e.facts:=by
 obtain⟨n0,y0,h0⟩:=aZ (j:=0) underlying42 rfl 1 (by kernel_rfl) h;obtain⟨n1,y1,h1⟩:=aZ (j:=1) underlying42 rfl 1 (by kernel_rfl) h;obtain⟨n2,y2,h2⟩:=aZ (j:=2) underlying42 rfl 1 (by kernel_rfl) h;obtain⟨n3,y3,h3⟩:=aZ (j:=3) underlying42 rfl 1 (by kernel_rfl) h;have h0:DataW.trod enc prog w base spare dj n0 3 [v0]=some y0:=h0;have h1:DataW.trod enc prog w base spare dj n1 3 [v1]=some y1:=h1;have h2:DataW.trod enc prog w base spare dj n2 3 [v2]=some y2:=h2;have h3:DataW.trod enc prog w base spare dj n3 40 [v3]=some y3:=h3;obtain⟨k0,e0,_,_⟩:=DataW.trod_int underlying3 h0;obtain⟨k1,e1,_,_⟩:=DataW.trod_int underlying3 h1;obtain⟨k2,e2,_,_⟩:=DataW.trod_int underlying3 h2;obtain⟨fs,Y3⟩:=B7 h3;exact⟨⟨0,0,k0,k1,k2,fs⟩,by simpa[vi]using e0,by simpa[vi]using e1,by simpa[vi]using e2,Y3⟩
theorem wK{A:Option Addr}{n c:Nat}(h:DataW.trod enc prog w base spare dj fuel 27 [.slice A n c]=some x):∃ys,ff w A n ys/\bo (fun j=>j<w.heap.size) w ys/\n<=c/\c<=maxLen/\(0<n->∀j,aA A j->j<w.heap.size):=by
 rcases open_slice underlying27 h with⟨cB,_⟩|⟨a,len,cap,m,q,D,Pl,cB,_,hl,hm,CK,_,hi⟩
 ·simp at cB;obtain⟨rfl,rfl,rfl⟩:=cB;exact⟨[],cn.none_,fun z hz=>(by cases hz),Nat.le_refl _,Nat.zero_le _,fun h=>absurd h (by omega)⟩
 ·simp at cB;obtain⟨rfl,rfl,rfl⟩:=cB;have qo:n<=m:=by rw[CK];split <;> omega
  have hC:prog.cellsOf 59=6:=by kernel_rfl
  obtain⟨L,h1,h2⟩:=qH (Q:=fun i (y:Value×En)=>(∀j u,j<6->(cl y)[j]?=some u->w.cell? (a.add (i*6+j))=some u)/\aG (fun j=>j<w.heap.size) w y.1 y.2.facts) n (fun i tE=>by
   obtain⟨cs',hc,ht⟩:=hi i (by omega);rw[hC]at hc;obtain⟨_,eG,DE⟩:=World.cells?_some hc;obtain⟨v0,v1,v2,v3,v4,v5,rfl⟩:∃v0 v1 v2 v3 v4 v5,cs'=[v0,v1,v2,v3,v4,v5]:=by
    match cs',eG with
    | [v0,v1,v2,v3,v4,v5],_=>exact⟨v0,v1,v2,v3,v4,v5,rfl⟩
   obtain⟨n0,y0,h0⟩:=aZ (j:=0) underlying59 rfl 1 (by kernel_rfl) ht;obtain⟨n1,y1,h1⟩:=aZ (j:=1) underlying59 rfl 1 (by kernel_rfl) ht;obtain⟨n2,y2,h2⟩:=aZ (j:=2) underlying59 rfl 4 (by kernel_rfl) ht;have h0:DataW.trod enc prog w base spare dj n0 3 [v0]=some y0:=h0;have h1:DataW.trod enc prog w base spare dj n1 3 [v1]=some y1:=h1;have h2:DataW.trod enc prog w base spare dj n2 42 [v2,v3,v4,v5]=some y2:=h2;obtain⟨k0,e0,_,_⟩:=DataW.trod_int underlying3 h0;obtain⟨k1,e1,_,_⟩:=DataW.trod_int underlying3 h1;obtain⟨e,e2,e3,e4,hf⟩:=zt h2;obtain rfl:v0=.int .i64 k0:=by simpa using e0
   obtain rfl:v1=.int .i64 k1:=by simpa using e1
   subst e2;subst e3;subst e4;refine⟨(v5,⟨k0,k1,e.op,e.sess,e.seq,e.facts⟩),fun j u hj hu=>?_,hf⟩;have hh:=DE j hj;rw[Go.Deep.add_add]at hh;exact hh.trans hu)
  refine⟨L,by have:=Ce (k:=6) (by omega) eX fun i z hz=>(h2 i z hz).1;rw[h1]at this;exact this,fun z hz=>?_,hl,hm,fun h0 j hj=>?_⟩
  ·obtain⟨i,OT,rfl⟩:=List.getElem_of_mem hz;exact(h2 i _ (List.getElem?_eq_getElem OT)).2
  ·obtain⟨ad,e,rfl⟩:=hj;injection e with e;subst e;have:=ar ((h2 0 _ (List.getElem?_eq_getElem (by omega))).1 0 _ (by omega) rfl)
   rwa [bi]at this
theorem zu{q:Nat}{v:Value}(h:DataW.trod enc prog w base spare dj fuel 27 [v]=some x):∃A n c L,v=.slice A n c/\cP (fun _=>q) q w (.slice A n c) L:=by
 obtain⟨A,n,c,rfl⟩:∃A n c,v=.slice A n c:=by
  rcases open_slice underlying27 h with⟨cB,_⟩|⟨a,len,cap,m,q,D,Pl,cB,_⟩
  ·exact⟨none,0,0,by simpa using cB⟩
  ·exact⟨_,_,_,by simpa using cB⟩
 obtain⟨ys,g1,g2,g3,g4,g5⟩:=wK h;exact⟨A,n,c,ys.map (·.2),rfl,A,n,c,ys,rfl,g1,g2.mono fun _ _ _=>rfl,rfl,g3,g4,fun _ _ _=>rfl⟩
theorem se{q:Nat}{v:Value}(h:DataW.trod enc prog w base spare dj fuel 24 [v]=some x):∃A n c l,v=.slice A n c/\bP (fun _=>q) q w (.slice A n c) l:=by
 obtain⟨A,n,c,l,rfl,h1,h2,h3⟩:=B6 underlying24 underlying5 (by kernel_rfl) h;have hl:=h1.len;exact⟨A,n,c,l,rfl,A,c,by rw[hl],by rw[hl];exact h1,by omega,h3,fun _ _ _=>rfl⟩
theorem B9{q:Nat}{v0 v1 v2 v3 v4 v5:Value}(h:DataW.trod enc prog w base spare dj fuel 29 [v0,v1,v2,v3,v4,v5]=some x):∃(s:pZ) (Ad A1:Option Addr) (md cd m1 c1:Nat),#[v0,v1,v2,v3,v4,v5]=eQ s Ad A1 md cd m1 c1/\cP (fun _=>q) q w (.slice A1 m1 c1) s.entries/\bP (fun _=>q) q w (.slice Ad md cd) s.snap.data:=by
 obtain⟨n0,y0,h0⟩:=aZ (j:=0) underlying29 rfl 2 (by kernel_rfl) h;obtain⟨n1,y1,h1⟩:=aZ (j:=1) underlying29 rfl 3 (by kernel_rfl) h;obtain⟨n2,y2,h2⟩:=aZ (j:=2) underlying29 rfl 1 (by kernel_rfl) h;have h0:DataW.trod enc prog w base spare dj n0 23 [v0,v1]=some y0:=h0;have h1:DataW.trod enc prog w base spare dj n1 26 [v2,v3,v4]=some y1:=h1;have h2:DataW.trod enc prog w base spare dj n2 27 [v5]=some y2:=h2;obtain⟨m0,z0,g0⟩:=aZ (j:=0) underlying23 rfl 1 (by kernel_rfl) h0;obtain⟨m1,z1,g1⟩:=aZ (j:=1) underlying23 rfl 1 (by kernel_rfl) h0;obtain⟨m2,z2,g2⟩:=aZ (j:=0) underlying26 rfl 1 (by kernel_rfl) h1;obtain⟨m3,z3,g3⟩:=aZ (j:=1) underlying26 rfl 1 (by kernel_rfl) h1;obtain⟨m4,z4,g4⟩:=aZ (j:=2) underlying26 rfl 1 (by kernel_rfl) h1;have g0:DataW.trod enc prog w base spare dj m0 3 [v0]=some z0:=g0;have g1:DataW.trod enc prog w base spare dj m1 3 [v1]=some z1:=g1;have g2:DataW.trod enc prog w base spare dj m2 3 [v2]=some z2:=g2;have g3:DataW.trod enc prog w base spare dj m3 3 [v3]=some z3:=g3;have g4:DataW.trod enc prog w base spare dj m4 24 [v4]=some z4:=g4;obtain⟨k0,e0,_,_⟩:=DataW.trod_int underlying3 g0;obtain⟨k1,e1,_,_⟩:=DataW.trod_int underlying3 g1;obtain⟨k2,e2,_,_⟩:=DataW.trod_int underlying3 g2;obtain⟨k3,e3,_,_⟩:=DataW.trod_int underlying3 g3;obtain⟨Ad,md,cd,l,rfl,hD⟩:=se (q:=q) g4;obtain⟨A1,m1',c1,L,rfl,hE⟩:=zu (q:=q) h2;obtain rfl:v0=.int .i64 k0:=by simpa using e0
 obtain rfl:v1=.int .i64 k1:=by simpa using e1
 obtain rfl:v2=.int .i64 k2:=by simpa using e2
 obtain rfl:v3=.int .i64 k3:=by simpa using e3
 exact⟨⟨⟨k0,k1⟩,⟨k2,k3,l⟩,L⟩,Ad,A1,md,cd,m1',c1,rfl,hE,hD⟩
theorem B5{v:Value}(h:DataW.trod enc prog w base spare dj fuel 4 [v]=some x):∃b,v=.bool b:=by
 obtain⟨b,e,_⟩:=DataW.trod_bool underlying4 h;exact⟨b,by simpa using e⟩
theorem HM{q:Nat}{v0 v1 v2 v3 v4 v5 v6 v7 v8 v9 v10 v11 v12:Value}(h:DataW.trod enc prog w base spare dj fuel 39 [v0,v1,v2,v3,v4,v5,v6,v7,v8,v9,v10,v11,v12]=some x):∃(m:Mg) (A1 A2:Option Addr) (n1 c1 n2 c2:Nat),[v0,v1,v2,v3,v4,v5,v6,v7,v8,v9,v10,v11,v12]=[.int .i64 m.kind,.int .i64 m.frm,.int .i64 m.tgt,.int .i64 m.term,.int .i64 m.idx,.int .i64 m.logTerm,.int .i64 m.commit,.int .i64 m.round,.bool m.reject,.int .i64 m.offset,.int .i64 m.total,.slice A1 n1 c1,.slice A2 n2 c2]/\
  cP (fun _=>q) q w (.slice A1 n1 c1) m.entries/\bP (fun _=>q) q w (.slice A2 n2 c2) m.data:=by
 obtain⟨n0,y0,h0⟩:=aZ (j:=0) underlying39 rfl 1 (by kernel_rfl) h;have h0:DataW.trod enc prog w base spare dj n0 3 [v0]=some y0:=h0;obtain⟨n1,y1,h1⟩:=aZ (j:=1) underlying39 rfl 1 (by kernel_rfl) h;have h1:DataW.trod enc prog w base spare dj n1 3 [v1]=some y1:=h1;obtain⟨n2,y2,h2⟩:=aZ (j:=2) underlying39 rfl 1 (by kernel_rfl) h;have h2:DataW.trod enc prog w base spare dj n2 3 [v2]=some y2:=h2;obtain⟨n3,y3,h3⟩:=aZ (j:=3) underlying39 rfl 1 (by kernel_rfl) h;have h3:DataW.trod enc prog w base spare dj n3 3 [v3]=some y3:=h3;obtain⟨n4,y4,h4⟩:=aZ (j:=4) underlying39 rfl 1 (by kernel_rfl) h;have h4:DataW.trod enc prog w base spare dj n4 3 [v4]=some y4:=h4;obtain⟨n5,y5,h5⟩:=aZ (j:=5) underlying39 rfl 1 (by kernel_rfl) h;have h5:DataW.trod enc prog w base spare dj n5 3 [v5]=some y5:=h5;obtain⟨n6,y6,h6⟩:=aZ (j:=6) underlying39 rfl 1 (by kernel_rfl) h;have h6:DataW.trod enc prog w base spare dj n6 3 [v6]=some y6:=h6;obtain⟨n7,y7,h7⟩:=aZ (j:=7) underlying39 rfl 1 (by kernel_rfl) h;have h7:DataW.trod enc prog w base spare dj n7 3 [v7]=some y7:=h7;obtain⟨n8,y8,h8⟩:=aZ (j:=8) underlying39 rfl 1 (by kernel_rfl) h;have h8:DataW.trod enc prog w base spare dj n8 4 [v8]=some y8:=h8;obtain⟨n9,y9,h9⟩:=aZ (j:=9) underlying39 rfl 1 (by kernel_rfl) h;have h9:DataW.trod enc prog w base spare dj n9 3 [v9]=some y9:=h9;obtain⟨n10,y10,lO⟩:=aZ (j:=10) underlying39 rfl 1 (by kernel_rfl) h;have lO:DataW.trod enc prog w base spare dj n10 3 [v10]=some y10:=lO;obtain⟨n11,y11,Ax⟩:=aZ (j:=11) underlying39 rfl 1 (by kernel_rfl) h;have Ax:DataW.trod enc prog w base spare dj n11 27 [v11]=some y11:=Ax;obtain⟨n12,y12,Dv⟩:=aZ (j:=12) underlying39 rfl 1 (by kernel_rfl) h;have Dv:DataW.trod enc prog w base spare dj n12 24 [v12]=some y12:=Dv;obtain⟨k0,e0,_,_⟩:=DataW.trod_int underlying3 h0;obtain rfl:v0=.int .i64 k0:=by simpa using e0
 obtain⟨k1,e1,_,_⟩:=DataW.trod_int underlying3 h1;obtain rfl:v1=.int .i64 k1:=by simpa using e1
 obtain⟨k2,e2,_,_⟩:=DataW.trod_int underlying3 h2;obtain rfl:v2=.int .i64 k2:=by simpa using e2
 obtain⟨k3,e3,_,_⟩:=DataW.trod_int underlying3 h3;obtain rfl:v3=.int .i64 k3:=by simpa using e3
 obtain⟨k4,e4,_,_⟩:=DataW.trod_int underlying3 h4;obtain rfl:v4=.int .i64 k4:=by simpa using e4
 obtain⟨k5,e5,_,_⟩:=DataW.trod_int underlying3 h5;obtain rfl:v5=.int .i64 k5:=by simpa using e5
 obtain⟨k6,e6,_,_⟩:=DataW.trod_int underlying3 h6;obtain rfl:v6=.int .i64 k6:=by simpa using e6
 obtain⟨k7,e7,_,_⟩:=DataW.trod_int underlying3 h7;obtain rfl:v7=.int .i64 k7:=by simpa using e7
 obtain⟨k9,e9,_,_⟩:=DataW.trod_int underlying3 h9;obtain rfl:v9=.int .i64 k9:=by simpa using e9
 obtain⟨k10,e10,_,_⟩:=DataW.trod_int underlying3 lO;obtain rfl:v10=.int .i64 k10:=by simpa using e10
 obtain⟨k8,rfl⟩:=B5 h8;obtain⟨A1,n1',c1,L,rfl,hE⟩:=zu (q:=q) Ax;obtain⟨A2,n2',c2,l,rfl,hD⟩:=se (q:=q) Dv;exact⟨⟨k0,k1,k2,k3,k4,k5,k6,k7,k8,k9,k10,L,l⟩,A1,A2,n1',c1,n2',c2,rfl,hE,hD⟩
theorem I0{cs:List Value}(h:cs.length=20):∃v0 v1 v2 v3 v4 v5 v6 v7 v8 v9 v10 v11 v12 v13 v14 v15 v16 v17 v18 v19,cs=[v0,v1,v2,v3,v4,v5,v6,v7,v8,v9,v10,v11,v12,v13,v14,v15,v16,v17,v18,v19]:=by
 match cs,h with
 | [v0,v1,v2,v3,v4,v5,v6,v7,v8,v9,v10,v11,v12,v13,v14,v15,v16,v17,v18,v19],_=>exact⟨v0,v1,v2,v3,v4,v5,v6,v7,v8,v9,v10,v11,v12,v13,v14,v15,v16,v17,v18,v19,rfl⟩
theorem HL{q:Nat}{v0 v1 v2 v3 v4 v5 v6 v7 v8 v9 v10 v11 v12 v13 v14 v15 v16 v17 v18 v19:Value}(h:DataW.trod enc prog w base spare dj fuel 44 [v0,v1,v2,v3,v4,v5,v6,v7,v8,v9,v10,v11,v12,v13,v14,v15,v16,v17,v18,v19]=some x):∃(z:Ac×As),[v0,v1,v2,v3,v4,v5,v6,v7,v8,v9,v10,v11,v12,v13,v14,v15,v16,v17,v18,v19]=IW z/\Fo (fun _=>q) q w z.1 z.2:=by
 obtain⟨n0,y0,h0⟩:=aZ (j:=0) underlying44 rfl 1 (by kernel_rfl) h;obtain⟨n1,y1,h1⟩:=aZ (j:=1) underlying44 rfl 1 (by kernel_rfl) h;obtain⟨n2,y2,h2⟩:=aZ (j:=2) underlying44 rfl 13 (by kernel_rfl) h;obtain⟨n3,y3,h3⟩:=aZ (j:=3) underlying44 rfl 4 (by kernel_rfl) h;obtain⟨n4,y4,h4⟩:=aZ (j:=4) underlying44 rfl 1 (by kernel_rfl) h;have h0:DataW.trod enc prog w base spare dj n0 3 [v0]=some y0:=h0;have h1:DataW.trod enc prog w base spare dj n1 3 [v1]=some y1:=h1;have h2:DataW.trod enc prog w base spare dj n2 39 [v2,v3,v4,v5,v6,v7,v8,v9,v10,v11,v12,v13,v14]=some y2:=h2;have h3:DataW.trod enc prog w base spare dj n3 42 [v15,v16,v17,v18]=some y3:=h3;have h4:DataW.trod enc prog w base spare dj n4 24 [v19]=some y4:=h4;obtain⟨k0,e0,_,w0⟩:=DataW.trod_int underlying3 h0;obtain⟨k1,e1,_,w1⟩:=DataW.trod_int underlying3 h1;obtain⟨m,A1,A2,n1',c1,n2',c2,em,hE,hD⟩:=HM (q:=q) h2;obtain⟨e,ec0,ec1,ec2,hf⟩:=zt h3;obtain⟨V,m',d',hv,l1,l2,l3⟩:=hf.form;obtain⟨A3,n3',c3,l,rfl,hB⟩:=se (q:=q) h4;obtain rfl:v0=.int .i64 k0:=by simpa using e0
 obtain rfl:v1=.int .i64 k1:=by simpa using e1
 subst ec0;subst ec1;subst ec2;obtain rfl:v18=_:=hv;simp only[List.cons.injEq,and_true]at em;obtain⟨rfl,rfl,rfl,rfl,rfl,rfl,rfl,rfl,rfl,rfl,rfl,rfl,rfl⟩:=em;exact⟨(⟨k0,k1,m,e,l⟩,⟨A1,n1',c1,A2,n2',c2,V,m',d',A3,n3',c3⟩),rfl,⟨hE,hD,hf.mono fun _ _ _=>rfl,(show m'<=maxLen by omega),hB,i64_of_wf w1,i64_of_wf w0⟩⟩
theorem open_acts{A:Option Addr}{n c:Nat}{d:DataW H}{p:List MemPlace}(h:DataW.Trod enc prog w base spare dj 30 (.slice A n c) d p):∃zs,mY (fun _=>100) 100 w A n zs/\n<=maxLen:=by
 obtain⟨fuel,hf⟩:=h;rcases open_slice underlying30 hf with⟨cB,_⟩|⟨a,len,cap,m,q',D,Pl,cB,_,hl,hm,CK,_,hi⟩
 ·simp[Value.cells]at cB;obtain⟨rfl,rfl,rfl⟩:=cB;exact⟨[],⟨cn.none_,fun h=>absurd h (by omega),fun z hz=>(by cases hz)⟩,Nat.zero_le _⟩
 ·simp[Value.cells]at cB;obtain⟨rfl,rfl,rfl⟩:=cB;have qo:n<=m:=by rw[CK];split <;> omega
  have hC:prog.cellsOf 44=20:=by kernel_rfl
  obtain⟨L,h1,h2⟩:=qH (Q:=fun i (z:Ac×As)=>(∀j u,j<20->(IW z)[j]?=some u->w.cell? (a.add (i*20+j))=some u)/\Fo (fun _=>100) 100 w z.1 z.2) n (fun i tE=>by
   obtain⟨cs',hc,ht⟩:=hi i (by omega);rw[hC]at hc;obtain⟨_,eG,DE⟩:=World.cells?_some hc;obtain⟨v0,v1,v2,v3,v4,v5,v6,v7,v8,v9,v10,v11,v12,v13,v14,v15,v16,v17,v18,v19,rfl⟩:=I0 eG;obtain⟨z,e,hz⟩:=HL (q:=100) ht;refine⟨z,fun j u hj hu=>?_,hz⟩;have hh:=DE j hj;rw[Go.Deep.add_add,e]at hh;exact hh.trans hu)
  refine⟨L,⟨by have:=Ce (k:=20) (by omega) nT fun i z hz=>(h2 i z hz).1;rw[h1]at this;exact this,fun _ _ _=>rfl,fun z hz=>?_⟩,by omega⟩;obtain⟨i,OT,rfl⟩:=List.getElem_of_mem hz;exact(h2 i _ (List.getElem?_eq_getElem OT)).2
theorem EG{cs:Array Value}(h:cs.size=6):∃v0 v1 v2 v3 v4 v5,cs=#[v0,v1,v2,v3,v4,v5]:=by
 obtain⟨l⟩:=cs
 match l,h with
 | [v0,v1,v2,v3,v4,v5],_=>exact⟨v0,v1,v2,v3,v4,v5,rfl⟩
theorem open_saved_arg{b0:Nat}{r:Reach}{d:DataW H}{p:List MemPlace}(hv:Value.okWide prog w r b0 29 v)(h:DataW.Trod enc prog w base spare dj 29 v d p) :
  ∃(s:pZ) (Ad A1:Option Addr) (md cd m1 c1:Nat),v=.agg (eQ s Ad A1 md cd m1 c1)/\cP (fun _=>100) 100 w (.slice A1 m1 c1) s.entries/\bP (fun _=>100) 100 w (.slice Ad md cd) s.snap.data:=by
 obtain⟨cs,rfl,fU⟩:=okWide_struct underlying29 hv;have hC:prog.cellsOf 29=6:=by kernel_rfl
 obtain⟨v0,v1,v2,v3,v4,v5,rfl⟩:=EG (fU.trans hC);obtain⟨fuel,hf⟩:=h;have hf:DataW.trod enc prog w base spare dj fuel 29 [v0,v1,v2,v3,v4,v5]=some (d,p):=by simpa[Value.cells]using hf
 obtain⟨s,Ad,A1,md,cd,m1,c1,e,hE,hD⟩:=B9 (q:=100) hf;exact⟨s,Ad,A1,md,cd,m1,c1,by rw[e],hE,hD⟩
end
end
def Fn:List Nat->Code->Option Code
 | [],c=>some c
 | 0::r,.seq a _=>Fn r a
 | 1::r,.seq _ b=>Fn r b
 | 2::r,.block _ b=>Fn r b
 | 3::r,.loop b=>Fn r b
 | 4::r,.cond _ a _=>Fn r a
 | 5::r,.cond _ _ b=>Fn r b
 | _,_=>none
def fW(p:List Nat)(c:Code):Code:=(Fn p c).getD .skip
section
variable {P:Program}{Q:Exit->Act->World->Prop}{a:Act}{w:World}{c:Code}{p:List Nat}
theorem Sr{c':Code}(p:List Nat)(h:c'=fW p c)(hw:(fW p c).wp P Q a w):c'.wp P Q a w:=h▸hw
theorem cC(p0 p1:List Nat)(h:Fn p c=some (.seq (fW p0 c) (fW p1 c)))(hw:(fW p0 c).wp P (Exit.then ((fW p1 c).wp P Q) Q) a w):(fW p c).wp P Q a w:=by
 unfold fW;rw[h];exact wp_seq hw
theorem ji(p':List Nat){id:Nat}(h:Fn p c=some (.block id (fW p' c)))(hw:(fW p' c).wp P (Exit.inBlock id Q) a w):(fW p c).wp P Q a w:=by
 unfold fW;rw[h];exact wp_block hw
theorem mG(p4 p5:List Nat){o:Operand}(t:Bool)(h:Fn p c=some (.cond o (fW p4 c) (fW p5 c)))(hc:a.eval o=.bool t)(hw:(if t then fW p4 c else fW p5 c).wp P Q a w):(fW p c).wp P Q a w:=by
 unfold fW;rw[h];exact wp_cond hc hw
theorem C6(p':List Nat)(h:Fn p c=some (.loop (fW p' c)))(I:Nat->Act->World->Prop)(n₀:Nat)(h₀:I n₀ a w)
  (round:∀n a w,I n a w->(fW p' c).wp P (Exit.then (fun a' w'=>∃n',n'<n/\I n' a' w') Q) a w):(fW p c).wp P Q a w:=by
 unfold fW;rw[h];exact wp_loop_ghost I n₀ h₀ round
theorem jP{Q0:Exit->Act->World->Prop}{c:Code}(h:c.wp P (Exit.then (Q0 .normal) Q0) a w):c.wp P Q0 a w:=by
 have e:Exit.then (Q0 .normal) Q0=Q0:=by
  funext e a w;cases e <;> rfl
 rw[e]at h;exact h
end
theorem lW {P:Program}{Q:Exit->Act->World->Prop}{a:Act}{w:World}(p:List Nat)(F:Func){c:Code}(h:Fn p (bv F)=some c)(hw:c.wp P Q a w):(fW p (bv F)).wp P Q a w:=oK h hw

def qV(w:World)(ad:Addr)(N:Nat):Prop:=∀j,j<N->(∃v,w.cell? (ad.add j)=some v)/\w.frozen? (ad.add j)=false
theorem qV.set{w:World}{ad:Addr}{N:Nat}(h:qV w ad N)(p:Addr)(u:Value):qV (w.setCell p u) ad N:=fun j hj=>by
 obtain⟨⟨v,hv⟩,hf⟩:=h j hj;refine⟨?_,by rw[World.frozen?_setCell];exact hf⟩;rcases Classical.em (p=ad.add j)with e|e
 ·subst e;exact⟨u,by first|exact World.cell?_setCell_same _ hv|exact World.cell?_setCell_same _ _ hv|exact World.cell?_setCell_same _ _ _ hv⟩
 ·exact⟨v,by rw[World.cell?_setCell_other];exact hv;exact e⟩
theorem qV.keep{w w':World}{ad:Addr}{N:Nat}(h:qV w ad N)(hk:w'.heap[ad.block]?=w.heap[ad.block]?):qV w' ad N:=fun j hj=>by
 obtain⟨⟨v,hv⟩,hf⟩:=h j hj;have e:=bi ad j;refine⟨⟨v,(World.cell?_of_block (by rw[e];exact hk)).trans hv⟩,?_⟩;unfold World.frozen? at hf ⊢;rw[e]at hf ⊢;rw[hk];exact hf
theorem Ou{w:World}{T:TypeId}{cs:Array Value}{ad:Addr}{N:Nat}(hc:∀j,j<N->∃v,w.cell? (ad.add j)=some v)(hb:ao w ad.block T cs):qV w ad N:=fun j hj=>⟨hc j hj,by
 have e:=bi ad j;unfold ao at hb;simp[World.frozen?,e,hb]⟩
theorem Fr.setAt(w:World)(p:Addr)(u:Value):Fr (fun j=>j=p.block) w (w.setCell p u):=⟨rfl,rfl,rfl,by simp[World.setCell],fun k _ hn=>Below.heap_setCell w p u k hn⟩
theorem wQ{w:World}{size n:Nat}{ad:Addr}{xs:List Value}{T:TypeId}{cs:Array Value}(h:cn w size (some ad) n xs)(hn:0<n)(hb:ao w ad.block T cs):qV w ad (n*size):=by
 obtain⟨ad',e,hc⟩:=h.2 hn;injection e with e;subst e;refine Ou (fun j hj=>?_) hb;have af:=h.1;exact⟨_,hc j _ (List.getElem?_eq_getElem (by omega))⟩
def LZ(aa:Nat->Nat)(i:Nat)(Z:List TypeId)(w:World)(b:Nat):Prop:=aa b=i/\∃cs T,ao w b T cs/\T∈Z
structure ta(aa:Nat->Nat)(i:Nat)(Z:List TypeId)(w w':World):Prop where
 f:Fr (aM aa i) w w'
 k:∀ad N,qV w ad N->qV w' ad N
 o:∀g cs T,¬T∈Z->ao w g T cs->ao w' g T cs
section
variable {aa:Nat->Nat}{i:Nat}{Z Z':List TypeId}{w w1 w':World}
theorem ta.refl(aa:Nat->Nat)(i:Nat)(Z:List TypeId)(w:World):ta aa i Z w w:=⟨Fr.refl _ _,fun _ _ h=>h,fun _ _ _ _ h=>h⟩
theorem ta.wide(h:ta aa i Z w w1)(hZ:∀T∈Z,T∈Z'):ta aa i Z' w w1:=⟨h.f,h.k,fun g cs T hn hb=>h.o g cs T (fun hm=>hn (hZ T hm)) hb⟩
theorem ta.set(h:ta aa i Z w w1)(p:Addr)(u:Value)(hp:LZ aa i Z w p.block):ta aa i Z w (w1.setCell p u):=
 ⟨h.f.trans ((Fr.setAt w1 p u).mono (X':=aM aa i) fun j e=>by subst e;exact hp.1) fun _ h=>.inl h,fun ad N hw=>(h.k ad N hw).set p u,fun g cs T h1 hb=>(h.o g cs T h1 hb).far (fun e=>by
  obtain⟨_,cs',T',iv,ht⟩:=hp;rw[<-e]at iv;unfold ao at hb iv;rw[hb]at iv;injection iv with iv;injection iv with _ iv _;subst iv;exact h1 ht) u⟩
theorem ta.below(h:ta aa i Z w w1)(hb:Below w1.heap.size w1 w'):ta aa i Z w w':=
 ⟨h.f.trans (Fr.of_below (X:=aM aa i) hb) fun _ h=>.inl h,fun ad N hw=>by
  intro j hj;obtain⟨⟨v,hv⟩,hf⟩:=h.k ad N hw j hj;have hl:=World.block_lt_of_cell? _ _ hv;refine⟨⟨v,(World.cell?_of_block (hb.block _ hl)).trans hv⟩,?_⟩;unfold World.frozen? at hf ⊢;rw[hb.block _ hl];exact hf,fun g cs T h1 hk=>(h.o g cs T h1 hk).kept hb⟩
end
theorem Ya{w:World}{p:Addr}{j:Nat}{u v:Value}(hj:0<j)(h:w.cell? ⟨p.block,p.off+j,none⟩=some v):(w.setCell p u).cell? ⟨p.block,p.off+j,none⟩=some v:=by
 rw[World.cell?_setCell_other]
 ·exact h
 ·intro e;have:=congrArg Addr.off e;simp at this;omega
theorem Yb{w:World}{p:Addr}{i j:Nat}{u v:Value}(hj:i≠j)(h:w.cell? ⟨p.block,p.off+j,none⟩=some v):(w.setCell ⟨p.block,p.off+i,none⟩ u).cell? ⟨p.block,p.off+j,none⟩=some v:=by
 rw[World.cell?_setCell_other]
 ·exact h
 ·intro e;have:=congrArg Addr.off e;simp at this;exact hj this
theorem ft{w:World}{ad:Addr}{N a:Nat}(h:qV w ad N)(k:Nat)(hk:a+k<N)(h0:0<k):(∃v,w.cell? ⟨(ad.add a).block,(ad.add a).off+k,none⟩=some v)/\w.frozen? ⟨(ad.add a).block,(ad.add a).off+k,none⟩=false:=by
 have:=h (a+k) hk;rw[<-eK,io _ _ (by omega)]at this;exact this
def ov6(w:World)(p:Addr):World:=((((((w.setCell p (.int .i64 0)).setCell ⟨(p).block,(p).off+1,none⟩ (.int .i64 0)).setCell ⟨(p).block,(p).off+2,none⟩ (.int .i64 0)).setCell ⟨(p).block,(p).off+3,none⟩ (.int .i64 0)).setCell ⟨(p).block,(p).off+4,none⟩ (.int .i64 0)).setCell ⟨(p).block,(p).off+5,none⟩ (.slice none 0 0))
theorem ta.ov6{aa:Nat->Nat}{i:Nat}{Z:List TypeId}{w w1:World}(h:ta aa i Z w w1)(p:Addr)(hp:LZ aa i Z w p.block):ta aa i Z w (ov6 w1 p):=by
 unfold Go.Proofs.YtjcninheccmpoaaGreat.ov6
 iterate 6 refine ta.set ?_ _ _ hp
 exact h
theorem Db{w:World}{ad:Addr}{k m:Nat}(h:qV w ad (m*6))(hk:k<m):∃v0 v1 v2 v3 v4 v5:Value,let p:=ad.add (k*6);let w1:=w.setCell p (.int .i64 0);let w2:=w1.setCell ⟨p.block,p.off+1,none⟩ (.int .i64 0);let w3:=w2.setCell ⟨p.block,p.off+2,none⟩ (.int .i64 0);let w4:=w3.setCell ⟨p.block,p.off+3,none⟩ (.int .i64 0);let w5:=w4.setCell ⟨p.block,p.off+4,none⟩ (.int .i64 0);(w.cell? p=some v0/\w.cell? ⟨p.block,p.off+1,none⟩=some v1/\w.cell? ⟨p.block,p.off+2,none⟩=some v2/\w.cell? ⟨p.block,p.off+3,none⟩=some v3/\w.cell? ⟨p.block,p.off+4,none⟩=some v4/\w.cell? ⟨p.block,p.off+5,none⟩=some v5)/\(w.frozen? p=false/\w.frozen? ⟨p.block,p.off+1,none⟩=false/\w.frozen? ⟨p.block,p.off+2,none⟩=false/\w.frozen? ⟨p.block,p.off+3,none⟩=false/\w.frozen? ⟨p.block,p.off+4,none⟩=false/\w.frozen? ⟨p.block,p.off+5,none⟩=false)/\(w1.cell? ⟨p.block,p.off+1,none⟩=some v1/\w2.cell? ⟨p.block,p.off+2,none⟩=some v2/\w3.cell? ⟨p.block,p.off+3,none⟩=some v3/\w4.cell? ⟨p.block,p.off+4,none⟩=some v4/\w5.cell? ⟨p.block,p.off+5,none⟩=some v5):=by
 obtain⟨⟨v0,h0⟩,f0⟩:=h (k*6) (by omega);obtain⟨⟨v1,h1⟩,f1⟩:=ft h 1 (a:=k*6) (by omega) (by omega);obtain⟨⟨v2,h2⟩,f2⟩:=ft h 2 (a:=k*6) (by omega) (by omega);obtain⟨⟨v3,h3⟩,f3⟩:=ft h 3 (a:=k*6) (by omega) (by omega);obtain⟨⟨v4,h4⟩,f4⟩:=ft h 4 (a:=k*6) (by omega) (by omega);obtain⟨⟨v5,h5⟩,f5⟩:=ft h 5 (a:=k*6) (by omega) (by omega);refine⟨v0,v1,v2,v3,v4,v5,⟨h0,h1,h2,h3,h4,h5⟩,⟨f0,f1,f2,f3,f4,f5⟩,?_,?_,?_,?_,?_⟩ <;> (repeat refine Yb (by decide) ?_) <;> exact Ya (by decide) (by assumption)
theorem Ks{w:World}{p r:Addr}(h:r.block≠p.block):(ov6 w p).cell? r=w.cell? r:=by
 unfold ov6;exact World.cell?_of_block (by repeat rw[Below.heap_setCell _ _ _ _ (by exact h)])
def ov13(w:World)(p:Addr):World:=(((((((((((((w.setCell p (.int .i64 0)).setCell ⟨(p).block,(p).off+1,none⟩ (.int .i64 0)).setCell ⟨(p).block,(p).off+2,none⟩ (.int .i64 0)).setCell ⟨(p).block,(p).off+3,none⟩ (.int .i64 0)).setCell ⟨(p).block,(p).off+4,none⟩ (.int .i64 0)).setCell ⟨(p).block,(p).off+5,none⟩ (.int .i64 0)).setCell ⟨(p).block,(p).off+6,none⟩ (.int .i64 0)).setCell ⟨(p).block,(p).off+7,none⟩ (.int .i64 0)).setCell ⟨(p).block,(p).off+8,none⟩ (.bool false)).setCell ⟨(p).block,(p).off+9,none⟩ (.int .i64 0)).setCell ⟨(p).block,(p).off+10,none⟩ (.int .i64 0)).setCell ⟨(p).block,(p).off+11,none⟩ (.slice none 0 0)).setCell ⟨(p).block,(p).off+12,none⟩ (.slice none 0 0))
theorem ta.ov13{aa:Nat->Nat}{i:Nat}{Z:List TypeId}{w w1:World}(h:ta aa i Z w w1)(p:Addr)(hp:LZ aa i Z w p.block):ta aa i Z w (ov13 w1 p):=by
 unfold Go.Proofs.YtjcninheccmpoaaGreat.ov13
 iterate 13 refine ta.set ?_ _ _ hp
 exact h
theorem Os{w:World}{ad:Addr}{k m:Nat}(h:qV w ad (m*13))(hk:k<m):∃v0 v1 v2 v3 v4 v5 v6 v7 v8 v9 v10 v11 v12:Value,let p:=ad.add (k*13);let w1:=w.setCell p (.int .i64 0);let w2:=w1.setCell ⟨p.block,p.off+1,none⟩ (.int .i64 0);let w3:=w2.setCell ⟨p.block,p.off+2,none⟩ (.int .i64 0);let w4:=w3.setCell ⟨p.block,p.off+3,none⟩ (.int .i64 0);let w5:=w4.setCell ⟨p.block,p.off+4,none⟩ (.int .i64 0);let w6:=w5.setCell ⟨p.block,p.off+5,none⟩ (.int .i64 0);let w7:=w6.setCell ⟨p.block,p.off+6,none⟩ (.int .i64 0);let w8:=w7.setCell ⟨p.block,p.off+7,none⟩ (.int .i64 0);let w9:=w8.setCell ⟨p.block,p.off+8,none⟩ (.bool false);let w10:=w9.setCell ⟨p.block,p.off+9,none⟩ (.int .i64 0);let w11:=w10.setCell ⟨p.block,p.off+10,none⟩ (.int .i64 0);let w12:=w11.setCell ⟨p.block,p.off+11,none⟩ (.slice none 0 0);(w.cell? p=some v0/\w.cell? ⟨p.block,p.off+1,none⟩=some v1/\w.cell? ⟨p.block,p.off+2,none⟩=some v2/\w.cell? ⟨p.block,p.off+3,none⟩=some v3/\w.cell? ⟨p.block,p.off+4,none⟩=some v4/\w.cell? ⟨p.block,p.off+5,none⟩=some v5/\w.cell? ⟨p.block,p.off+6,none⟩=some v6/\w.cell? ⟨p.block,p.off+7,none⟩=some v7/\w.cell? ⟨p.block,p.off+8,none⟩=some v8/\w.cell? ⟨p.block,p.off+9,none⟩=some v9/\w.cell? ⟨p.block,p.off+10,none⟩=some v10/\w.cell? ⟨p.block,p.off+11,none⟩=some v11/\w.cell? ⟨p.block,p.off+12,none⟩=some v12)/\(w.frozen? p=false/\w.frozen? ⟨p.block,p.off+1,none⟩=false/\w.frozen? ⟨p.block,p.off+2,none⟩=false/\w.frozen? ⟨p.block,p.off+3,none⟩=false/\w.frozen? ⟨p.block,p.off+4,none⟩=false/\w.frozen? ⟨p.block,p.off+5,none⟩=false/\w.frozen? ⟨p.block,p.off+6,none⟩=false/\w.frozen? ⟨p.block,p.off+7,none⟩=false/\w.frozen? ⟨p.block,p.off+8,none⟩=false/\w.frozen? ⟨p.block,p.off+9,none⟩=false/\w.frozen? ⟨p.block,p.off+10,none⟩=false/\w.frozen? ⟨p.block,p.off+11,none⟩=false/\w.frozen? ⟨p.block,p.off+12,none⟩=false)/\(w1.cell? ⟨p.block,p.off+1,none⟩=some v1/\w2.cell? ⟨p.block,p.off+2,none⟩=some v2/\w3.cell? ⟨p.block,p.off+3,none⟩=some v3/\w4.cell? ⟨p.block,p.off+4,none⟩=some v4/\w5.cell? ⟨p.block,p.off+5,none⟩=some v5/\w6.cell? ⟨p.block,p.off+6,none⟩=some v6/\w7.cell? ⟨p.block,p.off+7,none⟩=some v7/\w8.cell? ⟨p.block,p.off+8,none⟩=some v8/\w9.cell? ⟨p.block,p.off+9,none⟩=some v9/\w10.cell? ⟨p.block,p.off+10,none⟩=some v10/\w11.cell? ⟨p.block,p.off+11,none⟩=some v11/\w12.cell? ⟨p.block,p.off+12,none⟩=some v12):=by
 obtain⟨⟨v0,h0⟩,f0⟩:=h (k*13) (by omega);obtain⟨⟨v1,h1⟩,f1⟩:=ft h 1 (a:=k*13) (by omega) (by omega);obtain⟨⟨v2,h2⟩,f2⟩:=ft h 2 (a:=k*13) (by omega) (by omega);obtain⟨⟨v3,h3⟩,f3⟩:=ft h 3 (a:=k*13) (by omega) (by omega);obtain⟨⟨v4,h4⟩,f4⟩:=ft h 4 (a:=k*13) (by omega) (by omega);obtain⟨⟨v5,h5⟩,f5⟩:=ft h 5 (a:=k*13) (by omega) (by omega);obtain⟨⟨v6,h6⟩,f6⟩:=ft h 6 (a:=k*13) (by omega) (by omega);obtain⟨⟨v7,h7⟩,f7⟩:=ft h 7 (a:=k*13) (by omega) (by omega);obtain⟨⟨v8,h8⟩,f8⟩:=ft h 8 (a:=k*13) (by omega) (by omega);obtain⟨⟨v9,h9⟩,f9⟩:=ft h 9 (a:=k*13) (by omega) (by omega);obtain⟨⟨v10,lO⟩,f10⟩:=ft h 10 (a:=k*13) (by omega) (by omega);obtain⟨⟨v11,Ax⟩,f11⟩:=ft h 11 (a:=k*13) (by omega) (by omega);obtain⟨⟨v12,Dv⟩,f12⟩:=ft h 12 (a:=k*13) (by omega) (by omega);refine⟨v0,v1,v2,v3,v4,v5,v6,v7,v8,v9,v10,v11,v12,⟨h0,h1,h2,h3,h4,h5,h6,h7,h8,h9,lO,Ax,Dv⟩,⟨f0,f1,f2,f3,f4,f5,f6,f7,f8,f9,f10,f11,f12⟩,?_,?_,?_,?_,?_,?_,?_,?_,?_,?_,?_,?_⟩ <;> (repeat refine Yb (by decide) ?_) <;> exact Ya (by decide) (by assumption)
def Df(w0 wr:World)(ad:Addr)(k:Nat):Prop:=∀j,k*13<=j->wr.cell? (ad.add j)=w0.cell? (ad.add j)
theorem Df.of_block{w0 wr:World}{ad:Addr}(h:wr.heap[ad.block]?=w0.heap[ad.block]?):Df w0 wr ad 0:=fun j _=>World.cell?_of_block (by rw[bi];exact h)
theorem Df.far{w0 wr w':World}{ad:Addr}{k b:Nat}(h:Df w0 wr ad k)(hb:ad.block≠b)(hw:∀r:Addr,r.block≠b->w'.cell? r=wr.cell? r):Df w0 w' ad k:=fun j hj=>(hw _ (by rw[bi];exact hb)).trans (h j hj)
theorem Cu(ad:Addr)(j:Nat):(ad.add j).off=ad.off+j:=by
 unfold Addr.add;split
 ·omega
 ·rfl
theorem Df.next{w0 wr:World}{ad:Addr}{k:Nat}(h:Df w0 wr ad k):Df w0 (ov13 wr (ad.add (k*13))) ad (k+1):=fun j hj=>by
 rw[<-h j (by omega)];have a:∀(w1:World) (p:Addr) (u:Value),p.off≠ad.off+j->(w1.setCell p u).cell? (ad.add j)=w1.cell? (ad.add j):=fun w1 p u hp=>by
  rw[World.cell?_setCell_other];intro e;subst e;exact hp (Cu ad j)
 have o:=Cu ad (k*13);unfold ov13;repeat rw[a _ _ _ (by simp only[o];omega)]
end Go.Proofs.YtjcninheccmpoaaGreat
