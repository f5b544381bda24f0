import Derived.Test.YtjcninheccmpoaaGreatU2
import Derived.Deep.DeepCutAuto
import Derived.Deep.CutBlock
set_option maxRecDepth 100000
set_option maxHeartbeats 8000000
set_option linter.all false
namespace Go.Proofs.YtjcninheccmpoaaGreat
open Go.RowKit Go.Proofs.Tryz
def uP(R0:Rf)(F0:List En)(R:Rf)(F:List En):Prop:=match R.out.snap with
 | none=>R.out.reset=false/\R.snap=R0.snap/\R.track.index=R0.track.index/\((R.out.entries=[]/\F=F0)\/(R.out.save=true/\R.out.entries≠[]/\∃j,R0.track.index.toNat<=j/\j<=F0.length/\F=F0.take j++R.out.entries))
 | some x=>R.out.save=true/\R.out.entries=[]/\x=R.snap/\((R.out.reset=false/\F=F0)\/(R.out.reset=true/\F.length=x.idx.toNat))
def kJ(R0:Rf)(R:Rf)(F:List En):Prop:=match R.out.snap with
 | none=>R0.commit<=R.commit/\R.out.commits=(F.drop R0.commit.toNat).take (R.commit.toNat-R0.commit.toNat)
 | some x=>R0.commit<=R.commit/\R.out.commits=[]/\R.commit=x.idx
structure bO(n:Int)(cJ:Gh)(i:Nat)(R0:Rf)(F0:List En)(N:Nat)(gh:Gh)(F:List En)(R:Rf):Prop where
 ext:kf cJ gh
 bs:eD n gh
 sv:gX n gh i R F
 ms:∀m∈R.out.msgs,eF n gh (max N R.commit.toNat) m
 oth:∀j,j≠i->∀t,gh.V j t=cJ.V j t/\gh.A j t=cJ.A j t
 ol:∀t,gh.lead t≠i->gh.lead t=cJ.lead t/\gh.L t=cJ.L t
 hd:R.out.save=true\/R.hard=R0.hard
 dk:uP R0 F0 R F
 cc:kJ R0 R F
section
variable {n t T:Int}{i N N' k:Nat}{gh gh' cJ:Gh}{R R' R0:Rf}{F F' F0 l:List En}{m:Mg}
theorem bO.start(hb:eD n gh)(hs:gX n gh i R F)(ho:R.out=eO):bO n gh i R F N gh F R where
 ext:=kf.refl gh
 bs:=hb
 sv:=hs
 ms m hm:=by rw[ho]at hm;cases hm
 oth _ _ _:=⟨rfl,rfl⟩
 ol _ _:=⟨rfl,rfl⟩
 hd:=.inr rfl
 dk:=by
  unfold uP;rw[ho];exact⟨rfl,rfl,rfl,.inl ⟨rfl,rfl⟩⟩
 cc:=by
  unfold kJ;rw[ho];exact⟨Int.le_refl _,by rw[Nat.sub_self,List.take_zero];rfl⟩
theorem gX.same(h:gX n gh i R F)(e1:R'.id=R.id)(e2:R'.n=R.n)(e3:R'.hard=R.hard)(e4:R'.track=R.track)(e5:R'.snap=R.snap)(e6:R'.commit=R.commit)
  (hl:R'.role=3->R.role=3/\R'.peers.length=R.peers.length/\∀s:Nat,1<=s->(s:Int)<=n->s≠i->(R'.peer s).mat=(R.peer s).mat/\(R'.peer s).next=(R.peer s).next) (hc:R'.role=2->R.role=2/\∀s∈R'.yes,s∈R.yes\/(1<=s->s<=n->gh.V s.toNat R.hard.term=i)):gX n gh i R' F where
 i0:=h.i0
 id:=e1.trans h.id
 nn:=by rw[e2];exact h.nn
 tr:=by rw[e4];exact h.tr
 base:=by rw[e4];exact h.base
 trL:=by rw[e4];exact h.trL
 trT:=by rw[e4];exact h.trT
 fm:=h.fm
 fa:=h.fa
 fi:=h.fi
 ft:=by rw[e3];exact h.ft
 t0:=by rw[e3];exact h.t0
 sn:=by rw[e4,e5];exact h.sn
 cm:=by rw[e4,e6];exact h.cm
 co:=by rw[e3,e6];exact h.co
 vh:=by rw[e3];exact h.vh
 vt:=by rw[e3];exact h.vt
 ah:=by rw[e3];exact h.ah
 kp:=by rw[e3];exact h.kp
 ld:=by rw[e3];exact h.ld
 rl hr:=by
  obtain⟨h1,h2,h3⟩:=hl hr;obtain⟨q1,q2,q3,q4,q5⟩:=h.rl h1;rw[e3,e2];refine⟨q1,q2,q3,h2.trans q4,fun s s1 s2 s3=>?_⟩;obtain⟨a1,a2⟩:=h3 s s1 s2 s3;rw[a1,a2];exact q5 s s1 s2 s3
 rc hr:=by
  obtain⟨h1,h2⟩:=hc hr;obtain⟨q1,q2,q3,q4⟩:=h.rc h1;rw[e3];refine⟨q1,q2,q3,fun s hs s1 s2=>?_⟩;rcases h2 s hs with h3|h3
  ·exact q4 s h3 s1 s2
  ·exact h3 s1 s2
theorem bO.same(h:bO n cJ i R0 F0 N gh F R)(e1:R'.id=R.id)(e2:R'.n=R.n)(e3:R'.hard=R.hard)(e4:R'.track=R.track)(e5:R'.snap=R.snap)(e6:R'.commit=R.commit)(e7:R'.out=R.out)
  (hl:R'.role=3->R.role=3/\R'.peers.length=R.peers.length/\∀s:Nat,1<=s->(s:Int)<=n->s≠i->(R'.peer s).mat=(R.peer s).mat/\(R'.peer s).next=(R.peer s).next) (hc:R'.role=2->R.role=2/\∀s∈R'.yes,s∈R.yes\/(1<=s->s<=n->gh.V s.toNat R.hard.term=i)):bO n cJ i R0 F0 N gh F R' where
 ext:=h.ext
 bs:=h.bs
 sv:=h.sv.same e1 e2 e3 e4 e5 e6 hl hc
 ms:=by rw[e6,e7];exact h.ms
 oth:=h.oth
 ol:=h.ol
 hd:=by rw[e3,e7];exact h.hd
 dk:=by have:=h.dk;unfold uP at this ⊢;rw[e4,e5,e7];exact this
 cc:=by have:=h.cc;unfold kJ at this ⊢;rw[e6,e7];exact this
theorem bO.outs(h:bO n cJ i R0 F0 N gh F R){o:Ot}(e1:o.save=R.out.save)(e2:o.reset=R.out.reset)(e3:o.entries=R.out.entries)(e4:o.commits=R.out.commits)(e5:o.snap=R.out.snap)(hm:∀m∈o.msgs,eF n gh (max N R.commit.toNat) m):bO n cJ i R0 F0 N gh F {R with out:=o} where
 ext:=h.ext
 bs:=h.bs
 sv:=h.sv.same rfl rfl rfl rfl rfl rfl (fun hr=>⟨hr,rfl,fun _ _ _ _=>⟨rfl,rfl⟩⟩) fun hr=>⟨hr,fun _ hs=>.inl hs⟩
 ms:=hm
 oth:=h.oth
 ol:=h.ol
 hd:=by rcases h.hd with h1|h1;exact .inl (e1.trans h1);exact .inr h1
 dk:=by
  have:=h.dk;unfold uP at this ⊢;show match o.snap with|none=>_|some x=>_
  rw[e5];cases hs:R.out.snap with
  | none=>rw[hs]at this;simp only at this ⊢;rw[e1,e2,e3];exact this
  | some x=>rw[hs]at this;simp only at this ⊢;rw[e1,e2,e3];exact this
 cc:=by
  have:=h.cc;unfold kJ at this ⊢;show match o.snap with|none=>_|some x=>_
  rw[e5];cases hs:R.out.snap with
  | none=>rw[hs]at this;simp only at this ⊢;rw[e4];exact this
  | some x=>rw[hs]at this;simp only at this ⊢;rw[e4];exact this
theorem bO.send(h:bO n cJ i R0 F0 N gh F R)(hm:eF n gh (max N R.commit.toNat) {m with frm:=R.id,term:=if m.term=0 then R.hard.term else m.term}):bO n cJ i R0 F0 N gh F (R.send m):=
 h.outs rfl rfl rfl rfl rfl fun x hx=>by
  rcases List.mem_append.1 hx with h1|h1
  ·exact h.ms x h1
  ·rw[List.mem_singleton.1 h1];exact hm
theorem eF.none_(h3:m.kind≠3)(h4:m.kind=4->m.reject=true)(h5:m.kind≠5)(h6:m.kind=6->m.reject=true)(h7:m.kind≠7)(h8:m.kind=8->m.reject=true\/0<m.total):eF n gh N m where
 vote h:=absurd h h3
 voted h hr:=by rw[h4 h]at hr;cases hr
 app h:=absurd h h5
 appd h hr:=by rw[h6 h]at hr;cases hr
 pie h:=absurd h h7
 pied h hr ht:=by
  rcases h8 h with h1|h1
  ·rw[h1]at hr;cases hr
  ·exact absurd h1 ht
theorem gX.idx0(h:gX n gh i R F):0<=R.track.index:=h.tr.b.1
theorem gX.len(h:gX n gh i R F):(F.length:Int)=R.track.index+R.track.L.length:=by
 have:=h.base;have:=h.idx0;rw[h.trL,List.length_drop];omega
theorem gX.last1(h:gX n gh i R F):R.track.lastF.1=F.length:=by rw[h.tr.last,h.len]
theorem xy(l:List En):eo l l.length=lastT l:=by
 cases hl:l.length with
 | zero=>rw[List.eq_nil_of_length_eq_zero hl];rfl
 | succ k=>
  rw[bw];unfold lastT;rw[List.getLast?_eq_getElem?,hl];rfl
theorem gX.termF(h:gX n gh i R F){j:Int}(h1:R.track.index<=j)(h2:j<=F.length):R.track.termF j=(eo F j.toNat,0):=by
 have h0:=h.idx0;unfold bv.termF;rw[if_neg (by omega)];split
 ·rename_i e;rw[h.trT,e]
 ·rename_i e;rw[h.trL,List.getElem?_drop];obtain⟨k,hk⟩:∃k,j.toNat=k+1:=⟨j.toNat-1,by omega⟩;rw[hk,bw,show R.track.index.toNat+(j-R.track.index-1).toNat=k by omega,List.getElem?_eq_getElem (by omega)]
theorem gX.last2(h:gX n gh i R F):R.track.lastF.2=lastT F:=by
 rw[<-xy];have h1:=h.termF (j:=F.length) (by have:=h.len;omega) (Int.le_refl _);rw[Int.toNat_natCast]at h1;rcases Nat.eq_zero_or_pos R.track.L.length with h0|h0
 ·rw[bv.lastF_nil (List.eq_nil_of_length_eq_zero h0)];show R.track.term=_;rw[h.trT];have:=h.len;rw[show R.track.index.toNat=F.length by omega]
 ·obtain⟨x,hx,e⟩:=bv.lastF_pos h0;rw[e];show x.term=_;rw[h.trL,List.getElem?_drop]at hx;have hl:=h.len;have hb:=h.base;have hi:=h.idx0;rw[h.trL,List.length_drop]at h0;rw[List.length_drop]at hx;rw[show R.track.index.toNat+(F.length-R.track.index.toNat-1)=F.length-1 by omega]at hx;obtain⟨k,hk⟩:∃k,F.length=k+1:=⟨F.length-1,by omega⟩;rw[hk,bw];rw[hk]at hx;rw[show k+1-1=k by omega]at hx;rw[hx]
theorem gX.sliceF(h:gX n gh i R F){j c:Int}(h1:R.track.index<j)(h2:1<=c):R.track.sliceF j c=(F.drop (j.toNat-1)).take c.toNat:=by
 have h0:=h.idx0;unfold bv.sliceF;rw[if_neg (by omega),h.trL,List.drop_drop];congr 2;omega
theorem CL{l:List En}(k:Nat):l.take k=l.take (l.take k).length:=by
 rw[List.length_take];rcases Nat.le_total k l.length with h|h
 ·rw[Nat.min_eq_left h]
 ·rw[Nat.min_eq_right h,List.take_length,List.take_of_length_le h]
end
section
variable {n t T:Int}{i N N' k:Nat}{gh gh' cJ:Gh}{R R' R0:Rf}{F F' F0 l:List En}{m:Mg}
theorem gX.pos(h:gX n gh i R F)(hb:eD n gh)(hr:R.role=3):1<=R.hard.term:=hb.core.pos _ (by rw[(h.rl hr).1];have:=h.i0;omega)
theorem gX.clen(h:gX n gh i R F):R.commit<=F.length:=by
 have:=h.co.len;have:=h.cm;have:=h.idx0;omega
theorem bO.lacks(h:bO n cJ i R0 F0 N gh F R)(hr:R.role=3){s:Nat}(h1:1<=s)(h2:(s:Int)<=n)(h3:s≠i):bO n cJ i R0 F0 N gh F (R.lacks s):=by
 have sv:=h.sv;obtain⟨q1,q2,q3,q4,q5⟩:=sv.rl hr;obtain⟨_,p1,p2⟩:=q5 s h1 h2 h3;have hT:=sv.pos h.bs hr;have hi:=sv.i0;have nS:=sv.id;have h0:=sv.idx0;have eW:=sv.cm;have gf:=sv.clen;unfold Rf.lacks;split
 ·rename_i bh;refine h.send ⟨fun e=>(by cases e),fun e=>(by cases e),fun e=>(by cases e),fun e=>(by cases e),fun _=>?_,fun e=>(by cases e)⟩;refine⟨⟨?_,?_⟩,?_,?_,?_⟩
  ·show gh.lead R.hard.term=((R.id:Nat):Int).toNat;rw[q1,nS];omega
  ·show(1:Int)<=((R.id:Nat):Int);omega
  ·show R.snap.term=eo (gh.L R.hard.term) R.snap.idx.toNat;rw[sv.sn.1,sv.sn.2,q2];exact sv.trT
  ·show R.snap.idx.toNat<=_;rw[sv.sn.1];omega
  ·show dq n gh R.hard.term (gh.L R.hard.term) R.snap.idx.toNat;rw[sv.sn.1,q2];exact sv.co.less (by omega)
 ·rename_i bh;have hs:=sv.sliceF (j:=(R.peer s).next) (c:=6) (by omega) (by omega);have ht:=sv.termF (j:=(R.peer s).next-1) (by omega) (by omega);refine h.send ⟨fun e=>(by cases e),fun e=>(by cases e),fun _=>?_,fun e=>(by cases e),fun e=>(by cases e),fun e=>(by cases e)⟩;refine⟨⟨?_,?_⟩,?_,?_,?_,?_,⟨?_,?_⟩,?_⟩
  ·show gh.lead R.hard.term=((R.id:Nat):Int).toNat;rw[q1,nS];omega
  ·show(1:Int)<=((R.id:Nat):Int);omega
  ·show(0:Int)<=(R.peer s).next-1
   omega
  ·show((R.peer s).next-1).toNat+(R.track.sliceF (R.peer s).next 6).length<=(gh.L R.hard.term).length;rw[hs,q2,List.length_take,List.length_drop];omega
  ·show R.track.sliceF (R.peer s).next 6=((gh.L R.hard.term).drop ((R.peer s).next-1).toNat).take (R.track.sliceF (R.peer s).next 6).length
   rw[hs,q2,show((R.peer s).next-1).toNat=(R.peer s).next.toNat-1 by omega];exact CL _
  ·show(R.track.termF ((R.peer s).next-1)).1=eo (gh.L R.hard.term) ((R.peer s).next-1).toNat;rw[ht,q2]
  ·show(0:Int)<=R.commit;omega
  ·show R.commit.toNat<=_;omega
  ·show dq n gh R.hard.term (gh.L R.hard.term) R.commit.toNat;rw[q2];exact sv.co
theorem wO(R:Rf)(s:Nat):(R.lacks s).id=R.id/\(R.lacks s).n=R.n/\(R.lacks s).role=R.role:=by
 unfold Rf.lacks;split <;> exact⟨rfl,rfl,rfl⟩
theorem bO.foldLacks:∀(L:List Nat) (R:Rf),bO n cJ i R0 F0 N gh F R->R.role=3->(∀s∈L,1<=s/\(s:Int)<=n/\s≠i)->bO n cJ i R0 F0 N gh F (L.foldl Rf.lacks R)
 | [],R,h,_,_=>h
 | s::L,R,h,hr,hs=>by
  have eC:=hs s (List.mem_cons_self ..);exact bO.foldLacks L (R.lacks s) (h.lacks hr eC.1 eC.2.1 eC.2.2) ((wO R s).2.2.trans hr) fun x hx=>hs x (List.mem_cons_of_mem _ hx)
theorem Ch(h:gX n gh i R F):∀s∈R.others,1<=s/\(s:Int)<=n/\s≠i:=fun s hs=>by
 unfold Rf.others at hs;obtain⟨h1,h2⟩:=List.mem_filter.1 hs;have h3:=List.mem_range'_1.1 h1;have h4:=of_decide_eq_true h2;have:=h.nn;rw[h.id]at h4;exact⟨h3.1,by omega,h4⟩
theorem bO.all(h:bO n cJ i R0 F0 N gh F R)(hr:R.role=3):bO n cJ i R0 F0 N gh F R.all:=bO.foldLacks R.others R h hr (Ch h.sv)
theorem yb{N0:Nat}(h:1<=N0/\N0<=7)(l:List Int):mh N0 (BB l (dC N0 l) N0)=true:=by
 rw[iZ (by omega)];obtain⟨S,KR,hp,hS,hj,ha⟩:=Dw N0 l h.1;have cnt:∀v,((mN N0 l).countP fun x=>decide (v<=x))=S.countP fun x=>decide (v<=x):=fun v=>(hp.countP_eq _).symm
 have:=(uA h l (AW N0 l)).2 (by
  rw[cnt,ha];have:=vO S hS _ hj;omega)
 exact this
theorem B9(R:Rf)(own:Int)(f:Pr->Int){s:Nat}(h1:1<=s)(h2:s<=R.n):(R.matchL own f)[s-1]?=some (if s=R.id then own else f (R.peer s)):=by
 unfold Rf.matchL;rw[List.getElem?_map,List.getElem?_range' (by omega)];simp only[Option.map_some];rw[show 1+1*(s-1)=s by omega]
theorem AX(h:gX n gh i R F)(own:Int)(f:Pr->Int)(ha:0<dC R.n (R.matchL own f))(h7:n<=7):Da n fun s=>dC R.n (R.matchL own f)<=if s=i then own else f (R.peer s):=by
 have hn:=h.nn;have hi:=h.i0;refine⟨BB (R.matchL own f) (dC R.n (R.matchL own f)) R.n,by rw[<-hn];exact yb (N0:=R.n) (by omega) _,fun s hs h1 h2=>?_⟩;unfold BB at hs;obtain⟨j,hj,e⟩:=List.mem_map.1 hs;obtain⟨EA,Ar⟩:=List.mem_filter.1 hj;have EA:=List.mem_range.1 EA;have Ar:=of_decide_eq_true Ar;have hm:=B9 R own f (s:=j+1) (by omega) (by omega);rw[show j+1-1=j by omega]at hm;unfold F8 at Ar;rw[hm]at Ar;simp only[Option.getD_some]at Ar;rw[h.id]at Ar;rw[show s.toNat=j+1 by omega];omega
theorem bO.agrees(h:bO n cJ i R0 F0 N gh F R)(hr:R.role=3)(h7:n<=7)(fw:R.out.snap=none):bO n cJ i R0 F0 N gh F R.agrees:=by
 unfold Rf.agrees;split
 ·rename_i hc;obtain⟨fP,kE⟩:=hc;have sv:=h.sv;obtain⟨q1,q2,q3,q4,q5⟩:=sv.rl hr;have hT:=sv.pos h.bs hr;have h0:=sv.idx0;have eW:=sv.cm;obtain⟨a,ha⟩:=zN (R.agreesTo);have hq:=AX sv R.track.lastF.1 Pr.mat (by show 0<R.agreesTo;omega) h7;rw[show dC R.n (R.matchL R.track.lastF.1 Pr.mat)=a from ha]at hq;rw[ha]at fP kE ⊢;have Ww:a<=F.length:=by
   refine Classical.byContradiction fun hn=>?_
   have hl:=sv.len;unfold bv.termF at kE;rw[if_neg (by omega),if_neg (by omega),List.getElem?_eq_none (by omega)]at kE;injection kE with _ e;cases e
  have X3:=sv.termF (j:=a) (by omega) Ww;rw[X3]at kE;injection kE with kE _;have qj:cZ n gh R.hard.term a.toNat:=by
   refine⟨by rw[q1];have:=sv.i0;omega,by omega,?_,hq.mono fun s s1 s2 hs=>?_⟩
   ·obtain⟨k,hk⟩:∃k,a.toNat=k+1:=⟨a.toNat-1,by omega⟩;rw[hk,bw]at kE;rw[q2,hk,show k+1-1=k by omega];have hx:F[k]?=some (F[k]'(by omega)):=List.getElem?_eq_getElem (by omega);rw[hx]at kE;exact⟨_,hx,kE⟩
   ·by_cases e:s=i
    ·rw[if_pos e,sv.last1]at hs;rw[e,q3];omega
    ·rw[if_neg e]at hs;have:=(q5 s s1 s2 e).1;omega
  unfold Rf.commits;rw[if_pos fP];have mf:=sv.sliceF (j:=R.commit+1) (c:=a-R.commit) (by omega) (by omega);refine⟨h.ext,h.bs,?_,fun m hm=>(h.ms m hm).ext (kf.refl gh) ?_,h.oth,h.ol,h.hd,?_,?_⟩
  ·exact {sv with
    cm:=by show R.track.index<=a;omega
    co:=.inr ⟨R.hard.term,a.toNat,qj,Int.le_refl _,Nat.le_refl _,by rw[q2]⟩}
  ·show max N R.commit.toNat<=max N a.toNat;omega
  ·have:=h.dk;unfold uP at this ⊢;exact this
  ·have:=h.cc;unfold kJ at this ⊢;show match R.out.snap with|none=>_|some x=>_
   rw[fw]at this ⊢;simp only at this ⊢;obtain⟨h1,h2⟩:=this;refine⟨by omega,?_⟩;rw[h2,mf,show(R.commit+1).toNat-1=R.commit.toNat by omega];have RN:0<=R0.commit\/R0.commit<0:=by omega
   rw[show a.toNat-R0.commit.toNat=(R.commit.toNat-R0.commit.toNat)+(a-R.commit).toNat by omega,List.take_add,List.drop_drop];congr 3;omega
 ·exact h
end
section
variable {n t T:Int}{i N N' k v:Nat}{gh gh' cJ:Gh}{R R' R0:Rf}{F F' F0 l:List En}{m:Mg}
theorem dY.up{T':Int}(h:dY gh v T l)(hT:T<=T')(hA:∀t0,T<=t0->gh.A v t0=0):dY gh v T' l:=fun t0 h0 k hk=>by
 rcases Int.lt_or_le t0 T with h1|h1
 ·rcases h t0 h1 k hk with h2|⟨t1,a,b,c,d⟩
  ·exact .inl h2
  ·exact .inr ⟨t1,a,by omega,c,d⟩
 ·rw[hA t0 h1]at hk;have:k=0:=by omega
  subst this;exact .inl rfl
theorem dY.strict(h:dY gh v (T+1) l)(hl:gh.lead T=0):dY gh v T l:=fun t0 h0 k hk=>by
 rcases h t0 (by omega) k hk with h2|⟨t1,a,b,c,d⟩
 ·exact .inl h2
 ·refine .inr ⟨t1,a,?_,c,d⟩;rcases Int.lt_or_le t1 T with h3|h3
  ·exact h3
  ·have:t1=T:=by omega
   subst this;exact absurd hl c
theorem gX.follows(h:gX n gh i R F)(ht:R.hard.term<t)(e1:R'.id=R.id)(e2:R'.n=R.n)(e3:R'.hard=⟨t,0⟩)(e4:R'.track=R.track)(e5:R'.snap=R.snap)(e6:R'.commit=R.commit)(e7:R'.role=0):gX n gh i R' F where
 i0:=h.i0
 id:=e1.trans h.id
 nn:=by rw[e2];exact h.nn
 tr:=by rw[e4];exact h.tr
 base:=by rw[e4];exact h.base
 trL:=by rw[e4];exact h.trL
 trT:=by rw[e4];exact h.trT
 fm:=h.fm
 fa:=h.fa
 fi:=h.fi
 ft x hx:=by rw[e3];have:=h.ft x hx;exact⟨this.1,by show x.term<=t;omega⟩
 t0:=by rw[e3];have:=h.t0;show 0<=t;omega
 sn:=by rw[e4,e5];exact h.sn
 cm:=by rw[e4,e6];exact h.cm
 co:=by rw[e3,e6];exact h.co.up (by show _<=t;omega)
 vh t' h':=by rw[e3]at h';exact h.vh t' (by have h':t<t':=h';omega)
 vt:=by rw[e3];show((gh.V i t:Nat):Int)=0;rw[h.vh t ht];rfl
 ah t' h':=by rw[e3]at h';exact h.ah t' (by have h':t<t':=h';omega)
 kp:=by rw[e3];exact h.kp.up (by show _<=t+1;omega) fun t0 h0=>h.ah t0 (by omega)
 ld t' h':=by rw[e3];have:=h.ld t' h';show t'<=t;omega
 rl hr:=by rw[e7]at hr;cases hr
 rc hr:=by rw[e7]at hr;cases hr
theorem bO.follows(h:bO n cJ i R0 F0 N gh F R)(ht:R.hard.term<t):bO n cJ i R0 F0 N gh F (R.follows t) where
 ext:=h.ext
 bs:=h.bs
 sv:=h.sv.follows ht rfl rfl rfl rfl rfl rfl rfl
 ms:=h.ms
 oth:=h.oth
 ol:=h.ol
 hd:=.inl rfl
 dk:=by
  have:=h.dk;unfold uP at this ⊢;show match R.out.snap with|none=>_|some x=>_
  cases hs:R.out.snap with
  | none=>
   rw[hs]at this;simp only at this ⊢;obtain⟨h1,h2,h3,h4⟩:=this;refine⟨h1,h2,h3,?_⟩;rcases h4 with h4|⟨_,h5⟩
   ·exact .inl h4
   ·exact .inr ⟨rfl,h5⟩
  | some x=>
   rw[hs]at this;simp only at this ⊢;exact⟨rfl,this.2⟩
 cc:=by have:=h.cc;unfold kJ at this ⊢;exact this
theorem bO.foldSend(f:Nat->Mg):∀(L:List Nat) (R:Rf),bO n cJ i R0 F0 N gh F R->(∀s∈L,eF n gh (max N R.commit.toNat) {f s with frm:=R.id,term:=if(f s).term=0 then R.hard.term else(f s).term})->bO n cJ i R0 F0 N gh F (L.foldl (fun R' s=>R'.send (f s)) R)
 | [],R,h,_=>h
 | s::L,R,h,hm=>bO.foldSend f L (R.send (f s)) (h.send (hm s (List.mem_cons_self ..))) fun x hx=>hm x (List.mem_cons_of_mem _ hx)
theorem iF(f:Nat->Mg):∀(L:List Nat) (R:Rf),∃ms,L.foldl (fun R' s=>R'.send (f s)) R={R with out:={R.out with msgs:=ms}}
 | [],R=>⟨R.out.msgs,rfl⟩
 | s::L,R=>by
  obtain⟨ms,e⟩:=iF f L (R.send (f s));exact⟨ms,e⟩
theorem bO.stands2(h:bO n cJ i R0 F0 N gh F R):∃gh',bO n cJ i R0 F0 N gh' F (R.stands2.says R.id)/\(∃ms,R.stands2={R.stands1 with out:={R.stands1.out with msgs:=ms}}):=by
 have sv:=h.sv;have hi:=sv.i0;have h0:=sv.t0;have hT:R.hard.term<R.hard.term+1:=by omega
 obtain⟨e,hb⟩:=h.bs.stand (i:=i) (T:=R.hard.term+1) (F:=F) (by omega) (by omega) (sv.vh _ hT) sv.fm sv.fa (fun x hx=>by have:=sv.ft x hx;omega) sv.kp;obtain⟨g,hg⟩:=zN (gh.stand i (R.hard.term+1) F);have gV:g.V i (R.hard.term+1)=i:=by rw[<-hg];exact cS
 have gV2:∀j t',¬(j=i/\t'=R.hard.term+1)->g.V j t'=gh.V j t':=fun j t' hn=>by rw[<-hg];exact dj hn
 have gS:g.Sd i (R.hard.term+1)=F:=by rw[<-hg];exact cS
 have gA:g.A=gh.A:=by rw[<-hg];rfl
 have gl:g.lead=gh.lead:=by rw[<-hg];rfl
 have gL:g.L=gh.L:=by rw[<-hg];rfl
 rw[hg]at e hb;have SR:gX n g i R.stands1 F:={
  i0:=sv.i0
  id:=sv.id
  nn:=sv.nn
  tr:=sv.tr
  base:=sv.base
  trL:=sv.trL
  trT:=sv.trT
  fm:=sv.fm
  fa:=sv.fa.ext e
  fi:=sv.fi
  ft:=fun x hx=>by have:=sv.ft x hx;exact⟨this.1,by show x.term<=R.hard.term+1;omega⟩
  t0:=by show 0<=R.hard.term+1;omega
  sn:=sv.sn
  cm:=sv.cm
  co:=(sv.co.ext e).up (by show _<=R.hard.term+1;omega)
  vh:=fun t' h'=>by
   have h':R.hard.term+1<t':=h';rw[gV2 i t' (by omega)];exact sv.vh t' (by omega)
  vt:=by
   show((g.V i (R.hard.term+1):Nat):Int)=((R.id:Nat):Int);rw[gV,sv.id]
  ah:=fun t' h'=>by
   have h':R.hard.term+1<t':=h';rw[gA];exact sv.ah t' (by omega)
  kp:=(sv.kp.ext h.bs e fun _ _=>by rw[gA]).up (by show _<=R.hard.term+1+1;omega) fun t0 h1=>by rw[gA];exact sv.ah t0 (by omega)
  ld:=fun t' h'=>by
   rw[gl]at h';have:=sv.ld t' h';show t'<=R.hard.term+1;omega
  rl:=fun hr=>(by cases hr)
  rc:=fun _=>⟨gV,fun hl=>by rw[gl]at hl;have:=sv.ld _ hl;have:R.stands1.hard.term=R.hard.term+1:=rfl;omega,gS,fun s hs=>(by cases hs)⟩}
 have M1:bO n cJ i R0 F0 N g F R.stands1:={
  ext:=h.ext.trans e
  bs:=hb
  sv:=SR
  ms:=fun m hm=>(h.ms m hm).ext e zl
  oth:=fun j hj t'=>by rw[gA,gV2 j t' (fun hh=>hj hh.1)];exact h.oth j hj t'
  ol:=fun t' ht=>by rw[gl]at ht ⊢;rw[gL];exact h.ol t' ht
  hd:=.inl rfl
  dk:=by
   have:=h.dk;unfold uP at this ⊢;show match R.out.snap with|none=>_|some x=>_
   cases hs:R.out.snap with
   | none=>
    rw[hs]at this;simp only at this ⊢;obtain⟨h1,h2,h3,h4⟩:=this;refine⟨h1,h2,h3,?_⟩;rcases h4 with h4|⟨_,h5⟩
    ·exact .inl h4
    ·exact .inr ⟨rfl,h5⟩
   | some x=>
    rw[hs]at this;simp only at this ⊢;exact⟨rfl,this.2⟩
  cc:=by have:=h.cc;unfold kJ at this ⊢;exact this}
 have M2:bO n cJ i R0 F0 N g F R.stands2:=bO.foldSend _ _ _ M1 fun s _=>by
  refine⟨fun _=>?_,fun e=>(by cases e),fun e=>(by cases e),fun e=>(by cases e),fun e=>(by cases e),fun e=>(by cases e)⟩;show 1<=((R.id:Nat):Int)/\g.V ((R.id:Nat):Int).toNat (R.hard.term+1)=((R.id:Nat):Int).toNat/\((g.Sd ((R.id:Nat):Int).toNat (R.hard.term+1)).length:Int)=R.track.lastF.1/\lastT (g.Sd ((R.id:Nat):Int).toNat (R.hard.term+1))=R.track.lastF.2;rw[sv.id,Int.toNat_natCast,gV,gS,sv.last1,sv.last2];exact⟨by omega,rfl,rfl,rfl⟩
 obtain⟨ms,ems⟩:∃ms,R.stands2={R.stands1 with out:={R.stands1.out with msgs:=ms}}:=iF _ _ _;refine⟨g,M2.same rfl rfl rfl rfl rfl rfl rfl (fun hr=>?_) (fun hr=>⟨hr,fun s hs=>?_⟩),ms,ems⟩
 ·have e:(R.stands2.says R.id).role=2:=by rw[ems];rfl
  rw[e]at hr;cases hr
 ·rcases List.mem_append.1 hs with h1|h1
  ·exact .inl h1
  ·refine .inr fun _ _=>?_
   rw[List.mem_singleton.1 h1,sv.id,Int.toNat_natCast];have e2:R.stands2.hard.term=R.hard.term+1:=by rw[ems];rfl
   rw[e2];exact gV
end
section
variable {n t T:Int}{i N N' k v:Nat}{gh gh' cJ:Gh}{R R' R0:Rf}{F F' F0 l:List En}{m:Mg}
theorem uP.quiet(h:uP R0 F0 R F)(he:R.out.entries=[])(hs:R.out.snap=none):R.out.reset=false/\R.snap=R0.snap/\R.track.index=R0.track.index/\F=F0:=by
 unfold uP at h;rw[hs]at h;simp only at h;obtain⟨h1,h2,h3,h4⟩:=h;rcases h4 with⟨_,h4⟩|⟨_,h4,_⟩
 ·exact⟨h1,h2,h3,h4⟩
 ·exact absurd he h4
theorem zc(R:Rf)(s:Nat):∃ms,R.lacks s={R with out:={R.out with msgs:=ms}}:=by
 unfold Rf.lacks;split
 ·exact⟨_,rfl⟩
 ·exact⟨_,rfl⟩
theorem kV:∀(L:List Nat) (R:Rf),∃ms,L.foldl Rf.lacks R={R with out:={R.out with msgs:=ms}}
 | [],R=>⟨R.out.msgs,rfl⟩
 | s::L,R=>by
  obtain⟨m1,e1⟩:=zc R s;obtain⟨m2,e2⟩:=kV L (R.lacks s);refine⟨m2,?_⟩;show L.foldl Rf.lacks (R.lacks s)=_;rw[e2,e1]
theorem Dy(R:Rf):∃ms,R.all={R with out:={R.out with msgs:=ms}}:=kV _ _
theorem bO.allAgrees(h:bO n cJ i R0 F0 N gh F R)(hr:R.role=3)(h7:n<=7)(fw:R.out.snap=none):bO n cJ i R0 F0 N gh F R.all.agrees:=by
 obtain⟨ms,e⟩:=Dy R;have h1:=h.all hr;exact h1.agrees (by rw[e];exact hr) h7 (by rw[e];exact fw)
theorem Cq{tk KA:bv}{x:En}{c:En}(h:tk.putF T c=((x,0),KA)):KA={tk with L:=tk.L++[x]}/\x.idx=tk.lastF.1+1/\x.term=T/\di x=true/\tk.lastF.2<=T:=by
 unfold bv.putF at h;split at h
 ·injection h with h _;injection h with _ h;cases h
 ·split at h
  ·injection h with h _;injection h with _ h;cases h
  ·rename_i hc;injection h with h1 h2;injection h1 with h1 _;subst h1;refine⟨h2.symm,rfl,rfl,?_,?_⟩
   ·cases hp:di (nc (tk.lastF.1+1) T c)with
    | true=>rfl
    | false=>exact absurd (.inr hp) hc
   ·exact Int.not_lt.1 fun hh=>hc (.inl hh)
theorem tu{tk KA:bv}{x c:En}{e:Int}(h:tk.putF T c=((x,e),KA))(he:e≠0):KA=tk:=by
 unfold bv.putF at h;split at h
 ·injection h with _ h;exact h.symm
 ·split at h
  ·injection h with _ h;exact h.symm
  ·injection h with h _;injection h with _ h;exact absurd h.symm he
theorem bO.put{x c:En}{tk:bv}(h:bO n cJ i R0 F0 N gh F R)(hr:R.role=3)(he:R.out.entries=[])(hs:R.out.snap=none)(hp:R.track.putF R.hard.term c=((x,0),tk)) :
  ∃gh',bO n cJ i R0 F0 N gh' (F++[x]) (({R with track:=tk}:Rf).save [x]):=by
 have sv:=h.sv;obtain⟨q1,q2,q3,q4,q5⟩:=sv.rl hr;have hi:=sv.i0;have hT:=sv.pos h.bs hr;obtain⟨p1,p2,p3,p4,p5⟩:=Cq hp;subst p1;obtain⟨e1,b1⟩:=h.bs.put (i:=i) (T:=R.hard.term) (e:=x) q1 (by omega) p3 (by rw[p2,sv.last1,q2]);obtain⟨g1,g4⟩:∃g,gh.put i R.hard.term x=g:=⟨_,rfl⟩;have L1:g1.L R.hard.term=F++[x]:=by rw[<-g4,<-q2];exact dK
 have L1n:∀t,t≠R.hard.term->g1.L t=gh.L t:=fun t ht=>by rw[<-g4];exact dP ht
 have V1:g1.V=gh.V:=by rw[<-g4];rfl
 have A1:g1.A=gh.A:=by rw[<-g4];rfl
 have l1:g1.lead=gh.lead:=by rw[<-g4];rfl
 have S1:g1.Sd=gh.Sd:=by rw[<-g4];rfl
 rw[g4]at e1 b1;obtain⟨e2,b2⟩:=b1.took (v:=i) (T:=R.hard.term) (k:=F.length+1) (by rw[L1,List.length_append];exact Nat.le_refl _) fun t ht=>by rw[V1];exact sv.vh t ht
 obtain⟨g2,jo⟩:∃g,g1.took i R.hard.term (F.length+1)=g:=⟨_,rfl⟩;have L2:g2.L=g1.L:=by rw[<-jo];rfl
 have V2:g2.V=gh.V:=by rw[<-jo];exact V1
 have l2:g2.lead=gh.lead:=by rw[<-jo];exact l1
 have S2:g2.Sd=gh.Sd:=by rw[<-jo];exact S1
 have A2:g2.A i R.hard.term=F.length+1:=by
  rw[<-jo];show vq g1.A i R.hard.term (max (g1.A i R.hard.term) (F.length+1)) i R.hard.term=_;rw[cS,A1,q3];omega
 have A2n:∀j t,¬(j=i/\t=R.hard.term)->g2.A j t=gh.A j t:=fun j t hn=>by
  rw[<-jo];show vq g1.A i R.hard.term _ j t=_;rw[dj hn,A1]
 rw[jo]at e2 b2;have ex:=e1.trans e2;have oS:g2.lead R.hard.term≠0:=by rw[l2,q1];omega
 have PW:g2.L R.hard.term=F++[x]:=by rw[L2,L1]
 have jC:=b2.core.logL R.hard.term oS;rw[PW]at jC;have ab:=sv.len;have bD:=sv.base;have h0:=sv.idx0;have mZ:=h.dk.quiet he hs;have vn:x.idx=F.length+1:=by rw[p2,sv.last1]
 refine⟨g2,h.ext.trans ex,b2,?_,fun m hm=>(h.ms m hm).ext ex zl,fun j hj t=>?_,fun t ht=>?_,.inl rfl,?_,?_⟩
 ·exact {
   i0:=sv.i0
   id:=sv.id
   nn:=sv.nn
   tr:=sv.tr.put (by rw[p2]) p4 (by rw[p3];exact p5)
   base:=by show R.track.index.toNat<=(F++[x]).length;rw[List.length_append];omega
   trL:=by show R.track.L++[x]=(F++[x]).drop R.track.index.toNat;rw[List.drop_append_of_le_length bD,sv.trL]
   trT:=by
    show R.track.term=eo (F++[x]) R.track.index.toNat;rw[sv.trT];cases hk:R.track.index.toNat with
    | zero=>rfl
    | succ k=>rw[bw,bw,List.getElem?_append_left (by omega)]
   fm:=jC.1
   fa:=jC.2
   fi:=fun j y hy=>by
    rcases Nat.lt_or_ge j F.length with hj|hj
    ·rw[List.getElem?_append_left hj]at hy;exact sv.fi j y hy
    ·have uf:j=F.length:=by
      have:=(List.getElem?_eq_some_iff.1 hy).1;rw[List.length_append,List.length_singleton]at this;omega
     subst uf;rw[List.getElem?_append_right zl,Nat.sub_self]at hy;simp only[List.getElem?_cons_zero,Option.some.injEq]at hy;subst hy;exact vn
   ft:=fun y hy=>by
    rcases List.mem_append.1 hy with h1|h1
    ·exact sv.ft y h1
    ·rw[List.mem_singleton.1 h1,p3];exact⟨hT,Int.le_refl _⟩
   t0:=sv.t0
   sn:=sv.sn
   cm:=sv.cm
   co:=by
    have h1:=sv.co.ext ex;rcases h1 with h1|⟨t,k,h1,h2,h3,h4⟩
    ·exact .inl h1
    ·refine .inr ⟨t,k,h1,h2,h3,?_⟩;show(F++[x]).take R.commit.toNat=_;rw[List.take_append_of_le_length sv.co.len];exact h4
   vh:=fun t ht=>by rw[V2];exact sv.vh t ht
   vt:=by rw[V2];exact sv.vt
   ah:=fun t ht=>by
    have ht:R.hard.term<t:=ht;rw[A2n i t (by omega)];exact sv.ah t ht
   kp:=fun t0 h0 k hk=>by
    have h0:t0<R.hard.term+1:=h0;rcases Int.lt_or_le t0 R.hard.term with h1|h1
    ·rw[A2n i t0 (by omega)]at hk;have hl:=Nat.le_trans hk (h.bs.al i t0);rcases sv.kp t0 h0 k hk with h3|⟨t3,a,b,c,d⟩
     ·refine .inl ?_;show(F++[x]).take k=_;rw[List.take_append_of_le_length (dJ h3.symm hl)];exact(ex.has hl).2 h3
     ·refine .inr ⟨t3,a,b,by rw[l2];exact c,fun h5=>d ?_⟩;rw[l2,S2]at h5;exact(ex.has hl).1 h5
    ·have e3:t0=R.hard.term:=by omega
     subst e3;refine .inl ?_;show(F++[x]).take k=_;rw[PW]
   ld:=fun t ht=>by rw[l2]at ht;exact sv.ld t ht
   rl:=fun _=>⟨by rw[l2];exact q1,PW,by show g2.A i R.hard.term=(F++[x]).length;rw[A2,List.length_append];rfl,q4,fun s s1 s2 s3=>by
    obtain⟨⟨a1,a2⟩,a3,a4⟩:=q5 s s1 s2 s3;refine⟨⟨a1,Nat.le_trans a2 (ex.A s _)⟩,a3,?_⟩;show(R.peer s).next<=((F++[x]).length:Int)+1
    rw[List.length_append,List.length_singleton];omega⟩
   rc:=fun h2=>by
    have h2:R.role=2:=h2;rw[hr]at h2;cases h2}
 ·rw[V2,A2n j t fun hh=>hj hh.1];exact h.oth j hj t
 ·have ss:t≠R.hard.term:=fun e=>by subst e;rw[l2,q1]at ht;exact ht rfl
  rw[l2]at ht ⊢;rw[L2,L1n t ss];exact h.ol t ht
 ·obtain⟨d1,d2,d3,d4⟩:=mZ;unfold uP;show match R.out.snap with|none=>_|some x=>_
  rw[hs];simp only;refine⟨d1,d2,d3,.inr ⟨rfl,?_,F0.length,?_,Nat.le_refl _,?_⟩⟩
  ·show R.out.entries++[x]≠[];simp
  ·have:=sv.base;rw[<-d4,<-d3];exact this
  ·show F++[x]=F0.take F0.length++(R.out.entries++[x]);rw[List.take_length,he,d4];rfl
 ·have:=h.cc;unfold kJ at this ⊢;show match R.out.snap with|none=>_|some x=>_
  rw[hs]at this ⊢;simp only at this ⊢;refine⟨this.1,this.2.trans ?_⟩;have gf:=sv.clen;have fO:=this.1;show(F.drop R0.commit.toNat).take _=((F++[x]).drop R0.commit.toNat).take _;rw[List.drop_append_of_le_length (by omega),List.take_append_of_le_length (by rw[List.length_drop];show R.commit.toNat-R0.commit.toNat<=_;omega)];rfl
end
section
variable {n t T:Int}{i N N' k v:Nat}{gh gh' cJ:Gh}{R R' R0:Rf}{F F' F0 l:List En}{m:Mg}
theorem bO.crown(h:bO n cJ i R0 F0 N gh F R)(hr:R.role=2)(hw:R.won=true):∃gh',bO n cJ i R0 F0 N gh' F R.crown:=by
 have sv:=h.sv;obtain⟨c1,c2,c3,c4⟩:=sv.rc hr;have hi:=sv.i0;have hq:Da n fun s=>gh.V s R.hard.term=i:=⟨R.yes,by rw[<-sv.nn];exact hw,fun s hs s1 s2=>c4 s hs s1 s2⟩
 have ir:gh.lead R.hard.term=0:=by
  refine Classical.byContradiction fun hn=>?_
  obtain⟨s,_,_,⟨h1,_⟩,h2⟩:=(h.bs.core.vote _ hn).meet hq;rw[h1]at h2;exact c2 h2
 obtain⟨e1,b1⟩:=h.bs.leads (i:=i) (T:=R.hard.term) (F:=F) (by omega) hi.2 ir c1 c3 hq sv.fi;obtain⟨g1,g4⟩:∃g,gh.leads i R.hard.term F=g:=⟨_,rfl⟩;have L1:g1.L R.hard.term=F:=by rw[<-g4];exact dK
 have L1n:∀t,t≠R.hard.term->g1.L t=gh.L t:=fun t ht=>by rw[<-g4];exact dP ht
 have l1:g1.lead R.hard.term=i:=by rw[<-g4];exact dK
 have l1n:∀t,t≠R.hard.term->g1.lead t=gh.lead t:=fun t ht=>by rw[<-g4];exact dP ht
 have V1:g1.V=gh.V:=by rw[<-g4];rfl
 have A1:g1.A=gh.A:=by rw[<-g4];rfl
 have S1:g1.Sd=gh.Sd:=by rw[<-g4];rfl
 rw[g4]at e1 b1;obtain⟨e2,b2⟩:=b1.took (v:=i) (T:=R.hard.term) (k:=F.length) (by rw[L1];exact Nat.le_refl _) fun t ht=>by rw[V1];exact sv.vh t ht
 obtain⟨g2,jo⟩:∃g,g1.took i R.hard.term F.length=g:=⟨_,rfl⟩;have L2:g2.L=g1.L:=by rw[<-jo];rfl
 have V2:g2.V=gh.V:=by rw[<-jo];exact V1
 have l2:g2.lead=g1.lead:=by rw[<-jo];rfl
 have S2:g2.Sd=gh.Sd:=by rw[<-jo];exact S1
 have VV:gh.A i R.hard.term=0:=by
  have:=h.bs.al i R.hard.term;rw[h.bs.l0 _ ir]at this;exact Nat.le_zero.1 this
 have A2:g2.A i R.hard.term=F.length:=by
  rw[<-jo];show vq g1.A i R.hard.term (max (g1.A i R.hard.term) F.length) i R.hard.term=_;rw[cS,A1,VV];omega
 have A2n:∀j t,¬(j=i/\t=R.hard.term)->g2.A j t=gh.A j t:=fun j t hn=>by
  rw[<-jo];show vq g1.A i R.hard.term _ j t=_;rw[dj hn,A1]
 rw[jo]at e2 b2;have ex:=e1.trans e2;have oS:g2.lead R.hard.term=i:=by rw[l2,l1]
 refine⟨g2,h.ext.trans ex,b2,?_,fun m hm=>(h.ms m hm).ext ex zl,fun j hj t=>?_,fun t ht=>?_,h.hd,?_,?_⟩
 ·exact {
   i0:=sv.i0
   id:=sv.id
   nn:=sv.nn
   tr:=sv.tr
   base:=sv.base
   trL:=sv.trL
   trT:=sv.trT
   fm:=sv.fm
   fa:=sv.fa.ext ex
   fi:=sv.fi
   ft:=sv.ft
   t0:=sv.t0
   sn:=sv.sn
   cm:=sv.cm
   co:=sv.co.ext ex
   vh:=fun t ht=>by rw[V2];exact sv.vh t ht
   vt:=by rw[V2];exact sv.vt
   ah:=fun t ht=>by
    have ht:R.hard.term<t:=ht;rw[A2n i t (by omega)];exact sv.ah t ht
   kp:=fun t0 h0 k hk=>by
    have h0:t0<R.hard.term+1:=h0;rcases Int.lt_or_le t0 R.hard.term with h1|h1
    ·rw[A2n i t0 (by omega)]at hk;have hl:=Nat.le_trans hk (h.bs.al i t0);rcases sv.kp t0 h0 k hk with h3|⟨t3,a,b,c,d⟩
     ·exact .inl ((ex.has hl).2 h3)
     ·have h5:t3≠R.hard.term:=fun e=>by subst e;exact c ir
      refine .inr ⟨t3,a,b,by rw[l2,l1n t3 h5];exact c,fun h6=>d ?_⟩;rw[l2,l1n t3 h5,S2]at h6;exact(ex.has hl).1 h6
    ·have e3:t0=R.hard.term:=by omega
     subst e3;refine .inl ?_;show F.take k=_;rw[L2,L1]
   ld:=fun t ht=>by
    by_cases e:t=R.hard.term
    ·exact Int.le_of_eq e
    ·rw[l2,l1n t e]at ht;exact sv.ld t ht
   rl:=fun _=>by
    refine⟨oS,by show g2.L R.hard.term=F;rw[L2,L1],A2,by show(List.replicate (R.n+1) _).length=_;rw[List.length_replicate];rfl,fun s s1 s2 s3=>?_⟩;have hp:R.crown.peer s=⟨R.track.lastF.1+1,0,0,0⟩:=by
     show(List.replicate (R.n+1) _)[s]?.getD Dr=_;have:=sv.nn;rw[List.getElem?_replicate,if_pos (by omega)];rfl
    rw[hp,sv.last1];show((0:Int)<=0/\(0:Int).toNat<=_)/\(1:Int)<=(F.length:Int)+1/\(F.length:Int)+1<=(F.length:Int)+1;exact⟨⟨Int.le_refl _,Nat.zero_le _⟩,by omega,Int.le_refl _⟩
   rc:=fun h2=>by cases h2}
 ·rw[V2,A2n j t fun hh=>hj hh.1];exact h.oth j hj t
 ·have ss:t≠R.hard.term:=fun e=>by subst e;exact ht oS
  rw[l2,l1n t ss]at ht ⊢;rw[L2,L1n t ss];exact h.ol t ht
 ·have:=h.dk;unfold uP at this ⊢;exact this
 ·have:=h.cc;unfold kJ at this ⊢;exact this
theorem bO.leads(h:bO n cJ i R0 F0 N gh F R)(hr:R.role=2)(hw:R.won=true)(h7:n<=7)(he:R.out.entries=[])(hs:R.out.snap=none):∃gh' F',bO n cJ i R0 F0 N gh' F' R.leads:=by
 obtain⟨g1,M1⟩:=h.crown hr hw;obtain⟨x,e,tk,hp⟩:∃x e tk,R.crown.track.putF R.crown.hard.term jx=((x,e),tk):=⟨_,_,_,rfl⟩;unfold Rf.leads Rf.leads1;rw[hp];simp only;by_cases h0:e=0
 ·subst h0;rw[if_pos rfl];obtain⟨g2,M2⟩:=M1.put rfl he hs hp;exact⟨g2,_,M2.allAgrees rfl h7 hs⟩
 ·rw[if_neg h0];have e2:=tu hp h0;subst e2;have M2:bO n cJ i R0 F0 N g1 F {R.crown with track:=R.crown.track}:=M1;exact⟨g1,F,M2.allAgrees rfl h7 hs⟩
theorem bO.stands(h:bO n cJ i R0 F0 N gh F R)(h7:n<=7)(he:R.out.entries=[])(hs:R.out.snap=none):∃gh' F',bO n cJ i R0 F0 N gh' F' R.stands:=by
 obtain⟨g1,M1,ms,e⟩:=h.stands2;unfold Rf.stands;split
 ·rename_i hw;exact M1.leads (by rw[e];rfl) hw h7 (by rw[e];exact he) (by rw[e];exact hs)
 ·exact⟨g1,F,M1⟩
theorem bO.asks(h:bO n cJ i R0 F0 N gh F R)(h7:n<=7)(he:R.out.entries=[])(hs:R.out.snap=none):∃gh' F',bO n cJ i R0 F0 N gh' F' R.asks:=by
 have M1:bO n cJ i R0 F0 N gh F R.asks1:=h.same rfl rfl rfl rfl rfl rfl rfl (fun hr=>by cases hr) fun hr=>by cases hr
 have M2:bO n cJ i R0 F0 N gh F R.asks2:=bO.foldSend _ _ _ M1 fun s _=>eF.none_ (by show(1:Int)≠3;omega) (fun e=>by cases e) (by show(1:Int)≠5;omega) (fun e=>by cases e) (by show(1:Int)≠7;omega) (fun e=>by cases e)
 obtain⟨ms,e⟩:∃ms,R.asks2={R.asks1 with out:={R.asks1.out with msgs:=ms}}:=iF _ _ _;have OU:R.asks2.role=1:=by rw[e];rfl
 have M3:bO n cJ i R0 F0 N gh F (R.asks2.says R.id):=M2.same rfl rfl rfl rfl rfl rfl rfl (fun hr=>by rw[show(R.asks2.says R.id).role=R.asks2.role from rfl,OU]at hr;cases hr) fun hr=>by rw[show(R.asks2.says R.id).role=R.asks2.role from rfl,OU]at hr;cases hr
 unfold Rf.asks;split
 ·exact M3.stands h7 (by rw[e];exact he) (by rw[e];exact hs)
 ·exact⟨gh,F,M3⟩
theorem bO.votes(h:bO n cJ i R0 F0 N gh F R)(hm:eF n gh N m)(hk:m.kind=3)(ht:m.term=R.hard.term)(ME:m.frm≠i)(Zq:m.frm<=n):∃gh',bO n cJ i R0 F0 N gh' F (R.votes m):=by
 have sv:=h.sv;have hi:=sv.i0;unfold Rf.votes;split
 ·rename_i hc;obtain⟨fP,kE⟩:=hc;obtain⟨m1,m2,m3,m4⟩:=hm.vote hk;rw[ht]at m2 m3 m4;obtain⟨c,TG⟩:=zN (m.frm.toNat);rw[TG]at m2 m3 m4;have fO:c≠0:=by omega
  have dR:qM (gh.Sd c R.hard.term) F:=by
   have h1:=of_decide_eq_true kE;rw[sv.last1,sv.last2]at h1;unfold qM;rw[m4];rcases h1 with h1|⟨h1,h2⟩
   ·exact .inl h1
   ·exact .inr ⟨h1,by omega⟩
  have h1:1<=R.hard.term:=h.bs.vp c _ (by rw[m2];exact fO);have key:∃g,kf gh g/\eD n g/\g.V i R.hard.term=c/\(∀j t,¬(j=i/\t=R.hard.term)->g.V j t=gh.V j t)/\g.A=gh.A/\g.lead=gh.lead/\g.L=gh.L/\g.Sd=gh.Sd:=by
   by_cases hV:gh.V i R.hard.term=0
   ·obtain⟨e,b⟩:=h.bs.voted (v:=i) (T:=R.hard.term) (c:=c) (F:=F) fO hV m2 sv.fm dR fun hl=>sv.kp.strict hl
    exact⟨_,e,b,cS,fun j t hn=>dj hn,rfl,rfl,rfl,rfl⟩
   ·refine⟨gh,kf.refl gh,h.bs,?_,fun _ _ _=>rfl,rfl,rfl,rfl,rfl⟩;have:=sv.vt;rcases fP with h2|h2
    ·omega
    ·omega
  obtain⟨g,ex,b,gV,gV2,gA,gl,gL,gS⟩:=key;obtain⟨R1,gE⟩:∃R1:Rf,R1={R.rest with hard:=⟨R.hard.term,m.frm⟩,out:={R.out with save:=true}}:=⟨_,rfl⟩;have M1:bO n cJ i R0 F0 N g F R1:=by
   subst gE;refine⟨h.ext.trans ex,b,?_,fun m hm=>(h.ms m hm).ext ex zl,fun j hj t=>?_,fun t uo=>?_,.inl rfl,?_,?_⟩
   ·exact {
     i0:=sv.i0
     id:=sv.id
     nn:=sv.nn
     tr:=sv.tr
     base:=sv.base
     trL:=sv.trL
     trT:=sv.trT
     fm:=sv.fm
     fa:=sv.fa.ext ex
     fi:=sv.fi
     ft:=sv.ft
     t0:=sv.t0
     sn:=sv.sn
     cm:=sv.cm
     co:=sv.co.ext ex
     vh:=fun t h2=>by
      have h2:R.hard.term<t:=h2;rw[gV2 i t (by omega)];exact sv.vh t h2
     vt:=by
      show((g.V i R.hard.term:Nat):Int)=m.frm;rw[gV];omega
     ah:=fun t h2=>by rw[gA];exact sv.ah t h2
     kp:=sv.kp.ext h.bs ex fun _ _=>by rw[gA]
     ld:=fun t h2=>by rw[gl]at h2;exact sv.ld t h2
     rl:=fun h2=>by
      have h2:R.role=3:=h2;obtain⟨q1,q2,q3,q4,q5⟩:=sv.rl h2;refine⟨by rw[gl];exact q1,by rw[gL];exact q2,by rw[gA];exact q3,q4,fun s s1 s2 s3=>?_⟩;rw[gA];exact q5 s s1 s2 s3
     rc:=fun h2=>by
      have h2:R.role=2:=h2;obtain⟨q1,q2,q3,q4⟩:=sv.rc h2;have:=sv.vt;rcases fP with h3|h3 <;> omega}
   ·rw[gA,gV2 j t fun hh=>hj hh.1];exact h.oth j hj t
   ·rw[gl]at uo ⊢;rw[gL];exact h.ol t uo
   ·have:=h.dk;unfold uP at this ⊢;show match R.out.snap with|none=>_|some x=>_
    cases hs:R.out.snap with
    | none=>
     rw[hs]at this;simp only at this ⊢;obtain⟨h1,h2,h3,h4⟩:=this;refine⟨h1,h2,h3,?_⟩;rcases h4 with h4|⟨_,h5⟩
     ·exact .inl h4
     ·exact .inr ⟨trivial,h5⟩
    | some x=>
     rw[hs]at this;simp only at this ⊢;exact⟨trivial,this.2⟩
   ·have:=h.cc;unfold kJ at this ⊢;exact this
  rw[<-gE];refine⟨g,M1.send ⟨fun e=>(by cases e),fun _ _=>?_,fun e=>(by cases e),fun e=>(by cases e),fun e=>(by cases e),fun e=>(by cases e)⟩⟩;subst gE;show 1<=m.frm/\((g.V ((R.id:Nat):Int).toNat (if(0:Int)=0 then R.hard.term else 0):Nat):Int)=m.frm;rw[if_pos rfl,sv.id,Int.toNat_natCast,gV];exact⟨m1,by omega⟩
 ·exact⟨gh,h.send (eF.none_ (by show(4:Int)≠3;omega) (fun _=>rfl) (by show(4:Int)≠5;omega) (fun e=>by cases e) (by show(4:Int)≠7;omega) (fun e=>by cases e))⟩
end
section
variable {n t T:Int}{i N N' k v:Nat}{gh gh' cJ:Gh}{R R' R0:Rf}{F F' F0 l:List En}{m:Mg}
theorem bO.commits(h:bO n cJ i R0 F0 N gh F R)(fw:R.out.snap=none){c:Int}(Ej:R.commit<c->dq n gh R.hard.term F c.toNat):bO n cJ i R0 F0 N gh F (R.commits c):=by
 unfold Rf.commits;split
 ·rename_i hc;have sv:=h.sv;have h0:=sv.idx0;have eW:=sv.cm;have mf:=sv.sliceF (j:=R.commit+1) (c:=c-R.commit) (by omega) (by omega);refine⟨h.ext,h.bs,?_,fun m hm=>(h.ms m hm).ext (kf.refl gh) ?_,h.oth,h.ol,h.hd,?_,?_⟩
  ·exact {sv with
    cm:=by show R.track.index<=c;omega
    co:=Ej hc}
  ·show max N R.commit.toNat<=max N c.toNat;omega
  ·have:=h.dk;unfold uP at this ⊢;exact this
  ·have:=h.cc;unfold kJ at this ⊢;show match R.out.snap with|none=>_|some x=>_
   rw[fw]at this ⊢;simp only at this ⊢;obtain⟨h1,h2⟩:=this;refine⟨by omega,?_⟩;rw[h2,mf,show(R.commit+1).toNat-1=R.commit.toNat by omega];have RN:0<=R0.commit\/R0.commit<0:=by omega
   rw[show c.toNat-R0.commit.toNat=(R.commit.toNat-R0.commit.toNat)+(c-R.commit).toNat by omega,List.take_add,List.drop_drop];congr 3;omega
 ·exact h
theorem bO.took(h:bO n cJ i R0 F0 N gh F R)(hr:R.role≠3)(hk:k<=(gh.L R.hard.term).length)(hF:F.take k=(gh.L R.hard.term).take k):∃gh',bO n cJ i R0 F0 N gh' F R/\k<=gh'.A i R.hard.term/\gh'.L=gh.L/\gh'.lead=gh.lead/\kf gh gh':=by
 have sv:=h.sv;obtain⟨ex,b⟩:=h.bs.took (v:=i) (T:=R.hard.term) (k:=k) hk sv.vh;obtain⟨g,hg⟩:=zN (gh.took i R.hard.term k);have gL:g.L=gh.L:=by rw[<-hg];rfl
 have gV:g.V=gh.V:=by rw[<-hg];rfl
 have gl:g.lead=gh.lead:=by rw[<-hg];rfl
 have gS:g.Sd=gh.Sd:=by rw[<-hg];rfl
 have gA:g.A i R.hard.term=max (gh.A i R.hard.term) k:=by rw[<-hg];exact cS
 have gAn:∀j t,¬(j=i/\t=R.hard.term)->g.A j t=gh.A j t:=fun j t hn=>by rw[<-hg];exact dj hn
 rw[hg]at ex b;refine⟨g,⟨h.ext.trans ex,b,?_,fun m hm=>(h.ms m hm).ext ex zl,fun j hj t=>?_,fun t ht=>?_,h.hd,h.dk,h.cc⟩,by rw[gA];omega,gL,gl,ex⟩
 ·exact {
   i0:=sv.i0
   id:=sv.id
   nn:=sv.nn
   tr:=sv.tr
   base:=sv.base
   trL:=sv.trL
   trT:=sv.trT
   fm:=sv.fm
   fa:=sv.fa.ext ex
   fi:=sv.fi
   ft:=sv.ft
   t0:=sv.t0
   sn:=sv.sn
   cm:=sv.cm
   co:=sv.co.ext ex
   vh:=fun t ht=>by rw[gV];exact sv.vh t ht
   vt:=by rw[gV];exact sv.vt
   ah:=fun t ht=>by
    have ht:R.hard.term<t:=ht;rw[gAn i t (fun hh=>by have:=hh.2;omega)];exact sv.ah t ht
   kp:=fun t0 h0 k' sT=>by
    by_cases e:t0=R.hard.term
    ·subst e;rw[gA]at sT;rcases Nat.lt_or_ge (gh.A i R.hard.term) k' with h1|h1
     ·refine .inl ?_;show F.take k'=_;rw[gL];have h2:k'<=k:=by omega
      have e:=congrArg (List.take k') hF;rw[List.take_take,List.take_take,Nat.min_eq_left h2]at e;exact e
     ·rcases sv.kp R.hard.term h0 k' h1 with h3|⟨t3,a,b,_⟩
      ·refine .inl ?_;show F.take k'=_;rw[gL];exact h3
      ·omega
    ·rw[gAn i t0 (fun hh=>e hh.2)]at sT;have hl:=Nat.le_trans sT (h.bs.al i t0);rcases sv.kp t0 h0 k' sT with h3|⟨t3,a,b,c,d⟩
     ·exact .inl ((ex.has hl).2 h3)
     ·refine .inr ⟨t3,a,b,by rw[gl];exact c,fun h6=>d ?_⟩;rw[gl,gS]at h6;exact(ex.has hl).1 h6
   ld:=fun t ht=>by rw[gl]at ht;exact sv.ld t ht
   rl:=fun h2=>absurd h2 hr
   rc:=fun h2=>by rw[gV,gl,gS];exact sv.rc h2}
 ·rw[gV,gAn j t fun hh=>hj hh.1];exact h.oth j hj t
 ·rw[gl]at ht ⊢;rw[gL];exact h.ol t ht
theorem qJ{index:Int}:∀(es:List En) (a:Nat) (term:Int),ct index a term es=true->∀(j:Nat) x,es[j]?=some x->x.idx=index+1+a+j
 | [],_,_,_,j,x,hx=>by simp at hx
 | y::es,a,term,h,j,x,hx=>by
  unfold ct at h;simp only[Bool.and_eq_true,decide_eq_true_eq]at h;cases j with
  | zero=>
   simp only[List.getElem?_cons_zero,Option.some.injEq]at hx;subst hx;omega
  | succ j=>
   rw[List.getElem?_cons_succ]at hx;have:=qJ es (a+1) y.term h.2.2.2 j x hx;omega
theorem oP(tk:bv):∀(es:List En),(tk.findDiff es=none/\∀x∈es,tk.termF x.idx=(x.term,0))\/∃q x r,tk.findDiff es=some (x,r)/\es.drop q=x::r/\q<es.length/\tk.termF x.idx≠(x.term,0)/\∀y∈es.take q,tk.termF y.idx=(y.term,0)
 | []=>.inl ⟨rfl,fun x hx=>by cases hx⟩
 | y::es=>by
  unfold bv.findDiff;by_cases h:tk.termF y.idx=(y.term,0)
  ·rw[if_pos h];rcases oP tk es with⟨h1,h2⟩|⟨q,x,r,h1,h2,h3,h4,h5⟩
   ·refine .inl ⟨h1,fun x hx=>?_⟩;rcases List.mem_cons.1 hx with rfl|hx
    ·exact h
    ·exact h2 x hx
   ·refine .inr ⟨q+1,x,r,h1,h2,by simp;omega,h4,fun z hz=>?_⟩;rw[List.take_succ_cons]at hz;rcases List.mem_cons.1 hz with rfl|hz
    ·exact h
    ·exact h5 z hz
  ·rw[if_neg h];exact .inr ⟨0,y,es,rfl,rfl,by simp,h,fun z hz=>by simp at hz⟩
theorem vG{Z:List En}(hF:xF gh F)(hZ:xF gh Z){j:Nat}{x y:En}(hx:F[j]?=some x)(hy:Z[j]?=some y)(ht:x.term=y.term):F.take (j+1)=Z.take (j+1):=by
 rw[(hF j x hx).2,(hZ j y hy).2,ht]
theorem vF{Z:List En}(hF:xF gh F)(hZ:xF gh Z){j:Nat}(h1:j<=F.length)(h2:j<=Z.length)(ht:eo F j=eo Z j):F.take j=Z.take j:=by
 cases j with
 | zero=>rfl
 | succ j=>
  rw[bw,bw]at ht;have hx:F[j]?=some (F[j]'(by omega)):=List.getElem?_eq_getElem (by omega);have hy:Z[j]?=some (Z[j]'(by omega)):=List.getElem?_eq_getElem (by omega);rw[hx,hy]at ht;exact vG hF hZ hx hy ht
end
section
variable {n t T:Int}{i N N' k v:Nat}{gh gh' cJ:Gh}{R R' R0:Rf}{F F' F0 l:List En}{m:Mg}
theorem gX.termF_inv(h:gX n gh i R F){j tm:Int}(he:R.track.termF j=(tm,0)):R.track.index<=j/\j<=F.length/\eo F j.toNat=tm:=by
 have h0:=h.idx0;have hl:=h.len;have h1:R.track.index<=j:=by
  refine Int.not_lt.1 fun hh=>?_
  unfold bv.termF at he;rw[if_pos hh]at he;injection he with _ e;cases e
 have h2:j<=F.length:=by
  refine Int.not_lt.1 fun hh=>?_
  unfold bv.termF at he;rw[if_neg (by omega),if_neg (by omega),List.getElem?_eq_none (by omega)]at he;injection he with _ e;cases e
 have h3:=h.termF h1 h2;rw[h3]at he;injection he with he _;exact⟨h1,h2,he⟩
theorem bO.become{K p:Nat}{tk:bv}(h:bO n cJ i R0 F0 N gh F R)(hr:R.role=0)(hl:gh.lead R.hard.term≠0)(hK:K<=(gh.L R.hard.term).length)(hp:p<K)(Gm:F.take p=(gh.L R.hard.term).take p)
  (Aq:∀x y,F[p]?=some x->(gh.L R.hard.term)[p]?=some y->x.term≠y.term) (ME:∀(j:Nat) x,((gh.L R.hard.term).take K)[j]?=some x->x.idx=j+1) (Ek:R.commit.toNat<=p)
  (AE:tk.Inv) (Hx:tk.index=R.track.index) (pM:tk.term=R.track.term) (OX:tk.L=((gh.L R.hard.term).take K).drop R.track.index.toNat)
  (he:R.out.entries=[]) (hs:R.out.snap=none) {es:List En} (TJ:(gh.L R.hard.term).take K=F.take p++es) (cH:es≠[]) :
  bO n cJ i R0 F0 N gh ((gh.L R.hard.term).take K) (({R with track:=tk}:Rf).save es):=by
 have sv:=h.sv;obtain⟨Z,hZ⟩:=zN (gh.L R.hard.term);have jC:=h.bs.core.logL R.hard.term hl;have yV:=h.bs.top hl;rw[hZ]at jC yV hK Gm Aq ME OX TJ ⊢;have eW:=sv.cm;have h0:=sv.idx0;have jw:p<=F.length:=dJ Gm.symm (by omega);have tk':∀j,j<=p->(Z.take K).take j=F.take j:=fun j hj=>by
  have e:=congrArg (List.take j) Gm;rw[List.take_take,List.take_take,Nat.min_eq_left hj]at e;rw[List.take_take,Nat.min_eq_left (by omega),<-e]
 have mZ:=h.dk.quiet he hs;refine⟨h.ext,h.bs,?_,h.ms,h.oth,h.ol,.inl rfl,?_,?_⟩
 ·exact {
   i0:=sv.i0
   id:=sv.id
   nn:=sv.nn
   tr:=AE
   base:=by show tk.index.toNat<=(Z.take K).length;rw[Hx,List.length_take];omega
   trL:=by show tk.L=(Z.take K).drop tk.index.toNat;rw[Hx];exact OX
   trT:=by
    show tk.term=eo (Z.take K) tk.index.toNat;rw[Hx,pM,sv.trT];have hj:R.track.index.toNat<=p:=by omega
    cases hk:R.track.index.toNat with
    | zero=>rfl
    | succ k=>
     rw[bw,bw,<-dI (l:=F) (k:=p) (by omega),<-tk' p zl,dI (by omega)]
   fm:=jC.1.take K
   fa:=jC.2.take K
   fi:=ME
   ft:=fun x hx=>by
    obtain⟨j,hj⟩:=List.getElem?_of_mem hx;have h1:=(jC.2.take K j x hj).1;exact⟨h.bs.core.pos _ h1,yV x (List.mem_of_mem_take hx)⟩
   t0:=sv.t0
   sn:=by show R.snap.idx=tk.index/\R.snap.term=tk.term;rw[Hx,pM];exact sv.sn
   cm:=by show tk.index<=R.commit;rw[Hx];exact eW
   co:=by
    show dq n gh R.hard.term (Z.take K) R.commit.toNat;rcases sv.co with h1|⟨t,k,h1,h2,h3,h4⟩
    ·exact .inl h1
    ·exact .inr ⟨t,k,h1,h2,h3,by rw[tk' _ Ek];exact h4⟩
   vh:=sv.vh
   vt:=sv.vt
   ah:=sv.ah
   kp:=fun t0 h1 k hk=>by
    have h1:t0<R.hard.term+1:=h1;have key:F.take k=Z.take k->k<=F.length->(Z.take K).take k=F.take k:=fun e Hm=>by
     have W8:k<=K:=by
      refine Nat.not_lt.1 fun hh=>?_
      have hx:F[p]?=some (F[p]'(by omega)):=List.getElem?_eq_getElem (by omega);have hy:Z[p]?=some (Z[p]'(by omega)):=List.getElem?_eq_getElem (by omega);have e2:F[p]?=Z[p]?:=by rw[<-dI (l:=F) (k:=k) (by omega),e,dI (by omega)]
      rw[hx,hy]at e2;injection e2 with e2;exact Aq _ _ hx hy (by rw[e2])
     rw[List.take_take,Nat.min_eq_left W8,e]
    have ir:=Nat.le_trans hk (h.bs.al i t0);rcases sv.kp t0 h1 k hk with h3|⟨t3,a,b,c,d⟩
    ·have Hm:k<=F.length:=dJ h3.symm ir;rcases Int.lt_or_le t0 R.hard.term with h2|h2
     ·by_cases hS:xX gh (gh.Sd (gh.lead R.hard.term) R.hard.term) t0 k
      ·obtain⟨r,gu,_⟩:=h.bs.core.ext R.hard.term hl;rw[hZ]at gu;have KR:k<=(gh.Sd (gh.lead R.hard.term) R.hard.term).length:=dJ hS.symm ir;have e:F.take k=Z.take k:=by
        rw[gu,List.take_append_of_le_length KR];exact h3.trans hS.symm
       exact .inl ((key e Hm).trans h3)
      ·exact .inr ⟨R.hard.term,h2,by show R.hard.term<R.hard.term+1;omega,hl,hS⟩
     ·have e3:t0=R.hard.term:=by omega
      subst e3;have h3:F.take k=(gh.L R.hard.term).take k:=h3;rw[hZ]at h3;refine .inl ((key h3 Hm).trans ?_);rw[hZ];exact h3
    ·exact .inr ⟨t3,a,b,c,d⟩
   ld:=sv.ld
   rl:=fun h2=>by
    have h2:R.role=3:=h2;rw[hr]at h2;cases h2
   rc:=fun h2=>by
    have h2:R.role=2:=h2;rw[hr]at h2;cases h2}
 ·obtain⟨d1,d2,d3,d4⟩:=mZ;unfold uP;show match R.out.snap with|none=>_|some x=>_
  rw[hs];simp only;refine⟨d1,d2,by show tk.index=_;rw[Hx,d3],.inr ⟨rfl,?_,p,?_,?_,?_⟩⟩
  ·show R.out.entries++es≠[];rw[he];exact cH
  ·rw[<-d3];omega
  ·rw[<-d4];exact jw
  ·show Z.take K=F0.take p++(R.out.entries++es);rw[he,<-d4];exact TJ
 ·have:=h.cc;unfold kJ at this ⊢;show match R.out.snap with|none=>_|some x=>_
  rw[hs]at this ⊢;simp only at this ⊢;refine⟨this.1,this.2.trans ?_⟩;have fO:=this.1;show(F.drop R0.commit.toNat).take (R.commit.toNat-R0.commit.toNat)=((Z.take K).drop R0.commit.toNat).take (R.commit.toNat-R0.commit.toNat);have e:=tk' R.commit.toNat Ek;rw[List.take_drop,List.take_drop];rcases Nat.le_total R0.commit.toNat R.commit.toNat with h5|h5
  ·rw[show R0.commit.toNat+(R.commit.toNat-R0.commit.toNat)=R.commit.toNat by omega,e]
  ·rw[show R0.commit.toNat+(R.commit.toNat-R0.commit.toNat)=R.commit.toNat by omega,e]
theorem bO.appends(h:bO n cJ i R0 F0 N gh F R)(hm:HW n gh N m)(ht:m.term=R.hard.term)(hr:R.role=0)(he:R.out.entries=[])(hs:R.out.snap=none):∃gh' F',bO n cJ i R0 F0 N gh' F' (R.appends m):=by
 have sv:=h.sv;have hi:=sv.i0;have hl:gh.lead R.hard.term≠0:=by
  have:=hm.ld;rw[ht]at this;rw[this.1];omega
 have hT:1<=R.hard.term:=h.bs.core.pos _ hl;have gf:=sv.clen;have h0:=sv.idx0;have eW:=sv.cm;have jC:=h.bs.core.logL R.hard.term hl;have ab:=hm.len;have pw:=hm.ent;have bh:=hm.lt;have fT:=hm.i0;have qj:=hm.co;have fO:=hm.c0;rw[ht]at ab pw bh qj;obtain⟨Z,hZ⟩:=zN (gh.L R.hard.term);rw[hZ]at ab pw bh qj jC;have acked:∀{gh1 F1 R1} {idx:Int},bO n cJ i R0 F0 N gh1 F1 R1->R1.hard=R.hard->0<=idx->idx.toNat<=gh1.A i R.hard.term->bO n cJ i R0 F0 N gh1 F1 (R1.send {fx with kind:=6,tgt:=m.frm,idx:=idx,round:=m.round}):=fun {gh1 F1 R1 idx} h1 e1 h2 h3=>
  h1.send ⟨fun e=>(by cases e),fun e=>(by cases e),fun e=>(by cases e),fun _ _=>by
   show 0<=idx/\idx.toNat<=gh1.A ((R1.id:Nat):Int).toNat (if(0:Int)=0 then R1.hard.term else 0);rw[if_pos rfl,e1,h1.sv.id,Int.toNat_natCast];exact⟨h2,h3⟩,fun e=>(by cases e),fun e=>(by cases e)⟩
 unfold Rf.appends;split
 ·
  rename_i bh;obtain⟨q1,q2⟩:=sv.co.leader h.bs.core hl (Int.le_refl _);obtain⟨g,M1,hA,_⟩:=h.took (k:=R.commit.toNat) (by rw[hr];omega) q2 q1.symm;exact⟨g,F,acked M1 rfl (by omega) hA⟩
 ·rename_i ud;obtain⟨p,hp⟩:=zN (R.track.takeF m.idx m.logTerm m.entries);simp only;rw[hp];by_cases dn:p.1.2=false
  ·rw[if_pos dn];exact⟨gh,F,h.send (eF.none_ (by show(6:Int)≠3;omega) (fun e=>by cases e) (by show(6:Int)≠5;omega) (fun _=>rfl) (by show(6:Int)≠7;omega) (fun e=>by cases e))⟩
  ·rw[if_neg dn];have AE:=sv.tr.takeF m.idx m.logTerm m.entries;rw[hp]at AE;unfold bv.takeF at hp;split at hp
   ·rename_i hc;obtain⟨fP,kE⟩:=hc;obtain⟨a1,a2,a3⟩:=sv.termF_inv fP;obtain⟨b,hb⟩:=zN (m.idx.toNat);rw[hb]at ab pw bh a3;obtain⟨E,hE⟩:=zN (m.entries.length);rw[hE]at ab pw;have Ee:F.take b=Z.take b:=vF sv.fa jC.2 (by omega) (by omega) (a3.trans bh);have xP:∀j,j<E->m.entries[j]?=Z[b+j]?:=fun j hj=>by rw[pw,dI hj,List.getElem?_drop]
    have JI:=qJ m.entries 0 m.logTerm kE;have EG:∀q,q<=E->(∀y∈m.entries.take q,R.track.termF y.idx=(y.term,0))->F.take (b+q)=Z.take (b+q):=fun q hq hy=>by
     cases q with
     | zero=>exact Ee
     | succ q=>
      obtain⟨y,Sq⟩:∃y,m.entries[q]?=some y:=⟨_,List.getElem?_eq_getElem (by omega)⟩;have h1:=hy y (List.mem_of_getElem? (i:=q) (by rw[dI (by omega)];exact Sq));obtain⟨_,c2,c3⟩:=sv.termF_inv h1;have h2:=JI q y Sq;rw[show y.idx.toNat=b+q+1 by omega,bw]at c3;have hx:F[b+q]?=some (F[b+q]'(by omega)):=List.getElem?_eq_getElem (by omega);rw[hx]at c3;exact vG sv.fa jC.2 hx ((xP q (by omega)).symm.trans Sq) c3
    have Th:((b+E:Nat):Int)=m.idx+(m.entries.length:Int):=by rw[hE];omega
    have LL:(m.idx+(m.entries.length:Int)).toNat=b+E:=by rw[hE];omega
    have fin:∀{F1 R1},bO n cJ i R0 F0 N gh F1 R1->R1.hard=R.hard->R1.role=0->R1.out.snap=none->F1.take (b+E)=Z.take (b+E)->∃gh' F',bO n cJ i R0 F0 N gh' F' ((R1.commits (min m.commit (m.idx+(m.entries.length:Int)))).send {fx with kind:=6,tgt:=m.frm,idx:=m.idx+(m.entries.length:Int),round:=m.round}):=fun {F1 R1} h1 e1 e2 e3 e4=>by
     have pm:gh.L R1.hard.term=Z:=by rw[e1];exact hZ
     obtain⟨g,M1,hA,gL,gl,ex⟩:=h1.took (k:=b+E) (by rw[e2];omega) (by rw[pm];exact ab) (by rw[pm];exact e4);have M2:=M1.commits e3 (c:=min m.commit (m.idx+(m.entries.length:Int))) fun JO=>by
      rw[e1];have iU:dq n gh R.hard.term Z (min m.commit (m.idx+(m.entries.length:Int))).toNat:=qj.less (by omega);rcases iU.ext ex with h2|⟨t,k,h2,h3,h4,h5⟩
      ·exact .inl h2
      ·refine .inr ⟨t,k,h2,h3,h4,?_⟩;rw[<-h5];have h6:(min m.commit (m.idx+(m.entries.length:Int))).toNat<=b+E:=by omega
       have e5:=congrArg (List.take (min m.commit (m.idx+(m.entries.length:Int))).toNat) e4;rw[List.take_take,List.take_take,Nat.min_eq_left h6]at e5;exact e5
     have hh:(R1.commits (min m.commit (m.idx+(m.entries.length:Int)))).hard=R.hard:=by
      unfold Rf.commits;split <;> exact e1
     refine⟨g,F1,acked M2 hh (by omega) ?_⟩;rw[LL,<-e1];exact hA
    rcases oP R.track m.entries with⟨d1,d2⟩|⟨q,x,r,d1,d2,d3,d4,d5⟩
    ·rw[d1]at hp;subst hp;rw[if_neg (by show ¬(0:Int)<0;omega)];exact fin (R1:={R with track:=R.track}) h rfl hr hs (EG E zl fun y hy=>d2 y (List.mem_of_mem_take hy))
    ·rw[d1]at hp;subst hp;have XL:q<E:=by omega
     have Ut:m.entries[q]?=some x:=by
      have:=congrArg (fun l=>l[0]?) d2;simp only[List.getElem?_drop,List.getElem?_cons_zero,Nat.add_zero]at this;exact this
     have Sk:=JI q x Ut;have Gm:=EG q (by omega) d5;have Wv:Z[b+q]?=some x:=(xP q XL).symm.trans Ut;have D4:Z.take (b+E)=F.take (b+q)++(x::r):=by
      rw[show b+E=(b+q)+(E-q) by omega,List.take_add,<-Gm];congr 1;rw[<-d2];conv=>rhs;rw[pw]
      rw[List.drop_take,List.drop_drop]
     have gu:(x::r).length=E-q:=by rw[<-d2,List.length_drop];omega
     have hcut:(x.idx-R.track.index-1).toNat=b+q-R.track.index.toNat:=by omega
     have OX:R.track.L.take (x.idx-R.track.index-1).toNat++x::r=(Z.take (b+E)).drop R.track.index.toNat:=by
      rw[hcut,sv.trL,D4,List.drop_append_of_le_length (by rw[List.length_take];have:=dJ Gm.symm (by omega);omega),List.drop_take]
     obtain⟨tk,dw⟩:∃tk:bv,{R.track with L:=R.track.L.take (x.idx-R.track.index-1).toNat++x::r}=tk:=⟨_,rfl⟩;have R6:tk.Inv:=by rw[<-dw];exact AE
     rw[if_pos (by show(0:Int)<x.idx;omega)];have mf:tk.sliceF x.idx m.entries.length=x::r:=by
      unfold bv.sliceF;rw[<-dw];show(if x.idx<=R.track.index\/(m.entries.length:Int)<1 then[]else _)=_;rw[if_neg (by omega)];show((R.track.L.take (x.idx-R.track.index-1).toNat++x::r).drop (x.idx-R.track.index-1).toNat).take _=_;have fQ:(x.idx-R.track.index-1).toNat<=R.track.L.length:=by
       have:=sv.len;have:=dJ Gm.symm (by omega);omega
      rw[List.drop_append,List.drop_eq_nil_of_le (by rw[List.length_take];omega),List.length_take,Nat.min_eq_left fQ,Nat.sub_self,List.nil_append,List.drop_zero];exact List.take_of_length_le (by omega)
     show ∃gh' F',bO n cJ i R0 F0 N gh' F' (((({R with track:={R.track with L:=R.track.L.take (x.idx-R.track.index-1).toNat++x::r}}:Rf).save (bv.sliceF {R.track with L:=R.track.L.take (x.idx-R.track.index-1).toNat++x::r} x.idx m.entries.length)).commits (min m.commit (m.idx+(m.entries.length:Int)))).send {fx with kind:=6,tgt:=m.frm,idx:=m.idx+(m.entries.length:Int),round:=m.round});rw[dw,mf];have bU:(gh.L R.hard.term).take (b+E)=F.take (b+q)++(x::r):=by rw[hZ];exact D4
     have M1:=h.become (K:=b+E) (p:=b+q) (tk:=tk) hr hl (by rw[hZ];exact ab) (by omega) (by rw[hZ];exact Gm) (fun y z hy hz=>by
       rw[hZ,Wv]at hz;injection hz with hz;subst hz;intro e;refine d4 ?_;have Gr:=(List.getElem?_eq_some_iff.1 hy).1;rw[sv.termF (by omega) (by omega),show x.idx.toNat=b+q+1 by omega,bw,hy];show(y.term,(0:Int))=_;rw[e]) (fun j y hy=>by
       rw[bU]at hy;rcases Nat.lt_or_ge j (b+q)with h5|h5
       ·rw[List.getElem?_append_left (by rw[List.length_take];have:=dJ Gm.symm (by omega);omega),dI h5]at hy;exact sv.fi j y hy
       ·have Xf:=dJ Gm.symm (show b+q<=Z.length by omega);rw[List.getElem?_append_right (by rw[List.length_take];omega),List.length_take,Nat.min_eq_left Xf,<-d2,List.getElem?_drop]at hy;have:=JI (q+(j-(b+q))) y hy;omega) (by omega) R6 (by rw[<-dw]) (by rw[<-dw]) (by rw[<-dw,hZ];exact OX) he hs bU (by simp)
     rw[hZ]at M1;exact fin M1 rfl hr hs (by rw[List.take_take,Nat.min_self])
   ·rw[<-hp]at dn;exact absurd rfl dn
end
section
variable {n t T:Int}{i N N' k v:Nat}{gh gh' cJ:Gh}{R R' R0:Rf}{F F' F0 l:List En}{m:Mg}
theorem dY.become{K:Nat}{Z:List En}(hb:eD n gh)(sm:dY gh i (T+1) F)(hl:gh.lead T≠0)(hZ:gh.L T=Z)(Aq:∀k,F.take k=Z.take k->k<=F.length->k<=K):dY gh i (T+1) (Z.take K):=fun t0 h1 k hk=>by
 have key:F.take k=Z.take k->k<=F.length->(Z.take K).take k=F.take k:=fun e Hm=>by
  rw[List.take_take,Nat.min_eq_left (Aq k e Hm),e]
 have ir:=Nat.le_trans hk (hb.al i t0);rcases sm t0 h1 k hk with h3|⟨t3,a,b,c,d⟩
 ·have Hm:k<=F.length:=dJ h3.symm ir;rcases Int.lt_or_le t0 T with h2|h2
  ·by_cases hS:xX gh (gh.Sd (gh.lead T) T) t0 k
   ·obtain⟨r,gu,_⟩:=hb.core.ext T hl;rw[hZ]at gu;have KR:k<=(gh.Sd (gh.lead T) T).length:=dJ hS.symm ir;have e:F.take k=Z.take k:=by
     rw[gu,List.take_append_of_le_length KR];exact h3.trans hS.symm
    exact .inl ((key e Hm).trans h3)
   ·exact .inr ⟨T,h2,by omega,hl,hS⟩
  ·have e3:t0=T:=by omega
   subst e3;have h3:F.take k=(gh.L t0).take k:=h3;rw[hZ]at h3;refine .inl ((key h3 Hm).trans ?_);rw[hZ];exact h3
 ·exact .inr ⟨t3,a,b,c,d⟩
theorem qc{tk:bv}{j tm:Int}(h:tk.termF j=(tm,0)):(tk.dropF j).2=⟨j,tm,tk.L.drop (j-tk.index).toNat⟩:=by
 unfold bv.dropF;rw[h];rfl
theorem bO.install{x:x7}(h:bO n cJ i R0 F0 N gh F R)(hl:gh.lead R.hard.term≠0)(hr:R.role=0)(he:R.out.entries=[])(hs:R.out.snap=none)(yH:R.out.commits=[])(hx:R.commit<x.idx)(yW:1<=x.idx/\x.idx<=gU)(Do:1<=x.term/\x.term<=gU)
  (Ej:dq n gh R.hard.term (gh.L R.hard.term) x.idx.toNat) (vn:x.term=eo (gh.L R.hard.term) x.idx.toNat):∃F',bO n cJ i R0 F0 N gh F' (R.install x)/\F'.take x.idx.toNat=(gh.L R.hard.term).take x.idx.toNat:=by
 have sv:=h.sv;have h0:=sv.idx0;have eW:=sv.cm;obtain⟨d1,d2,d3,d4⟩:=h.dk.quiet he hs;have iU:=h.cc;unfold kJ at iU;rw[hs]at iU;simp only at iU;obtain⟨Z,hZ⟩:=zN (gh.L R.hard.term);have jC:=h.bs.core.logL R.hard.term hl;have yV:=h.bs.top hl;have TY:=h.bs.li R.hard.term;rw[hZ]at jC vn Ej yV TY ⊢;have Ig:=Ej.len;have JQ:∀m∈R.out.msgs,eF n gh (max N x.idx.toNat) m:=fun m hm=>(h.ms m hm).ext (kf.refl gh) (by omega)
 unfold Rf.install;by_cases hc:R.track.termF x.idx=(x.term,0)
 ·rw[if_pos hc];obtain⟨a1,a2,a3⟩:=sv.termF_inv hc;have Tf:F.take x.idx.toNat=Z.take x.idx.toNat:=vF sv.fa jC.2 (by omega) Ig (a3.trans vn);have AE:=sv.tr.dropF x.idx;rw[qc hc]at AE ⊢;refine⟨F,⟨h.ext,h.bs,?_,JQ,h.oth,h.ol,.inl rfl,?_,?_⟩,Tf⟩
  ·exact {
    i0:=sv.i0
    id:=sv.id
    nn:=sv.nn
    tr:=AE
    base:=by show x.idx.toNat<=F.length;omega
    trL:=by
     show R.track.L.drop (x.idx-R.track.index).toNat=F.drop x.idx.toNat;rw[sv.trL,List.drop_drop];congr 1;omega
    trT:=a3.symm
    fm:=sv.fm
    fa:=sv.fa
    fi:=sv.fi
    ft:=sv.ft
    t0:=sv.t0
    sn:=⟨rfl,rfl⟩
    cm:=Int.le_refl _
    co:=by
     show dq n gh R.hard.term F x.idx.toNat;rcases Ej with h1|⟨t,k,h1,h2,h3,h4⟩
     ·exact .inl h1
     ·exact .inr ⟨t,k,h1,h2,h3,by rw[Tf];exact h4⟩
    vh:=sv.vh
    vt:=sv.vt
    ah:=sv.ah
    kp:=sv.kp
    ld:=sv.ld
    rl:=fun h2=>by
     have h2:R.role=3:=h2;rw[hr]at h2;cases h2
    rc:=fun h2=>by
     have h2:R.role=2:=h2;rw[hr]at h2;cases h2}
  ·exact⟨rfl,he,rfl,.inl ⟨d1,d4⟩⟩
  ·exact⟨by show R0.commit<=x.idx;omega,yH,rfl⟩
 ·rw[if_neg hc];refine⟨Z.take x.idx.toNat,⟨h.ext,h.bs,?_,JQ,h.oth,h.ol,.inl rfl,?_,?_⟩,by rw[List.take_take,Nat.min_self]⟩
  ·exact {
    i0:=sv.i0
    id:=sv.id
    nn:=sv.nn
    tr:=⟨.inr ⟨yW.1,yW.2,Do.1,Do.2⟩,fun j y hy=>by simp at hy,fun y hy=>(by cases hy),fun j y hy=>by simp at hy⟩
    base:=by show x.idx.toNat<=(Z.take x.idx.toNat).length;rw[List.length_take];omega
    trL:=by
     show[]=(Z.take x.idx.toNat).drop x.idx.toNat;exact(List.drop_eq_nil_of_le (by rw[List.length_take];omega)).symm
    trT:=by
     show x.term=eo (Z.take x.idx.toNat) x.idx.toNat;rw[vn];obtain⟨k,hk⟩:∃k,x.idx.toNat=k+1:=⟨x.idx.toNat-1,by omega⟩;rw[hk,bw,bw,dI (by omega)]
    fm:=jC.1.take _
    fa:=jC.2.take _
    fi:=fun j y hy=>by
     rw[List.getElem?_take]at hy;split at hy
     ·exact TY j y hy
     ·cases hy
    ft:=fun y hy=>by
     obtain⟨j,hj⟩:=List.getElem?_of_mem hy;exact⟨h.bs.core.pos _ (jC.2.take _ j y hj).1,yV y (List.mem_of_mem_take hy)⟩
    t0:=sv.t0
    sn:=⟨rfl,rfl⟩
    cm:=Int.le_refl _
    co:=by
     show dq n gh R.hard.term (Z.take x.idx.toNat) x.idx.toNat;rcases Ej with h1|⟨t,k,h1,h2,h3,h4⟩
     ·exact .inl h1
     ·exact .inr ⟨t,k,h1,h2,h3,by rw[List.take_take,Nat.min_self];exact h4⟩
    vh:=sv.vh
    vt:=sv.vt
    ah:=sv.ah
    kp:=dY.become h.bs sv.kp hl hZ fun k hk Hm=>by
     refine Nat.not_lt.1 fun hh=>hc ?_
     rw[sv.termF (by omega) (by omega),vn];obtain⟨j,hj⟩:∃j,x.idx.toNat=j+1:=⟨x.idx.toNat-1,by omega⟩;rw[hj,bw,bw,<-dI (l:=F) (k:=k) (by omega),hk,dI (by omega)]
    ld:=sv.ld
    rl:=fun h2=>by
     have h2:R.role=3:=h2;rw[hr]at h2;cases h2
    rc:=fun h2=>by
     have h2:R.role=2:=h2;rw[hr]at h2;cases h2}
  ·exact⟨rfl,he,rfl,.inr ⟨rfl,by show(Z.take x.idx.toNat).length=x.idx.toNat;rw[List.length_take];omega⟩⟩
  ·exact⟨by show R0.commit<=x.idx;omega,yH,rfl⟩
theorem bO.piece(h:bO n cJ i R0 F0 N gh F R)(hm:H0 n gh N m)(oh:0<=m.idx/\m.idx<=gU)(uZ:0<=m.logTerm/\m.logTerm<=gU)(ht:m.term=R.hard.term)(hr:R.role=0)(he:R.out.entries=[])(hs:R.out.snap=none)(yH:R.out.commits=[]):∃gh' F',bO n cJ i R0 F0 N gh' F' (R.piece m):=by
 have sv:=h.sv;have hi:=sv.i0;have h0:=sv.idx0;have eW:=sv.cm;have hl:gh.lead R.hard.term≠0:=by
  have:=hm.ld;rw[ht]at this;rw[this.1];omega
 have bh:=hm.lt;have qj:=hm.co;rw[ht]at bh qj;have acked:∀{gh1 F1 R1} {idx:Int},bO n cJ i R0 F0 N gh1 F1 R1->R1.hard=R.hard->0<=idx->idx.toNat<=gh1.A i R.hard.term->bO n cJ i R0 F0 N gh1 F1 (R1.send {fx with kind:=8,tgt:=m.frm,idx:=idx,round:=m.round}):=fun {gh1 F1 R1 idx} h1 e1 h2 h3=>
  h1.send ⟨fun e=>(by cases e),fun e=>(by cases e),fun e=>(by cases e),fun e=>(by cases e),fun e=>(by cases e),fun _ _ _=>by
   show 0<=idx/\idx.toNat<=gh1.A ((R1.id:Nat):Int).toNat (if(0:Int)=0 then R1.hard.term else 0);rw[if_pos rfl,e1,h1.sv.id,Int.toNat_natCast];exact⟨h2,h3⟩⟩
 unfold Rf.piece;split
 ·exact⟨gh,F,h⟩
 ·rename_i fO;split
  ·rename_i fQ;obtain⟨q1,q2⟩:=sv.co.leader h.bs.core hl (Int.le_refl _);obtain⟨g,M1,hA,_⟩:=h.took (k:=R.commit.toNat) (by rw[hr];omega) q2 q1.symm;exact⟨g,F,acked M1 rfl (by omega) hA⟩
  ·rename_i Hc;simp only;have M1:bO n cJ i R0 F0 N gh F {R with gath:=R.gath1 m}:=h.same rfl rfl rfl rfl rfl rfl rfl (fun h3=>⟨h3,rfl,fun _ _ _ _=>⟨rfl,rfl⟩⟩) fun h2=>⟨h2,fun _ hs=>.inl hs⟩
   split
   ·rename_i JO;exact⟨gh,F,M1.send (eF.none_ (by show(8:Int)≠3;omega) (fun e=>by cases e) (by show(8:Int)≠5;omega) (fun e=>by cases e) (by show(8:Int)≠7;omega) (fun _=>.inr (by show 0<m.total;omega)))⟩
   ·obtain⟨F1,M2,pG⟩:=M1.install (x:=⟨m.idx,m.logTerm,(R.gath1 m).data⟩) hl hr he hs yH (by show R.commit<m.idx;omega) (by show 1<=m.idx/\m.idx<=gU;omega) (by show 1<=m.logTerm/\m.logTerm<=gU;omega) qj bh;have hh:(({R with gath:=R.gath1 m}:Rf).install ⟨m.idx,m.logTerm,(R.gath1 m).data⟩).hard=R.hard:=by
     unfold Rf.install;split <;> rfl
    have OU:(({R with gath:=R.gath1 m}:Rf).install ⟨m.idx,m.logTerm,(R.gath1 m).data⟩).role=R.role:=by
     unfold Rf.install;split <;> rfl
    obtain⟨g,M3,hA,_⟩:=M2.took (k:=m.idx.toNat) (by rw[OU,hr];omega) (by rw[hh];exact qj.len) (by rw[hh];exact pG);rw[hh]at hA;exact⟨g,F1,acked M3 hh oh.1 hA⟩
end
section
variable {n t T:Int}{i N N' k v s:Nat}{gh gh' cJ:Gh}{R R' R0:Rf}{F F' F0 l:List En}{m:Mg}{p:Pr}
theorem xf(R:Rf)(s s':Nat)(p:Pr):(R.setPeer s p).peer s'=if s=s'/\s<R.peers.length then p else R.peer s':=by
 unfold Rf.setPeer Rf.peer;rw[List.getElem?_set];split
 ·rename_i e;subst e;split
  ·rename_i hl;rw[if_pos ⟨rfl,hl⟩];rfl
  ·rename_i hl;rw[if_neg (by omega),List.getElem?_eq_none (by omega)]
 ·rename_i e;rw[if_neg (fun h=>e h.1)]
theorem bO.setPeer(h:bO n cJ i R0 F0 N gh F R)(hr:R.role=3)(hp:(0<=p.mat/\p.mat.toNat<=gh.A s R.hard.term)/\1<=p.next/\p.next<=F.length+1):bO n cJ i R0 F0 N gh F (R.setPeer s p):=
 ⟨h.ext,h.bs,{h.sv with
  rl:=fun hr=>by
   obtain⟨q1,q2,q3,q4,q5⟩:=h.sv.rl hr;refine⟨q1,q2,q3,(List.length_set ..).trans q4,fun s' s1 s2 s3=>?_⟩;rw[xf];split
   ·rename_i e;rw[<-e.1];exact hp
   ·exact q5 s' s1 s2 s3
  rc:=fun h2=>by
   have h2:R.role=2:=h2;rw[hr]at h2;cases h2},h.ms,h.oth,h.ol,h.hd,h.dk,h.cc⟩
theorem rY(R:Rf)(c:Int):(R.commits c).role=R.role/\(R.commits c).out.snap=R.out.snap:=by
 unfold Rf.commits;split <;> exact⟨rfl,rfl⟩
theorem tL(R:Rf):R.agrees.role=R.role/\R.agrees.out.snap=R.out.snap:=by
 unfold Rf.agrees;split
 ·exact rY _ _
 ·exact⟨rfl,rfl⟩
theorem gX.matLen(h:gX n gh i R F)(hb:eD n gh)(hr:R.role=3)(s:Nat):gh.A s R.hard.term<=F.length:=by
 have:=hb.al s R.hard.term;rw[(h.rl hr).2.1]at this;exact this
theorem bO.has{index:Int}(h:bO n cJ i R0 F0 N gh F R)(hr:R.role=3)(h7:n<=7)(fw:R.out.snap=none)(h1:1<=s)(h2:(s:Int)<=n)(h3:s≠i)(fT:0<=index)(xR:index.toNat<=gh.A s R.hard.term):bO n cJ i R0 F0 N gh F (R.has s index):=by
 obtain⟨_,_,_,_,q5⟩:=h.sv.rl hr;obtain⟨⟨a1,a2⟩,a3,a4⟩:=q5 s h1 h2 h3;have hl:=h.sv.matLen h.bs hr s;unfold Rf.has;simp only;rw[h.sv.last1];have M1:=h.setPeer (s:=s) (p:=⟨max (R.peer s).next (max (R.peer s).mat (min index F.length)+1),max (R.peer s).mat (min index F.length),if R.track.index<=max (R.peer s).mat (min index F.length)then 0 else(R.peer s).offset,(R.peer s).round⟩) hr (by
  refine⟨⟨?_,?_⟩,?_,?_⟩
  ·show 0<=max (R.peer s).mat (min index F.length);omega
  ·show(max (R.peer s).mat (min index F.length)).toNat<=_;omega
  ·show 1<=max (R.peer s).next (max (R.peer s).mat (min index F.length)+1)
   omega
  ·show max (R.peer s).next (max (R.peer s).mat (min index F.length)+1)<=_
   omega)
 have M2:=M1.agrees hr h7 fw;split
 ·exact M2.lacks ((tL _).1.trans hr) h1 h2 h3
 ·exact M2
theorem bO.answered(h:bO n cJ i R0 F0 N gh F R)(hr:R.role=3)(h7:n<=7)(fw:R.out.snap=none)(hm:eF n gh N m)(hk:m.kind=6\/m.kind=8/\m.reject=false)(ht:m.term=R.hard.term)(h1:1<=m.frm)(h2:m.frm<=n)(h3:m.frm≠i)(h4:0<=m.idx):bO n cJ i R0 F0 N gh F (R.answered m):=by
 obtain⟨s,hs⟩:=zN (m.frm.toNat);have s1:1<=s:=by omega
 have s2:(s:Int)<=n:=by omega
 have s3:s≠i:=by omega
 obtain⟨_,_,_,q4,q5⟩:=h.sv.rl hr;obtain⟨⟨a1,a2⟩,a3,a4⟩:=q5 s s1 s2 s3;have hl:=h.sv.matLen h.bs hr s;unfold Rf.answered;simp only;rw[hs];obtain⟨R1,gE⟩:=zN (R.setPeer s {R.peer s with round:=max (R.peer s).round (min m.round R.round)});have M1:bO n cJ i R0 F0 N gh F R1:=by
  rw[<-gE];exact h.setPeer (s:=s) hr ⟨⟨a1,a2⟩,a3,a4⟩
 have e1:R1.role=3:=by rw[<-gE];exact hr
 have e2:R1.out.snap=none:=by rw[<-gE];exact fw
 have e3:R1.hard=R.hard:=by rw[<-gE];rfl
 have e4:(R1.peer s).mat=(R.peer s).mat/\(R1.peer s).next=(R.peer s).next:=by
  rw[<-gE,xf];split <;> exact⟨rfl,rfl⟩
 rw[gE];split
 ·split
  ·refine bO.lacks (M1.setPeer (s:=s) e1 ?_) e1 s1 s2 s3;show(0<=(R1.peer s).mat/\(R1.peer s).mat.toNat<=_)/\1<=(R1.peer s).next/\(R1.peer s).next<=_
   rw[e4.1,e4.2,e3];exact⟨⟨a1,a2⟩,a3,a4⟩
  ·exact M1
 ·rename_i WD;split
  ·refine bO.lacks (M1.setPeer (s:=s) e1 ?_) e1 s1 s2 s3;show(0<=(R1.peer s).mat/\(R1.peer s).mat.toNat<=_)/\1<=max ((R1.peer s).mat+1) (min ((R1.peer s).next-1) (m.idx+1))/\max ((R1.peer s).mat+1) (min ((R1.peer s).next-1) (m.idx+1))<=_;rw[e4.1,e4.2,e3];exact⟨⟨a1,a2⟩,by omega,by omega⟩
  ·rename_i OC;refine M1.has e1 h7 e2 s1 s2 s3 h4 ?_;rw[e3];rcases hk with hk|⟨hk,oU⟩
   ·have oU:m.reject=false:=by
     cases oU:m.reject
     ·rfl
     ·exact absurd ⟨hk,oU⟩ OC
    have:=(hm.appd hk oU).2;rw[hs,ht]at this;exact this
   ·have:=(hm.pied hk oU fun h0=>WD ⟨hk,h0⟩).2;rw[hs,ht]at this;exact this
structure vu(n:Int)(cJ:Gh)(i:Nat)(R0:Rf)(F0:List En)(N:Nat)(gh:Gh)(F:List En)(o:Ot)(R:Rf):Prop where
 mid:bO n cJ i R0 F0 N gh F {R with out:=o}
 out:R.out=eO
 hard:o.save=true->o.hard=R.hard
theorem bO.tell(h:bO n cJ i R0 F0 N gh F R):vu n cJ i R0 F0 N gh F R.tell.1 R.tell.2:=
 ⟨h.outs (o:={R.out with hard:=if R.out.save then R.hard else R.out.hard}) rfl rfl rfl rfl rfl h.ms,rfl,fun hs=>by
  have hs:R.out.save=true:=hs;show(if R.out.save=true then R.hard else R.out.hard)=R.hard;rw[if_pos hs]⟩
theorem vu.none_(hb:eD n gh)(hs:gX n gh i R F)(ho:R.out=eO):vu n gh i R F N gh F eO R:=⟨by
  have M:=bO.start (N:=N) hb hs ho;have e:{R with out:=eO}=R:=by rw[<-ho]
  rw[e];exact M,ho,fun h=>by cases h⟩
theorem bO.reads(h:bO n cJ i R0 F0 N gh F R):bO n cJ i R0 F0 N gh F R.reads:=by
 have M1:=h.outs (o:={R.out with reads:=R.out.reads++(R.waits.filter (fun x=>decide (x.round<=R.readsTo))).map fun x=>(x.ctx,x.idx)}) rfl rfl rfl rfl rfl h.ms;exact M1.same rfl rfl rfl rfl rfl rfl rfl (fun hr=>⟨hr,rfl,fun _ _ _ _=>⟨rfl,rfl⟩⟩) fun hr=>⟨hr,fun _ hs=>.inl hs⟩
theorem bO.beats{draw:Int}(h:bO n cJ i R0 F0 N gh F R)(h7:n<=7)(he:R.out.entries=[])(hs:R.out.snap=none):∃gh' F',bO n cJ i R0 F0 N gh' F' (R.beats draw):=by
 unfold Rf.beats;simp only;have clk:∀{R':Rf} (c w r:Int),bO n cJ i R0 F0 N gh F R'->bO n cJ i R0 F0 N gh F {R' with clock:=c,wait:=w,round:=r}:=fun {R'} c w r M=>M.same rfl rfl rfl rfl rfl rfl rfl (fun hr=>⟨hr,rfl,fun _ _ _ _=>⟨rfl,rfl⟩⟩) fun hr=>⟨hr,fun _ hs=>.inl hs⟩
 split
 ·rename_i hr;split
  ·exact⟨gh,F,(clk 0 R.wait (R.round+1) h).all hr⟩
  ·exact⟨gh,F,clk (R.clock+1) R.wait R.round h⟩
 ·obtain⟨R1,gE⟩:∃R1:Rf,(if R.wait=0 then {R with clock:=R.clock+1,wait:=lH draw}else {R with clock:=R.clock+1})=R1:=⟨_,rfl⟩;have M1:bO n cJ i R0 F0 N gh F R1:=by
   rw[<-gE];split
   ·exact clk (R.clock+1) (lH draw) R.round h
   ·exact clk (R.clock+1) R.wait R.round h
  have e1:R1.out=R.out:=by rw[<-gE];split <;> rfl
  rw[gE];split
  ·have M2:=clk 0 0 R1.round M1;split
   ·exact bO.asks (R:=R1.rest) M2 h7 (by show R1.out.entries=[];rw[e1];exact he) (by show R1.out.snap=none;rw[e1];exact hs)
   ·exact⟨gh,F,M2⟩
  ·exact⟨gh,F,M1⟩
end
section
variable {n t T:Int}{i N N' k v s:Nat}{gh gh' cJ:Gh}{R R' R0:Rf}{F F' F0 l:List En}{m:Mg}{p:Pr}
theorem rb(h:R.right m=true):(0<=m.idx/\m.idx<=gU)/\(0<=m.logTerm/\m.logTerm<=gU)/\(1<=m.kind/\m.kind<=8)/\m.tgt=R.id/\(1<=m.frm/\m.frm<=R.n)/\m.frm≠R.id:=by
 unfold Rf.right Rf.numOk at h;simp only[Bool.and_eq_true,decide_eq_true_eq]at h;obtain⟨⟨⟨⟨⟨⟨a,b⟩,_⟩,_⟩,_⟩,_⟩,c,d,e,f,_⟩:=h;exact⟨a,b,c,d,e,f⟩
theorem bO.does(h:bO n cJ i R0 F0 N gh F R)(hm:eF n gh N m)(h7:n<=7)(he:R.out.entries=[])(hs:R.out.snap=none)(yH:R.out.commits=[])(hr:R.right m=true)(ht:m.kind≠1->m.kind≠2->m.term=R.hard.term):∃gh' F',bO n cJ i R0 F0 N gh' F' (R.does m):=by
 have sv:=h.sv;have hi:=sv.i0;have nS:=sv.id;have Ry:=sv.nn;obtain⟨r1,r2,r3,r4,r5,r6⟩:=rb hr;unfold Rf.does;split
 ·unfold Rf.asked;split
  ·exact⟨gh,F,h.send (eF.none_ (by show(2:Int)≠3;omega) (fun e=>by cases e) (by show(2:Int)≠5;omega) (fun e=>by cases e) (by show(2:Int)≠7;omega) (fun e=>by cases e))⟩
  ·exact⟨gh,F,h.send (eF.none_ (by show(2:Int)≠3;omega) (fun e=>by cases e) (by show(2:Int)≠5;omega) (fun e=>by cases e) (by show(2:Int)≠7;omega) (fun e=>by cases e))⟩
 ·rename_i k1;split
  ·split
   ·rename_i hc;have M1:bO n cJ i R0 F0 N gh F (R.says m.frm):=h.same rfl rfl rfl rfl rfl rfl rfl (fun hr=>by rw[show(R.says m.frm).role=R.role from rfl,hc.2.2]at hr;cases hr) fun hr=>by rw[show(R.says m.frm).role=R.role from rfl,hc.2.2]at hr;cases hr
    split
    ·exact M1.stands h7 he hs
    ·exact⟨gh,F,M1⟩
   ·exact⟨gh,F,h⟩
  ·rename_i k2;have ht:=ht k1 k2;split
   ·rename_i k3;obtain⟨g,M⟩:=h.votes hm k3 ht (by omega) (by omega);exact⟨g,F,M⟩
   ·split
    ·rename_i k4;split
     ·rename_i hc;have M1:bO n cJ i R0 F0 N gh F (R.says m.frm):=h.same rfl rfl rfl rfl rfl rfl rfl (fun hr=>by rw[show(R.says m.frm).role=R.role from rfl,hc.2]at hr;cases hr) fun _=>⟨hc.2,fun s hs=>by
       rcases List.mem_append.1 hs with h1|h1
       ·exact .inl h1
       ·rw[List.mem_singleton.1 h1];refine .inr fun _ _=>?_
        have:=(hm.voted k4 hc.1).2;rw[ht,r4]at this;omega⟩
      split
      ·rename_i hw;exact M1.leads hc.2 hw h7 he hs
      ·exact⟨gh,F,M1⟩
     ·exact⟨gh,F,h⟩
    ·split
     ·rename_i k5;split
      ·have M1:bO n cJ i R0 F0 N gh F (R.hears m):=h.same rfl rfl rfl rfl rfl rfl rfl (fun hr=>by cases hr) fun hr=>by cases hr
       exact M1.appends (hm.app k5) ht rfl he hs
      ·exact⟨gh,F,h⟩
     ·split
      ·rename_i k7;split
       ·have M1:bO n cJ i R0 F0 N gh F (R.hears m):=h.same rfl rfl rfl rfl rfl rfl rfl (fun hr=>by cases hr) fun hr=>by cases hr
        exact M1.piece (hm.pie k7) r1 r2 ht rfl he hs yH
       ·exact⟨gh,F,h⟩
      ·split
       ·exact⟨gh,F,h⟩
       ·rename_i k8;split
        ·rename_i J2;refine⟨gh,F,h.answered J2 h7 hs hm ?_ ht r5.1 (by omega) (by omega) r1.1⟩;rcases Int.lt_or_le m.kind 7 with h1|h1
         ·exact .inl (by omega)
         ·have h8:m.kind=8:=by omega
          refine .inr ⟨h8,?_⟩;cases hj:m.reject
          ·rfl
          ·exact absurd ⟨h8,hj⟩ k8
        ·exact⟨gh,F,h⟩
theorem vV(R:Rf)(t:Int):(R.follows t).out={R.out with save:=true}:=rfl
theorem gX.step(hb:eD n gh)(h:gX n gh i R F)(ho:R.out=eO)(h7:n<=7)(hm:eF n gh N m):∃gh' F',vu n gh i R F N gh' F' (R.step m).1 (R.step m).2:=by
 unfold Rf.step;split
 ·exact⟨gh,F,vu.none_ hb h ho⟩
 ·rename_i hr;have hr:R.right m=true:=by
   cases vj:R.right m
   ·exact absurd vj hr
   ·rfl
  simp only;obtain⟨R1,gE⟩:=zN ((if R.hard.term<m.term/\m.kind≠1/\(m.kind≠2\/m.reject=true)then R.follows m.term else R));rw[gE];have M0:=bO.start (N:=N) hb h ho;have M1:bO n gh i R F N gh F R1:=by
   rw[<-gE];split
   ·rename_i hc;exact M0.follows hc.1
   ·exact M0
  have o1:R1.out.entries=[]/\R1.out.snap=none/\R1.out.commits=[]:=by
   rw[<-gE];split
   ·rw[vV,ho];exact⟨rfl,rfl,rfl⟩
   ·rw[ho];exact⟨rfl,rfl,rfl⟩
  have gu:R1.right m=true:=by
   rw[<-gE];split
   ·exact hr
   ·exact hr
  have fQ:m.kind≠1->m.kind≠2->m.term<=R1.hard.term:=fun k1 k2=>by
   rw[<-gE];split
   ·exact Int.le_refl _
   ·rename_i hc;refine Int.not_lt.1 fun bh=>hc ⟨bh,k1,.inl k2⟩
  split
  ·unfold Rf.late;split
   ·rename_i hk;refine⟨gh,F,bO.tell (M1.send (eF.none_ ?_ (fun _=>rfl) ?_ (fun _=>rfl) ?_ (fun _=>.inl rfl)))⟩
    ·show m.kind+1≠3;omega
    ·show m.kind+1≠5;omega
    ·show m.kind+1≠7;omega
   ·exact⟨gh,F,M1.tell⟩
  ·rename_i iW;obtain⟨g,F',M2⟩:=M1.does hm h7 o1.1 o1.2.1 o1.2.2 gu fun k1 k2=>by
    have:=fQ k1 k2;have:¬m.term<R1.hard.term:=fun hh=>iW ⟨hh,k1⟩
    omega
   refine⟨g,F',?_⟩;split
   ·exact M2.reads.tell
   ·exact M2.tell
theorem gX.tick(hb:eD n gh)(h:gX n gh i R F)(ho:R.out=eO)(h7:n<=7)(draw:Int):∃gh' F',vu n gh i R F N gh' F' (R.tick draw).1 (R.tick draw).2:=by
 obtain⟨g,F',M⟩:=(bO.start (N:=N) hb h ho).beats (draw:=draw) h7 (by rw[ho];rfl) (by rw[ho];rfl);exact⟨g,F',M.tell⟩
theorem gX.propose(hb:eD n gh)(h:gX n gh i R F)(ho:R.out=eO)(h7:n<=7)(c:En):∃gh' F',vu n gh i R F N gh' F' (R.propose c).1.2.2 (R.propose c).2:=by
 unfold Rf.propose;split
 ·exact⟨gh,F,vu.none_ hb h ho⟩
 ·rename_i hr;have hr:R.role=3:=by omega
  obtain⟨x,e,tk,hp⟩:∃x e tk,R.track.putF R.hard.term c=((x,e),tk):=⟨_,_,_,rfl⟩;rw[hp];simp only;have M0:=bO.start (N:=N) hb h ho;split
  ·rename_i h0;have e2:=tu hp h0;subst e2;exact⟨gh,F,vu.none_ hb h ho⟩
  ·rename_i h0;have h0:e=0:=by omega
   subst h0;obtain⟨g,M2⟩:=M0.put hr (by rw[ho];rfl) (by rw[ho];rfl) hp;exact⟨g,_,bO.tell (M2.allAgrees hr h7 (by show R.out.snap=none;rw[ho];rfl))⟩
theorem gX.read(hb:eD n gh)(h:gX n gh i R F)(ho:R.out=eO)(ctx:Int):∃gh' F',vu n gh i R F N gh' F' (R.read ctx).1.2 (R.read ctx).2:=by
 unfold Rf.read;split
 ·exact⟨gh,F,vu.none_ hb h ho⟩
 ·rename_i hc;have hr:R.role=3:=Classical.byContradiction fun hn=>hc (.inl hn)
  split
  ·exact⟨gh,F,vu.none_ hb h ho⟩
  ·split
   ·exact⟨gh,F,vu.none_ hb h ho⟩
   ·have M0:=bO.start (N:=N) hb h ho;have M1:bO n gh i R F N gh F {R with round:=R.round+1,waits:=R.waits++[Wt.mk ctx R.commit (R.round+1)]}:=M0.same rfl rfl rfl rfl rfl rfl rfl (fun hr=>⟨hr,rfl,fun _ _ _ _=>⟨rfl,rfl⟩⟩) fun hr=>⟨hr,fun _ hs=>.inl hs⟩
    exact⟨gh,F,bO.tell (bO.reads (M1.all hr))⟩
theorem Fx(R:Rf)(s:Nat):({R with peers:=R.peers.map fun p=>{p with offset:=0}}:Rf).peer s={R.peer s with offset:=0}:=by
 unfold Rf.peer;show((R.peers.map fun p=>({p with offset:=0}:Pr))[s]?).getD Dr=_;rw[List.getElem?_map];cases R.peers[s]? <;> rfl
theorem gX.compact{index:Int}{data:List UInt8}(h:gX n gh i R F)(h0:(R.compact index data).1=0):gX n gh i (R.compact index data).2 F/\(R.compact index data).2.out=R.out/\((R.compact index data).2=R\/(R.track.index<index/\index<=R.commit/\(R.compact index data).2.track.index=index/\(R.compact index data).2.hard=R.hard/\(R.compact index data).2.commit=R.commit/\(R.compact index data).2.snap=⟨index,eo F index.toNat,data⟩/\1<=data.length/\data.length<=65536)):=by
 have gf:=h.clen;have fT:=h.idx0;unfold Rf.compact at h0 ⊢;split
 ·rename_i hc;rw[if_pos hc]at h0;cases h0
 ·rename_i hd;rw[if_neg hd]at h0;split
  ·rename_i hc;rw[if_pos hc]at h0;cases h0
  ·rename_i fP;rw[if_neg fP]at h0;split
   ·exact⟨h,rfl,.inl rfl⟩
   ·rename_i kE;have ht:=h.termF (j:=index) (by omega) (by omega);have AE:=h.tr.dropF index;rw[qc ht]at AE ⊢;rw[ht];simp only at AE ⊢;refine⟨?_,trivial,.inr ⟨by omega,by omega,(by first|trivial|rfl),(by first|trivial|rfl),(by first|trivial|rfl),(by first|trivial|rfl),by omega,by omega⟩⟩;exact {h with
     tr:=AE
     base:=by show index.toNat<=F.length;omega
     trL:=by
      show R.track.L.drop (index-R.track.index).toNat=F.drop index.toNat;rw[h.trL,List.drop_drop];congr 1;omega
     trT:=rfl
     sn:=⟨rfl,rfl⟩
     cm:=by show index<=R.commit;omega
     rl:=fun hr=>by
      obtain⟨q1,q2,q3,q4,q5⟩:=h.rl hr;refine⟨q1,q2,q3,(List.length_map ..).trans q4,fun s s1 s2 s3=>?_⟩;have hp:=Fx R s;unfold Rf.peer at hp ⊢;simp only at hp ⊢;rw[hp];exact q5 s s1 s2 s3
     rc:=h.rc}
end
def aR(A:Option Addr)(j:Nat):Prop:=∃ad,A=some ad/\ad.block=j
structure cy(B:Nat)(S:Nat->Prop)(w:World)(g:Nat)(t:bv)(A:Option Addr)(n c:Nat)(zs:List (Value×En)):Prop where
 b:ay w g 152 #[.int .i64 t.index,.int .i64 t.term,.slice A n c]
 o:w.ownsRow B 59 6 (.slice A n c) n (zs.flatMap dE)
 d:bA S w zs
 l:zs.map (·.2)=t.L
 i:t.Inv
 g:B<=g
 s:∀j,S j->pV TD w j
section
variable {B:Nat}{S:Nat->Prop}{w w':World}{g n c:Nat}{t:bv}{A:Option Addr}{zs:List (Value×En)}
theorem aI{base size:Nat}{e:TypeId}{v:Value}{xs:List Value}(h:w.ownsRow base e size v n xs):∀A c,v=.slice A n c->∀j,aR A j->j<w.heap.size/\base<=j/\∃cs,w.heap[j]?=some (.cells cs e (0,0)):=by
 rintro A c rfl j ⟨ad,rfl,rfl⟩;rcases h.2 with⟨h0,_⟩|⟨g,cap,cur,h0,h1,h2,_⟩
 ·cases h0
 ·injection h0 with h0;injection h0 with h0;subst h0;exact⟨aS h2,h1,cur,h2⟩
theorem dG{base size:Nat}{e:TypeId}{xs:List Value}(h:w.ownsRow base e size (.slice A n c) n xs)(hk:∀j,aR A j->j<w.heap.size->w'.heap[j]?=w.heap[j]?):w'.ownsRow base e size (.slice A n c) n xs:=by
 refine⟨h.1,?_⟩;rcases h.2 with h0|⟨g,cap,cur,h1,h2,h3,h4⟩
 ·exact .inl h0
 ·have sa:=h1;injection sa with hA _ _;exact .inr ⟨g,cap,cur,h1,h2,(hk g ⟨_,hA,rfl⟩ (aS h3)).trans h3,h4⟩
theorem cy.len(h:cy B S w g t A n c zs):n=t.L.length/\zs.length=n:=by
 have h1:=h.o.1;rw[eG gR]at h1;have h2:=congrArg List.length h.l;rw[List.length_map]at h2;omega
theorem cy.rd(h:cy B S w g t A n c zs):im w A n zs:=cj.of_own h.o
theorem cy.keep(h:cy B S w g t A n c zs)(hk:∀j,(j=g\/aR A j\/S j)->j<w.heap.size->w'.heap[j]?=w.heap[j]?):cy B S w' g t A n c zs where
 b:=(hk g (.inl rfl) h.b.lt).trans h.b
 o:=dG h.o fun j hj hl=>hk j (.inr (.inl hj)) hl
 d:=h.d.keep fun j hj hl=>hk j (.inr (.inr hj)) hl
 l:=h.l
 i:=h.i
 g:=h.g
 s:=fun j hj=>by
  obtain⟨cs,fz,ty,h1,h2⟩:=h.s j hj;exact⟨cs,fz,ty,(hk j (.inr (.inr hj)) (aS h1)).trans h1,h2⟩
theorem cy.below(h:cy B S w g t A n c zs)(hb:Below w.heap.size w w'):cy B S w' g t A n c zs:=h.keep fun _ _ hl=>hb.block _ hl
theorem cy.at_(h:cy B S w g t A n c zs){k:Nat}(hk:k<n) :
  ∃ad v x,A=some ad/\zs[k]?=some (v,x)/\t.L[k]?=some x/\w.cell? (ad.add (k*6))=some (.int .i64 x.idx)/\w.cell? ⟨(ad.add (k*6)).block,(ad.add (k*6)).off+1,none⟩=some (.int .i64 x.term):=by
 obtain⟨ad,v,x,e,hz,c0,c1,_⟩:=h.rd.at_ hk;refine⟨ad,v,x,e,hz,?_,c0,c1⟩;rw[<-h.l,List.getElem?_map,hz];rfl
theorem cy.cells(h:cy B S w g t A n c zs):w.cell? ⟨g,0,none⟩=some (.int .i64 t.index)/\w.cell? ⟨g,1,none⟩=some (.int .i64 t.term)/\w.cell? ⟨g,2,none⟩=some (.slice A n c):=⟨h.b.cell 0,h.b.cell 1,h.b.cell 2⟩
end
theorem o9(z:Int)(w:World):Calls prog 86 #[.int .i64 z] w fun e w'=>e=.returned (.bool (fF z 1))/\w=w':=by
 unfold fF;by_cases h:1<=z
 ·go_enter func86,ntmps86;go_wp2_with fail;go_ret;exact⟨by simp[h],rfl⟩
 ·go_enter func86,ntmps86;go_wp2_with fail;go_ret;exact⟨by simp;omega,rfl⟩
section
variable {B:Nat}{S:Nat->Prop}{w:World}{g n c:Nat}{t:bv}{A:Option Addr}{zs:List (Value×En)}
theorem CN(h:cy B S w g t A n c zs):Calls prog 80 #[.pointer (some ⟨g,0,none⟩)] w fun e w'=>e=.returned (.tuple #[.int .i64 t.index,.int .i64 t.term])/\∃q,w'=w.drewN q:=by
 obtain⟨h0,h1,h2⟩:=h.cells;generalize t.index=a at *;generalize t.term=b at *;go_enter func80,ntmps80;go_wp2_with fail
 go_quiet (fail)
 go_wp2_with fail
 go_ret2
 exact⟨rfl,_,rfl⟩
theorem xx(h:cy B S w g t A n c zs)(hn:n<=100000000000):Calls prog 44 #[.pointer (some ⟨g,0,none⟩)] w fun e w'=>e=.returned (.tuple #[.int .i64 t.lastF.1,.int .i64 t.lastF.2])/\∃q,w'=w.drewN q:=by
 obtain⟨h0,h1,h2⟩:=h.cells;obtain⟨hl,_⟩:=h.len;rcases Nat.eq_zero_or_pos n with ug|ug
 ·have e:=zH (t.lastF_nil (List.eq_nil_of_length_eq_zero (by omega)));subst ug;clear hl;go_enter func44,ntmps44;go_wp2_with fail
  go_quiet (fail)
  go_wp2_with fail
  go_ret2
  exact⟨by rw[e.out];rfl,_,rfl⟩
 ·obtain⟨k,rfl⟩:∃k,n=k+1:=⟨n-1,by omega⟩;obtain⟨ad,v,x,rfl,hz,hx,c0,c1⟩:=h.at_ (k:=k) (by omega);have e:=zH (show t.lastF=(x.idx,x.term) by
   obtain⟨y,hy,e⟩:=t.lastF_pos (by omega);rw[<-hl,show k+1-1=k by omega,hx]at hy;obtain rfl:=Option.some.inj hy;exact e)
  clear hl hz hx;generalize x.idx=a at *;generalize x.term=b at *;go_enter func44,ntmps44;go_wp2_with fail
  go_quiet (fail)
  go_wp2_with fail
  go_ret2
  exact⟨by rw[e.out];rfl,_,rfl⟩
theorem CU(i:Int)(h:cy B S w g t A n c zs)(hn:n<=100000000000):Calls prog 89 #[.pointer (some ⟨g,0,none⟩),.int .i64 i] w fun e w'=>e=.returned (.tuple #[.int .i64 (t.termF i).1,.int .i64 (t.termF i).2])/\∃q,w'=w.drewN q:=by
 have Gi:=h.i.last;have hl:=h.len.1;have hb:=h.i.b;have hr:=h.i.room;have ci:=xx h hn;rw[Gi]at ci;clear Gi;go_enter func89,ntmps89;go_wp2_with fail;refine ci.mono ?_;rintro e w1 ⟨rfl,q,rfl⟩;obtain⟨h0,h1,h2⟩:=h.cells;by_cases i1:i<t.index
 ·have he:=zH (show t.termF i=(0,34)from if_pos i1);go_wp2_with fail
  go_ret2
  exact⟨by rw[he.out];rfl,_,rfl⟩
 ·by_cases i2:t.index+t.L.length<i
  ·have he:=zH (show t.termF i=(0,33) by
    unfold bv.termF;rw[if_neg i1,if_neg (by omega),List.getElem?_eq_none (by omega)])
   go_wp2_with fail
   go_ret2
   exact⟨by rw[he.out];rfl,_,rfl⟩
  ·by_cases i3:i=t.index
   ·have he:=zH (show t.termF i=(t.term,0) by
     unfold bv.termF;rw[if_neg i1,if_pos i3])
    subst i3;go_wp2_with fail
    go_ret2
    exact⟨by rw[he.out];rfl,_,rfl⟩
   ·obtain⟨k,hk⟩:∃k:Nat,i-t.index-1=k:=⟨(i-t.index-1).toNat,by omega⟩;have Iw:k<n:=by omega
    obtain⟨ad,v,x,rfl,hz,hx,c0,c1⟩:=h.at_ Iw;have he:=zH (show t.termF i=(x.term,0) by
     unfold bv.termF;rw[if_neg i1,if_neg i3,hk,show(k:Int).toNat=k from rfl,hx])
    have i4:(i==t.index)=false:=beq_eq_false_iff_ne.2 i3;have i5:t.index<i:=by omega
    have Df:i-t.index-1=(k:Int):=hk;clear hz hx;go_wp2_with fail
    go_quiet (fail)
    go_wp2_with fail
    go_ret2
    exact⟨by rw[he.out];rfl,_,World.drewN_drewN _ _ _⟩
end
theorem wY(S:Nat->Prop)(idx term:Int)(A:Option Addr)(n c:Nat)(zs:List (Value×En))(w:World)(hr:im w A n zs)(hd:bA S w zs)(hi:0<=idx)(Hh:idx<=1099511627776)(hn:n<=100000000000) :
  Calls prog 90 #[.int .i64 idx,.int .i64 term,.slice A n c] w fun e w'=>e=.returned (.bool (ct idx 0 term (zs.map (·.2))))/\Below w.heap.size w w':=by
 have H1:=zH hr.len;go_enter func90,ntmps90;go_wp2_with fail
 go_loopw [1,11] (fun tm i wr=>∃(k:Nat) (term':Int),k<=n/\i=.int .i64 k/\tm=.int .i64 term'/\ct idx 0 term (zs.map (·.2))=ct idx k term' ((zs.map (·.2)).drop k)/\Below w.heap.size w wr) (fun _ i _=>n-(intOf i).toNat)
 case atStart=>exact⟨0,term,Nat.zero_le _,rfl,rfl,rfl,Below.refl _ _⟩
 case round=>
  obtain⟨k,term',hk,rfl,rfl,he,hb⟩:=hrel;have He:=zH he;clear he;by_cases bh:k<n
  ·obtain⟨ad,v1,x,rfl,hx,c0,c1,c2,c3,c4,c5⟩:=(hr.below hb).at_ bh;have f1:=(hd _ (List.mem_of_getElem? hx)).keep (b5.below (S:=S) hb);obtain⟨B1,m1,d1,aM,l1,l2,l3⟩:=f1.form;obtain rfl:v1=_:=aM;have sR:(zs.map (·.2)).drop k=x::(zs.map (·.2)).drop (k+1):=iG (by rw[List.getElem?_map,hx];rfl);rw[sR]at He;have bi:=zH (show n-(k+1)<n-k by omega);have aU:Below wr.heap.size wr (wr.alloc (.cells #[.int .i64 x.idx,.int .i64 x.term,.int .i64 x.op,.int .i64 x.sess,.int .i64 x.seq,.slice B1 m1 d1] 59)):=zb.alloc zl _;have eB:=ay.new wr 59 #[.int .i64 x.idx,.int .i64 x.term,.int .i64 x.op,.int .i64 x.sess,.int .i64 x.seq,.slice B1 m1 d1];have f2:=f1.keep (b5.below (S:=S) aU);have oc:=aj hb aU zl;clear hx sR f1;have aP:=rF S x B1 m1 d1 (wr.alloc (.cells #[.int .i64 x.idx,.int .i64 x.term,.int .i64 x.op,.int .i64 x.sess,.int .i64 x.seq,.slice B1 m1 d1] 59)) f2 (Nat.le_trans l1 l2);unfold rN at aP;go_wp2_with fail;generalize wr.alloc (.cells #[.int .i64 x.idx,.int .i64 x.term,.int .i64 x.op,.int .i64 x.sess,.int .i64 x.seq,.slice B1 m1 d1] 59)=w2 at *;refine aP.mono ?_;rintro e w3 ⟨rfl,cv⟩;have b3:=eB.kept cv;obtain⟨a0,a1,-⟩:=b3.cs [0,1];simp only[Zx]at a0 a1;have eI:=aj oc cv zl;clear aP;cases hp:di x with
   | false=>
    have Hf:=zH (He.out.trans (show _=false by unfold ct;rw[hp];rfl));go_wp2_with fail;go_ret;exact⟨by rw[Hf.out];rfl,eI⟩
   | true=>
    by_cases xS:x.idx=idx+1+k
    ·by_cases ht:term'<=x.term
     ·have Hf:=zH (He.out.trans (show _=ct idx (k+1) x.term ((zs.map (·.2)).drop (k+1)) by
       show(di x&&(decide (x.idx=idx+1+k)&&(decide (term'<=x.term)&&_)))=_;rw[hp,decide_eq_true xS,decide_eq_true ht];rfl))
      have JH:(x.idx==idx+1+k)=true:=beq_iff_eq.2 xS;have TO:(x.idx !=idx+1+k)=false:=by rw[bne,JH];rfl
      have xS:=zH xS;generalize x.idx=xi at *;generalize x.term=xt at *;go_wp2_with fail;exact⟨⟨k+1,_,bh,by go_num,rfl,Hf.out,eI⟩,by simp[intOf];exact bi.out⟩
     ·have Hf:=zH (He.out.trans (show _=false by
       show(di x&&(decide (x.idx=idx+1+k)&&(decide (term'<=x.term)&&_)))=_;rw[decide_eq_false ht];simp))
      have JH:(x.idx==idx+1+k)=true:=beq_iff_eq.2 xS;have TO:(x.idx !=idx+1+k)=false:=by rw[bne,JH];rfl
      have xS:=zH xS;have ss:x.term<term':=by omega
      generalize x.idx=xi at *;generalize x.term=xt at *;go_wp2_with fail;go_ret;exact⟨by rw[Hf.out];rfl,eI⟩
    ·have Hf:=zH (He.out.trans (show _=false by
      show(di x&&(decide (x.idx=idx+1+k)&&(decide (term'<=x.term)&&_)))=_;rw[decide_eq_false xS];simp))
     have JH:(x.idx==idx+1+k)=false:=beq_eq_false_iff_ne.2 xS;have TO:(x.idx !=idx+1+k)=true:=by rw[bne,JH];rfl
     generalize x.idx=xi at *;generalize x.term=xt at *;go_wp2_with fail;go_ret;exact⟨by rw[Hf.out];rfl,eI⟩
  ·obtain rfl:k=n:=by omega
   have Hf:=zH (He.out.trans (show _=true by rw[List.drop_eq_nil_of_le (by rw[List.length_map,H1.out];omega)];rfl));go_wp2_with fail;go_ret;exact⟨by rw[Hf.out];rfl,hb⟩
theorem Ez{t:bv}{i term:Int}{k:Nat}{x:En}(hx:t.L[k]?=some x)(hh:qk i term x=true)(hn:∀j y,k<j->t.L[j]?=some y->qk i term y=false):t.hintF i term=x.idx:=by
 unfold bv.hintF;have e:t.L=t.L.take k++x::t.L.drop (k+1):=by rw[<-iG hx,List.take_append_drop]
 have e2:(t.L.drop (k+1)).filter (qk i term)=[]:=by
  rw[List.filter_eq_nil_iff];intro y hy;obtain⟨j,hj,rfl⟩:=List.getElem_of_mem hy;have:=hn (k+1+j) _ (by omega) (by rw[<-List.getElem?_drop,List.getElem?_eq_getElem hj]);rw[this];simp
 rw[e,List.filter_append,List.filter_cons,if_pos hh,e2,List.getLast?_append];rfl
theorem yM{t:bv}{i term:Int}(hn:∀(j:Nat) y,t.L[j]?=some y->qk i term y=false):t.hintF i term=t.index:=by
 unfold bv.hintF;have e2:t.L.filter (qk i term)=[]:=by
  rw[List.filter_eq_nil_iff];intro y hy;obtain⟨j,hj,rfl⟩:=List.getElem_of_mem hy;rw[hn j _ (List.getElem?_eq_getElem hj)];simp
 rw[e2];rfl
section
variable {B:Nat}{S:Nat->Prop}{w:World}{g n c:Nat}{t:bv}{A:Option Addr}{zs:List (Value×En)}
theorem CO(i term:Int)(h:cy B S w g t A n c zs)(hn:n<=100000000000):Calls prog 136 #[.pointer (some ⟨g,0,none⟩),.int .i64 i,.int .i64 term] w fun e w'=>e=.returned (.int .i64 (t.hintF i term))/\Below w.heap.size w w':=by
 have hl:=zH h.len.1;obtain⟨q0,q1,q2⟩:=h.cells;go_enter func136,ntmps136;go_wp2_with fail
 go_loopw [14] (fun i' wr=>∃k:Nat,k<=n/\i'=.int .i64 k/\(∀j y,n-k<=j->t.L[j]?=some y->qk i term y=false)/\Below w.heap.size w wr) (fun i _=>n-(intOf i).toNat)
 case atStart=>exact⟨0,Nat.zero_le _,rfl,fun j y hj hy=>by have:=(List.getElem?_eq_some_iff.1 hy).1;rw[<-hl.out]at this;omega,Below.refl _ _⟩
 case round=>
  obtain⟨k,hk,rfl,dn,hb⟩:=hrel;have Hno:=zH dn;clear dn;have h':=h.below hb;obtain⟨p0,p1,p2⟩:=h'.cells;by_cases bh:k<n
  ·obtain⟨m,hm⟩:∃m:Nat,n-1-k=m:=⟨_,rfl⟩;have og:(n:Int)-1-(k:Int)=(m:Int):=by omega
   obtain⟨ad,v1,x,rfl,hx,c0,c1,c2,c3,c4,c5⟩:=h'.rd.at_ (k:=m) (by omega);have BX:t.L[m]?=some x:=by rw[<-h.l,List.getElem?_map,hx];rfl
   have Xn:m<n:=by omega
   have bi:=zH (show n-(k+1)<n-k by omega);have hm:=zH hm;obtain⟨B1,m1,d1,aM,_,_,_⟩:=(h'.d _ (List.mem_of_getElem? hx)).form;obtain rfl:v1=_:=aM;clear hx;have e1:IntKind.i64.wrap ((n:Int)-1)=(n:Int)-1:=IntWalk.i64_in _ (by omega);have e2:IntKind.i64.wrap ((n:Int)-1-(k:Int))=(m:Int):=by rw[og];exact IntWalk.i64_in _ (by omega)
   have la:=aG c0;obtain⟨kg,k0,k1,k2,k3,k4,k5⟩:=O8 [g,(ad.add (m*6)).block] p2 c0 c1 c2 c3 c4 c5;have bV:=h'.b.lt;have bY:∀q∈[g,(ad.add (m*6)).block],q<wr.heap.size:=by simp;exact⟨bV,la⟩
   clear og c0 c1 c2 c3 c4 c5 p0 p1 p2;have Ee:Below w.heap.size w (wr.alloc (.cells #[.int .i64 x.idx,.int .i64 x.term,.int .i64 x.op,.int .i64 x.sess,.int .i64 x.seq,.slice B1 m1 d1] 59)).drew:=aY (aj hb (zb.alloc zl _) zl) 1;have pv:Below wr.heap.size wr (wr.alloc (.cells #[.int .i64 0,.int .i64 0,.int .i64 0,.int .i64 0,.int .i64 0,.slice none 0 0] 59)).drew:=aY (zb.alloc zl _) 1;cases hh:qk i term x with
   | true=>
    have Hf:=zH (Ez BX hh fun j y hj hy=>Hno.out j y (by have:=hm.out;omega) hy);have WZ:x.idx<i/\x.term<=term:=by
     unfold qk at hh;rw[Bool.and_eq_true,decide_eq_true_eq,decide_eq_true_eq]at hh;exact hh
    obtain⟨i1,i2⟩:=WZ;have i3:=Int.not_lt.2 i2;clear BX hh;go_wp2_with fail;refine qY [g,(ad.add (m*6)).block] wr [([0,1,2,3,4,5,6,7,8,9,10,11,12,13],14)] ([],15) ?_;refine au fun K1 cF=>?_
    simp only[af,Zx];repeat go_big_quiet_step(fail)
    apply wpQuiet_nil;go_wp2_with fail;refine⟨aw bY pv,cF _ _ ?_⟩;refine aE ?_;simp only[af,Zx];repeat go_big_quiet_step(fail)
    apply wpQuiet_nil;go_wp2_with fail;go_ret;exact⟨by rw[Hf.out];rfl,Ee⟩
   | false=>
    have Hst:=zH (show ∀j y,n-(k+1)<=j->t.L[j]?=some y->qk i term y=false from fun j y hj hy=>by
     rcases Nat.lt_or_ge m j with h1|h1
     ·exact Hno.out j y (by have:=hm.out;omega) hy
     ·obtain rfl:j=m:=by have:=hm.out;omega
      obtain rfl:x=y:=Option.some.inj (BX.symm.trans hy);exact hh)
    clear BX;by_cases i1:x.idx<i
    ·have i2:term<x.term:=by
      unfold qk at hh;rw[decide_eq_true i1,Bool.true_and,decide_eq_false_iff_not]at hh;omega
     have i3:=Int.not_le.2 i2;clear hh;go_wp2_with fail;refine qY [g,(ad.add (m*6)).block] wr [([0,1,2,3,4,5,6,7,8,9,10,11,12,13],14)] ([],15) ?_;refine au fun K1 cF=>?_
     simp only[af,Zx];repeat go_big_quiet_step(fail)
     apply wpQuiet_nil;go_wp2_with fail;refine⟨aw bY pv,cF _ _ ?_⟩;refine aE ?_;simp only[af,Zx];repeat go_big_quiet_step(fail)
     apply wpQuiet_nil;go_wp2_with fail;exact⟨⟨k+1,bh,by go_num,Hst.out,Ee⟩,by simp[intOf];exact bi.out⟩
    ·clear hh;go_wp2_with fail;refine qY [g,(ad.add (m*6)).block] wr [([0,1,2,3,4,5,6,7,8,9,10,11,12,13],14)] ([],15) ?_;refine au fun K1 cF=>?_
     simp only[af,Zx];repeat go_big_quiet_step(fail)
     apply wpQuiet_nil;go_wp2_with fail;refine⟨aw bY pv,cF _ _ ?_⟩;refine aE ?_;simp only[af,Zx];repeat go_big_quiet_step(fail)
     apply wpQuiet_nil;go_wp2_with fail;exact⟨⟨k+1,bh,by go_num,Hst.out,Ee⟩,by simp[intOf];exact bi.out⟩
  ·obtain rfl:k=n:=by omega
   have Hf:=zH (yM (t:=t) (i:=i) (term:=term) fun j y hy=>Hno.out j y (by omega) hy);go_wp2_with fail;go_ret;exact⟨by rw[Hf.out];rfl,hb⟩
end
structure Fr(X:Nat->Prop)(w w':World):Prop where
 os:w'.os=w.os
 tape:w'.tape=w.tape
 output:w'.output=w.output
 size:w.heap.size<=w'.heap.size
 block:∀k,k<w.heap.size->¬X k->w'.heap[k]?=w.heap[k]?
section
variable {X X' S:Nat->Prop}{B:Nat}{w w' w'':World}
theorem Fr.refl(X:Nat->Prop)(w:World):Fr X w w:=⟨rfl,rfl,rfl,Nat.le_refl _,fun _ _ _=>rfl⟩
theorem Fr.of_below(h:Below w.heap.size w w'):Fr X w w':=⟨h.os,h.tape,h.output,h.size,fun k hk _=>h.block k hk⟩
theorem Fr.trans(h:Fr X w w')(h':Fr X' w' w'')(hX:∀j,X' j->X j\/w.heap.size<=j):Fr X w w'':=
 ⟨h'.os.trans h.os,h'.tape.trans h.tape,h'.output.trans h.output,Nat.le_trans h.size h'.size,fun k hk hn=>
  (h'.block k (Nat.lt_of_lt_of_le hk h.size) fun hx=>(hX k hx).elim hn fun h0=>absurd h0 (by omega)).trans (h.block k hk hn)⟩
theorem Fr.mono(h:Fr X w w')(hX:∀j,X j->X' j):Fr X' w w':=⟨h.os,h.tape,h.output,h.size,fun k hk hn=>h.block k hk fun hx=>hn (hX k hx)⟩
theorem Fr.below(h:Fr X w w')(hX:∀j,X j->B<=j)(hB:B<=w.heap.size):Below B w w':=
 ⟨h.os,h.tape,h.output,h.size,fun k hk=>h.block k (by omega) fun hx=>absurd (hX k hx) (by omega)⟩
theorem Fr.stay(h:Fr X w w')(hS:∀j,S j->j<w.heap.size->¬X j):b5 S w w':=fun j h1 h2=>h.block j h2 (hS j h1 h2)
theorem Fr.set(g i:Nat)(u:Value):Fr (fun j=>j=g) w (w.setCell ⟨g,i,none⟩ u):=
 have h:=(Below.refl g w).setCell (show g<=(⟨g,i,none⟩:Addr).block from Nat.le_refl _) u
 ⟨h.os,h.tape,h.output,h.size,fun k _ hn=>Below.heap_setCell w _ u k hn⟩
end
theorem Fr.grown{w w':World}{A:Option Addr}{n c:Nat}(hg:w.grownBy w' (Value.slice A n c).ownBlock):Fr (aR A) w w':=
 have h:=(Below.refl 0 w).grown hg zz (fun _ _=>Nat.zero_le _)
 ⟨h.os,h.tape,h.output,h.size,fun k hk hn=>hg.block k hk fun e=>hn (by
  cases A with
  | none=>cases e
  | some ad=>exact⟨ad,rfl,by injection e with e;exact e.symm⟩)⟩
theorem iP{w:World}{A A':Option Addr}{n c n' c':Nat}(h:(Value.slice A' n' c').ownBlock=(Value.slice A n c).ownBlock\/(Value.slice A' n' c').ownBlock=some w.heap.size):∀j,aR A' j->aR A j\/w.heap.size<=j:=by
 rintro j ⟨ad,rfl,rfl⟩;rcases h with h|h
 ·cases A with
  | none=>cases h
  | some ad'=>exact .inl ⟨ad',rfl,by injection h with h;exact h.symm⟩
 ·injection h with h;exact .inr (by have h:ad.block=w.heap.size:=h;omega)
theorem nk:(prog.info? 59).map (fun i=>(i.zero,i.size,i.bytes))=some (some (.agg #[.int .i64 0,.int .i64 0,.int .i64 0,.int .i64 0,.int .i64 0,.slice none 0 0]),6,64):=by kernel_rfl
theorem pD{ys:List (Value×En)}(h1:∀z∈ys,z.1.oneCell'=true):∀u∈ys.flatMap dE,u.oneCell'=true:=fun u hu=>by
 obtain⟨z,hz,hu⟩:=List.mem_flatMap.1 hu;simp only[dE,List.mem_cons,List.not_mem_nil,or_false]at hu;rcases hu with rfl|rfl|rfl|rfl|rfl|rfl
 all_goals first|rfl|exact h1 z hz
theorem bA.one{S:Nat->Prop}{w:World}{zs:List (Value×En)}(h:bA S w zs):∀z∈zs,z.1.oneCell'=true:=fun z hz=>by
 obtain⟨_,_,_,e,_⟩:=(h z hz).form;rw[e];rfl
theorem dg{w:World}{ops:Array Oper}{rest:List Oper}{o:Oper}{a:Act}{Q:Exit->Act->World->Prop}(iJ:o.guard=none)(s x:Operand)
  (ho:o.op=.call {callee:=.builtin .append,args:=#[s,x],argTypes:=#[27,27]})
  (base:Nat) {A:Option Addr} {n c:Nat} {zs:List (Value×En)} (hs:a.eval s=.slice A n c) (aJ:w.ownsRow base 59 6 (.slice A n c) n (zs.flatMap dE))
  {B:Option Addr} {m d:Nat} {ys:List (Value×En)} (hx:a.eval x=.slice B m d) (hr:im w B m ys) (h1:∀z∈ys,z.1.oneCell'=true) (hb:n+m<=1000000000000) (bD:base<=w.heap.size)
  (h:∀A' c' w',w'.ownsRow base 59 6 (.slice A' (n+m) c') (n+m) ((zs++ys).flatMap dE)->Fr (aR A) w w'->Below base w w'->(∀j,aR A' j->aR A j\/w.heap.size<=j)->wpList prog ops Q rest (a.put o.dst (.slice A' (n+m) c')) w'):wpList prog ops Q (o::rest) a w:=by
 obtain⟨i0,fT,gv,fC,fK⟩:=info_parts nk;refine bj w iJ s x 27 ho base 59 i0 _ 6 64 underlying27 fT gv fC fK rfl (by omega) (.slice A n c) n _ hs aJ B m d _ hx hr (pD h1) (by unfold maxLen;omega) (by omega) bD fun A' c' w' h3 h4 h5=>?_
 rw[<-List.flatMap_append]at h3;exact h A' c' w' h3 (Fr.grown h4) (eQ aJ h4 bD) (iP h5)
theorem im.one{w:World}{g:Nat}{z:Value×En}(hg:ay w g 59 (dE z).toArray):im w (some ⟨g,0,none⟩) 1 [z]:=
 ⟨rfl,fun _=>⟨_,rfl,fun j y hy=>by
  have e:(⟨g,0,none⟩:Addr).add j=⟨g,j,none⟩:=by unfold Addr.add;split <;> simp[*]
  rw[e,hg.cell j,<-hy];simp⟩⟩
theorem be.row{L:List TypeId}{w w':World}{base size n c:Nat}{e:TypeId}{A:Option Addr}{xs:List Value}(h:w.ownsRow base e size (.slice A n c) n xs)(hf:Fr (aR A) w w')(he:e∉L):be L w w':=fun j hj=>by
 obtain⟨cs,fz,ty,h7,h8⟩:=hj;refine hf.block j (aS h7) fun hx=>?_
 obtain⟨_,_,cs',h9⟩:=aI h A c rfl j hx;rw[h9]at h7;injection h7 with h7;injection h7 with _ h7;exact he (h7▸h8)
def ST(B:Nat)(w:World)(A:Option Addr)(n c:Nat)(zs:List (Value×En)):Prop:=
 (c=n/\im w A n zs/\∀z∈zs,z.1.oneCell'=true)\/w.ownsRow B 59 6 (.slice A n c) n (zs.flatMap dE)
theorem oE{w:World}{ops:Array Oper}{rest:List Oper}{o:Oper}{a:Act}{Q:Exit->Act->World->Prop}(iJ:o.guard=none)(s x:Operand)
  (ho:o.op=.call {callee:=.builtin .append,args:=#[s,x],argTypes:=#[27,27]})
  (base:Nat) {A:Option Addr} {n c:Nat} {zs:List (Value×En)} (hs:a.eval s=.slice A n c) (aJ:ST base w A n c zs)
  (g:Nat) {z:Value×En} (hx:a.eval x=.slice (some ⟨g,0,none⟩) 1 1) (hg:ay w g 59 (dE z).toArray) (h1:z.1.oneCell'=true) (hb:n<=500000000000) (bD:base<=w.heap.size)
  (h:∀A' c' w',w'.ownsRow base 59 6 (.slice A' (n+1) c') (n+1) ((zs++[z]).flatMap dE)->Below base w w'->(∀L,59∉L->be L w w')->Fr (aR A) w w'->wpList prog ops Q rest (a.put o.dst (.slice A' (n+1) c')) w'):wpList prog ops Q (o::rest) a w:=by
 obtain⟨i0,fT,gv,fC,fK⟩:=info_parts nk;have hr:=im.one hg;have sa:∀y∈[z],y.1.oneCell'=true:=fun y hy=>by rw[List.mem_singleton.1 hy];exact h1
 rcases aJ with⟨rfl,eb,Zh⟩|aJ
 ·have EO:A=none->c=0/\c=0:=fun e=>by
   rcases Nat.eq_zero_or_pos c with h0|h0
   ·exact⟨h0,h0⟩
   ·obtain⟨ad,e',_⟩:=eb.2 h0;rw[e]at e';cases e'
  refine wpList_append_grows w iJ s x 27 ho 59 i0 _ 6 64 underlying27 fT gv fC fK rfl (by omega) A c c (zs.flatMap dE) hs EO eb.1 (fun b hb j y hy=>?_) ⟨g,0,none⟩ 1 1 ([z].flatMap dE) hx rfl (fun j y hy=>?_) (pD sa) (by omega) (by unfold maxLen;omega) (by omega) fun v' w' h3 h4=>?_
  ·have hl:=(List.getElem?_eq_some_iff.1 hy).1;have h0:0<c:=by have:=eb.1;omega
   obtain⟨ad,e,hc⟩:=eb.2 h0;obtain rfl:=Option.some.inj (hb.symm.trans e);exact hc j y hy
  ·obtain⟨ad,e,hc⟩:=hr.2 (by omega);obtain rfl:=Option.some.inj e;exact hc j y hy
  ·obtain⟨A',c',rfl,_⟩:=qP h3;have kI:Below w.heap.size w w':=zb.grown h4 zl (fun k hk=>by cases hk);rw[<-List.flatMap_append]at h3;exact h A' c' w' (fY h3 bD) (kI.mono bD) (fun L _=>be.below kI) (Fr.of_below kI)
 ·refine dg iJ s x ho base hs aJ hx hr sa (by omega) bD fun A' c' w' h3 h4 h5 h6=>h A' c' w' h3 h5 (fun L hL=>be.row aJ h4 hL) h4
def kQ(i tm:Int):Bool:=(decide (i=0)&&decide (tm=0))||(fF i 1&&fF tm 1)
theorem HU{i tm:Int}(hb:kQ i tm=true)(w:World):Calls prog 38 #[.int .i64 i,.int .i64 tm] w fun e w'=>e=.returned (.pointer (some ⟨w.heap.size,0,none⟩))/\ay w' w.heap.size 152 #[.int .i64 i,.int .i64 tm,.slice none 0 0]/\Below w.heap.size w w':=by
 have hA:Below w.heap.size w (w.alloc (.cells #[.int .i64 i,.int .i64 tm,.slice none 0 0] 152)):=zb.alloc zl _;have hk:=ay.new w 152 #[.int .i64 i,.int .i64 tm,.slice none 0 0];by_cases h0:i=0/\tm=0
 ·obtain⟨rfl,rfl⟩:=h0;go_enter func38,ntmps38;go_wp2_with fail;go_ret;exact⟨rfl,hk,hA⟩
 ·have h1:fF i 1=true/\fF tm 1=true:=by
   unfold kQ at hb;rw[Bool.or_eq_true,Bool.and_eq_true,Bool.and_eq_true,decide_eq_true_eq,decide_eq_true_eq]at hb;exact hb.resolve_left h0
  have h2:i≠0:=by
   rintro rfl;have:=h1.1;simp[fF]at this
  clear h0 hb;go_enter func38,ntmps38;go_wp2_with fail;refine(o9 _ _).mono ?_;rintro e w1 ⟨rfl,rfl⟩;rw[h1.1];go_wp2_with fail;refine(o9 _ _).mono ?_;rintro e w1 ⟨rfl,rfl⟩;rw[h1.2];go_wp2_with fail;go_ret;exact⟨rfl,hk,hA⟩
theorem tB{α:Type}{l:List α}{i:Nat}{x:α}(h:l[i]?=some x):l.take (i+1)=l.take i++[x]:=by rw[List.take_add_one,h];rfl
section
variable {B:Nat}{S:Nat->Prop}{w:World}{g n c:Nat}{t:bv}{A:Option Addr}{zs:List (Value×En)}
theorem mP(h:cy B S w g t A n c zs)(hn:n<=100000000000):Calls prog 44 #[.pointer (some ⟨g,0,none⟩)] w fun e w'=>e=.returned (.tuple #[.int .i64 t.lastF.1,.int .i64 t.lastF.2])/\Below w.heap.size w w':=
 (xx h hn).mono (by rintro e w' ⟨rfl,q,rfl⟩;exact⟨rfl,aY zb q⟩)
theorem jh(i:Int)(h:cy B S w g t A n c zs)(hn:n<=100000000000):Calls prog 89 #[.pointer (some ⟨g,0,none⟩),.int .i64 i] w fun e w'=>e=.returned (.tuple #[.int .i64 (t.termF i).1,.int .i64 (t.termF i).2])/\Below w.heap.size w w':=
 (CU i h hn).mono (by rintro e w' ⟨rfl,q,rfl⟩;exact⟨rfl,aY zb q⟩)
def fG(B:Nat)(w:World)(A:Option Addr)(n c:Nat)(zs:List (Value×En))(L:List En):Prop:=
 w.ownsRow B 59 6 (.slice A n c) n (zs.flatMap dE)/\bA (bu TD B w) w zs/\zs.map (·.2)=L
theorem fG.below{w':World}{L:List En}(h:fG B w A n c zs L)(hb:Below w.heap.size w w'):fG B w' A n c zs L:=⟨bF h.1 hb,h.2.1.move (be.below hb),h.2.2⟩
theorem fG.mono{B':Nat}{L:List En}(h:fG B w A n c zs L)(hb:B'<=B):fG B' w A n c zs L:=⟨fY h.1 hb,h.2.1.mono (bu.wide (fun _ h=>h) hb),h.2.2⟩
theorem fG.nil(B:Nat)(w:World):fG B w none 0 0 [] []:=⟨ek _ _,fun z hz=>(by cases hz),rfl⟩
theorem fG.len{L:List En}(h:fG B w A n c zs L):zs.length=n/\L.length=n:=by
 have h1:=h.1.1;rw[eG gR]at h1;have h2:=congrArg List.length h.2.2;rw[List.length_map]at h2;omega
theorem zV(i m:Int)(h:cy B S w g t A n c zs)(hn:n<=100000000000):Calls prog 131 #[.pointer (some ⟨g,0,none⟩),.int .i64 i,.int .i64 m] w fun e w'=>∃A' n' c' zs',e=.returned (.slice A' n' c')/\fG w.heap.size w' A' n' c' zs' (t.sliceF i m)/\Below w.heap.size w w':=by
 have Gi:=h.i.last;have hb:=h.i.b;have hr:=h.i.room;rw[<-h.len.1]at Gi hr;have hl:=zH h.len.1;have ci:=mP h hn;rw[Gi]at ci;clear Gi;go_enter func131,ntmps131;go_wp2_with fail;refine ci.mono ?_;rintro e w1 ⟨rfl,bH⟩;have h1:=h.below bH;obtain⟨q0,q1,q2⟩:=h1.cells;by_cases i1:i<=t.index
 ·have he:=zH (show t.sliceF i m=[]from if_pos (.inl i1));go_wp2_with fail;go_ret;exact⟨none,0,0,[],rfl,by rw[he.out];exact fG.nil _ _,bH⟩
 ·by_cases i2:t.index+n<i
  ·have he:=zH (show t.sliceF i m=[] by
    unfold bv.sliceF;split
    ·rfl
    ·rw[List.drop_eq_nil_of_le (by rw[<-hl.out];omega),List.take_nil])
   go_wp2_with fail;go_ret;exact⟨none,0,0,[],rfl,by rw[he.out];exact fG.nil _ _,bH⟩
  ·by_cases i3:m<1
   ·have he:=zH (show t.sliceF i m=[]from if_pos (.inr i3));go_wp2_with fail;go_ret;exact⟨none,0,0,[],rfl,by rw[he.out];exact fG.nil _ _,bH⟩
   ·obtain⟨k,hk⟩:∃k:Nat,i-t.index-1=k:=⟨(i-t.index-1).toNat,by omega⟩;have Iw:k<n:=by omega
    obtain⟨mm,og⟩:∃mm:Nat,m=mm:=⟨m.toNat,by omega⟩;subst og;have he:=zH (show t.sliceF i mm=(t.L.drop k).take mm by
     unfold bv.sliceF;rw[if_neg (by omega),hk];rfl)
    obtain⟨lO,eW⟩:=aZ h1.o;obtain⟨ad,v0,x0,rfl,_⟩:=h1.at_ Iw;obtain⟨p,hp⟩:∃p:Nat,min mm (n-k)=p:=⟨_,rfl⟩;have OO:min (mm:Int) ((n-k:Nat):Int)=(p:Int):=by omega
    have ZA:p<=c-k:=by omega
    have Ax:p<=n-k:=by omega
    have kW:¬c=k:=by omega
    have Gn:=zH hp;have aD:im w1 (some (ad.add (k*6))) (n-k) (zs.drop k):=by
     have:=cj.cut (size:=6) h1.rd (k:=k) (by omega) lO;rw[if_neg kW]at this;rw[<-jz gR]at this;exact this
    have sO:bA S w1 (zs.drop k):=h1.d.sub fun y hy=>List.mem_of_mem_drop hy
    have E6:=zH (show(zs.drop k).map (·.2)=t.L.drop k by rw[List.map_drop,h1.l]);have uj:=zH (show ∀z∈zs.drop k,nU z.2.facts from fun z hz=>ly (h1.i.plain _ (by rw[<-h1.l];exact List.mem_map_of_mem (List.mem_of_mem_drop hz))));generalize zs.drop k=ys at *;clear hp ci;unfold maxLen at eW;go_wp2_with fail
    go_quiet (fail)
    go_wp2_with fail;clear q0 q1 q2;obtain⟨w2,eh⟩:=zN (w1.drewN nq);rw[eh];have bU:Below w.heap.size w w2:=by rw[<-eh];exact aY bH _
    have aD:im w2 (some (ad.add (k*6))) (n-k) ys:=by rw[<-eh];exact aD
    have sO:bA S w2 ys:=by rw[<-eh];exact sO
    clear eh h1 bH
    go_loopw [10,52] (fun o i' wr=>∃(j:Nat) (A':Option Addr) (c':Nat) (zs':List (Value×En)),j<=p/\i'=.int .i64 j/\o=.slice A' j c'/\fG w2.heap.size wr A' j c' zs' ((t.L.drop k).take j)/\Below w2.heap.size w2 wr) (fun _ i' _=>p-(intOf i').toNat)
    case atStart=>exact⟨0,none,0,[],Nat.zero_le _,rfl,rfl,fG.nil _ _,Below.refl _ _⟩
    case round=>
     obtain⟨j,A',c',zs',hj,rfl,rfl,hE,Jn⟩:=hrel;by_cases bh:j<p
     ·obtain⟨cd,v1,x,TF,hx,c0,c1,c2,c3,c4,c5⟩:=(aD.below Jn).at_ (show j<n-k by omega);obtain rfl:ad.add (k*6)=cd:=Option.some.inj TF;have f1:=(sO _ (List.mem_of_getElem? hx)).keep (b5.below (S:=S) Jn);have yU:=uj.out _ (List.mem_of_getElem? hx);obtain⟨B1,m1,d1,aM,l1,l2,l3⟩:=f1.form;obtain rfl:v1=_:=aM;have dw:=zH (tB (show(t.L.drop k)[j]?=some x by rw[<-E6.out,List.getElem?_map,hx];rfl));have bi:=zH (show p-(j+1)<p-j by omega);have aU:Below wr.heap.size wr (wr.alloc (.cells #[.int .i64 x.idx,.int .i64 x.term,.int .i64 x.op,.int .i64 x.sess,.int .i64 x.seq,.slice B1 m1 d1] 59)):=zb.alloc zl _;have f2:=f1.keep (b5.below (S:=S) aU);have aP:=nC S x B1 m1 d1 _ f2 yU;unfold rN at aP;have LE:=hE.below aU;have Jo:=aj Jn aU zl;clear hx f1 f2 TF hE Jn;go_wp2_with fail;generalize wr.alloc (.cells #[.int .i64 x.idx,.int .i64 x.term,.int .i64 x.op,.int .i64 x.sess,.int .i64 x.seq,.slice B1 m1 d1] 59)=w3 at *;refine aP.mono ?_;rintro e w4 ⟨A4,d4,rfl,De,dV⟩;have LG:=LE.below dV;have Mh:=aj Jo dV zl;have De:=De.mono (bu.wide (L:=TD) (fun _ h=>h) Jo.size);have iA:Below w4.heap.size w4 (w4.alloc (.cells #[.int .i64 x.idx,.int .i64 x.term,.int .i64 x.op,.int .i64 x.sess,.int .i64 x.seq,.slice A4 m1 d4] 59)):=zb.alloc zl _;have eB:=ay.new w4 59 (dE (.slice A4 m1 d4,x)).toArray;have On:=LG.below iA;have MC:=De.move (be.below iA);have Mi:=aj Mh iA zl;have W3:j+1<=1000000000000:=by omega
      clear LE LG De Mh Jo aP;go_wp2_with (at_builtin;refine dg rfl (.tmp 56) (.tmp 59) rfl w2.heap.size rfl On.1 rfl (im.one eB) (fun y hy=>by rw[List.mem_singleton.1 hy];rfl) W3 Mi.size ?_;intro A6 c6 w6 kZ hfr6 lY hrow6);have hD:bA (bu TD w2.heap.size w6) w6 (zs'++[(.slice A4 m1 d4,x)]):=(On.2.1.append fun z hz=>by rw[List.mem_singleton.1 hz];exact MC).move (be.row On.1 hfr6 (by decide));have hM:(zs'++[((.slice A4 m1 d4:Value),x)]).map (·.2)=(t.L.drop k).take (j+1):=by rw[List.map_append,On.2.2,dw.out];rfl
      go_roundw
      case rel=>exact⟨j+1,A6,c6,_,bh,by go_num,rfl,⟨kZ,hD,hM⟩,Mi.trans lY⟩
      case measure=>simp[intOf];exact bi.out
     ·obtain rfl:j=p:=by omega
      go_wp2_with fail;go_ret;refine⟨A',j,c',zs',rfl,?_,aj bU Jn zl⟩;have OE:t.sliceF i mm=(t.L.drop k).take j:=by
       rw[he.out,<-Gn.out];rw[show(t.L.drop k).take mm=(t.L.drop k).take (min mm (n-k)) by
        rw[<-List.take_take,List.take_of_length_le (i:=n-k) (by rw[List.length_drop,<-hl.out];exact Nat.le_refl _)]]
      rw[OE];exact hE.mono bU.size
end
end Go.Proofs.YtjcninheccmpoaaGreat
