import Derived.Test.YtjcninheccmpoaaGreatM4
import Derived.Lib.AppendZeros
import Derived.Lib.LazyBuf
set_option maxRecDepth 100000
set_option maxHeartbeats 8000000
set_option linter.all false
namespace Go.Proofs.YtjcninheccmpoaaGreat
open Go.RowKit Go.Proofs.Tryz
section
open Go.Maps Go.MapKept Go.WideMaps
open Go.ChangeMaps (setBlock)
theorem mG{n:Int}{l l':List Int}(h:∀s,s∈l↔s∈l'):lz n l=lz n l':=by
 have:ly n.toNat l=ly n.toNat l':=by
  unfold ly;congr 1;apply List.filter_congr;intro i _;exact decide_eq_decide.2 (h _)
 unfold lz;rw[this]
def vv(w:World)(r b:Nat):Nat:=match w.heap[r]?,w.heap[b]? with
 | some (.mapIter _ _ seen _),some (.map es _)=>(leftOf es seen).size
 | _,_=>0
section
variable {w w':World}{r b n:Nat}{l:List Int}{left:Int->Prop}{last:Option Int}
theorem lX.n_eq(h:lX w r b l left n last):vv w r b=n:=by
 obtain⟨es,clock,since,c0,seen,h1,h2,aE,hold,SQ,hn,_⟩:=h.it;unfold vv;rw[h1,h2];exact hn.symm
theorem lX.iter(h:lX w r b l left n last):∃x s y z,w.heap[r]?=some (.mapIter x s y z):=by
 obtain⟨es,clock,since,c0,seen,h1,_⟩:=h.it;exact⟨_,_,_,_,h1⟩
theorem qi{B:Nat}{row:Option Nat}(h:w.grownBy w' row)(hB:B<=w.heap.size)(bP:∀g,row=some g->B<=g):Below B w w':=
 zb.grown h hB (fun g hg=>bP g hg)
theorem zX{base:Nat}{e:TypeId}{size n:Nat}{v:Value}{xs:List Value}(h:w.ownsRow base e size v n xs)(hk:∀(j:Nat) (cs:Array Value),w.heap[j]?=some (Obj.cells cs e)->w'.heap[j]?=some (Obj.cells cs e)):w'.ownsRow base e size v n xs:=by
 refine⟨h.1,?_⟩;rcases h.2 with h0|⟨g,cap,cur,h1,h2,h3,h4⟩
 ·exact .inl h0
 ·exact .inr ⟨g,cap,cur,h1,h2,hk _ _ h3,h4⟩
theorem oS{base:Nat}{e:TypeId}{size n m j:Nat}{A:Option Addr}{xs:List Value}{o:Obj}(h:w.ownsRow base e size (.slice A n m) n xs)(hg:w.grownBy w' (Value.slice A n m).ownBlock)(hj:w.heap[j]?=some o)(fV:∀cs,o≠.cells cs e (0,0)):w'.heap[j]?=some o:=by
 rw[<-hj];refine hg.block j (aV hj) fun e1=>?_
 rcases h.2 with⟨h0,_⟩|⟨g,cap,cur,h1,_,h3,_⟩
 ·rw[h0]at e1;simp[Value.ownBlock]at e1
 ·rw[h1]at e1;have e2:j=g:=by simpa[Value.ownBlock]using e1
  rw[<-e2,hj]at h3;exact fV _ (Option.some.inj h3)
end
section
variable {aa:Nat->Nat}{b g:Nat}{w:World}{R:Rf}{v:Rw}
theorem ao.below{w1 w2:World}{R1:Rf}(h:ao aa b w g R1 w1)(hb:Below w1.heap.size w1 w2):ao aa b w g R1 w2:=by
 obtain⟨ak,v',h1,h2,h3,h4⟩:=h;exact⟨ak,v',h1.below hb,h2,h3,h4.trans (Fr.of_below (X:=aN aa b) hb) fun j hj=>.inl hj⟩
theorem ta(s:Int)(h:ax aa b w g R v)(h0:0<=s)(sN:s<=1000)(gB:R.yes≠[])(ah:R.yes.length<=100000) :
  Calls prog 98 #[.pointer (some ⟨g,0,none⟩),.int .i64 s] w fun e w'=>e=.returned (.bool (R.says s).won)/\ao aa b w g (R.says s) w':=by
 have cQ:=h.s.lt;obtain⟨bm,hv,fG,hk⟩:∃bm,v.yes=.map (some bm)/\aa bm=b+5/\fw w bm R.yes:=by
  rcases h.y with⟨_,hn⟩|⟨bm,es,clock,h1,h2,h3,h4,h5,h6⟩
  ·exact absurd hn gB
  ·exact⟨bm,h1,h2,es,clock,h3,h4,h5,h6⟩
 obtain⟨c3,c5,-⟩:=h.s.cs [3,5];simp only[bE,vi,Zx]at c3 c5;rw[hv]at c3;have KR:g≠bm:=fun e=>by
  have:=h.sl;rw[e,fG]at this;omega
 obtain⟨w1,QH,cl,iQ⟩:=rK hk underlying101 h0 sN (.bool true);have gR:=Fr.map iQ;have AE:ar w1 g 107 (bE R v):=(gR.block g cQ KR).trans h.s;obtain⟨d3,d5,-⟩:=AE.cs [3,5];simp only[bE,vi,Zx]at d3 d5;rw[hv]at d3;have qz:ao aa b w g (R.says s) w1:=by
  obtain⟨es,clock,q1,q2,q3,q4⟩:=cl;refine ao.turn (v':=v) (ak:=aa) [5] h AE (fun j _=>rfl) (by simp) (gR.mono fun j e=>.inr ⟨5,by simp,by rw[e];exact fG⟩)
   tI tI tI (.inl ?_) tI tI tI tI tI tI tI
  rw[hv];exact .inr ⟨bm,es,clock,rfl,fG,q1,q2,q3,q4⟩
 have cy:(R.yes++[s]).length<=100001:=by simp;exact ah
 have nm:(R.says s).won=lz R.n (R.yes++[s]):=rfl;obtain⟨l,hl⟩:=zN (R.yes++[s]);rw[hl]at cl cy nm;obtain⟨w2,nn,lv,Av,hR,o,cw⟩:=xI cl underlying101;have bR:Below w1.heap.size w1 w2:=by rw[cw];exact zb.alloc zl o
 have E5:w1.heap.size≠bm:=by have:=cl.lt;omega
 have tW:g<w1.heap.size:=AE.lt;replace qz:=zH qz;replace nm:=zH nm;clear h hk cl gR hl cw fG gB;obtain⟨r,hr⟩:=zN (w1.heap.size);rw[hr]at hR bR E5 lv;go_enter func98,ntmps98;go_wp2_with fail
 go_loopw [5] (fun v wr=>∃(left:Int->Prop) (q:Nat) (last:Option Int) (K:List Int) (A:Option Addr) (m cc:Nat),v=.slice A m cc/\wr.ownsRow r 3 1 (.slice A m cc) m (K.map vi)/\(∀s,s∈K↔(s∈l/\¬left s))/\lX wr r bm l left q last/\m+q<=l.length/\Below r w1 wr) (fun _ wr=>vv wr r bm)
 case atStart=>exact⟨_,nn,_,[],none,0,0,rfl,b9 _ _,fun s=>⟨fun h=>(by cases h),fun h=>absurd h.1 h.2⟩,hR,by omega,bR⟩
 case round=>
  clear hR bR;obtain⟨left,q,last,K,A,m,cc,rfl,aD,hK,hR,Tz,bs⟩:=hrel;have Ud:K.length=m:=by have:=aD.1;simpa using this
  have EH:g<r:=by omega
  have d5w:=(bs.cell (p:=⟨g,5,none⟩) EH).trans d5;rcases mU hR E5 0 with⟨h0,hl,ci⟩|⟨s',v',w2',o2,q',PZ,YZ,cw,ci,jR⟩
  ·have aF:∀s,s∈K↔s∈l:=fun s=>by
    rw[hK];exact⟨fun h=>h.1,fun h=>⟨h,hl s⟩⟩
   have zd:=bA aD;have aH:=CS R.n A m cc K wr (fB.of_own aD) zd.2 zd.1;rw[mG aF]at aH;have hQ:=zH (show ao aa b w g (R.says s) wr from qz.out.below (by rw[hr];exact bs));clear aF hK hR aD Tz Ud h0 hl;go_wp2_with fail;refine aH.mono ?_;rintro e w9 ⟨rfl,rfl⟩;go_wp2_with fail;go_ret;exact⟨by rw[nm.out];rfl,hQ.out⟩
  ·have Hx:=lV jR;obtain⟨ve,Hx⟩:=Hx;have Na:r<wr.heap.size:=by
    obtain⟨x,y,z,t,h1⟩:=hR.iter;exact aV h1
   have AO:wr.grownBy (setBlock w2' r o2) (some r):=by
    rcases cw with rfl|rfl
    ·exact⟨rfl,rfl,rfl,by simp[setBlock],fun j _ fV=>by simp only[setBlock];rw[Array.getElem?_setIfInBounds_ne (fun e=>fV (by rw[e]))]⟩
    ·exact⟨rfl,rfl,rfl,by show wr.heap.size<=(wr.heap.setIfInBounds r o2).size;simp,fun j _ fV=>by show(wr.heap.setIfInBounds r o2)[j]?=_;rw[Array.getElem?_setIfInBounds_ne (fun e=>fV (by rw[e]))]⟩
   have bF:(setBlock w2' r o2).ownsRow r 3 1 (.slice A m cc) m (K.map vi):=zX aD fun j cs hj=>(AO.block j (aV hj) (fun e=>by
    injection e with e;obtain⟨x,y,z,t,h1⟩:=hR.iter;rw[e,h1]at hj;cases hj)).trans hj
   have bS:=bs.trans (qi AO (by have:=bs.size;omega) (fun x hx=>by cases hx;exact Nat.le_refl _));have rD:vv wr r bm=q:=hR.n_eq;clear AO hR bs cw Na aD;generalize iU:setBlock w2' r o2=w3 at *;clear iU;have cz:Below w3.heap.size w3 (w3.alloc (.cells #[.int .i64 s'] 3)):=zb.alloc zl _;have jX:=fB.one w3 s';have fR:=bf bF cz;have tA:lX (w3.alloc (.cells #[.int .i64 s'] 3)) r bm l (fun t=>left t/\t≠s') q' (some s'):=jR.keep (cz.block r (by
    obtain⟨x,y,z,t,h1⟩:=jR.iter;exact aV h1)) (cz.block bm jR.m.lt)
   have gV:=ab bS cz (by have:=bS.size;omega);have bl:r<=(w3.alloc (.cells #[.int .i64 s'] 3)).heap.size:=by have:=gV.size;omega
   have fi:m+1<=1000000000:=by omega
   go_wp2_with (at_builtin;refine bi rfl (.tmp 23) (.tmp 25) rfl r rfl fR rfl jX fi bl ?_;intro A5 c5 w5 dm jp cD);have oZ:lX w5 r bm l (fun t=>left t/\t≠s') q' (some s'):=by
    refine tA.keep ?_ ?_
    ·obtain⟨x,y,z,t,h1⟩:=tA.iter;rw[h1];exact oS fR jp h1 (fun cs e=>by cases e)
    ·obtain⟨es,clock,h1,_⟩:=tA.m;rw[h1];exact oS fR jp h1 (fun cs e=>by cases e)
   have Gy:=oZ.n_eq;have dL:s'∈l:=by
    obtain⟨es,clock,h1,h2,h3,h4⟩:=jR.m;obtain⟨es',clock',since,c0,seen,k1,k2,k3,k4,k5,k6,k7,k8,k9,k10⟩:=jR.it;obtain⟨e,seen0,q1,q2,_⟩:=k10 s' rfl;rw[h1]at k2;cases k2;exact(h4 s').2 ⟨e,q1,q2⟩
   refine⟨⟨_,q',_,K++[s'],A5,m+1,c5,rfl,dm,fun t=>?_,oZ,by omega,gV.trans cD⟩,by rw[Gy,rD];exact PZ⟩;rw[List.mem_append,List.mem_singleton,hK];constructor
   ·rintro(h|rfl)
    ·exact⟨h.1,fun h2=>h.2 h2.1⟩
    ·exact⟨dL,fun h2=>h2.2 rfl⟩
   ·rintro⟨h1,h2⟩;by_cases e:t=s'
    ·exact .inr e
    ·exact .inl ⟨h1,fun h3=>h2 ⟨h3,e⟩⟩
end
end
section
open Go.MapKept
theorem ln{w:World}{ops:Array Oper}{rest:List Oper}{o:Oper}{a:Act}{Q:Exit->Act->World->Prop}(kt:o.guard=none)(s x:Operand)
  (ho:o.op=.call {callee:=.builtin .append,args:=#[s,x],argTypes:=#[24,24]})
  (base:Nat) {v:Value} {n:Nat} {l:List UInt8} (hs:a.eval s=v) (aD:w.ownsRow base 5 1 v n (l.map vb))
  {A:Option Addr} {m c:Nat} {r:List UInt8} (hx:a.eval x=.slice A m c) (hr:Rd w A m r) (hb:n+m<=1000000000) (bl:base<=w.heap.size)
  (h:∀A' c' w',w'.ownsRow base 5 1 (.slice A' (n+m) c') (n+m) ((l++r).map vb)->w.grownBy w' v.ownBlock->Below base w w'->wpList prog ops Q rest (a.put o.dst (.slice A' (n+m) c')) w'):wpList prog ops Q (o::rest) a w:=by
 obtain⟨i0,iy,jK,iL,gL⟩:=info_parts mz;refine bb w kt s x 24 ho base 5 i0 _ 1 1 underlying24 iy jK iL gL rfl (by omega) v n _ hs aD A m c _ hx hr (fun u hu=>Gx u hu) (by unfold maxLen;omega) (by omega) bl ?_;intro A' c' w' h1 h2 _;exact h A' c' w' (by rw[List.map_append];exact h1) h2 (eY aD h2 bl)
theorem D7(w:World):(w.alloc (.cells #[] 5)).ownsRow w.heap.size 5 1 (.slice (some ⟨w.heap.size,0,none⟩) 0 0) 0 (([]:List UInt8).map vb):=qZ 5 [] 0 rfl zz
theorem pt(A:Option Addr)(n c:Nat)(l:List UInt8)(w:World)(hl:Rd w A n l)(hn:n<=1000000000) :
  Calls prog 87 #[.slice A n c] w fun e w'=>∃A' c',e=.returned (.slice A' n c')/\w'.ownsRow w.heap.size 5 1 (.slice A' n c') n (l.map vb)/\Below w.heap.size w w':=by
 have ah:=hl.len;cases A with
 | none=>
  obtain rfl:n=0:=by
   rcases Nat.eq_zero_or_pos n with h|h
   ·exact h
   ·obtain⟨ad,h,_⟩:=hl.2 h;cases h
  obtain rfl:l=[]:=List.eq_nil_of_length_eq_zero ah;go_enter func87,ntmps87;go_wp2_with fail;rw[run_eql_slice_nil _ 24 5 none 0 c underlying24];go_wp2_with fail;go_ret;exact⟨none,0,rfl,b9 _ _,Below.refl _ _⟩
 | some ad=>
  have hb:=(Below.refl w.heap.size w).alloc zl (.cells #[] 5);have cy:=hl.below hb;have ho:=D7 w;go_enter func87,ntmps87;go_wp2_with fail;rw[run_eql_slice_nil _ 24 5 (some ad) n c underlying24];go_wp2_with (at_builtin;refine ln rfl (.tmp 5) (.tmp 6) rfl w.heap.size rfl ho rfl cy (by omega) hb.size ?_;intro A3 c3 w3 bF gK bS);go_ret;rw[Nat.zero_add,List.nil_append]at bF;refine⟨A3,c3,?_,bF,hb.trans bS⟩;rfl
section
variable {aa:Nat->Nat}{b g:Nat}{w w1 w2:World}{R R1:Rf}{v:Rw}
theorem ao.fresh'{i:Nat}(h:ao (ai aa w.heap.size i) b w1 g R1 w2)(hb:Below w.heap.size w w1):ao aa b w g R1 w2:=by
 obtain⟨ak,v',h1,h2,h3,h4⟩:=h;have hs:=hb.size;have hm:∀j,j<w.heap.size->(aN (ai aa w.heap.size i) b j↔aN aa b j):=fun j hj=>by
  unfold aN;rw[ac hj]
 refine⟨ak,v',h1,fun j hj hn=>?_,fun j hj hn=>h3 j (by omega) ((hm j hj).2 hn),(Fr.of_below (X:=aN aa b) hb).trans h4 fun j hj=>?_⟩
 ·rw[h2 j (by omega) fun h=>hn ((hm j hj).1 h)];exact ac hj
 ·rcases Nat.lt_or_ge j w.heap.size with hl|hl
  ·exact .inl ((hm j hl).1 hj)
  ·exact .inr hl
theorem ax.fresh'(i:Nat)(h:ax aa b w g R v)(hb:Below w.heap.size w w1):ax (ai aa w.heap.size i) b w1 g R v:=
 (h.relabel (ak:=ai aa w.heap.size i) fun _ hj _=>ac hj).below hb
theorem bQ.at_{i n size:Nat}{T:TypeId}{x:Value}{xs:List Value}(h:bQ aa i w T size x n xs)(hn:0<n):∃q c,x=.slice (some ⟨q,0,none⟩) n c/\n<=c/\aa q=i/\q<w.heap.size/\(∀j u,xs[j]?=some u->w.cell? ⟨q,j,none⟩=some u)/\∀j,w.frozen? ⟨q,j,none⟩=false:=by
 obtain⟨A,c,rfl,h1,h2⟩:=h;obtain⟨q,cap,hv,hb,_⟩:=h1.form hn;injection hv with hA _ hc;subst hA;subst hc;have aU:=(aB h1 _ c rfl q ⟨_,rfl,rfl⟩).1;refine⟨q,c,rfl,(bA h1).1,h2 q ⟨_,rfl,rfl⟩,aU,fun j u hu=>?_,h1.frozenAt⟩;have hl:=(List.getElem?_eq_some_iff.1 hu).1;rw[h1.1]at hl;rw[h1.cellAt j hl];exact hu
theorem jD(p:Pr):(mK p).length=4:=rfl
theorem ax.peer_at(h:ax aa b w g R v){s:Nat}(hs:s<R.peers.length):∃q c,v.peers=.slice (some ⟨q,0,none⟩) R.peers.length c/\aa q=b+3/\q<w.heap.size/\
  w.cell? ⟨q,s*4,none⟩=some (.int .i64 (R.peer s).next)/\w.cell? ⟨q,s*4+1,none⟩=some (.int .i64 (R.peer s).mat)/\w.cell? ⟨q,s*4+2,none⟩=some (.int .i64 (R.peer s).offset)/\w.cell? ⟨q,s*4+3,none⟩=some (.int .i64 (R.peer s).round)/\
  ∀j,w.frozen? ⟨q,j,none⟩=false:=by
 obtain⟨q,c,h1,h2,h3,h4,h5,h6⟩:=h.p.at_ (by omega);have hp:R.peers[s]?=some (R.peer s):=by unfold Rf.peer;rw[List.getElem?_eq_getElem hs];rfl
 have key:∀j u,j<4->(mK (R.peer s))[j]?=some u->w.cell? ⟨q,s*4+j,none⟩=some u:=fun j u hj hu=>h5 _ _ ((eo jD hj hp).trans hu)
 exact⟨q,c,h1,h3,h4,key 0 _ (by omega) rfl,key 1 _ (by omega) rfl,key 2 _ (by omega) rfl,key 3 _ (by omega) rfl,h6⟩
theorem uJ(s:Nat)(h:ax aa b w g R v)(hs:s<R.peers.length)(hn:R.out.msgs.length<=100000)(hN:R.track.L.length<=1000000)
  (Kx:1<=(R.peer s).next) (om:(R.peer s).next<=4000000000000) (Mi:0<=(R.peer s).offset) (nS:(R.peer s).offset<=R.snap.data.length) (hd:R.snap.data.length<=65536) (IM:0<R.track.index->0<R.snap.data.length) :
  Calls prog 95 #[.pointer (some ⟨g,0,none⟩),.int .i64 s] w fun e w'=>e=.returned (.tuple #[])/\ao aa b w g (R.lacks s) w':=by
 have cQ:=h.s.lt;obtain⟨q,c,hv,pl,AP,p0,p1,p2,p3,_⟩:=h.peer_at hs;obtain⟨d0,d8,-⟩:=h.s.cs [0,8];simp only[bE,vi,Zx]at d0 d8;rw[hv]at d0;have bl:=oy h.t;obtain⟨p,hp⟩:=zN (R.peer s);rw[hp]at p0 p1 p2 p3 Kx om Mi nS;go_enter func95,ntmps95;go_wp2_with fail;refine bl.mono ?_;rintro e w1 ⟨rfl,bs⟩;have h1:=h.below bs;have p0':=(bs.cell AP).trans p0;have p2':=(bs.cell AP).trans p2;have d1':=h1.s.cell 1;have d8':=h1.s.cell 8;have d9':=h1.s.cell 9;have d10':=h1.s.cell 10;have d11':=h1.s.cell 11;have d12':=h1.s.cell 12;simp only[bE,vi,Zx]at d1' d8' d9' d10' d11' d12';have cT:∀x∈[g,q],x<w1.heap.size:=by simp;exact⟨by have:=bs.size;omega,by have:=bs.size;omega⟩
 obtain⟨kp0,kp2,kd1,kd8,kd9,kdA,kdB⟩:=KW [g,q] p0' p2' d1' d8' d9' d10' d11';have H:=zH h;have H1:=zH h1;by_cases aU:p.next-1<R.track.index
 ·have Pu:=h1.d;clear h h1 bl;obtain⟨Ad,cd,rv,dx,Dl,TQ,KH⟩:∃A c,v.dat=.slice A R.snap.data.length c/\Rd w1 A R.snap.data.length R.snap.data/\R.snap.data.length<=c/\c<=maxLen/\(0<R.snap.data.length->∀ad,A=some ad->aa ad.block=b+6):=by
   obtain⟨A,c,h1,h2,h3,h4,h5⟩:=Pu;exact⟨A,c,h1,h2,h3,h4,fun h0 ad e=>h5 h0 ad e⟩
  have XV:=IM (by omega);obtain⟨ad,rfl,mj⟩:=dx.2 XV;obtain⟨o,ho⟩:∃o:Nat,p.offset=o:=⟨p.offset.toNat,by omega⟩;rw[ho]at Mi nS p2' kp2;have Y7:o<=R.snap.data.length:=by omega
  obtain⟨N,HK⟩:=zN ((min (R.snap.data.length:Int) ((o:Int)+160)).toNat-o);obtain⟨l,hl⟩:=zN ((R.snap.data.drop o).take 160);have Kn:l.length=N:=by rw[<-hl,List.length_take,List.length_drop];omega
  have gZ:Rd w1 (some (ad.add o)) N l:=by
   refine⟨by rw[List.length_map,Kn,Nat.mul_one],fun _=>⟨_,rfl,fun j u hu=>?_⟩⟩;rw[Addr.add_add];refine mj (o+j) u ?_;rw[<-hl,List.map_take,List.map_drop,List.getElem?_take]at hu;split at hu
   ·rw[List.getElem?_drop]at hu;exact hu
   ·cases hu
  have hL:=zH (show R.lacks s=R.send {cZ with kind:=7,tgt:=(s:Int),idx:=R.snap.idx,logTerm:=R.snap.term,offset:=(o:Int),total:=R.snap.data.length,data:=l,round:=R.round} by unfold Rf.lacks;rw[hp,if_pos aU,ho,<-hl];rfl);obtain⟨va,V4,V3⟩:∃va:Option Addr,(if cd=o then some ad else some (ad.add o))=va/\Rd w1 va N l:=by
   by_cases WC:cd=o
   ·rw[if_pos WC];refine⟨_,rfl,?_⟩;have Tl:N=0:=by omega
    rw[Tl]at Kn ⊢;rw[List.eq_nil_of_length_eq_zero Kn];exact⟨rfl,fun h=>absurd h (by omega)⟩
   ·rw[if_neg WC];exact⟨_,rfl,gZ⟩
  replace hl:=zH hl;rw[rv]at kdB;go_wp2_with fail;refine dV [g,q] w1 [([0,1,2,3,4,5,6,7,8,9,10,11,12,13,14,15,16,17,18,19],20)] [21,22] ?_;refine av fun K1 ct=>?_
  simp only[af,Zx];repeat go_big_quiet_step(fail)
  apply wpQuiet_nil;go_wp2_with fail;refine⟨aR,ct _ _ ?_⟩;refine aj ?_;simp only[af,Zx];repeat go_big_quiet_step(fail)
  apply wpQuiet_nil;try rw[V4]
  have tJ:Below w1.heap.size w1 w1.drew.drew:=aA zb 2;have F8:=pt va N (cd-o) l w1.drew.drew (cn.below V3 tJ) (by omega);have kp2:=ae (w:=w1.drew) (gs:=[g,q]) p2' (by simp);have kd1:=ae (w:=w1.drew) (gs:=[g,q]) d1' (by simp);have kd9:=ae (w:=w1.drew) (gs:=[g,q]) d9' (by simp);have kdA:=ae (w:=w1.drew) (gs:=[g,q]) d10' (by simp);rw[rv]at d11';have kdB:=ae (w:=w1.drew) (gs:=[g,q]) d11' (by simp);clear V4 rv HK V3 gZ Pu;go_wp2_with fail;refine bT (C:=dP [g,q] w1.drew) [([0,1,2,3,4,5,6,7,8,9,10,11,12,13,14,15,16,17,18,19,20,21,22,24,25,26,27,28],23)] ([29],30) (by kernel_rfl) (by kernel_rfl) (fun _ _ _ _ e h=>⟨e.symm.trans h.1,h.2⟩) aR ?_;refine ap fun K2 ge=>?_
  simp only[af,Zx];repeat go_big_quiet_step(fail)
  apply wpQuiet_nil;go_wp2_with fail;refine F8.mono ?_;rintro e w3 ⟨A3,c3,rfl,bF,bS⟩;go_wp2_with fail;have gr:Below w1.heap.size w1 w3:=tJ.trans bS;have eE:=ab bs gr zl;refine⟨aq (w:=w1.drew) cT ((aA zb 1).trans bS),ge _ _ ?_⟩;refine aC ?_;simp only[af,Zx];repeat go_big_quiet_step(fail)
  apply wpQuiet_nil;have hm:kJ (ai aa w.heap.size (b+13)) (b+13) w3 ((.slice none 0 0,.slice A3 N c3),{cZ with kind:=7,tgt:=(s:Int),idx:=R.snap.idx,logTerm:=R.snap.term,offset:=(o:Int),total:=R.snap.data.length,data:=l,round:=R.round}):=by
   refine⟨cN.nil _ _ _,?_⟩;have zd:=bA bF;refine⟨A3,c3,by show Value.slice A3 N c3=Value.slice A3 l.length c3;rw[Kn],by show cn w3 1 A3 l.length _;rw[Kn];exact cn.of_own bF,by show l.length<=c3;rw[Kn];exact zd.1,zd.2,fun _ ad e=>?_⟩;have:=aB bF A3 c3 rfl ad.block ⟨ad,e,rfl⟩;exact ay (by have:=bs.size;have:w1.drew.drew.heap.size=w1.heap.size:=rfl;omega)
  have dW:=sO _ _ _ (H.out.fresh' (b+13) eE) hm ⟨rfl,rfl⟩ hn;unfold eH at dW;simp only[vi]at dW;clear F8 hm bF;go_wp2_with fail;refine dW.mono ?_;rintro e w4 ⟨rfl,hP⟩;have hQ:=zH (show ao aa b w g (R.lacks s) w4 by rw[hL.out];exact hP.fresh' eE);go_wp2_with fail;exact aO rfl rfl ⟨rfl,hQ.out⟩
 ·have bh:=lT (p.next-1) (h1.below (w':=w1.drew) (zb.drew)).t hN;obtain⟨tt,i7⟩:∃x,R.track.termF (p.next-1)=x:=⟨_,rfl⟩;rw[i7]at bh;have fo:=Int.not_lt.1 aU;have hL:=zH (show R.lacks s=R.send {cZ with kind:=5,tgt:=(s:Int),idx:=p.next-1,logTerm:=tt.1,entries:=R.track.sliceF p.next 6,commit:=R.commit,round:=R.round} by unfold Rf.lacks;rw[hp,if_neg aU,i7]);replace i7:=zH i7;clear h h1 bl;go_wp2_with fail;refine dV [g,q] w1 [([0,1,2,3,4,5,6,7,8],9)] [10,11,12,13,14] ?_;refine av fun K1 ct=>?_
  simp only[af,Zx];repeat go_big_quiet_step(fail)
  apply wpQuiet_nil;go_wp2_with fail;refine bh.mono ?_;rintro e w2 ⟨rfl,bJ⟩;go_wp2_with fail;have bR:Below w1.heap.size w1 w2:=(zb.drew).trans bJ;have du:=ab bs bR zl;refine⟨aq cT bR,ct _ _ ?_⟩;refine aj ?_;simp only[af,Zx];repeat go_big_quiet_step(fail)
  apply wpQuiet_nil;have h2:=H1.out.below bR;have p0w:=(bR.cell (aw p0')).trans p0';obtain⟨d1w,d8w,d12w,-⟩:=h2.s.cs [1,8,12];simp only[bE,vi,Zx]at d1w d8w d12w;obtain⟨qp0,qd1,qd8,qd12⟩:=GD [g,q] p0w d1w d8w d12w;have Vg:∀x∈[g,q],x<w2.heap.size:=fun x hx=>Nat.lt_of_lt_of_le (cT x hx) bR.size
  have lJ:=pL p.next 6 (h2.below (w':=w2.drew) (zb.drew)).t hN;clear h2 bh kp0 kp2 kd1 kd8 kd9 kdA kdB;go_wp2_with fail;refine mI [g,q] w2 [([0,1,2,3,4,5,6,7,8,9,10,11,12,13,14,15,17,18,19,20,21,22,23,24,25],16)] ([26],27) ?_;refine ap fun K2 ge=>?_
  simp only[af,Zx];repeat go_big_quiet_step(fail)
  apply wpQuiet_nil;go_wp2_with fail;refine lJ.mono ?_;rintro e w3 ⟨A3,n3,c3,zs3,rfl,Pd,bS⟩;go_wp2_with fail;have OK:Below w2.heap.size w2 w3:=(zb.drew).trans bS;have eE:=ab du OK zl;refine⟨aq Vg OK,ge _ _ ?_⟩;refine aC ?_;simp only[af,Zx];repeat go_big_quiet_step(fail)
  apply wpQuiet_nil;have hm:kJ (ai aa w.heap.size (b+13)) (b+13) w3 ((.slice A3 n3 c3,.slice none 0 0),{cZ with kind:=5,tgt:=(s:Int),idx:=p.next-1,logTerm:=tt.1,entries:=R.track.sliceF p.next 6,commit:=R.commit,round:=R.round}):=
   ⟨cN.of_new Pd fun j hj _=>ay (by have:=du.size;have:w2.drew.heap.size=w2.heap.size:=rfl;omega),bM.nil _ _ _⟩
  have dW:=sO _ _ _ (H.out.fresh' (b+13) eE) hm ⟨rfl,rfl⟩ hn;unfold eH at dW;simp only[vi]at dW;clear lJ hm Pd;go_wp2_with fail;refine dW.mono ?_;rintro e w4 ⟨rfl,hP⟩;have hQ:=zH (show ao aa b w g (R.lacks s) w4 by rw[hL.out];exact hP.fresh' eE);go_wp2_with fail;exact al rfl rfl ⟨rfl,hQ.out⟩
end
end
section
open Go.MapKept
structure gI(R:Rf):Prop where
 len:R.peers.length=R.n+1
 n7:R.n<=7
 nx:∀s,s<=R.n->1<=(R.peer s).next/\(R.peer s).next<=4000000000000
 off:∀s,s<=R.n->0<=(R.peer s).offset/\(R.peer s).offset<=R.snap.data.length
 dat:R.snap.data.length<=65536
 dat0:0<R.track.index->0<R.snap.data.length
 trk:R.track.L.length<=1000000
theorem gI.out{R:Rf}(h:gI R)(o:Ot):gI {R with out:=o}:=⟨h.len,h.n7,h.nx,h.off,h.dat,h.dat0,h.trk⟩
theorem EN(R:Rf)(s:Nat):∃m,R.lacks s={R with out:={R.out with msgs:=R.out.msgs++[m]}}:=by
 unfold Rf.lacks;split
 ·exact⟨_,rfl⟩
 ·exact⟨_,rfl⟩
theorem ev(l:List Nat):∀R:Rf,∃ms,l.foldl Rf.lacks R={R with out:={R.out with msgs:=R.out.msgs++ms}}/\ms.length=l.length:=by
 induction l with
 | nil=>intro R;exact⟨[],by rw[List.append_nil];rfl,rfl⟩
 | cons s l ih=>
  intro R;obtain⟨m,hm⟩:=EN R s;obtain⟨ms,h1,h2⟩:=ih (R.lacks s);refine⟨m::ms,?_,by simp[h2]⟩;show l.foldl Rf.lacks (R.lacks s)=_;rw[h1,hm];simp
theorem Bs{R:Rf}{s:Nat}(h:s∈R.others):1<=s/\s<=R.n/\s≠R.id:=by
 unfold Rf.others at h;rw[List.mem_filter,List.mem_range'_1]at h;have:=of_decide_eq_true h.2;omega
theorem im(R:Rf):R.others.length<=R.n:=by
 unfold Rf.others;refine Nat.le_trans (List.length_filter_le _ _) ?_;rw[List.length_range'];exact Nat.le_refl _
theorem wi{w:World}{base n c:Nat}{A:Option Addr}{l:List Int}(h:w.ownsRow base 3 1 (.slice A n c) n (l.map vi)){k:Nat}(hk:k<n) :
  ∃q x,A=some ⟨q,0,none⟩/\base<=q/\q<w.heap.size/\l[k]?=some x/\w.cell? ⟨q,k,none⟩=some (.int .i64 x):=by
 obtain⟨q,cap,hv,hb,_⟩:=h.form (by omega);injection hv with hA _ hc;subst hA;subst hc;have hl:l.length=n:=by have:=h.1;simpa using this
 refine⟨q,l[k]'(by omega),rfl,hb,(aB h _ c rfl q ⟨_,rfl,rfl⟩).1,List.getElem?_eq_getElem (by omega),?_⟩;rw[h.cellAt k (by omega),List.getElem?_map,List.getElem?_eq_getElem (by omega)];rfl
section
variable {aa:Nat->Nat}{b g:Nat}{w:World}{R:Rf}{v:Rw}
theorem kI(h:ax aa b w g R v)(hP:gI R)(hn:R.out.msgs.length<=90000) :
  Calls prog 48 #[.pointer (some ⟨g,0,none⟩)] w fun e w'=>e=.returned (.tuple #[])/\ao aa b w g R.all w':=by
 have P9:=nk h hP.n7;have eq:R.all=R.others.foldl Rf.lacks R:=rfl;have wG:=fun s (hs:s∈R.others)=>Bs hs
 have vF:=im R;have qk:=hP.n7;obtain⟨l,hl⟩:=zN (R.others);rw[hl]at P9 eq wG vF;replace eq:=zH eq;go_enter func48,ntmps48;go_wp2_with fail;refine P9.mono ?_;rintro e w1 ⟨A,c,rfl,aD,bs⟩;have h1:=h.fresh bs;have YK:=bs.size;obtain⟨n,rp⟩:=zN (l.length);rw[rp]at aD vF;go_wp2_with fail;try rw[rp]
 replace rp:=zH rp
 go_loopw [7] (fun i wr=>∃k:Nat,k<=n/\i=.int .i64 k/\ao (ai aa w.heap.size b) b w1 g ((l.take k).foldl Rf.lacks R) wr) (fun i _=>n-(intOf i).toNat)
 case atStart=>exact⟨0,Nat.zero_le _,rfl,⟨_,_,h1,fun _ _ _=>rfl,fun _ _ h=>h,Fr.refl _ _⟩⟩
 case round=>
  obtain⟨k,hk,rfl,hQ⟩:=hrel;by_cases aU:k<n
  ·obtain⟨q,x,rfl,nK,kE,hx,c0⟩:=wi aD aU;obtain⟨s,hs,rfl⟩:∃s:Nat,l[k]?=some s/\(s:Int)=x:=by
    unfold yQ at hx;rw[List.getElem?_map]at hx;cases ik:l[k]? with
    | none=>rw[ik]at hx;cases hx
    | some s=>rw[ik]at hx;exact⟨s,rfl,Option.some.inj hx⟩
   have c1:=(World.cell?_of_block (a:=⟨q,k,none⟩) (hQ.new nK kE)).trans c0;have BM:=wG s (List.mem_of_getElem? hs);obtain⟨ms,e1,e2⟩:=ev (l.take k) R;have hmk:ms.length<=k:=by rw[e2,List.length_take];omega
   have dh:(l.take (k+1)).foldl Rf.lacks R=((l.take k).foldl Rf.lacks R).lacks s:=by
    rw[List.take_add_one,hs,List.foldl_append];rfl
   rw[e1]at hQ dh;have AW:=hP.out {R.out with msgs:=R.out.msgs++ms};have aH:=hQ.call (fun bu v2 h2=>uJ s h2 (by rw[AW.len];show s<R.n+1;omega) (by show(R.out.msgs++ms).length<=_;rw[List.length_append];omega) AW.trk (AW.nx s BM.2.1).1 (AW.nx s BM.2.1).2 (AW.off s BM.2.1).1 (AW.off s BM.2.1).2 AW.dat AW.dat0);rw[<-dh]at aH;clear hQ dh e1 AW hx hs aD;go_wp2_with fail;refine aH.mono ?_;rintro e w4 ⟨rfl,hQ⟩;clear aH;go_wp2_with fail;exact⟨⟨k+1,aU,by go_num,hQ⟩,by simp[intOf];omega⟩
  ·obtain rfl:k=n:=by omega
   have hF:=zH (show ao aa b w g R.all wr by
    rw[List.take_of_length_le (by rw[rp.out];exact Nat.le_refl _),<-eq.out]at hQ;exact hQ.fresh bs)
   clear hQ;go_wp2_with fail;exact al rfl rfl ⟨rfl,hF.out⟩
end
end
section
open Go.MapKept
def NZ(p:Pr):Value:=.agg #[.int .i64 p.next,.int .i64 p.mat,.int .i64 p.offset,.int .i64 p.round]
theorem zT(p:Pr)(w:World):Calls prog 122 #[NZ p] w fun e w'=>e=.returned (.int .i64 p.mat)/\Below w.heap.size w w':=by
 have hb:=(Below.refl w.heap.size w).alloc zl (.cells #[.int .i64 p.next,.int .i64 p.mat,.int .i64 p.offset,.int .i64 p.round] 163);unfold NZ;go_enter func122,ntmps122;go_wp2_with fail;go_ret;exact⟨rfl,hb⟩
theorem ub(p:Pr)(w:World):Calls prog 112 #[NZ p] w fun e w'=>e=.returned (.int .i64 p.round)/\Below w.heap.size w w':=by
 have hb:=(Below.refl w.heap.size w).alloc zl (.cells #[.int .i64 p.next,.int .i64 p.mat,.int .i64 p.offset,.int .i64 p.round] 163);unfold NZ;go_enter func112,ntmps112;go_wp2_with fail;go_ret;exact⟨rfl,hb⟩
def fE(R:Rf)(own:Int)(f:Pr->Int)(k:Nat):List Int:=(List.range' 1 k).map fun s=>if s=R.id then own else f (R.peer s)
theorem iZ(R:Rf)(own:Int)(f:Pr->Int)(k:Nat):fE R own f (k+1)=fE R own f k++[if k+1=R.id then own else f (R.peer (k+1))]:=by
 unfold fE;rw[List.range'_concat,List.map_append];simp only[Nat.one_mul,Nat.add_comm 1 k];rfl
section
variable {aa:Nat->Nat}{b g:Nat}{w:World}{R:Rf}{v:Rw}
theorem wH(own:Int)(h:ax aa b w g R v)(hp:R.peers.length=R.n+1)(qk:R.n<=7) :
  Calls prog 111 #[.pointer (some ⟨g,0,none⟩),.int .i64 own,.func (.func 122) #[] #[]] w fun e w'=>∃A c,e=.returned (.slice A R.n c)/\w'.ownsRow w.heap.size 3 1 (.slice A R.n c) R.n ((R.matchL own Pr.mat).map vi)/\Below w.heap.size w w':=by
 have cQ:=h.s.lt;have hM:R.matchL own Pr.mat=fE R own Pr.mat R.n:=rfl;replace hM:=zH hM;go_enter func111,ntmps111;go_wp2_with fail
 go_loopw [7,8] (fun o s' wr=>∃(k:Nat) (A:Option Addr) (c:Nat),k<=R.n/\s'=.int .i64 ((k:Int)+1)/\o=.slice A k c/\wr.ownsRow w.heap.size 3 1 (.slice A k c) k ((fE R own Pr.mat k).map vi)/\Below w.heap.size w wr) (fun _ s' _=>R.n+1-(intOf s').toNat)
 case atStart=>exact⟨0,none,0,Nat.zero_le _,rfl,rfl,(b9 _ _:w.ownsRow w.heap.size 3 1 (.slice none 0 0) 0 []),Below.refl _ _⟩
 case round=>
  obtain⟨k,A,c,hk,rfl,rfl,aD,hb⟩:=hrel;have h':=h.below hb;obtain⟨c4,c5,-⟩:=h'.s.cs [4,5];simp only[bE,vi,Zx]at c4 c5;by_cases aU:k<R.n
  ·have aP:=zH (show R.n+1-(k+1+1)<R.n+1-(k+1) by omega);have fo:(k:Int)+1<=R.n:=by omega
   have ci:=iZ R own Pr.mat k;have fi:k+1<=1000000000:=by omega
   by_cases jg:k+1=R.id
   ·rw[if_pos jg]at ci;have jm:(R.id:Int)=(k:Int)+1:=by omega
    rw[jm]at c4;have jX:=fB.one wr own;have aI:Below wr.heap.size wr (wr.alloc (.cells #[.int .i64 own] 3)):=zb.alloc zl _;have cv:=bf aD aI;have bJ:=ab hb aI zl;replace ci:=zH ci;clear jm jg h' aD;go_wp2_with (at_builtin;refine bi rfl (.tmp 23) (.tmp 25) rfl w.heap.size rfl cv rfl jX fi bJ.size ?_;intro A3 c3 w3 bF gK bS);exact⟨⟨k+1,A3,c3,aU,by go_num,rfl,by rw[ci.out];exact bF,bJ.trans bS⟩,by simp[intOf];have:=aP.out;omega⟩
   ·rw[if_neg jg]at ci;have i1:(((k:Int)+1)==(R.id:Int))=false:=beq_eq_false_iff_ne.2 (by omega);obtain⟨q,cq,hv,pl,AP,p0,p1,p2,p3,_⟩:=h'.peer_at (s:=k+1) (by rw[hp];omega);have c0:=h'.s.cell 0;simp only[bE,List.getElem?_toArray,List.getElem?_cons_zero]at c0;rw[hv]at c0;have mx:k+1<R.peers.length:=by omega
    have aH:=zT (R.peer (k+1)) wr;obtain⟨p,xA⟩:=zN (R.peer (k+1));rw[xA]at p0 p1 p2 p3 aH ci;replace ci:=zH ci;unfold NZ at aH;have cv:=fun w2 (bJ:Below wr.heap.size wr w2)=>bf aD bJ
    replace cv:=zH cv;clear xA jg h' hv aD;go_wp2_with fail;refine aH.mono ?_;rintro e w2 ⟨rfl,bJ⟩;have jX:=fB.one w2 p.mat;have aI:Below w2.heap.size w2 (w2.alloc (.cells #[.int .i64 p.mat] 3)):=zb.alloc zl _;have cz:=ab bJ aI zl;have fR:=cv.out _ cz;have cD:=ab hb cz zl;clear aH;go_wp2_with (at_builtin;refine bi rfl (.tmp 27) (.tmp 38) rfl w.heap.size rfl fR rfl jX fi cD.size ?_;intro A3 c3 w3 bF gK bS);exact⟨⟨k+1,A3,c3,aU,by go_num,rfl,by rw[ci.out];exact bF,cD.trans bS⟩,by simp[intOf];have:=aP.out;omega⟩
  ·obtain rfl:k=R.n:=by omega
   go_wp2_with fail;go_ret;exact⟨A,c,rfl,by rw[hM.out];exact aD,hb⟩
theorem rA(own:Int)(h:ax aa b w g R v)(hp:R.peers.length=R.n+1)(qk:R.n<=7) :
  Calls prog 111 #[.pointer (some ⟨g,0,none⟩),.int .i64 own,.func (.func 112) #[] #[]] w fun e w'=>∃A c,e=.returned (.slice A R.n c)/\w'.ownsRow w.heap.size 3 1 (.slice A R.n c) R.n ((R.matchL own Pr.round).map vi)/\Below w.heap.size w w':=by
 have cQ:=h.s.lt;have hM:R.matchL own Pr.round=fE R own Pr.round R.n:=rfl;replace hM:=zH hM;go_enter func111,ntmps111;go_wp2_with fail
 go_loopw [7,8] (fun o s' wr=>∃(k:Nat) (A:Option Addr) (c:Nat),k<=R.n/\s'=.int .i64 ((k:Int)+1)/\o=.slice A k c/\wr.ownsRow w.heap.size 3 1 (.slice A k c) k ((fE R own Pr.round k).map vi)/\Below w.heap.size w wr) (fun _ s' _=>R.n+1-(intOf s').toNat)
 case atStart=>exact⟨0,none,0,Nat.zero_le _,rfl,rfl,(b9 _ _:w.ownsRow w.heap.size 3 1 (.slice none 0 0) 0 []),Below.refl _ _⟩
 case round=>
  obtain⟨k,A,c,hk,rfl,rfl,aD,hb⟩:=hrel;have h':=h.below hb;obtain⟨c4,c5,-⟩:=h'.s.cs [4,5];simp only[bE,vi,Zx]at c4 c5;by_cases aU:k<R.n
  ·have aP:=zH (show R.n+1-(k+1+1)<R.n+1-(k+1) by omega);have fo:(k:Int)+1<=R.n:=by omega
   have ci:=iZ R own Pr.round k;have fi:k+1<=1000000000:=by omega
   by_cases jg:k+1=R.id
   ·rw[if_pos jg]at ci;have jm:(R.id:Int)=(k:Int)+1:=by omega
    rw[jm]at c4;have jX:=fB.one wr own;have aI:Below wr.heap.size wr (wr.alloc (.cells #[.int .i64 own] 3)):=zb.alloc zl _;have cv:=bf aD aI;have bJ:=ab hb aI zl;replace ci:=zH ci;clear jm jg h' aD;go_wp2_with (at_builtin;refine bi rfl (.tmp 23) (.tmp 25) rfl w.heap.size rfl cv rfl jX fi bJ.size ?_;intro A3 c3 w3 bF gK bS);exact⟨⟨k+1,A3,c3,aU,by go_num,rfl,by rw[ci.out];exact bF,bJ.trans bS⟩,by simp[intOf];have:=aP.out;omega⟩
   ·rw[if_neg jg]at ci;have i1:(((k:Int)+1)==(R.id:Int))=false:=beq_eq_false_iff_ne.2 (by omega);obtain⟨q,cq,hv,pl,AP,p0,p1,p2,p3,_⟩:=h'.peer_at (s:=k+1) (by rw[hp];omega);have c0:=h'.s.cell 0;simp only[bE,List.getElem?_toArray,List.getElem?_cons_zero]at c0;rw[hv]at c0;have mx:k+1<R.peers.length:=by omega
    have aH:=ub (R.peer (k+1)) wr;obtain⟨p,xA⟩:=zN (R.peer (k+1));rw[xA]at p0 p1 p2 p3 aH ci;replace ci:=zH ci;unfold NZ at aH;have cv:=fun w2 (bJ:Below wr.heap.size wr w2)=>bf aD bJ
    replace cv:=zH cv;clear xA jg h' hv aD;go_wp2_with fail;refine aH.mono ?_;rintro e w2 ⟨rfl,bJ⟩;have jX:=fB.one w2 p.round;have aI:Below w2.heap.size w2 (w2.alloc (.cells #[.int .i64 p.round] 3)):=zb.alloc zl _;have cz:=ab bJ aI zl;have fR:=cv.out _ cz;have cD:=ab hb cz zl;clear aH;go_wp2_with (at_builtin;refine bi rfl (.tmp 27) (.tmp 38) rfl w.heap.size rfl fR rfl jX fi cD.size ?_;intro A3 c3 w3 bF gK bS);exact⟨⟨k+1,A3,c3,aU,by go_num,rfl,by rw[ci.out];exact bF,cD.trans bS⟩,by simp[intOf];have:=aP.out;omega⟩
  ·obtain rfl:k=R.n:=by omega
   go_wp2_with fail;go_ret;exact⟨A,c,rfl,by rw[hM.out];exact aD,hb⟩
end
end
section
open Go.MapKept
section
variable {aa:Nat->Nat}{b g:Nat}{w:World}{R:Rf}{v:Rw}
theorem lM(k:Int)(h:ax aa b w g R v)(TK:-4000000000000<=k)(cl:k<=4000000000000)(fX:0<=R.commit)(gC:R.commit<=4000000000000)(hN:R.track.L.length<=1000000)(hn:R.out.commits.length<=1000000) :
  Calls prog 123 #[.pointer (some ⟨g,0,none⟩),.int .i64 k] w fun e w'=>e=.returned (.tuple #[])/\ao aa b w g (R.commits k) w'/\Fr (fun j=>j=g\/aa j=b+9) w w':=by
 have cQ:=h.s.lt;obtain⟨d8,d12,d27,-⟩:=h.s.cs [8,12,27];simp only[bE,vi,Zx]at d8 d12 d27;by_cases aU:R.commit<k
 ·have hC:=zH (show R.commits k={R with commit:=k,out:={R.out with commits:=R.out.commits++R.track.sliceF (R.commit+1) (k-R.commit)}}from if_pos aU);have lJ:=pL (R.commit+1) (k-R.commit) (h.below (w':=w.drew) (zb.drew)).t hN;obtain⟨zs,⟨Ac,cc,R3,bP,zy⟩,xr,tB⟩:=id h.c;rw[R3]at d27;obtain⟨k8,k12,k27⟩:=sD [g] d8 d12 d27;have cT:∀x∈[g],x<w.heap.size:=by simp;exact cQ
  have hH:=zH h;clear h;go_enter func123,ntmps123;go_wp2_with fail;refine mI [g] w [([0,1,2,3,4,5,6,7,8,9,10,11,12,13,14,15,16,17,18,19,20],21),([],22)] ([23,24,25],26) ?_;refine ap fun K1 ct=>?_
  simp only[af,Zx];repeat go_big_quiet_step(fail)
  apply wpQuiet_nil;go_wp2_with fail;refine lJ.mono ?_;rintro e w2 ⟨A2,n2,c2,ys,rfl,Cb,bJ⟩;go_wp2_with fail;have du:Below w.heap.size w w2:=(zb.drew).trans bJ;refine⟨aq cT du,ct _ _ ?_⟩;refine ap fun K2 ge=>?_
  simp only[af,Zx];apply wpQuiet_nil;have CZ:=bf bP du;have CX:fu w2 A2 n2 ys:=cn.of_own Cb.1;have xf:=CX.len;have gq:=Cb.2.1.one;have TG:n2<=1000000:=by
   have e:=congrArg List.length Cb.2.2;rw[List.length_map]at e;have e2:(R.track.sliceF (R.commit+1) (k-R.commit)).length<=R.track.L.length:=by
    unfold bB.sliceF;split
    ·exact Nat.zero_le _
    ·rw[List.length_take,List.length_drop];omega
   omega
  have fi:R.out.commits.length+n2<=1000000000:=by omega
  have aF:∀(A3:Option Addr) (c3:Nat) (w3:World),w3.ownsRow 0 59 6 (.slice A3 (R.out.commits.length+n2) c3) (R.out.commits.length+n2) ((zs++ys).flatMap bY)->Fr (az Ac) w2 w3->(∀j,az A3 j->az Ac j\/w2.heap.size<=j)->
    w3.heap[g]?=w.heap[g]?/\ar w3 g 107 (bE R v)/\ao aa b w g (R.commits k) ((w3.setCell ⟨g,27,none⟩ (.slice A3 (R.out.commits.length+n2) c3)).setCell ⟨g,12,none⟩ (.int .i64 k))/\Fr (fun j=>j=g\/aa j=b+9) w ((w3.setCell ⟨g,27,none⟩ (.slice A3 (R.out.commits.length+n2) c3)).setCell ⟨g,12,none⟩ (.int .i64 k)):=fun A3 c3 w3 cE dg Kv=>by
   have h:=hH.out;have Wm:¬az Ac g:=fun hh=>by have:=zy g hh;have:=h.sl;omega
   have Re:g<w2.heap.size:=by have:=du.size;omega
   have eg:w3.heap[g]?=w.heap[g]?:=(dg.block g Re Wm).trans (du.block g cQ);have iT:ar w3 g 107 (bE R v):=eg.trans h.s;refine⟨eg,iT,?_⟩;have eQ:Fr (fun j=>j=g) w3 ((w3.setCell ⟨g,27,none⟩ (.slice A3 (R.out.commits.length+n2) c3)).setCell ⟨g,12,none⟩ (.int .i64 k)):=(Fr.set g 27 _).trans (Fr.set g 12 _) fun _ h=>.inl h
   obtain⟨w5,J9⟩:=zN (((w3.setCell ⟨g,27,none⟩ (.slice A3 (R.out.commits.length+n2) c3)).setCell ⟨g,12,none⟩ (.int .i64 k)));have xo:ar w5 g 107 (bE {R with commit:=k,out:={R.out with commits:=R.out.commits++R.track.sliceF (R.commit+1) (k-R.commit)}} {v with com:=.slice A3 (R.out.commits.length+n2) c3}):=by
    rw[<-J9];have s:=(iT.set_ 27 (.slice A3 (R.out.commits.length+n2) c3)).set_ 12 (.int .i64 k);simp only[bE,Zy]at s;exact s
   rw[J9]at eQ ⊢;rw[hC.out];have JA:ai (ai aa w.heap.size (b+13)) w2.heap.size (b+9) g=b+1:=(ac Re).trans ((ac cQ).trans h.sl);have ZT:=du.size;have Yp:=dg.size;have AD:Fr (fun j=>j=g\/aa j=b+9) w w5:=(((Fr.of_below (X:=fun j=>j=g) du).two dg (fun j e=>.inl (.inl e)) fun j e=>.inl (.inr (zy j e))).two eQ (fun j e=>.inl e) fun j e=>.inl (.inl e));refine⟨?_,AD⟩;refine ao.turn (v':={v with com:=.slice A3 (R.out.commits.length+n2) c3}) (ak:=ai (ai aa w.heap.size (b+13)) w2.heap.size (b+9)) [9] h xo (fun j hj=>(ac (by omega)).trans (ac hj)) (by simp)
    (((Fr.of_below (X:=fun j=>j=g) du).two dg (fun j e=>.inl (.inl e)) fun j e=>.inl (.inr ⟨9,by simp,zy j e⟩)).two eQ (fun j e=>.inl e) fun j e=>.inl (.inl e))
    tI tI tI tI tI tI tI (.inl ?_) tI tI tI
   have uY:∀j,j≠g->j<w3.heap.size->w5.heap[j]?=w3.heap[j]?:=fun j hj hl=>eQ.block j hl hj
   refine dU.keep (w:=w3) ⟨zs++ys,?_,?_,?_⟩ (fun j hj hl=>uY j (fun e=>by rw[e,JA]at hj;omega) hl) (fun j hj hl=>uY j (fun e=>by rw[e,JA]at hj;omega) hl)
   ·rw[List.length_append,<-Cb.2.2,List.length_map,xf];refine⟨A3,c3,rfl,cE,fun j hj=>?_⟩;rcases Kv j hj with h6|h6
    ·have h7:=zy j h6;have h8:j<w.heap.size:=(aB bP Ac cc rfl j h6).1;exact(ac (by omega)).trans ((ac h8).trans h7)
    ·exact ay h6
   ·have hold:∀j,j<w2.heap.size->aQ (ai aa w.heap.size (b+13)) (b+13) j->aQ (ai (ai aa w.heap.size (b+13)) w2.heap.size (b+9)) (b+13) j:=fun j hj e=>(ac hj).trans e
    have aE:bz (aQ (ai aa w.heap.size (b+13)) (b+13)) w2 w3:=fun j e hj=>dg.block j hj fun hh=>by
     have h7:=zy j hh;have h8:j<w.heap.size:=(aB bP Ac cc rfl j hh).1;have e:ai aa w.heap.size (b+13) j=b+13:=e;rw[ac h8]at e;omega
    have zo:bq (aQ (ai aa w.heap.size (b+13)) (b+13)) w2 (zs++ys):=by
     refine bq.append ((xr.mono fun j hj e=>(ac hj).trans e).keep (bz.below du)) (Cb.2.1.mono fun j hj e=>ay ?_);exact e.1
    exact(zo.mono hold).keep fun j e hj=>aE j ((ac hj).symm.trans e) hj
   ·rw[List.map_append,tB,Cb.2.2]
  clear xr tB bP;go_wp2_with (at_builtin;refine aW rfl (.tmp 15) (.tmp 31) rfl 0 rfl CZ rfl CX gq fi zz ?_;intro A3 c3 w3 cE dg bS hrw3;obtain⟨gK,iT,hP⟩:=aF A3 c3 w3 cE dg hrw3;replace hP:=zH hP;clear aF cE dg bS hrw3);obtain⟨f27,f12,-⟩:=iT.fs [27,12];obtain⟨e27,e12,-⟩:=iT.cs [27,12];simp only[bE,vi,Zx]at e27 e12;refine⟨dN (by simp;exact gK),ge _ _ ?_⟩;refine aC ?_;simp only[af,Zx];repeat go_big_quiet_step(fail)
  apply wpQuiet_nil;go_wp2_with fail;exact al rfl rfl ⟨rfl,hP.out⟩
 ·have hC:=zH (show R.commits k=R from if_neg aU);have hP:=zH (show ao aa b w g R w/\Fr (fun j=>j=g\/aa j=b+9) w w from⟨⟨aa,v,h,fun _ _ _=>rfl,fun _ _ h=>h,Fr.refl _ _⟩,Fr.refl _ _⟩);have fo:=Int.not_lt.1 aU;clear h aU;go_enter func123,ntmps123;go_wp2_with fail;exact al rfl rfl ⟨rfl,by rw[hC.out];exact hP.out⟩
end
end
section
open Go.MapKept
theorem tE.inv{aa:Nat->Nat}{i:Nat}{w:World}{x:Value}{t:bB}(h:tE aa i w x t):t.Inv:=by
 obtain⟨g,S,A,n,c,zs,h1,h2,h3⟩:=h;exact h2.i
section
variable {aa:Nat->Nat}{b g:Nat}{w:World}{R:Rf}{v:Rw}
theorem kL(h:ax aa b w g R v)(hp:R.peers.length=R.n+1)(qk:R.n<=7)(fX:0<=R.commit)(gC:R.commit<=4000000000000)(hN:R.track.L.length<=1000000)(hn:R.out.commits.length<=1000000) :
  Calls prog 68 #[.pointer (some ⟨g,0,none⟩)] w fun e w'=>e=.returned (.tuple #[])/\ao aa b w g R.agrees w'/\Fr (fun j=>j=g\/aa j=b+9) w w':=by
 have cQ:=h.s.lt;have d8:=h.s.cell 8;simp only[bE,Zx]at d8;have bI:=iW h.t hN;have dG:=h.t.inv;obtain⟨l1,cy⟩:∃l,R.track.lastF.1=l:=⟨_,rfl⟩;obtain⟨k,hk⟩:=zN (R.agreesTo);obtain⟨tt,i7⟩:∃x,R.track.termF k=x:=⟨_,rfl⟩;have hA:R.agrees=if R.commit<k/\tt=(R.hard.term,0)then R.commits k else R:=by unfold Rf.agrees;rw[hk,i7]
 have BK:eO R.n (R.matchL l1 Pr.mat)=k:=by rw[<-hk,<-cy];rfl
 rw[cy]at bI;have hH:=zH h;have Cv:tt.2=0->0<=k/\k<=4000000000000:=fun e=>by
  have e2:R.track.termF k=(tt.1,0):=by rw[i7,<-e]
  have:=eU e2;have h1:=dG.b;omega
 replace Cv:=zH Cv;replace hA:=zH hA;clear h cy hk dG;go_enter func68,ntmps68;go_wp2_with fail;refine bI.mono ?_;rintro e w1 ⟨rfl,bs⟩;have h1:=hH.out.below bs;have d5:=h1.s.cell 5;simp only[bE,vi,Zx]at d5;have k5:=CV [g] d5;have cT:∀x∈[g],x<w1.heap.size:=by simp;exact h1.s.lt
 have Dw:=wH l1 (h1.below (w':=w1.drew) (zb.drew)) hp qk;clear bI h1;go_wp2_with fail;refine dV [g] w1 [([0,1,2,3,4,5],6),([],7)] [8] ?_;refine av fun K1 ct=>?_
 simp only[af,Zx];repeat go_big_quiet_step(fail)
 apply wpQuiet_nil;go_wp2_with fail;refine Dw.mono ?_;rintro e w2 ⟨A2,c2,rfl,cv,bJ⟩;have gJ:=ky (R.n:Int) A2 R.n c2 _ w2 (fB.of_own cv);rw[BK]at gJ;go_wp2_with fail;have bR:Below w1.heap.size w1 w2:=(zb.drew).trans bJ;refine⟨aq cT bR,ct _ _ ?_⟩;refine av fun K2 ge=>?_
 simp only[af,Zx];apply wpQuiet_nil;clear Dw cv;go_wp2_with fail;refine gJ.mono ?_;rintro e w3 ⟨rfl,bS⟩;go_wp2_with fail;have gr:Below w1.heap.size w1 w3:=ab bR bS zl;refine⟨aq cT gr,ge _ _ ?_⟩;refine aj ?_;simp only[af,Zx];repeat go_big_quiet_step(fail)
 apply wpQuiet_nil;have eE:=ab bs gr zl;have h3:=hH.out.below eE;have d8w:=h3.s.cell 8;simp only[bE,vi,Zx]at d8w;have bh:=lT k h3.t hN;rw[i7]at bh;clear h3 gJ i7;go_wp2_with fail;refine bh.mono ?_;rintro e w4 ⟨rfl,cz⟩;have iN:=ab eE cz zl;have h4:=hH.out.below iN;obtain⟨d12,d6,-⟩:=h4.s.cs [12,6];simp only[bE,vi,Zx]at d12 d6;clear bh;have uW:=zH (show ao aa b w g R w4/\Fr (fun j=>j=g\/aa j=b+9) w w4 from⟨⟨aa,v,h4,fun _ _ _=>rfl,fun _ _ h=>h,Fr.of_below iN⟩,Fr.of_below iN⟩);by_cases c1:R.commit<k
 ·by_cases c2:tt.2=0
  ·by_cases c3:tt.1=R.hard.term
   ·have hR:=zH (show R.agrees=R.commits k by rw[hA.out,if_pos ⟨c1,by rw[<-c3,<-c2]⟩]);have CW:=Cv.out c2;have aH:=lM k h4 (by omega) CW.2 fX gC hN hn;have e2:(tt.2==0)=true:=by simp[c2]
    have e3:(tt.1==R.hard.term)=true:=by simp[c3]
    clear h4 c2 c3 CW;go_wp2_with fail;refine aH.mono ?_;rintro e w5 ⟨rfl,hP⟩;have hQ:=zH (show ao aa b w g R.agrees w5/\Fr (fun j=>j=g\/aa j=b+9) w w5 by rw[hR.out];exact⟨hP.1.behind iN,(Fr.of_below (X:=fun j=>j=g\/aa j=b+9) iN).trans hP.2 fun j e=>.inl e⟩);clear aH hP;go_wp2_with fail;exact al rfl rfl ⟨rfl,hQ.out⟩
   ·have hR:=zH (show R.agrees=R by rw[hA.out,if_neg fun h=>c3 (by rw[h.2])]);have e2:(tt.2==0)=true:=by simp[c2]
    have e3:(tt.1==R.hard.term)=false:=by simp[c3]
    clear h4 c2 c3;go_wp2_with fail;exact al rfl rfl ⟨rfl,by rw[hR.out];exact uW.out⟩
  ·have hR:=zH (show R.agrees=R by rw[hA.out,if_neg fun h=>c2 (by rw[h.2])]);have e2:(tt.2==0)=false:=by simp[c2]
   clear h4 c2;go_wp2_with fail;exact al rfl rfl ⟨rfl,by rw[hR.out];exact uW.out⟩
 ·have hR:=zH (show R.agrees=R by rw[hA.out,if_neg fun h=>c1 h.1]);clear h4;go_wp2_with fail;exact al rfl rfl ⟨rfl,by rw[hR.out];exact uW.out⟩
end
end
section
open Go.MapKept
theorem xh:59∉TD:=by simp[TD]
theorem ou{aa:Nat->Nat}{i q:Nat}{S:Nat->Prop}{w w':World}{g n c M:Nat}{t t':bB}{A:Option Addr}{zs:List (Value×En)}(hT:cS 0 S w g t A n c zs)(hl:∀j,(j=g\/az A j\/S j)->aa j=i)(hP:iV 0 S w g A t' M w')(hM:w.heap.size<=M) :
  ∃ak:Nat->Nat,(∀j,j<w.heap.size->ak j=aa j)/\(∀vy fs,aG (bG TD M w') w' vy fs->aG (aQ ak q) w' vy fs)/\tE ak i w' (.pointer (some ⟨g,0,none⟩)) t'/\Fr (aQ aa i) w w':=by
 obtain⟨A',n',c',zs',S',tC,VK,pV,hMw,hF⟩:=hP;have cQ:=hT.b.lt
 classical
 refine⟨fun j=>if j<w.heap.size then aa j else if az A' j\/S' j then i else q,fun j hj=>if_pos hj,fun vy fs hf=>hf.mono fun j hj hn=>?_,⟨g,S',A',n',c',zs',rfl,tC,fun j hj=>?_⟩,hF.mono fun j hj=>hl j (hj.elim .inl fun h=>.inr (.inl h))⟩
 ·obtain⟨h1,cs,fz,ty,h2,h3⟩:=hn;show(if j<w.heap.size then aa j else if az A' j\/S' j then i else q)=q;rw[if_neg (by omega),if_neg];rintro(h|h)
  ·obtain⟨_,_,cs',h4⟩:=aB tC.o A' c' rfl j h;rw[h2]at h4;injection h4 with h4;injection h4 with _ h4;rw[h4]at h3;exact xh h3
  ·rcases VK j h with h5|h5
   ·obtain⟨_,_,_,e,_⟩:=hT.s j h5;have:=aV e;omega
   ·omega
 ·show(if j<w.heap.size then aa j else if az A' j\/S' j then i else q)=i;by_cases nj:j<w.heap.size
  ·rw[if_pos nj];refine hl j ?_;rcases hj with h|h|h
   ·exact .inl h
   ·exact .inr (.inl ((pV j h).resolve_right (by omega)))
   ·exact .inr (.inr ((VK j h).resolve_right (by omega)))
  ·rw[if_neg nj,if_pos];rcases hj with h|h|h
   ·omega
   ·exact .inl h
   ·exact .inr h
section
variable {aa:Nat->Nat}{b g:Nat}{w:World}{R:Rf}{v:Rw}
theorem ax.track{ak:Nat->Nat}{w':World}{t':bB}(h:ax aa b w g R v)(hl:∀j,j<w.heap.size->ak j=aa j)(hT:tE ak (b+2) w' v.trk t')(hF:Fr (aQ aa (b+2)) w w') :
  ax ak b w' g {R with track:=t'} v/\Fr (aN aa b) w w':=by
 have hs:ar w' g 107 (bE {R with track:=t'} v):=(hF.block g h.s.lt fun e=>by have e:aa g=b+2:=e;have:=h.sl;omega).trans h.s;refine⟨h.turn [2] hs (fun i j _ _ _ hj e=>(hl j hj).trans e) (by simp) (hF.mono fun j e=>.inr ⟨2,by simp,e⟩) (.inl hT)
  tI tI tI tI tI tI tI tI tI tI,hF.mono fun j e=>?_⟩
 have e:aa j=b+2:=e;exact⟨by omega,by omega⟩
def lS(aa:Nat->Nat)(b:Nat)(w:World)(g:Nat)(R':Rf)(v:Rw)(w':World)(vy:Value)(fs:List Fa):Prop:=
 ∃ak:Nat->Nat,ax ak b w' g R' v/\(∀j,j<w.heap.size->ak j=aa j)/\Fr (aN aa b) w w'/\aG (aQ ak (b+13)) w' vy fs
theorem DA(S2:Nat->Prop)(tm:Int)(x:En)(V:Option Addr)(m d:Nat)(h:ax aa b w g R v)(hN:R.track.L.length<=1000000)(hf:aG S2 w (.slice V m d) x.facts)(hm:m<=maxLen)(ls:∀j,S2 j->aa j≠b+2) :
  Calls prog 66 #[v.trk,.int .i64 tm,qL x (.slice V m d)] w fun e w'=>∃vy,e=.returned (.tuple #[ni (R.track.putF tm x).1.1 vy,.int .i64 (R.track.putF tm x).1.2])/\lS aa b w g {R with track:=(R.track.putF tm x).2} v w' vy (R.track.putF tm x).1.1.facts:=by
 obtain⟨gt,S,A,n,c,zs,hv,hT,hl⟩:=id h.t;rw[hv];refine(G6 S2 tm x V m d hT (by have:=hT.len.1;omega) zz hf hm fun j hj hh=>ls j hj (hl j (hh.elim .inl fun h=>.inr (.inl h)))).mono ?_;rintro e w' ⟨vy,rfl,M,RF,hM,hP⟩;obtain⟨ak,q1,q2,q3,q4⟩:=ou (q:=b+13) hT hl hP hM;rw[<-hv]at q3;obtain⟨h1,h2⟩:=h.track q1 q3 q4;exact⟨vy,rfl,ak,h1,q1,h2,q2 _ _ RF⟩
theorem AT(i:Int)(h:ax aa b w g R v)(hN:R.track.L.length<=1000000) :
  Calls prog 127 #[v.trk,.int .i64 i] w fun e w'=>e=.returned (.int .i64 (R.track.dropF i).1)/\ao aa b w g {R with track:=(R.track.dropF i).2} w':=by
 obtain⟨gt,S,A,n,c,zs,hv,hT,hl⟩:=id h.t;rw[hv];refine(ux i hT (by have:=hT.len.1;omega) zz).mono ?_;rintro e w' ⟨rfl,hP⟩;obtain⟨ak,q1,q2,q3,q4⟩:=ou (q:=b) hT hl hP (by obtain⟨_,_,_,_,_,_,_,_,_,hF⟩:=hP;exact hF.size);rw[<-hv]at q3;obtain⟨h1,h2⟩:=h.track q1 q3 q4;exact⟨rfl,ak,v,h1,fun j hj _=>q1 j hj,fun j hj hm=>by unfold aN at hm ⊢;rw[q1 j hj];exact hm,h2⟩
end
end
section
variable {P:Program}{l:List Oper}{C:World->Prop}{Q:Exit->Act->World->Prop}
def Kw(P:Program)(l:List Oper)(C:World->Prop)(Q:Exit->Act->World->Prop)(next:Act->World->Prop):Nat->List Nat->Act->World->Prop
 | 0,_,a,w=>next a w
 | n+1,g,a,w=>∀i∈g,wpList P l.toArray (dE C (Kw P l C Q next n (g.erase i)) Q) (af l [i]) a w
def Li(P:Program)(l:List Oper)(C:World->Prop)(Q:Exit->Act->World->Prop):List (List Nat×List Nat)->List Nat->Act->World->Prop
 | [],last,a,w=>wpQuiet P l.toArray C (fun a'=>Q .normal a' w) (af l last) a
 | (seg,g)::more,last,a,w=>wpQuiet P l.toArray C (fun a'=>Kw P l C Q (Li P l C Q more last) g.length g a' w) (af l seg) a
def Ha(l:List Oper)(k:Array Bool->Bool):Nat->List Nat->Array Bool->Bool
 | 0,_,listed=>k listed
 | n+1,g,listed=>(!g.isEmpty)&&Region.ready .any l.toArray listed==g&&g.all fun i=>Ha l k n (g.erase i) (listed.setIfInBounds i true)
def CQ(l:List Oper):List (List Nat×List Nat)->List Nat->Array Bool->Bool
 | [],last,listed=>match ep l last listed with
  | some r=>(Region.ready .any l.toArray r).isEmpty
  | none=>false
 | (seg,g)::more,last,listed=>match ep l seg listed with
  | some r=>Ha l (CQ l more last) g.length g r
  | none=>false
def CG:List (List Nat×List Nat)->Nat
 | []=>0
 | s::more=>s.1.length+(s.2.length+CG more)
def Wv(l:List Oper)(segs:List (List Nat×List Nat))(last:List Nat):Bool:=
 Region.noSelect l.toArray&&(CG segs+last.length==l.length)&&CQ l segs last (Array.replicate l.length false)
end
inductive lY where
 | last (seg:List Nat)
 | one (seg:List Nat) (i:Nat) (p:lY)
 | two (seg:List Nat) (i j:Nat) (p q:lY)
def lY.len:lY->Nat
 | .last seg=>seg.length
 | .one seg _ p=>seg.length+(p.len+1)
 | .two seg _ _ p _=>seg.length+(p.len+1)
def lY.row(l:List Oper):lY->Array Bool->Bool
 | .last seg,listed=>match ep l seg listed with
  | some r=>(Region.ready .any l.toArray r).isEmpty
  | none=>false
 | .one seg i p,listed=>match ep l seg listed with
  | some r=>Region.ready .any l.toArray r==[i]&&p.row l (r.setIfInBounds i true)
  | none=>false
 | .two seg i j p q,listed=>match ep l seg listed with
  | some r=>Region.ready .any l.toArray r==[i,j]&&(p.len==q.len)&&p.row l (r.setIfInBounds i true)&&q.row l (r.setIfInBounds j true)
  | none=>false
def Ho(l:List Oper)(p:lY):Bool:=Region.noSelect l.toArray&&(p.len==l.length)&&p.row l (Array.replicate l.length false)
section
variable {P:Program}{l:List Oper}{C:World->Prop}{Q:Exit->Act->World->Prop}
def eG(P:Program)(l:List Oper)(C:World->Prop)(Q:Exit->Act->World->Prop):lY->Act->World->Prop
 | .last seg,a,w=>wpQuiet P l.toArray C (fun a'=>Q .normal a' w) (af l seg) a
 | .one seg i p,a,w=>wpQuiet P l.toArray C (fun a'=>wpList P l.toArray (dE C (eG P l C Q p) Q) (af l [i]) a' w) (af l seg) a
 | .two seg i j p q,a,w=>wpQuiet P l.toArray C (fun a'=>wpList P l.toArray (dE C (eG P l C Q p) Q) (af l [i]) a' w/\wpList P l.toArray (dE C (eG P l C Q q) Q) (af l [j]) a' w) (af l seg) a
theorem dz{seg:List Nat}{a:Act}{w:World}(h:wpQuiet P l.toArray C (fun a'=>Q .normal a' w) (af l seg) a):eG P l C Q (.last seg) a w:=h
theorem bD{seg:List Nat}{i:Nat}{p:lY}{a:Act}{w:World}
  (h:∀K:Act->World->Prop,(∀a w,eG P l C Q p a w->K a w)->wpQuiet P l.toArray C (fun a'=>wpList P l.toArray (dE C K Q) (af l [i]) a' w) (af l seg) a):eG P l C Q (.one seg i p) a w:=
 h _ fun _ _ h=>h
theorem ir{seg:List Nat}{i j:Nat}{p q:lY}{a:Act}{w:World}
  (h:∀K K':Act->World->Prop,(∀a w,eG P l C Q p a w->K a w)->(∀a w,eG P l C Q q a w->K' a w)->
   wpQuiet P l.toArray C (fun a'=>wpList P l.toArray (dE C K Q) (af l [i]) a' w/\wpList P l.toArray (dE C K' Q) (af l [j]) a' w) (af l seg) a):eG P l C Q (.two seg i j p q) a w:=
 h _ _ (fun _ _ h=>h) fun _ _ h=>h
theorem pC{next:Act->World->Prop}{m i:Nat}{listed:Array Bool}{a:Act}{w:World}(np:i∈Region.ready .any l.toArray listed)
  (ha:wpList P l.toArray (dE C next Q) (af l [i]) a w) (hk:∀a w,next a w->C w->wpAnyH P .any l.toArray Q C m (listed.setIfInBounds i true) a w) :
  wpOp P l.toArray Q i (fun a2 w2=>C w2/\wpAnyH P .any l.toArray Q C m (listed.setIfInBounds i true) a2 w2) a w:=by
 obtain⟨_,o,ho,_⟩:=mem_ready.1 np;have LO:l[i]?=some o:=by simpa using ho
 have hp:af l [i]=[o]:=by simp[af,LO]
 rw[hp]at ha;unfold wpOp;rw[ho];simp only[];unfold wpList at ha;have jG:∀a2 w2,wpList P l.toArray (dE C next Q) [] a2 w2->C w2/\wpAnyH P .any l.toArray Q C m (listed.setIfInBounds i true) a2 w2:=
  fun a2 w2 h2=>⟨h2.1,hk a2 w2 h2.2 h2.1⟩
 split
 ·rename_i hw;rw[if_pos hw]at ha;exact ha.imp (uG jG) (fun h2=>h2)
 ·rename_i hw;rw[if_neg hw]at ha;exact jG _ _ ha
theorem GC(hs:Region.noSelect l.toArray=true)(hQ:∀c (a b:Act) w,a.defers=b.defers->Q (.panic c) a w->Q (.panic c) b w)(p:lY) :
  ∀(listed:Array Bool) (a:Act) (w:World),p.row l listed=true->C w->eG P l C Q p a w->wpAnyH P .any l.toArray Q C p.len listed a w:=by
 induction p with
 | last seg=>
  intro listed a w hr hC h;unfold lY.row at hr;cases hc:ep l seg listed with
  | none=>rw[hc]at hr;cases hr
  | some r=>
   rw[hc]at hr;have:=kj (P:=P) (C:=C) (Q:=Q) hs hQ seg listed r a w 0 (fun a'=>Q .normal a' w) hc hC h (fun a' ha=>wpAnyH_done (by simpa using hr) ha 0);simpa[lY.len]using this
 | one seg i p ih=>
  intro listed a w hr hC h;unfold lY.row at hr;cases hc:ep l seg listed with
  | none=>rw[hc]at hr;cases hr
  | some r=>
   rw[hc]at hr;simp only[Bool.and_eq_true,beq_iff_eq]at hr;refine kj (P:=P) (C:=C) (Q:=Q) hs hQ seg listed r a w _ _ hc hC h fun a' ha=>?_
   refine wpAnyH_all hr.1 (by simp) fun k hk=>?_
   obtain rfl:k=i:=by simpa using hk
   exact pC (by rw[hr.1];exact hk) ha fun a w h1 h2=>ih _ a w hr.2 h2 h1
 | two seg i j p q ihp ihq=>
  intro listed a w hr hC h;unfold lY.row at hr;cases hc:ep l seg listed with
  | none=>rw[hc]at hr;cases hr
  | some r=>
   rw[hc]at hr;simp only[Bool.and_eq_true,beq_iff_eq]at hr;obtain⟨⟨⟨h1,h2⟩,h3⟩,h4⟩:=hr;refine kj (P:=P) (C:=C) (Q:=Q) hs hQ seg listed r a w _ _ hc hC h fun a' ha=>?_
   refine wpAnyH_all h1 (by simp) fun k hk=>?_
   have BK:k=i\/k=j:=by simpa using hk
   rcases BK with rfl|rfl
   ·exact pC (by rw[h1];exact hk) ha.1 fun a w h5 h6=>ihp _ a w h3 h6 h5
   ·exact pC (by rw[h1];exact hk) ha.2 fun a w h5 h6=>by have:=ihq _ a w h4 h6 h5;rw[<-h2]at this;exact this
theorem rL{id:Nat}{a:Act}{w:World}(p:lY)(hm:P.follows .mixedOrders=true)(hB:Ho l p=true)
  (hQ:∀c (a b:Act) w,a.defers=b.defers->Q (.panic c) a w->Q (.panic c) b w) (hC:C w.drew) (h:eG P l C Q p a w.drew):(Code.region id l.toArray true).wp P Q a w:=by
 simp only[Ho,Bool.and_eq_true,beq_iff_eq]at hB;obtain⟨⟨hs,ah⟩,bP⟩:=hB;refine wp_region_held (S:=C) hm ?_;have:=GC (P:=P) hs hQ p _ a w.drew bP hC h;rw[ah]at this;simpa using this
end
theorem Q6 {P:Program}{l:List Oper}{id:Nat}{a:Act}{Q:Exit->Act->World->Prop}(gs:List Nat)(w:World)(p:lY)(h:eG P l (dP gs w) Q p a w.drew)(hm:P.follows .mixedOrders=true:=by kernel_rfl)(hB:Ho l p=true:=by kernel_rfl)(hQ:∀c (a b:Act) w,a.defers=b.defers->Q (.panic c) a w->Q (.panic c) b w:=by exact fun _ _ _ _ e h=>⟨e.symm.trans h.1,h.2⟩):(Code.region id l.toArray true).wp P Q a w:=
 rL p hm hB hQ aR h
section
open Go.MapKept
theorem D9:(prog.info? 163).map (fun i=>(i.zero,i.size,i.bytes))=some (some (.agg #[.int .i64 0,.int .i64 0,.int .i64 0,.int .i64 0]),4,32):=by kernel_rfl
def lZ(n k:Nat)(x:Int):List Pr:=(List.range n).map fun i=>if i<k then⟨x,0,0,0⟩else Is
theorem Ee(n:Nat)(x:Int):lZ n n x=List.replicate n ⟨x,0,0,0⟩:=by
 unfold lZ;apply List.ext_getElem
 ·simp
 ·intro i h1 h2;have:i<n:=by simpa using h1
  simp[this]
theorem lU(n k:Nat)(x:Int):(lZ n k x).length=n:=by unfold lZ;simp
theorem lK(n k i:Nat)(x:Int)(h:i<n):(lZ n k x)[i]?=some (if i<k then⟨x,0,0,0⟩else Is):=by
 unfold lZ;rw[List.getElem?_map,List.getElem?_range h];rfl
theorem Hq(n k:Nat)(x:Int)(h:k<n):(lZ n k x).set k ⟨x,0,0,0⟩=lZ n (k+1) x:=by
 apply List.ext_getElem?;intro i;rw[List.getElem?_set];rcases Nat.lt_or_ge i n with hi|hi
 ·rw[lK n (k+1) i x hi,lK n k i x hi];by_cases e:k=i
  ·rw[if_pos e,if_pos (by rw[lU];omega),if_pos (by omega)]
  ·rw[if_neg e];by_cases hk:i<k
   ·rw[if_pos hk,if_pos (by omega)]
   ·rw[if_neg hk,if_neg (by omega)]
 ·rw[if_neg (by omega),List.getElem?_eq_none (by rw[lU];exact hi),List.getElem?_eq_none (by rw[lU];exact hi)]
theorem jl{α:Type}{f:α->List Value}{k:Nat}(hf:∀z,(f z).length=k){z z':α}{j:Nat}{u:Value}(hj:j<k)(hz:f z'=(f z).set j u):∀{l:List α} {i:Nat},l[i]?=some z->(l.flatMap f).set (i*k+j) u=(l.set i z').flatMap f
 | [],_,h=>by simp at h
 | a::l,0,h=>by
  obtain rfl:a=z:=by simpa using h
  rw[List.flatMap_cons,List.set_cons_zero,List.flatMap_cons,Nat.zero_mul,Nat.zero_add,List.set_append_left _ _ (by rw[hf];exact hj),hz]
 | a::l,i+1,h=>by
  have h':l[i]?=some z:=by simpa using h
  have ih:=jl hf hj hz h';rw[List.flatMap_cons,List.set_cons_succ,List.flatMap_cons,List.set_append_right _ _ (by rw[hf,Nat.succ_mul];omega),hf,<-ih];congr 2;rw[Nat.succ_mul];omega
theorem Ct(n k:Nat)(x:Int)(h:k<n):((lZ n k x).flatMap mK).set (k*4) (vi x)=(lZ n (k+1) x).flatMap mK:=by
 rw[<-Hq n k x h];have h0:(lZ n k x)[k]?=some Is:=by rw[lK n k k x h,if_neg (Nat.lt_irrefl k)]
 exact jl jD (z:=Is) (z':=⟨x,0,0,0⟩) (j:=0) (by omega) rfl h0
theorem B8(n:Nat)(x:Int):(madeCells (Value.agg #[.int .i64 0,.int .i64 0,.int .i64 0,.int .i64 0]).cells (n*4)).toList=(lZ n 0 x).flatMap mK:=by
 refine List.ext_getElem? fun i=>?_
 rcases Nat.lt_or_ge i (n*4)with hi|hi
 ·have h1:((lZ n 0 x).flatMap mK)[i/4*4+i%4]?=(mK Is)[i%4]?:=eo jD (Nat.mod_lt _ (by omega)) (lK n 0 (i/4) x (by omega));rw[show i/4*4+i%4=i by omega]at h1;rw[h1];have h4:i%4=0\/i%4=1\/i%4=2\/i%4=3:=by omega
  rcases h4 with h4|h4|h4|h4 <;> simp[madeCells,hi,Value.cells,h4,mK,Is,vi]
 ·rw[List.getElem?_eq_none (by rw[Array.length_toList,size_madeCells];exact hi),List.getElem?_eq_none (by rw[fv jD,lU];exact hi)]
section
variable {aa:Nat->Nat}{b g p:Nat}{w w':World}{R R':Rf}{v:Rw}{vy:Value}{fs:List Fa}{cs:Array Value}
def iq(aa:Nat->Nat)(b:Nat)(w:World)(g:Nat)(R':Rf)(v:Rw)(w':World)(p:Nat)(vy:Value)(fs:List Fa)(cs:Array Value):Prop:=
 ∃ak:Nat->Nat,ax ak b w' g R' v/\(∀j,j<w.heap.size->ak j=aa j)/\Fr (aN aa b) w w'/\aG (aQ ak (b+13)) w' vy fs/\ar w' p 59 cs/\¬bv ak b p/\w.heap.size<=p
theorem lS.boxed(cs:Array Value)(h:lS aa b w g R' v w' vy fs):iq aa b w g R' v (w'.alloc (.cells cs 59)) w'.heap.size vy fs cs:=by
 obtain⟨ak,h1,h2,h3,h4⟩:=h;have hb:Below w'.heap.size w' (w'.alloc (.cells cs 59)):=(Below.refl w'.heap.size w').alloc zl _;have hs:=h3.size;refine⟨ai ak w'.heap.size b,h1.fresh hb,fun j hj=>(ac (by omega)).trans (h2 j hj),h3.trans (Fr.of_below (X:=aN aa b) hb) fun j hj=>.inl hj,?_,ar.new _ _ _,?_,hs⟩
 ·exact(h4.mono fun j hj e=>(ac hj).trans e).keep (bz.below hb)
 ·unfold bv;rw[ay zl];omega
theorem lS.box(h:lS (ai aa w.heap.size b) b (w.alloc (.cells cs 59)) g R' v w' vy fs):iq aa b w g R' v w' w.heap.size vy fs cs:=by
 obtain⟨ak,h1,h2,h3,h4⟩:=h;have hb:Below w.heap.size w (w.alloc (.cells cs 59)):=(Below.refl w.heap.size w).alloc zl _;have hk:=ar.new w 59 cs;have hl:=hk.lt;have e1:ak w.heap.size=b:=(h2 _ hl).trans (ay zl);refine⟨ak,h1,fun j hj=>(h2 j (by omega)).trans (ac hj),(Fr.of_below (X:=aN aa b) hb).trans h3 fun j hj=>?_,h4,(h3.block _ hl ?_).trans hk,?_,Nat.le_refl _⟩
 ·rcases Nat.lt_or_ge j w.heap.size with h|h
  ·unfold aN at hj;rw[ac h]at hj;exact .inl hj
  ·exact .inr h
 ·unfold aN;rw[ay zl];omega
 ·unfold bv;rw[e1];omega
theorem iq.set(x:En)(h:iq aa b w g R' v w' p vy fs cs)(hc:cs.size=6):iq aa b w g R' v (set6 w' p (vy,x)) p vy fs (bY (vy,x)).toArray:=by
 obtain⟨ak,h1,h2,h3,h4,h5,h6,h7⟩:=h;have hF:=Fr.set6 w' p (vy,x);refine⟨ak,h1.keep fun j hj hl=>hF.block j hl fun e=>h6 (e▸hj),h2,h3.trans hF fun j e=>.inr (by omega),h4.keep (hF.stay fun j hj _ e=>h6 ?_),(eW (vy,x) h5 hc).1,h6,h7⟩;rw[<-e];have hj:ak j=b+13:=hj;exact⟨by omega,by omega⟩
theorem iq.post(h:iq aa b w g R' v w' p vy fs cs):ao aa b w g R' w':=by
 obtain⟨ak,h1,h2,h3,h4,h5,h6,h7⟩:=h;exact⟨ak,v,h1,fun j hj _=>h2 j hj,fun j hj hm=>by unfold aN at hm ⊢;rw[h2 j hj];exact hm,h3⟩
theorem iq.saves(x:En)(h:iq aa b w g R' v w' p vy x.facts cs)(hN:R'.out.entries.length<=100000) :
  Calls prog 67 #[.pointer (some ⟨g,0,none⟩),.slice (some ⟨w'.heap.size,0,none⟩) 1 1] (w'.alloc (.cells (bY (vy,x)).toArray 59)) fun e w2=>e=.returned (.tuple #[])/\ao aa b w g (R'.save [x]) w2:=by
 obtain⟨ak,h1,h2,h3,h4,h5,h6,h7⟩:=h;have hb:Below w'.heap.size w' (w'.alloc (.cells (bY (vy,x)).toArray 59)):=(Below.refl w'.heap.size w').alloc zl _;have hf:=(h4.mono (S':=aQ (ai ak w'.heap.size b) (b+13)) fun j hj e=>(ac hj).trans e).keep (bz.below hb);have cQ:=h1.s.lt;refine(pd (some ⟨w'.heap.size,0,none⟩) 1 1 [(vy,x)] (h1.fresh hb) (fu.one (ar.new _ _ _)) (fun z hz=>?_) (fun _ j hj e=>?_) (by omega) hN).mono ?_
 ·rw[List.mem_singleton.1 hz];exact hf
 ·obtain⟨ad,e1,e2⟩:=hj;cases e1;have e2:w'.heap.size=j:=e2;omega
 ·rintro e w2 ⟨rfl,hP⟩;refine⟨rfl,(hP.fresh hb).next (fun j hj _=>h2 j hj) (fun j hj hm=>?_) h3⟩;unfold aN at hm ⊢;rw[h2 j hj];exact hm
end
theorem br{w w':World}{g:Nat}(h:w'.heap[g]?=w.heap[g]?):dP [g] w w':=dN fun q hq=>by
 obtain rfl:q=g:=by simpa using hq
 exact h
section
variable {aa:Nat->Nat}{b g p:Nat}{w w':World}{R R':Rf}{v:Rw}{vy:Value}{fs:List Fa}{cs:Array Value}
theorem iq.blk(h:iq aa b w g R' v w' p vy fs cs):ar w' p 59 cs/\p≠g/\ar w' g 107 (bE R' v):=by
 obtain⟨ak,h1,h2,h3,h4,h5,h6,h7⟩:=h;refine⟨h5,fun e=>h6 ?_,h1.s⟩;rw[e];have:=h1.sl;exact⟨by omega,by omega⟩
theorem ot(S2:Nat->Prop)(tm:Int)(x:En)(V:Option Addr)(m d:Nat)(h:ax aa b w g R v)(hN:R.track.L.length<=1000000)(hf:aG S2 w (.slice V m d) x.facts)(hm:m<=maxLen)(ls:∀j,S2 j->aa j≠b+2) :
  Calls prog 66 #[v.trk,.int .i64 tm,.agg #[.int .i64 x.op,.int .i64 x.sess,.int .i64 x.seq,.slice V m d]] w fun e w'=>∃A1 n1 c1,e=.returned (.tuple #[.agg #[.int .i64 (R.track.putF tm x).1.1.idx,.int .i64 (R.track.putF tm x).1.1.term,.int .i64 (R.track.putF tm x).1.1.op,.int .i64 (R.track.putF tm x).1.1.sess,.int .i64 (R.track.putF tm x).1.1.seq,.slice A1 n1 c1],.int .i64 (R.track.putF tm x).1.2])/\
   lS aa b w g {R with track:=(R.track.putF tm x).2} v w' (.slice A1 n1 c1) (R.track.putF tm x).1.1.facts:=by
 refine(DA S2 tm x V m d h hN hf hm ls).mono ?_;rintro e w' ⟨vy,rfl,hT⟩;obtain⟨ak,h1,h2,h3,h4⟩:=hT;obtain⟨A,n,c,rfl,_⟩:=h4.form;exact⟨A,n,c,rfl,ak,h1,h2,h3,h4⟩
end
theorem iv(t:bB)(tm:Int)(x:En):(t.putF tm x).2.index=t.index/\(t.putF tm x).2.L.length<=t.L.length+1:=by
 unfold bB.putF;split
 ·exact⟨rfl,Nat.le_succ _⟩
 ·split
  ·exact⟨rfl,Nat.le_succ _⟩
  ·exact⟨rfl,by simp⟩
theorem HN{R:Rf}(qk:R.n<=7)(hN:R.track.L.length<=900000)(h0:0<=R.track.lastF.1)(h1:R.track.lastF.1<=1099511627776)(hd:R.snap.data.length<=65536)(IM:0<R.track.index->0<R.snap.data.length):gI R.crown:=by
 have hp:∀s,s<=R.n->R.crown.peer s=⟨R.track.lastF.1+1,0,0,0⟩:=fun s hs=>by
  show((List.replicate (R.n+1) (⟨R.track.lastF.1+1,0,0,0⟩:Pr))[s]?).getD Is=_;rw[List.getElem?_replicate,if_pos (by omega)];rfl
 refine⟨by show(List.replicate _ _).length=_;rw[List.length_replicate];rfl,qk,fun s hs=>?_,fun s hs=>?_,hd,IM,by show R.track.L.length<=_;omega⟩
 ·rw[hp s hs];exact⟨by show 1<=R.track.lastF.1+1;omega,by show R.track.lastF.1+1<=_;omega⟩
 ·rw[hp s hs];exact⟨Int.le_refl 0,Int.natCast_nonneg _⟩
theorem gI.track{R:Rf}(h:gI R)(t:bB)(hi:0<t.index->0<R.snap.data.length)(hl:t.L.length<=1000000):gI {R with track:=t}:=⟨h.len,h.n7,h.nx,h.off,h.dat,hi,hl⟩
section
variable {aa:Nat->Nat}{b g:Nat}{w:World}{R:Rf}{v:Rw}
theorem Dr(h:ax aa b w g R v)(qk:R.n<=7)(hN:R.track.L.length<=900000)(hm:R.out.msgs.length<=80000)(he:R.out.entries.length<=90000)(hc:R.out.commits.length<=1000000)(fX:0<=R.commit)(gC:R.commit<=4000000000000)
  (hd:R.snap.data.length<=65536) (IM:0<R.track.index->0<R.snap.data.length) :
  Calls prog 105 #[.pointer (some ⟨g,0,none⟩)] w fun e w'=>e=.returned (.tuple #[])/\ao aa b w g R.leads w':=by
 have cQ:=h.s.lt;have d8:=h.s.cell 8;simp only[bE,Zx]at d8;have bI:=iW h.t (by omega);have dG:=h.t.inv;have oV:=dG.last;have uN:=dG.room;have kp:=dG.b;obtain⟨l1,cy⟩:∃l,R.track.lastF.1=l:=⟨_,rfl⟩;rw[cy]at bI oV;have DF:0<=l1/\l1<=1099511627776:=by omega
 have hH:=zH h;replace cy:=zH cy;clear h dG oV uN kp;go_enter func105,ntmps105;go_wp2_with fail;refine bI.mono ?_;rintro e w1 ⟨rfl,bs⟩;have h1:=hH.out.fresh bs;obtain⟨e4,e5,e13,e14,e15,-⟩:=h1.s.cs [4,5,13,14,15];obtain⟨g13,g14,g15,-⟩:=h1.s.fs [13,14,15];simp only[bE,vi,Zx]at e4 e5 e13 e14 e15;obtain⟨w2,cw⟩:=zN (((w1.setCell ⟨g,13,none⟩ (.int .i64 3)).setCell ⟨g,14,none⟩ (.int .i64 R.id)).setCell ⟨g,15,none⟩ (.int .i64 0));have di:Fr (fun j=>j=g) w1 w2:=by rw[<-cw];exact((Fr.set g 13 _).trans (Fr.set g 14 _) fun _ h=>.inl h).trans (Fr.set g 15 _) fun _ h=>.inl h
 have ls:ar w2 g 107 (bE {R with role:=3,leader:=R.id,clock:=0} v):=by
  rw[<-cw];have s:=((h1.s.set_ 13 (.int .i64 3)).set_ 14 (.int .i64 R.id)).set_ 15 (.int .i64 0);simp only[bE,Zy]at s;exact s
 have h2:=h1.nums (R':={R with role:=3,leader:=R.id,clock:=0}) ls di rfl rfl rfl rfl rfl rfl rfl rfl rfl rfl rfl;obtain⟨N,ER⟩:∃N:Nat,N=R.n+1:=⟨_,rfl⟩;have TS:(R.n:Int)+1=(N:Int):=by omega
 have hN8:N<=8:=by omega
 obtain⟨i0,iy,jK,iL,gL⟩:=info_parts D9;obtain⟨w3,lv,r1,r2⟩:=run_make_full (P:=prog) w2 w2.heap.size 97 163 i0 _ 4 underlying97 iy jK iL .i64 .i64 N (by rw[gL];omega) (by unfold maxLen;omega) zl;rw[B8 N (l1+1)]at r1;have bS:Below w2.heap.size w2 w3:=zb.grown r2 zl (fun k hk=>by cases hk);obtain⟨q,hq⟩:=zN (w2.heap.size);have Ws:w.heap.size<=q:=by have:=bs.size;have:=di.size;omega
 have JB:g<q:=by have:=ls.lt;omega
 have iT:=ls.kept bS;have e5':=ls.cell 5;rw[hq]at r1 lv;obtain⟨e0,e1,e2,-⟩:=iT.cs [0,1,2];obtain⟨g0,g1,g2,-⟩:=iT.fs [0,1,2];simp only[bE,vi,Zx]at e0 e1 e2 e5';replace h2:=zH h2;replace di:=zH di;clear bI h1 iy jK iL gL ls r2;replace ER:=zH ER;replace TS:=zH TS;go_wp2_with fail;rw[TS.out,lv];clear lv;go_wp2_with fail;obtain⟨w4,eL⟩:=zN ((((w3.setCell ⟨g,0,none⟩ (.slice (some ⟨q,0,none⟩) N N)).setCell ⟨g,1,none⟩ (.int .i64 1)).setCell ⟨g,2,none⟩ (.slice none 0 0)));try rw[eL]
 have iK:Fr (fun j=>j=g) w3 w4:=by rw[<-eL];exact((Fr.set g 0 _).trans (Fr.set g 1 _) fun _ h=>.inl h).trans (Fr.set g 2 _) fun _ h=>.inl h
 have AI:ar w4 g 107 (bE {R with role:=3,leader:=R.id,clock:=0,round:=1} {v with peers:=.slice (some ⟨q,0,none⟩) N N,waits:=.slice none 0 0}):=by
  rw[<-eL];have s:=((iT.set_ 0 (.slice (some ⟨q,0,none⟩) N N)).set_ 1 (.int .i64 1)).set_ 2 (.slice none 0 0);simp only[bE,Zy]at s;exact s
 have r4:w4.ownsRow q 163 4 (.slice (some ⟨q,0,none⟩) N N) N ((lZ N 0 (l1+1)).flatMap mK):=cH r1 fun j hj hl=>iK.block j hl (by
  have:=(aB r1 _ N rfl j hj).2.1;omega)
 have I0:q<w4.heap.size:=by
  have:=(aB r4 _ N rfl q ⟨_,rfl,rfl⟩).1;exact this
 clear iT r1 e0 e1 e2 g0 g1 g2 e4 e5 e5' e13 e14 e15 g13 g14 g15 cw;replace iK:=zH iK
 go_loopw [44] (fun i wr=>∃k:Nat,k<=N/\i=.int .i64 k/\wr.ownsRow q 163 4 (.slice (some ⟨q,0,none⟩) N N) N ((lZ N k (l1+1)).flatMap mK)/\Fr (fun j=>j=q) w4 wr) (fun i _=>N-(intOf i).toNat)
 case atStart=>exact⟨0,Nat.zero_le _,rfl,r4,Fr.refl _ _⟩
 case round=>
  clear r4;obtain⟨k,hk,rfl,aD,G4⟩:=hrel;have Sd:ar wr g 107 (bE {R with role:=3,leader:=R.id,clock:=0,round:=1} {v with peers:=.slice (some ⟨q,0,none⟩) N N,waits:=.slice none 0 0}):=(G4.block g AI.lt (by omega)).trans AI;by_cases aU:k<N
  ·have e0:=Sd.cell 0;simp only[bE,List.getElem?_toArray,List.getElem?_cons_zero]at e0;have aE:=(aD.stored (k*4) (vi (l1+1))).1;rw[Ct N k (l1+1) aU]at aE;have ck:=aD.cellAt (k*4) (by omega);have fk:=aD.frozenAt (k*4);have hold:((lZ N k (l1+1)).flatMap mK)[k*4]?=some (.int .i64 0):=(eo jD (j:=0) (by omega) (lK N k k (l1+1) aU)).trans (by rw[if_neg (Nat.lt_irrefl k)];rfl);rw[hold]at ck;have Y2:Fr (fun j=>j=q) w4 (wr.setCell ⟨q,k*4,none⟩ (.int .i64 (l1+1))):=G4.trans (Fr.set q (k*4) _) fun _ h=>.inl h
   have aP:=zH (show N-(k+1)<N-k by omega);clear aD hold Sd G4;go_wp2_with fail;exact⟨⟨k+1,aU,by go_num,aE,Y2⟩,by simp[intOf];exact aP.out⟩
  ·obtain rfl:N=k:=by omega
   have h1:=hH.out.fresh bs;have Nu:=ER.out;have nK:w1.heap.size<=q:=by have:=di.out.size;omega
   have Kf:ao (ai aa w.heap.size b) b w1 g R.crown wr:=by
    refine ao.turn (v':={v with peers:=.slice (some ⟨q,0,none⟩) N N,waits:=.slice none 0 0}) (ak:=ai (ai aa w.heap.size b) w1.heap.size (b+3)) [3,4] h1 Sd (fun j hj=>ac hj) (by simp)
     ((((di.out.two (Fr.of_below (X:=fun j=>j=g) bS) (fun j e=>.inl (.inl e)) fun j e=>.inl (.inl e)).two iK.out (fun j e=>.inl e) fun j e=>.inl (.inl e))).two G4 (fun j e=>.inl e) fun j e=>.inr (by omega))
     tI (.inl ?_) (.inl ?_) tI tI tI tI tI tI tI tI
    ·have e:R.crown.peers=lZ N N (l1+1):=by rw[Ee,<-cy.out,Nu];rfl
     rw[e,lU];refine⟨_,_,rfl,ed aD zz,fun j hj=>?_⟩;obtain⟨ad,e1,rfl⟩:=hj;cases e1;exact ay nK
    ·exact bQ.nil _ _ _ _ _
   have cB:=HN qk hN (by rw[cy.out];exact DF.1) (by rw[cy.out];exact DF.2) hd IM;obtain⟨JV,vc,hC,q1,q2,q3⟩:=Kf;clear h1 Sd AI aD G4;obtain⟨d8,d6,-⟩:=hC.s.cs [8,6];simp only[bE,vi,Zx]at d8 d6;obtain⟨k8,k6⟩:=nY [g] d8 d6;obtain⟨pf,jv⟩:=zN (R.crown.track.putF R.crown.hard.term gk);have gw:R.leads1=if pf.1.2=0 then({R.crown with track:=pf.2}:Rf).save [pf.1.1]else {R.crown with track:=pf.2}:=by unfold Rf.leads1;rw[<-jv]
   have Gc:=iv R.crown.track R.crown.hard.term gk;have eD:=ot (fun _=>False) R.crown.hard.term gk none 0 0 (hC.below (w':=wr.drew) (zb.drew)) (by show R.track.L.length<=_;omega) (aG.nil _ _) zz (fun _ h=>h.elim);have kh:Below wr.drew.heap.size wr.drew (wr.drew.alloc (.cells #[.int .i64 0,.int .i64 0,.int .i64 0,.int .i64 0,.int .i64 0,.slice none 0 0] 59)):=zb.alloc zl _;have ey:=ot (fun _=>False) R.crown.hard.term gk none 0 0 ((hC.below (w':=wr.drew) (zb.drew)).fresh kh) (by show R.track.L.length<=_;omega) (aG.nil _ _) zz (fun _ h=>h.elim);rw[jv]at eD ey Gc;simp only[gk]at eD ey;have vN:gI R.leads1:=by
    have hx:=(cB.track pf.2 (fun e=>IM (by rw[Gc.1]at e;exact e)) (by have h1:=Gc.2;have h2:R.crown.track.L.length<=900000:=hN;omega));rw[gw];split
    ·exact hx.out _
    ·exact hx
   have RV:R.leads1.out.msgs.length<=90000:=by rw[gw];split <;> (show R.out.msgs.length<=_;omega)
   have Zp:R.leads1.out.commits.length<=1000000:=by rw[gw];split <;> exact hc
   have oX:R.leads1.commit=R.commit:=by rw[gw];split <;> rfl
   have qt:=zH (show ∀w9 ag v1,ax ag b w9 g R.leads1.all v1->Calls prog 68 #[.pointer (some ⟨g,0,none⟩)] w9 fun e w'=>e=.returned (.tuple #[])/\ao ag b w9 g R.leads1.all.agrees w' from fun w9 ag v1 h=>by
    obtain⟨ms,e,_⟩:=ev R.leads1.others R.leads1;have e':R.leads1.all=_:=e;rw[e']at h ⊢;refine(kL h vN.len vN.n7 (by show 0<=R.leads1.commit;rw[oX];exact fX) (by show R.leads1.commit<=_;rw[oX];exact gC) vN.trk Zp).mono ?_;rintro e w' ⟨h1,h2,_⟩;exact⟨h1,h2⟩)
   replace vN:=zH vN;have qQ:wr.heap[g]?=some (.cells (bE R.crown vc) 107 (0,0)):=hC.s;have EH:=hC.s.lt;have NC:R.crown.out.entries.length<=100000:=by show R.out.entries.length<=_;omega
   go_wp2_with fail;refine Q6 [g] wr (.two [0,1,2,3,4,5,6,7,8,9] 10 14 (.one [11,12,13] 14 (.one [] 15 (.last [16]))) (.one [] 10 (.one [11,12,13] 15 (.last [16])))) ?_;refine ir fun K1 K2 ct ge=>?_
   simp only[af,Zx];repeat go_big_quiet_step(fail)
   apply wpQuiet_nil;constructor
   ·go_wp2_with fail;refine eD.mono ?_;rintro e w5 ⟨A1,n1,c1,rfl,hT⟩;go_wp2_with fail;have jp:w5.heap[g]?=wr.heap[g]?:=by obtain⟨cV,h5,_⟩:=id hT;exact h5.s.trans qQ.symm
    refine⟨br jp,ct _ _ ?_⟩;clear eD ey;refine bD fun K3 jx=>?_
    simp only[af,Zx];repeat go_big_quiet_step(fail)
    apply wpQuiet_nil;go_wp2_with fail;have hM:=hT.boxed #[.int .i64 0,.int .i64 0,.int .i64 0,.int .i64 0,.int .i64 0,.slice none 0 0];generalize E6:w5.alloc (.cells #[.int .i64 0,.int .i64 0,.int .i64 0,.int .i64 0,.int .i64 0,.slice none 0 0] 59)=w6 at *;generalize w5.heap.size=p at *;have kS:w6.heap[g]?=wr.heap[g]?:=by rw[qQ];exact hM.blk.2.2
    refine⟨br kS,jx _ _ ?_⟩;refine bD fun K4 tj=>?_
    simp only[af,Zx];apply wpQuiet_nil;obtain⟨fS,rU,mX⟩:=hM.blk;obtain⟨z0,z1,z2,z3,z4,z5,-⟩:=fS.cs [0,1,2,3,4,5];simp only[Zx]at z0 z1 z2 z3 z4 z5;obtain⟨y0,y1,y2,y3,y4,y5,-⟩:=fS.fs [0,1,2,3,4,5];have eQ:=Fr.set6 w6 p (.slice A1 n1 c1,pf.1.1);have uL:(set6 w6 p (.slice A1 n1 c1,pf.1.1)).heap[g]?=wr.heap[g]?:=(eQ.block g mX.lt fun e=>rU e.symm).trans kS;have oD:=hM.set pf.1.1 rfl;go_wp2_with fail;refine⟨br uL,tj _ _ ?_⟩;show eG _ _ _ _ _ _ (set6 w6 p (.slice A1 n1 c1,pf.1.1));generalize set6 w6 p (.slice A1 n1 c1,pf.1.1)=w7 at *;clear hM fS z0 z1 z2 z3 z4 z5 y0 y1 y2 y3 y4 y5 eQ mX;refine dz ?_;simp only[af,Zx];repeat go_big_quiet_step(fail)
    apply wpQuiet_nil;obtain⟨mM,_,_⟩:=oD.blk;obtain⟨z0,z1,z2,z3,z4,z5,-⟩:=mM.cs [0,1,2,3,4,5];simp only[bY,vi,Zx]at z0 z1 z2 z3 z4 z5;by_cases hz:pf.1.2=0
    ·rw[if_pos hz]at gw;have pN:=oD.saves pf.1.1 NC;have xn:(pf.1.2==0)=true:=by simp[hz]
     simp only[bY,vi]at pN;replace gw:=zH gw;clear oD mM hz;go_wp2_with fail;refine pN.mono ?_;rintro e w8 ⟨rfl,hP⟩;clear pN;go_wp2_with fail;have eq:=(show ao JV b wr.drew g R.leads1 w8 by rw[gw.out];exact hP).call (fun ag v1 h=>kI h vN.out RV);refine eq.mono ?_;rintro e w9 ⟨rfl,mE⟩;have gJ:=mE.call (fun ag v1 h=>qt.out w9 ag v1 h);clear eq mE;go_wp2_with fail;refine gJ.mono ?_;rintro e wE ⟨rfl,yK⟩;have hQ:=zH (show ao aa b w g R.leads wE from((yK.behind (w:=wr) (zb.drew)).next q1 q2 q3).fresh bs);clear gJ yK;go_wp2_with fail;exact al rfl rfl ⟨rfl,hQ.out⟩
    ·rw[if_neg hz]at gw;have hP:=oD.post;have xn:(pf.1.2==0)=false:=by simp[hz]
     replace gw:=zH gw;clear oD mM hz;go_wp2_with fail;have eq:=(show ao JV b wr.drew g R.leads1 w7 by rw[gw.out];exact hP).call (fun ag v1 h=>kI h vN.out RV);refine eq.mono ?_;rintro e w9 ⟨rfl,mE⟩;have gJ:=mE.call (fun ag v1 h=>qt.out w9 ag v1 h);clear eq mE;go_wp2_with fail;refine gJ.mono ?_;rintro e wE ⟨rfl,yK⟩;have hQ:=zH (show ao aa b w g R.leads wE from((yK.behind (w:=wr) (zb.drew)).next q1 q2 q3).fresh bs);clear gJ yK;go_wp2_with fail;exact al rfl rfl ⟨rfl,hQ.out⟩
   ·go_wp2_with fail;refine⟨br (kh.block g EH),ge _ _ ?_⟩;refine bD fun K3 jx=>?_
    simp only[af,Zx];apply wpQuiet_nil;go_wp2_with fail;refine ey.mono ?_;rintro e w6 ⟨A1,n1,c1,rfl,hT⟩;go_wp2_with fail;have hM:=hT.box;have Bh:wr.drew.heap.size=wr.heap.size:=rfl;rw[Bh]at hM;generalize wr.heap.size=p at *;have kS:w6.heap[g]?=wr.heap[g]?:=by rw[qQ];exact hM.blk.2.2
    refine⟨br kS,jx _ _ ?_⟩;clear eD ey;refine bD fun K4x Bg=>?_
    simp only[af,Zx];repeat go_big_quiet_step(fail)
    apply wpQuiet_nil;obtain⟨fS,rU,mX⟩:=hM.blk;obtain⟨z0,z1,z2,z3,z4,z5,-⟩:=fS.cs [0,1,2,3,4,5];simp only[Zx]at z0 z1 z2 z3 z4 z5;obtain⟨y0,y1,y2,y3,y4,y5,-⟩:=fS.fs [0,1,2,3,4,5];have eQ:=Fr.set6 w6 p (.slice A1 n1 c1,pf.1.1);have uL:(set6 w6 p (.slice A1 n1 c1,pf.1.1)).heap[g]?=wr.heap[g]?:=(eQ.block g mX.lt fun e=>rU e.symm).trans kS;have oD:=hM.set pf.1.1 rfl;go_wp2_with fail;refine⟨br uL,Bg _ _ ?_⟩;show eG _ _ _ _ _ _ (set6 w6 p (.slice A1 n1 c1,pf.1.1));generalize set6 w6 p (.slice A1 n1 c1,pf.1.1)=w7 at *;clear hM fS z0 z1 z2 z3 z4 z5 y0 y1 y2 y3 y4 y5 eQ mX;refine dz ?_;simp only[af,Zx];repeat go_big_quiet_step(fail)
    apply wpQuiet_nil;obtain⟨mM,_,_⟩:=oD.blk;obtain⟨z0,z1,z2,z3,z4,z5,-⟩:=mM.cs [0,1,2,3,4,5];simp only[bY,vi,Zx]at z0 z1 z2 z3 z4 z5;by_cases hz:pf.1.2=0
    ·rw[if_pos hz]at gw;have pN:=oD.saves pf.1.1 NC;have xn:(pf.1.2==0)=true:=by simp[hz]
     simp only[bY,vi]at pN;replace gw:=zH gw;clear oD mM hz;go_wp2_with fail;refine pN.mono ?_;rintro e w8 ⟨rfl,hP⟩;clear pN;go_wp2_with fail;have eq:=(show ao JV b wr.drew g R.leads1 w8 by rw[gw.out];exact hP).call (fun ag v1 h=>kI h vN.out RV);refine eq.mono ?_;rintro e w9 ⟨rfl,mE⟩;have gJ:=mE.call (fun ag v1 h=>qt.out w9 ag v1 h);clear eq mE;go_wp2_with fail;refine gJ.mono ?_;rintro e wE ⟨rfl,yK⟩;have hQ:=zH (show ao aa b w g R.leads wE from((yK.behind (w:=wr) (zb.drew)).next q1 q2 q3).fresh bs);clear gJ yK;go_wp2_with fail;exact al rfl rfl ⟨rfl,hQ.out⟩
    ·rw[if_neg hz]at gw;have hP:=oD.post;have xn:(pf.1.2==0)=false:=by simp[hz]
     replace gw:=zH gw;clear oD mM hz;go_wp2_with fail;have eq:=(show ao JV b wr.drew g R.leads1 w7 by rw[gw.out];exact hP).call (fun ag v1 h=>kI h vN.out RV);refine eq.mono ?_;rintro e w9 ⟨rfl,mE⟩;have gJ:=mE.call (fun ag v1 h=>qt.out w9 ag v1 h);clear eq mE;go_wp2_with fail;refine gJ.mono ?_;rintro e wE ⟨rfl,yK⟩;have hQ:=zH (show ao aa b w g R.leads wE from((yK.behind (w:=wr) (zb.drew)).next q1 q2 q3).fresh bs);clear gJ yK;go_wp2_with fail;exact al rfl rfl ⟨rfl,hQ.out⟩
end
end
structure Ok(K M:Nat)(R:Rf):Prop where
 id:1<=R.id/\R.id<=R.n/\R.n<=7
 tm:0<=R.hard.term/\R.hard.term<=1099511627776
 tr:R.track.Inv
 cm:0<=R.commit/\R.commit<=1099511627776
 dat:R.snap.data.length<=65536
 dat0:0<R.track.index->0<R.snap.data.length
 gat:R.gath.data.length<=65536
 trk:R.track.L.length<=K
 ws:R.waits.length<=16
 yl:R.yes.length<=K
 ck:0<=R.clock/\R.clock<=K/\0<=R.round/\R.round<=K
 ms:R.out.msgs.length<=M
 es:R.out.entries.length<=M
 cs:R.out.commits.length<=M
 rs:R.out.reads.length<=M
 ys:R.role=1\/R.role=2->R.yes≠[]
 ld:R.role=3->R.peers.length=R.n+1/\∀p∈R.peers,(0<=p.mat/\p.mat<=1099511627776)/\(1<=p.next/\p.next<=1099511627777)/\0<=p.offset/\p.offset<=R.snap.data.length
section
variable {K K' M M':Nat}{R:Rf}
theorem Ok.mono(h:Ok K M R)(hK:K<=K')(hM:M<=M'):Ok K' M' R where
 id:=h.id
 tm:=h.tm
 tr:=h.tr
 cm:=h.cm
 dat:=h.dat
 dat0:=h.dat0
 gat:=h.gat
 trk:=Nat.le_trans h.trk hK
 ws:=h.ws
 yl:=Nat.le_trans h.yl hK
 ck:=by have:=h.ck;omega
 ms:=Nat.le_trans h.ms hM
 es:=Nat.le_trans h.es hM
 cs:=Nat.le_trans h.cs hM
 rs:=Nat.le_trans h.rs hM
 ys:=h.ys
 ld:=h.ld
theorem Ok.peers(h:Ok K M R)(hr:R.role=3)(hK:K<=1000000):gI R:=by
 obtain⟨h1,h2⟩:=h.ld hr;have hp:∀s,s<=R.n->R.peer s∈R.peers:=fun s hs=>by
  unfold Rf.peer;rw[List.getElem?_eq_getElem (by omega)];exact List.getElem_mem _
 exact⟨h1,h.id.2.2,fun s hs=>by have:=(h2 _ (hp s hs)).2.1;omega,fun s hs=>(h2 _ (hp s hs)).2.2,h.dat,h.dat0,Nat.le_trans h.trk hK⟩
theorem Ok.outs(h:Ok K M R){o:Ot}(h1:o.msgs.length<=M)(h2:o.entries.length<=M)(h3:o.commits.length<=M)(h4:o.reads.length<=M):Ok K M {R with out:=o}:=
 {h with ms:=h1,es:=h2,cs:=h3,rs:=h4}
theorem Ok.send(h:Ok K M R)(m:Mg):Ok K (M+1) (R.send m):=by
 have h':=h.mono (Nat.le_refl K) (Nat.le_succ M);exact h'.outs (by simp;exact h.ms) h'.es h'.cs h'.rs
theorem Ok.lacks(h:Ok K M R)(s:Nat):Ok K (M+1) (R.lacks s):=by
 unfold Rf.lacks;split
 ·exact h.send _
 ·exact h.send _
theorem Ok.all(h:Ok K M R):Ok K (M+7) R.all:=by
 obtain⟨ms,e,hl⟩:=ev R.others R;have ho:=im R;have h7:=h.id.2.2;have h':=h.mono (Nat.le_refl K) (Nat.le_add_right M 7);have e2:R.all={R with out:={R.out with msgs:=R.out.msgs++ms}}:=e;rw[e2];exact h'.outs (by have:=h.ms;simp;omega) h'.es h'.cs h'.rs
theorem nJ(t:bB)(i n:Int):(t.sliceF i n).length<=t.L.length:=by
 unfold bB.sliceF;split
 ·exact Nat.zero_le _
 ·rw[List.length_take,List.length_drop];omega
theorem Ok.save(h:Ok K M R)(l:List En):Ok K (M+l.length) (R.save l):=by
 have h':=h.mono (Nat.le_refl K) (Nat.le_add_right M l.length);exact h'.outs h'.ms (by have:=h.es;simp;omega) h'.cs h'.rs
theorem Ok.commits(h:Ok K M R){k:Int}(hk:k<=1099511627776):Ok K (M+K) (R.commits k):=by
 have h':=h.mono (Nat.le_refl K) (Nat.le_add_right M K);unfold Rf.commits;split
 ·have hc:=h.cm;have h2:Ok K (M+K) {R with commit:=k}:={h' with cm:=⟨by show 0<=k;omega,hk⟩};refine h2.outs h'.ms h'.es ?_ h'.rs;have:=nJ R.track (R.commit+1) (k-R.commit);have:=h.trk;have:=h.cs;simp;omega
 ·exact h'
theorem Ok.agrees(h:Ok K M R):Ok K (M+K) R.agrees:=by
 unfold Rf.agrees;split
 ·rename_i hc;have h1:=eU hc.2;have h2:=h.tr.room;exact h.commits (by omega)
 ·exact h.mono (Nat.le_refl K) (Nat.le_add_right M K)
theorem Ok.crown(h:Ok K M R)(hK:1<=K):Ok K M R.crown:=
 {h with
  ws:=Nat.zero_le _
  ck:=⟨Int.le_refl 0,Int.natCast_nonneg _,by show(0:Int)<=1;omega,by show(1:Int)<=K;omega⟩
  ys:=fun e=>by rcases e with e|e <;> cases e
  ld:=fun _=>by
   refine⟨by show(List.replicate _ _).length=_;rw[List.length_replicate];rfl,fun p hp=>?_⟩;have e:=List.eq_of_mem_replicate (show p∈List.replicate _ _ from hp);have h1:=h.tr.last;have h2:=h.tr.room;have h3:=h.tr.b;rw[e];exact⟨⟨Int.le_refl 0,by show(0:Int)<=_;omega⟩,⟨by show 1<=R.track.lastF.1+1;omega,by show R.track.lastF.1+1<=_;omega⟩,Int.le_refl 0,Int.natCast_nonneg _⟩}
theorem Ok.put(h:Ok K M R)(tm:Int)(x:En):Ok (K+1) M {R with track:=(R.track.putF tm x).2}:=by
 have h':=h.mono (Nat.le_succ K) (Nat.le_refl M);have hi:=iv R.track tm x;exact {h' with
  tr:=h.tr.putF tm x
  trk:=by show(R.track.putF tm x).2.L.length<=_;have:=hi.2;have:=h.trk;omega
  dat0:=fun e=>h.dat0 (by have e:0<(R.track.putF tm x).2.index:=e;rw[hi.1]at e;exact e)}
theorem Ok.leads1(h:Ok K M R)(hK:1<=K):Ok (K+1) (M+1) R.leads1:=by
 have h1:=(h.crown hK).put R.crown.hard.term gk;unfold Rf.leads1;simp only;split
 ·exact h1.save [(R.crown.track.putF R.crown.hard.term gk).1.1]
 ·exact h1.mono zl (Nat.le_succ M)
theorem yR(R:Rf):R.leads1.role=3:=by
 unfold Rf.leads1;simp only;split <;> rfl
theorem Ok.leads(h:Ok K M R)(hK:1<=K):Ok (K+1) (M+K+20) R.leads:=
 ((h.leads1 hK).all.agrees).mono zl (by omega)
theorem Ok.says(h:Ok K M R)(s:Int):Ok (K+1) M (R.says s):=by
 have h':=h.mono (Nat.le_succ K) (Nat.le_refl M);exact {h' with
  yl:=by show(R.yes++[s]).length<=_;have:=h.yl;simp;exact this
  ys:=fun _=>by show R.yes++[s]≠[];simp}
end
def kM(id:Nat)(T:Int)(m:Mg):Mg:={m with frm:=id,term:=if m.term=0 then T else m.term}
theorem gh(f:Nat->Mg)(l:List Nat):∀R:Rf,l.foldl (fun R' (s:Nat)=>R'.send (f s)) R={R with out:={R.out with msgs:=R.out.msgs++l.map fun s=>kM R.id R.hard.term (f s)}}:=by
 induction l with
 | nil=>intro R;rw[List.map_nil,List.append_nil];rfl
 | cons s l ih=>
  intro R;have e:R.send (f s)={R with out:={R.out with msgs:=R.out.msgs++[kM R.id R.hard.term (f s)]}}:=rfl;rw[List.foldl_cons,ih,e];simp only[List.map_cons,List.append_assoc,List.singleton_append]
def gS(RB:Rf)(f:Nat->Mg)(k:Nat):Rf:={RB with out:={RB.out with msgs:=RB.out.msgs++(RB.others.take k).map fun s=>kM RB.id RB.hard.term (f s)}}
theorem sw(RB:Rf)(f:Nat->Mg):gS RB f 0=RB:=by
 unfold gS;rw[List.take_zero,List.map_nil,List.append_nil]
theorem st{RB:Rf}{f:Nat->Mg}{k s:Nat}(hs:RB.others[k]?=some s):(gS RB f k).send (f s)=gS RB f (k+1):=by
 have e:(gS RB f k).send (f s)={RB with out:={RB.out with msgs:=(RB.out.msgs++(RB.others.take k).map fun s=>kM RB.id RB.hard.term (f s))++[kM RB.id RB.hard.term (f s)]}}:=rfl;rw[e];unfold gS;rw[List.take_add_one,hs,List.map_append,List.append_assoc];rfl
theorem mr(RB:Rf)(f:Nat->Mg)(k:Nat):(gS RB f k).out.msgs.length<=RB.out.msgs.length+k:=by
 unfold gS;simp;omega
def iJ(R:Rf):Rf:={R with hard:=⟨R.hard.term+1,R.id⟩,role:=2,leader:=0,yes:=[(R.id:Int)],out:={R.out with save:=true}}
def qu(R:Rf):Rf:={R with role:=1,leader:=0,yes:=[(R.id:Int)]}
def ft(l1 l2:Int)(s:Nat):Mg:={cZ with kind:=3,tgt:=(s:Int),idx:=l1,logTerm:=l2}
def jh(T l1 l2:Int)(s:Nat):Mg:={cZ with kind:=1,tgt:=(s:Int),term:=T+1,idx:=l1,logTerm:=l2}
theorem jJ(R:Rf):R.stands2.says R.id=
  {R with hard:=⟨R.hard.term+1,R.id⟩,role:=2,leader:=0,yes:=[(R.id:Int)],out:={R.out with save:=true,msgs:=R.out.msgs++R.others.map fun s=>kM R.id (R.hard.term+1) (ft R.track.lastF.1 R.track.lastF.2 s)}}:=by
 have h:=gh (ft R.track.lastF.1 R.track.lastF.2) R.stands1.others R.stands1;have h2:R.stands2=R.stands1.others.foldl (fun R' (s:Nat)=>R'.send (ft R.track.lastF.1 R.track.lastF.2 s)) R.stands1:=rfl;unfold Rf.says;rw[h2,h];rfl
theorem jd(R:Rf):R.asks2.says R.id=
  {R with role:=1,leader:=0,yes:=[(R.id:Int)],out:={R.out with msgs:=R.out.msgs++R.others.map fun s=>kM R.id R.hard.term (jh R.hard.term R.track.lastF.1 R.track.lastF.2 s)}}:=by
 have h:=gh (jh R.hard.term R.track.lastF.1 R.track.lastF.2) R.asks1.others R.asks1;have h2:R.asks2=R.asks1.others.foldl (fun R' (s:Nat)=>R'.send (jh R.hard.term R.track.lastF.1 R.track.lastF.2 s)) R.asks1:=rfl;unfold Rf.says;rw[h2,h];rfl
theorem BX(R:Rf){l1 l2:Int}{k:Nat}(h1:R.track.lastF.1=l1)(h2:R.track.lastF.2=l2)(hk:R.others.length<=k):({(gS (iJ R) (ft l1 l2) k).says R.id with yes:=[(R.id:Int)]}:Rf)=R.stands2.says R.id:=by
 rw[jJ,h1,h2];unfold gS;rw[show(iJ R).others=R.others from rfl,List.take_of_length_le hk];rfl
theorem GQ(R:Rf){l1 l2:Int}{k:Nat}(h1:R.track.lastF.1=l1)(h2:R.track.lastF.2=l2)(hk:R.others.length<=k):({(gS (qu R) (jh R.hard.term l1 l2) k).says R.id with yes:=[(R.id:Int)]}:Rf)=R.asks2.says R.id:=by
 rw[jd,h1,h2];unfold gS;rw[show(qu R).others=R.others from rfl,List.take_of_length_le hk];rfl
section
variable {K K' M M':Nat}{R:Rf}
theorem Ok.standing(h:Ok K M R)(ht:R.hard.term<1099511627776):Ok (K+1) (M+7) (R.stands2.says R.id):=by
 rw[jJ];have h':=h.mono (Nat.le_succ K) (Nat.le_add_right M 7);have ho:=im R;have h7:=h.id.2.2;have h0:=h.tm;exact {h' with
  tm:=⟨by show 0<=R.hard.term+1;omega,by show R.hard.term+1<=_;omega⟩
  yl:=by show 1<=K+1;omega
  ms:=by have:=h.ms;simp;omega
  ys:=fun _=>by simp
  ld:=fun e=>by cases e}
theorem Ok.stands(h:Ok K M R)(ht:R.hard.term<1099511627776):Ok (K+2) (M+K+30) R.stands:=by
 unfold Rf.stands;split
 ·exact((h.standing ht).leads (by omega)).mono (by omega) (by omega)
 ·exact(h.standing ht).mono (by omega) (by omega)
theorem Ok.asking(h:Ok K M R):Ok (K+1) (M+7) (R.asks2.says R.id):=by
 rw[jd];have h':=h.mono (Nat.le_succ K) (Nat.le_add_right M 7);have ho:=im R;have h7:=h.id.2.2;exact {h' with
  yl:=by show 1<=K+1;omega
  ms:=by have:=h.ms;simp;omega
  ys:=fun _=>by simp
  ld:=fun e=>by cases e}
theorem Ok.asks(h:Ok K M R)(ht:R.hard.term<1099511627776):Ok (K+3) (M+K+40) R.asks:=by
 unfold Rf.asks;split
 ·exact(h.asking.stands (by rw[jd];exact ht)).mono (by omega) (by omega)
 ·exact h.asking.mono (by omega) (by omega)
end
section
open Go.MapKept
section
variable {aa:Nat->Nat}{b g:Nat}{w w':World}{R:Rf}{v:Rw}
theorem ax.yesAs(h:ax aa b w g R v){l:List Int}(hl:∀k,k∈R.yes↔k∈l)(fV:R.yes≠[]):ax aa b w g {R with yes:=l} v:=by
 refine⟨h.s,h.sl,h.t,h.p,h.q,?_,h.d,h.gd,h.e,h.c,h.n,h.r,h.m⟩;rcases h.y with⟨_,h0⟩|⟨bm,es,clock,h1,h2,h3,h4,h5,h6⟩
 ·exact absurd h0 fV
 ·exact .inr ⟨bm,es,clock,h1,h2,h3,h4,h5,fun k=>(hl k).symm.trans (h6 k)⟩
theorem ao.yesAs(h:ao aa b w g R w'){l:List Int}(hl:∀k,k∈R.yes↔k∈l)(fV:R.yes≠[]):ao aa b w g {R with yes:=l} w':=by
 obtain⟨ak,v',h1,h2,h3,h4⟩:=h;exact⟨ak,v',h1.yesAs hl fV,h2,h3,h4⟩
theorem Aj{K M:Nat}(h:ax aa b w g R v)(hk:Ok K M R)(hK:K<=100000)(hM:M<=70000) :
  Calls prog 105 #[.pointer (some ⟨g,0,none⟩)] w fun e w'=>e=.returned (.tuple #[])/\ao aa b w g R.leads w':=
 Dr h hk.id.2.2 (by have:=hk.trk;omega) (by have:=hk.ms;omega) (by have:=hk.es;omega) (by have:=hk.cs;omega) hk.cm.1 (by have:=hk.cm;omega) hk.dat hk.dat0
theorem sR{K M:Nat}(h:ax aa b w g R v)(hk:Ok K M R)(hK:K<=90000)(hM:M<=60000)(ht:R.hard.term<1099511627776) :
  Calls prog 99 #[.pointer (some ⟨g,0,none⟩)] w fun e w'=>e=.returned (.tuple #[])/\ao aa b w g R.stands w':=by
 have cQ:=h.s.lt;obtain⟨c4,c6,-⟩:=h.s.cs [4,6];simp only[bE,vi,Zx]at c4 c6;obtain⟨k4,k6⟩:=nY [g] c4 c6;have c7':=h.s.cell 7;have c22':=h.s.cell 22;obtain⟨f6,f7,f22,-⟩:=h.s.fs [6,7,22];simp only[bE,vi,Zx]at c7' c22';obtain⟨w1,bV⟩:=zN ((((w.setCell ⟨g,6,none⟩ (.int .i64 (R.hard.term+1))).setCell ⟨g,7,none⟩ (.int .i64 R.id)).setCell ⟨g,22,none⟩ (.bool true)).drew);have gR:Fr (fun j=>j=g) w w1:=by rw[<-bV];exact(((Fr.set g 6 _).trans (Fr.set g 7 _) fun _ h=>.inl h).trans (Fr.set g 22 _) fun _ h=>.inl h).trans (Fr.of_below (X:=fun j=>j=g) (zb.drew)) fun _ h=>.inl h
 have AE:ar w1 g 107 (bE {R with hard:=⟨R.hard.term+1,R.id⟩,out:={R.out with save:=true}} v):=by
  rw[<-bV];have s:=((h.s.set_ 6 (.int .i64 (R.hard.term+1))).set_ 7 (.int .i64 R.id)).set_ 22 (.bool true);simp only[bE,Zy]at s;exact s
 have h1:=h.nums (R':={R with hard:=⟨R.hard.term+1,R.id⟩,out:={R.out with save:=true}}) AE gR rfl rfl rfl rfl rfl rfl rfl rfl rfl rfl rfl;have jg:=hk.id;have qX:=hk.tm;have ti:Calls prog 96 #[.pointer (some ⟨g,0,none⟩),.int .i64 2] w1 fun e w'=>e=.returned (.tuple #[])/\ao aa b w1 g (iJ R) w':=uC 2 h1 (by show R.id<=1000;omega)
 have MD:Fr (aN aa b) w w1:=gR.mono fun j e=>by rw[e];exact⟨by have:=h.sl;omega,by have:=h.sl;omega⟩
 replace MD:=zH MD;have cB:=hk.standing ht;obtain⟨RS,Fd⟩:=zN (R.stands2.says R.id);have vT:R.stands=if RS.won then RS.leads else RS:=by unfold Rf.stands;rw[Fd]
 rw[Fd]at cB;replace vT:=zH vT;replace Fd:=zH Fd;replace cB:=zH cB;clear h AE gR h1;have vF:=im R;have hN:R.track.L.length<=1000000:=by have:=hk.trk;omega
 have xu:=hk.ms;obtain⟨l,hl⟩:=zN (R.others);have Jh:(iJ R).others=l:=hl;obtain⟨n,rp⟩:=zN (l.length);rw[hl,rp]at vF;replace hl:=zH hl;replace rp:=zH rp;replace hk:=zH hk;go_enter func99,ntmps99;go_wp2_with fail;refine mI [g] w [] ([0,1,2,3,4,5,6,7,8,9,10,11,12,13],14) ?_;refine aC ?_;simp only[af,Zx];repeat go_big_quiet_step(fail)
 apply wpQuiet_nil;go_wp2_with fail;try rw[bV]
 refine ti.mono ?_;rintro e w2 ⟨rfl,bu,v2,h2,p1,p2,p3⟩;clear ti bV c4 c6 k4 k6 c7' c22' f6 f7 f22;have d8:=h2.s.cell 8;simp only[bE,vi,Zx]at d8;have bI:=iW h2.t hN;obtain⟨l1,cy⟩:∃l,R.track.lastF.1=l:=⟨_,rfl⟩;obtain⟨l2,dM⟩:∃l,R.track.lastF.2=l:=⟨_,rfl⟩;rw[show(iJ R).track=R.track from rfl,cy,dM]at bI;replace cy:=zH cy;replace dM:=zH dM;go_wp2_with fail;refine bI.mono ?_;rintro e w3 ⟨rfl,bS⟩;have h3:=h2.fresh bS;have sq:=nk h3 jg.2.2;rw[Jh,rp.out]at sq;clear bI h2;go_wp2_with fail;refine sq.mono ?_;rintro e w4 ⟨A,c,rfl,aD,cz⟩;have UG:=cz.size;have h4:=h3.fresh cz;obtain⟨Vh,Rg⟩:=zN (ai (ai bu w2.heap.size b) w3.heap.size b);clear sq h3;go_wp2_with fail
 go_loopw [37] (fun i wr=>∃k:Nat,k<=n/\i=.int .i64 k/\ao (ai (ai bu w2.heap.size b) w3.heap.size b) b w4 g (gS (iJ R) (ft l1 l2) k) wr) (fun i _=>n-(intOf i).toNat)
 case atStart=>exact⟨0,Nat.zero_le _,rfl,by rw[sw];exact⟨_,_,h4,fun _ _ _=>rfl,fun _ _ h=>h,Fr.refl _ _⟩⟩
 case round=>
  obtain⟨k,hk,rfl,hQ⟩:=hrel;by_cases aU:k<n
  ·obtain⟨q,x,rfl,nK,kE,hx,c0⟩:=wi aD aU;obtain⟨s,hs,rfl⟩:∃s:Nat,l[k]?=some s/\(s:Int)=x:=by
    unfold yQ at hx;rw[List.getElem?_map]at hx;cases ik:l[k]? with
    | none=>rw[ik]at hx;cases hx
    | some s=>rw[ik]at hx;exact⟨s,rfl,Option.some.inj hx⟩
   have c1:=(World.cell?_of_block (a:=⟨q,k,none⟩) (hQ.new nK kE)).trans c0;have ci:=st (RB:=iJ R) (f:=ft l1 l2) (k:=k) (s:=s) (by rw[Jh];exact hs);have ah:=mr (iJ R) (ft l1 l2) k;have aH:=hQ.call (fun bu v2 h2=>gj (ft l1 l2 s) rfl rfl h2 (by have:(iJ R).out.msgs.length=R.out.msgs.length:=rfl;omega));rw[ci]at aH;unfold eH at aH;simp only[vi,ft,cZ]at aH;have aP:=zH (show n-(k+1)<n-k by omega);clear hQ ci ah hx hs aD;go_wp2_with fail;refine aH.mono ?_;rintro e w5 ⟨rfl,hQ⟩;clear aH;go_wp2_with fail;exact⟨⟨k+1,aU,by go_num,hQ⟩,by simp[intOf];exact aP.out⟩
  ·obtain rfl:n=k:=by omega
   have rB:=mr (iJ R) (ft l1 l2) n;have og:=hQ.call (fun ag v1 h=>ta (R.id:Int) h (by omega) (by omega) (by show[(R.id:Int)]≠[];simp) (by show[(R.id:Int)].length<=_;simp));obtain⟨cV,v5,h5,_⟩:=id hQ;have d4:=h5.s.cell 4;simp only[bE,vi,Zx]at d4;have d4':wr.cell? ⟨g,4,none⟩=some (.int .i64 R.id):=d4;have aF:=BX R (k:=n) cy.out dM.out (by rw[hl.out,rp.out];exact Nat.le_refl _);rw[Fd.out]at aF;have hw:((gS (iJ R) (ft l1 l2) n).says R.id).won=RS.won:=by
    rw[<-aF];exact mG fun s=>by show s∈[(R.id:Int)]++[(R.id:Int)]↔s∈[(R.id:Int)];simp
   rw[hw]at og;have gB:∀w9,ao (ai (ai bu w2.heap.size b) w3.heap.size b) b w4 g ((gS (iJ R) (ft l1 l2) n).says R.id) w9->ao (ai (ai bu w2.heap.size b) w3.heap.size b) b w4 g RS w9:=fun w9 hP=>by
    rw[<-aF];exact hP.yesAs (fun s=>by show s∈[(R.id:Int)]++[(R.id:Int)]↔s∈[(R.id:Int)];simp) (by show[(R.id:Int)]++[(R.id:Int)]≠[];simp)
   replace gB:=zH gB;clear hQ hw aF h5 d4 aD;have bI:∀wE,ao (ai (ai bu w2.heap.size b) w3.heap.size b) b w4 g R.stands wE->ao aa b w g R.stands wE:=fun wE hP=>((((hP.fresh cz).fresh bS).next p1 p2 p3).next (fun _ _ _=>rfl) (fun _ _ h=>h) MD.out)
   replace bI:=zH bI;obtain⟨x,hx⟩:=zN (RS.won);rw[hx]at og;have aE:=zH (show R.stands=if x=true then RS.leads else RS by rw[vT.out,hx]);clear hx;go_wp2_with fail;refine og.mono ?_;rintro e w5 ⟨rfl,hP⟩;have nu:=gB.out _ hP;clear og hP;cases x
   ·have hQ:=zH (show ao aa b w g R.stands w5 from bI.out _ (by rw[aE.out];exact nu));clear nu;go_wp2_with fail;exact al rfl rfl ⟨rfl,hQ.out⟩
   ·have aH:=nu.call (fun ag v1 h=>Aj h cB.out (by omega) (by omega));clear nu;go_wp2_with fail;refine aH.mono ?_;rintro e w6 ⟨rfl,qp⟩;have hQ:=zH (show ao aa b w g R.stands w6 from bI.out _ (by rw[aE.out];exact qp));clear aH qp;go_wp2_with fail;exact al rfl rfl ⟨rfl,hQ.out⟩
end
end
section
open Go.MapKept
section
variable {aa:Nat->Nat}{b g:Nat}{w w':World}{R:Rf}{v:Rw}
theorem Gs{K M:Nat}(h:ax aa b w g R v)(hk:Ok K M R)(hK:K<=80000)(hM:M<=50000)(ht:R.hard.term<1099511627776) :
  Calls prog 51 #[.pointer (some ⟨g,0,none⟩)] w fun e w'=>e=.returned (.tuple #[])/\ao aa b w g R.asks w':=by
 have cQ:=h.s.lt;have c6:=h.s.cell 6;simp only[bE,vi,Zx]at c6;have jg:=hk.id;have qX:=hk.tm;have ti:Calls prog 96 #[.pointer (some ⟨g,0,none⟩),.int .i64 1] w fun e w'=>e=.returned (.tuple #[])/\ao aa b w g (qu R) w':=uC 1 h (by omega)
 have cB:=hk.asking;obtain⟨RS,Fd⟩:=zN (R.asks2.says R.id);have HB:R.asks=if RS.won then RS.stands else RS:=by unfold Rf.asks;rw[Fd]
 have T8:RS.hard.term<1099511627776:=by rw[<-Fd,jd];exact ht
 replace T8:=zH T8;rw[Fd]at cB;replace HB:=zH HB;replace Fd:=zH Fd;replace cB:=zH cB;clear h;have vF:=im R;have hN:R.track.L.length<=1000000:=by have:=hk.trk;omega
 have xu:=hk.ms;obtain⟨l,hl⟩:=zN (R.others);have Jh:(qu R).others=l:=hl;obtain⟨n,rp⟩:=zN (l.length);rw[hl,rp]at vF;replace hl:=zH hl;replace rp:=zH rp;replace hk:=zH hk;go_enter func51,ntmps51;go_wp2_with fail;refine ti.mono ?_;rintro e w2 ⟨rfl,bu,v2,h2,p1,p2,p3⟩;clear ti c6;have d8:=h2.s.cell 8;simp only[bE,vi,Zx]at d8;have bI:=iW h2.t hN;obtain⟨l1,cy⟩:∃l,R.track.lastF.1=l:=⟨_,rfl⟩;obtain⟨l2,dM⟩:∃l,R.track.lastF.2=l:=⟨_,rfl⟩;rw[show(qu R).track=R.track from rfl,cy,dM]at bI;replace cy:=zH cy;replace dM:=zH dM;go_wp2_with fail;refine bI.mono ?_;rintro e w3 ⟨rfl,bS⟩;have h3:=h2.fresh bS;have sq:=nk h3 jg.2.2;rw[Jh,rp.out]at sq;clear bI h2;go_wp2_with fail;refine sq.mono ?_;rintro e w4 ⟨A,c,rfl,aD,cz⟩;have UG:=cz.size;have h4:=h3.fresh cz;obtain⟨Vh,Rg⟩:=zN (ai (ai bu w2.heap.size b) w3.heap.size b);clear sq h3;go_wp2_with fail
 go_loopw [25] (fun i wr=>∃k:Nat,k<=n/\i=.int .i64 k/\ao (ai (ai bu w2.heap.size b) w3.heap.size b) b w4 g (gS (qu R) (jh R.hard.term l1 l2) k) wr) (fun i _=>n-(intOf i).toNat)
 case atStart=>exact⟨0,Nat.zero_le _,rfl,by rw[sw];exact⟨_,_,h4,fun _ _ _=>rfl,fun _ _ h=>h,Fr.refl _ _⟩⟩
 case round=>
  obtain⟨k,hk,rfl,hQ⟩:=hrel;by_cases aU:k<n
  ·obtain⟨q,x,rfl,nK,kE,hx,c0⟩:=wi aD aU;obtain⟨s,hs,rfl⟩:∃s:Nat,l[k]?=some s/\(s:Int)=x:=by
    unfold yQ at hx;rw[List.getElem?_map]at hx;cases ik:l[k]? with
    | none=>rw[ik]at hx;cases hx
    | some s=>rw[ik]at hx;exact⟨s,rfl,Option.some.inj hx⟩
   obtain⟨cV,v5,h5,_⟩:=id hQ;have d6:=h5.s.cell 6;simp only[bE,vi,Zx]at d6;have d6':wr.cell? ⟨g,6,none⟩=some (.int .i64 R.hard.term):=d6;have c1:=(World.cell?_of_block (a:=⟨q,k,none⟩) (hQ.new nK kE)).trans c0;have ci:=st (RB:=qu R) (f:=jh R.hard.term l1 l2) (k:=k) (s:=s) (by rw[Jh];exact hs);have ah:=mr (qu R) (jh R.hard.term l1 l2) k;have aH:=hQ.call (fun bu v2 h2=>gj (jh R.hard.term l1 l2 s) rfl rfl h2 (by have:(qu R).out.msgs.length=R.out.msgs.length:=rfl;omega));rw[ci]at aH;unfold eH at aH;simp only[vi,jh,cZ]at aH;have aP:=zH (show n-(k+1)<n-k by omega);clear hQ ci ah hx hs aD h5 d6;go_wp2_with fail;refine aH.mono ?_;rintro e w5 ⟨rfl,hQ⟩;clear aH;go_wp2_with fail;exact⟨⟨k+1,aU,by go_num,hQ⟩,by simp[intOf];exact aP.out⟩
  ·obtain rfl:n=k:=by omega
   have rB:=mr (qu R) (jh R.hard.term l1 l2) n;have og:=hQ.call (fun ag v1 h=>ta (R.id:Int) h (by omega) (by omega) (by show[(R.id:Int)]≠[];simp) (by show[(R.id:Int)].length<=_;simp));obtain⟨cV,v5,h5,_⟩:=id hQ;have d4:=h5.s.cell 4;simp only[bE,vi,Zx]at d4;have d4':wr.cell? ⟨g,4,none⟩=some (.int .i64 R.id):=d4;have aF:=GQ R (k:=n) cy.out dM.out (by rw[hl.out,rp.out];exact Nat.le_refl _);rw[Fd.out]at aF;have hw:((gS (qu R) (jh R.hard.term l1 l2) n).says R.id).won=RS.won:=by
    rw[<-aF];exact mG fun s=>by show s∈[(R.id:Int)]++[(R.id:Int)]↔s∈[(R.id:Int)];simp
   rw[hw]at og;have gB:∀w9,ao (ai (ai bu w2.heap.size b) w3.heap.size b) b w4 g ((gS (qu R) (jh R.hard.term l1 l2) n).says R.id) w9->ao (ai (ai bu w2.heap.size b) w3.heap.size b) b w4 g RS w9:=fun w9 hP=>by
    rw[<-aF];exact hP.yesAs (fun s=>by show s∈[(R.id:Int)]++[(R.id:Int)]↔s∈[(R.id:Int)];simp) (by show[(R.id:Int)]++[(R.id:Int)]≠[];simp)
   replace gB:=zH gB;clear hQ hw aF h5 d4 aD;have bI:∀wE,ao (ai (ai bu w2.heap.size b) w3.heap.size b) b w4 g R.asks wE->ao aa b w g R.asks wE:=fun wE hP=>((((hP.fresh cz).fresh bS).next p1 p2 p3))
   replace bI:=zH bI;obtain⟨x,hx⟩:=zN (RS.won);rw[hx]at og;have aE:=zH (show R.asks=if x=true then RS.stands else RS by rw[HB.out,hx]);clear hx;go_wp2_with fail;refine og.mono ?_;rintro e w5 ⟨rfl,hP⟩;have nu:=gB.out _ hP;clear og hP;cases x
   ·have hQ:=zH (show ao aa b w g R.asks w5 from bI.out _ (by rw[aE.out];exact nu));clear nu;go_wp2_with fail;exact al rfl rfl ⟨rfl,hQ.out⟩
   ·have aH:=nu.call (fun ag v1 h=>sR h cB.out (by omega) (by omega) T8.out);clear nu;go_wp2_with fail;refine aH.mono ?_;rintro e w6 ⟨rfl,qp⟩;have hQ:=zH (show ao aa b w g R.asks w6 from bI.out _ (by rw[aE.out];exact qp));clear aH qp;go_wp2_with fail;exact al rfl rfl ⟨rfl,hQ.out⟩
end
end
section
open Go.MapKept
structure Ox where
 ea:Option Addr
 ec:Nat
 ca:Option Addr
 cc:Nat
 sp:Option Addr
 ra:Option Addr
 rc:Nat
 ma:Option Addr
 mc:Nat
def lw:Ox:=⟨none,0,none,0,none,none,0,none,0⟩
def bg(O:Ot)(X:Ox):Array Value:=#[.bool O.save,.bool O.reset,.int .i64 O.hard.term,.int .i64 O.hard.vote,.slice X.ea O.entries.length X.ec,.slice X.ca O.commits.length X.cc,.pointer X.sp,.slice X.ra O.reads.length X.rc,.slice X.ma O.msgs.length X.mc]
def jw(aa:Nat->Nat)(i:Nat)(w:World)(O:Ot)(X:Ox):Prop:=J3 aa i w O (.slice X.ea O.entries.length X.ec) (.slice X.ca O.commits.length X.cc) (.pointer X.sp) (.slice X.ra O.reads.length X.rc) (.slice X.ma O.msgs.length X.mc)
theorem jw.keep{aa:Nat->Nat}{i:Nat}{w w':World}{O:Ot}{X:Ox}(h:jw aa i w O X)(hk:∀j,aa j=i->j<w.heap.size->w'.heap[j]?=w.heap[j]?):jw aa i w' O X:=
 ⟨h.e.keep hk hk,h.c.keep hk hk,h.s.keep hk,h.r.keep hk,h.m.keep hk hk⟩
theorem jw.zero(aa:Nat->Nat)(i:Nat)(w:World):jw aa i w dZ lw:=⟨dU.nil _ _ _ _,dU.nil _ _ _ _,rfl,bQ.nil _ _ _ _ _,iE.nil _ _ _ _⟩
def dA(w:World)(q:Nat)(O:Ot)(X:Ox):World:=
 ((((((((w.setCell ⟨q,0,none⟩ (.bool O.save)).setCell ⟨q,1,none⟩ (.bool O.reset)).setCell ⟨q,2,none⟩ (.int .i64 O.hard.term)).setCell ⟨q,3,none⟩ (.int .i64 O.hard.vote)).setCell ⟨q,4,none⟩ (.slice X.ea O.entries.length X.ec)).setCell ⟨q,5,none⟩ (.slice X.ca O.commits.length X.cc)).setCell ⟨q,6,none⟩ (.pointer X.sp)).setCell ⟨q,7,none⟩ (.slice X.ra O.reads.length X.rc)).setCell ⟨q,8,none⟩ (.slice X.ma O.msgs.length X.mc)
theorem oh(w:World)(q:Nat)(O:Ot)(X:Ox):Fr (fun j=>j=q) w (dA w q O X):=
 have e:∀{a b:World},Fr (fun j=>j=q) w a->Fr (fun j=>j=q) a b->Fr (fun j=>j=q) w b:=fun h h'=>h.trans h' fun _ h=>.inl h
 e (e (e (e (e (e (e (e (Fr.set q _ _) (Fr.set q _ _)) (Fr.set q _ _)) (Fr.set q _ _)) (Fr.set q _ _)) (Fr.set q _ _)) (Fr.set q _ _)) (Fr.set q _ _)) (Fr.set q _ _)
def bZ:Array Value:=#[.bool false,.bool false,.int .i64 0,.int .i64 0,.slice none 0 0,.slice none 0 0,.pointer none,.slice none 0 0,.slice none 0 0]
theorem rV{w:World}{q:Nat}{T:TypeId}(O:Ot)(X:Ox)(h:ar w q T bZ):ar (dA w q O X) q T (bg O X):=by
 have s:=((((((((h.set_ 0 (.bool O.save)).set_ 1 (.bool O.reset)).set_ 2 (.int .i64 O.hard.term)).set_ 3 (.int .i64 O.hard.vote)).set_ 4 (.slice X.ea O.entries.length X.ec)).set_ 5 (.slice X.ca O.commits.length X.cc)).set_ 6 (.pointer X.sp)).set_ 7 (.slice X.ra O.reads.length X.rc)).set_ 8 (.slice X.ma O.msgs.length X.mc);simp only[bZ,Zy]at s;exact s
def eA(aa:Nat->Nat)(b i:Nat)(w:World)(g:Nat)(O:Ot)(R':Rf)(X:Ox)(w':World):Prop:=
 ∃(ak:Nat->Nat) (v':Rw),ax ak b w' g R' v'/\jw ak i w' O X/\(∀j,j<w.heap.size->¬bv aa b j->ak j=aa j)/\(∀j,j<w.heap.size->bv aa b j->bv ak b j\/ak j=i)/\Fr (aN aa b) w w'
section
variable {aa ag:Nat->Nat}{b g i q:Nat}{w w' w1 w2:World}{R R' R1:Rf}{v:Rw}{O:Ot}{X:Ox}{cs:Array Value}
theorem gX(h1:∀j,j<w.heap.size->¬aN aa b j->ag j=aa j){j:Nat}(hj:j<w.heap.size)(hm:aN ag b j):aN aa b j:=by
 rcases Classical.em (aN aa b j)with h|h
 ·exact h
 ·unfold aN at hm h;rw[h1 j hj h]at hm;exact absurd hm h
theorem eA.next(h:eA ag b i w1 g O R' X w2)(h1:∀j,j<w.heap.size->¬aN aa b j->ag j=aa j)(h2:∀j,j<w.heap.size->aN aa b j->aN ag b j)(hF:Fr (aN aa b) w w1):eA aa b i w g O R' X w2:=by
 obtain⟨ak,v',q1,q2,q3,q4,q5⟩:=h;have hs:=hF.size;have hx:∀j,j<w.heap.size->¬aN aa b j->ag j=aa j:=h1;refine⟨ak,v',q1,q2,fun j hj hm=>?_,fun j hj hm=>q4 j (by omega) ?_,hF.trans q5 fun j hj=>?_⟩
 ·have e:=h1 j hj fun h=>hm ⟨h.1,by have:=h.2;omega⟩
  rw[q3 j (by omega) fun h=>hm (by unfold bv at h ⊢;rw[e]at h;exact h)];exact e
 ·rcases Classical.em (aN aa b j)with h|h
  ·have:=h2 j hj h;exact⟨this.1,by have:=this.2;omega⟩
  ·unfold bv at hm ⊢;rw[hx j hj h];exact hm
 ·rcases Nat.lt_or_ge j w.heap.size with hl|hl
  ·exact .inl (gX h1 hl hj)
  ·exact .inr hl
theorem HV(i:Nat)(h:ax aa b w g R v) :
  Calls prog 52 #[.pointer (some ⟨g,0,none⟩)] w fun e w'=>∃X,e=.returned (.agg (bg R.tell.1 X))/\eA aa b i w g R.tell.1 R.tell.2 X w':=by
 refine(Al i h).mono ?_;rintro e w' ⟨rfl,h1,h2,h3⟩;obtain⟨_,⟨A1,d1,E7,_⟩,_⟩:=id h2.e;obtain⟨_,⟨A2,d2,E0,_⟩,_⟩:=id h2.c;obtain⟨A3,IT⟩:∃p,v.snp=.pointer p:=by
  have hn:=h2.s;cases hx:R.tell.1.snap with
  | none=>rw[hx]at hn;exact⟨_,hn⟩
  | some s=>rw[hx]at hn;obtain⟨q,vd,e,_⟩:=hn;exact⟨_,e⟩
 obtain⟨A4,d4,JC,_⟩:=id h2.r;obtain⟨_,⟨A5,d5,Jy,_⟩,_⟩:=id h2.m;rw[E7,E0,IT,JC,Jy]at h2;refine⟨⟨A1,d1,A2,d2,A3,A4,d4,A5,d5⟩,?_,_,_,h1,h2,fun j hj hm=>?_,fun j hj hm=>?_,h3⟩
 ·rw[E7,E0,IT,JC,Jy];rfl
 ·unfold cY;rw[if_neg];unfold bv at hm;omega
 ·by_cases hc:aa j=b+8\/aa j=b+9\/aa j=b+11\/aa j=b+12\/aa j=b+13
  ·exact .inr (if_pos hc)
  ·refine .inl ?_;have e:cY aa b i j=aa j:=if_neg hc;unfold bv at hm ⊢;rw[e];exact hm
theorem ao.take(i:Nat)(h:ao aa b w g R1 w1) :
  Calls prog 52 #[.pointer (some ⟨g,0,none⟩)] w1 fun e w'=>∃X,e=.returned (.agg (bg R1.tell.1 X))/\eA aa b i w g R1.tell.1 R1.tell.2 X w':=by
 obtain⟨ag,v1,h1,q1,q2,q3⟩:=h;refine(HV i h1).mono ?_;rintro e w' ⟨X,rfl,hT⟩;exact⟨X,rfl,hT.next q1 q2 q3⟩
theorem eA.kept(h:eA (ai aa w.heap.size b) b i w1 g O R' X w2)(hq:w.heap.size<=q)(hk:ar w1 q 49 cs):ar w2 q 49 cs:=by
 obtain⟨ak,v',q1,q2,q3,q4,q5⟩:=h;refine(q5.block q hk.lt fun hm=>?_).trans hk;unfold aN at hm;rw[ay hq]at hm;omega
theorem eA.put9(h:eA (ai aa w.heap.size b) b i w1 g O R' X w2)(hb:Below w.heap.size w w1)(hq:w.heap.size<=q)(hk:ar w1 q 49 bZ)(kp:i≠b) :
  ar (dA w2 q O X) q 49 (bg O X)/\eA aa b i w g O R' X (dA w2 q O X):=by
 have eb:=h.kept hq hk;obtain⟨ak,v',q1,q2,q3,q4,q5⟩:=h;have hF:=oh w2 q O X;have hs:=hb.size;have hn:¬bv (ai aa w.heap.size b) b q:=fun hm=>by
  unfold bv at hm;rw[ay hq]at hm;omega
 have nC:ak q=b:=(q3 q hk.lt hn).trans (ay hq);have MX:∀j,j<w.heap.size->(aN (ai aa w.heap.size b) b j↔aN aa b j):=fun j hj=>by
  unfold aN;rw[ac hj]
 have hm:∀j,j<w.heap.size->(bv (ai aa w.heap.size b) b j↔bv aa b j):=fun j hj=>by
  unfold bv;rw[ac hj]
 refine⟨rV O X eb,ak,v',q1.keep fun j hj hl=>hF.block j hl fun e=>?_,q2.keep fun j hj hl=>hF.block j hl fun e=>kp ?_,fun j hj hx=>?_,fun j hj hx=>q4 j (by omega) ((hm j hj).2 hx),?_⟩
 ·unfold bv at hj;rw[e,nC]at hj;omega
 ·rw[<-hj,e];exact nC
 ·rw[q3 j (by omega) fun h=>hx ((hm j hj).1 h)];exact ac hj
 ·refine((Fr.of_below (X:=aN aa b) hb).trans q5 fun j hj=>?_).trans hF fun j e=>.inr (by omega)
  rcases Nat.lt_or_ge j w.heap.size with hl|hl
  ·exact .inl ((MX j hl).1 hj)
  ·exact .inr hl
end
end
section
open Go.MapKept
section
variable {aa:Nat->Nat}{b g:Nat}{w w':World}{R:Rf}{v:Rw}
theorem Jk(h:ax aa b w g R v)(ht:1099511627776<=R.hard.term) :
  Calls prog 51 #[.pointer (some ⟨g,0,none⟩)] w fun e w'=>e=.returned (.tuple #[])/\ao aa b w g R w':=by
 have cQ:=h.s.lt;have c6:=h.s.cell 6;simp only[bE,vi,Zx]at c6;have hP:=zH (show ao aa b w g R w from⟨aa,v,h,fun _ _ _=>rfl,fun _ _ h=>h,Fr.refl _ _⟩);clear h;go_enter func51,ntmps51;go_wp2_with fail;exact aO rfl rfl ⟨rfl,hP.out⟩
theorem yi{K M:Nat}(i:Nat)(draw:Int)(h:ax aa b w g R v)(hk:Ok K M R)(hK:K<=70000)(hM:M<=40000)(kp:i≠b)(zo:-9223372036854775808<=draw)(B9:draw<=9223372036854775807) :
  Calls prog 17 #[.pointer (some ⟨g,0,none⟩),.int .i64 draw] w fun e w'=>∃X,e=.returned (.agg (bg (R.tick draw).1 X))/\eA aa b i w g (R.tick draw).1 (R.tick draw).2 X w':=by
 have cQ:=h.s.lt;have aI:Below w.heap.size w (w.alloc (.cells bZ 49)):=zb.alloc zl _;have bN:=ar.new w 49 bZ;have h1:=h.fresh aI;have re:=hk.ck;obtain⟨w1,bV⟩:=zN (w.alloc (.cells #[.bool false,.bool false,.int .i64 0,.int .i64 0,.slice none 0 0,.slice none 0 0,.pointer none,.slice none 0 0,.slice none 0 0] 49));rw[show w.alloc (.cells bZ 49)=w1 from bV]at aI bN h1;have iQ:g<w1.heap.size:=h1.s.lt;obtain⟨c1,c13,c15,c16,-⟩:=h1.s.cs [1,13,15,16];simp only[bE,vi,Zx]at c1 c13 c15 c16;obtain⟨f1,f15,f16,-⟩:=h1.s.fs [1,15,16];have cj:(R.role=3/\2<=R.clock+1)\/(R.role=3/\¬2<=R.clock+1)\/R.role≠3:=by omega
 rcases cj with⟨hr,hc⟩|⟨hr,hc⟩|hr
 ·have yx:=zH (show R.tick draw=Rf.tell (Rf.all {R with clock:=0,round:=R.round+1}) by unfold Rf.tick Rf.beats;simp only;rw[if_pos hr,if_pos hc]);have cB:Ok (K+1) M {R with clock:=0,round:=R.round+1}:={hk.mono (Nat.le_succ K) (Nat.le_refl M)with ck:=⟨Int.le_refl 0,Int.natCast_nonneg _,by show 0<=R.round+1;omega,by show R.round+1<=_;omega⟩};obtain⟨w3,iU⟩:=zN (((w1.setCell ⟨g,15,none⟩ (.int .i64 (R.clock+1))).setCell ⟨g,15,none⟩ (.int .i64 0)).setCell ⟨g,1,none⟩ (.int .i64 (R.round+1)));have lu:Fr (fun j=>j=g) w1 w3:=by rw[<-iU];exact((Fr.set g 15 _).trans (Fr.set g 15 _) fun _ h=>.inl h).trans (Fr.set g 1 _) fun _ h=>.inl h
  have iT:ar w3 g 107 (bE {R with clock:=0,round:=R.round+1} v):=by
   rw[<-iU];have s:=((h1.s.set_ 15 (.int .i64 (R.clock+1))).set_ 15 (.int .i64 0)).set_ 1 (.int .i64 (R.round+1));simp only[bE,Zy]at s;exact s
  have hP:=ao.nums (R':={R with clock:=0,round:=R.round+1}) h1 iT lu rfl rfl rfl rfl rfl rfl rfl rfl rfl rfl rfl;have eq:=hP.call (fun ag v1 h=>kI h (cB.peers hr (by omega)) (by have:=cB.ms;omega));replace cB:=zH cB;rw[hr]at c13;clear h h1 iT lu hP;go_enter func17,ntmps17;go_wp2_with fail;refine eq.mono ?_;rintro e w4 ⟨rfl,hP⟩;clear eq;obtain⟨O,hO⟩:=zN (Rf.tell (Rf.all {R with clock:=0,round:=R.round+1}));have cf:=hP.take i;rw[show(Rf.tell (Rf.all {R with clock:=0,round:=R.round+1}))=O from hO]at cf;replace hO:=zH hO;unfold bg at cf;go_wp2_with fail;refine cf.mono ?_;rintro e w8 ⟨X,rfl,hT⟩;have eK:=hT.kept zl bN;obtain⟨z0,z1,z2,z3,z4,z5,z6,z7,z8,-⟩:=eK.cs [0,1,2,3,4,5,6,7,8];simp only[bZ,Zx]at z0 z1 z2 z3 z4 z5 z6 z7 z8;obtain⟨y0,y1,y2,y3,y4,y5,y6,y7,y8,-⟩:=eK.fs [0,1,2,3,4,5,6,7,8];obtain⟨jY,eI⟩:=hT.put9 aI zl bN kp;replace eI:=zH eI;clear hT cf eK;go_wp2_with fail;show bodyPost _ _ _ _ _ (dA w8 w.heap.size O.1 X);generalize dA w8 w.heap.size O.1 X=w9 at *;obtain⟨r0,r1,r2,r3,r4,r5,r6,r7,r8,-⟩:=jY.cs [0,1,2,3,4,5,6,7,8];simp only[bg,Zx]at r0 r1 r2 r3 r4 r5 r6 r7 r8;exact bodyPost_ret (v:=.agg (bg O.1 X)) (by simp[results,results17,go_sem,bg,r0,r1,r2,r3,r4,r5,r6,r7,r8]) rfl ⟨X,by rw[yx.out,hO.out],by rw[yx.out,hO.out];exact eI.out⟩
 ·have yx:=zH (show R.tick draw=Rf.tell {R with clock:=R.clock+1} by unfold Rf.tick Rf.beats;simp only;rw[if_pos hr,if_neg hc]);obtain⟨w3,iU⟩:=zN (w1.setCell ⟨g,15,none⟩ (.int .i64 (R.clock+1)));have lu:Fr (fun j=>j=g) w1 w3:=by rw[<-iU];exact Fr.set g 15 _
  have iT:ar w3 g 107 (bE {R with clock:=R.clock+1} v):=by
   rw[<-iU];have s:=h1.s.set_ 15 (.int .i64 (R.clock+1));simp only[bE,Zy]at s;exact s
  have hP:=ao.nums (R':={R with clock:=R.clock+1}) h1 iT lu rfl rfl rfl rfl rfl rfl rfl rfl rfl rfl rfl;obtain⟨d13,d15,-⟩:=iT.cs [13,15];simp only[bE,vi,Zx]at d13 d15;rw[hr]at c13;have d13':w3.cell? ⟨g,13,none⟩=some (.int .i64 3):=by rw[d13,hr]
  clear h h1 iT lu d13;go_enter func17,ntmps17;go_wp2_with fail;obtain⟨O,hO⟩:=zN (Rf.tell {R with clock:=R.clock+1});have cf:=hP.take i;rw[show(Rf.tell {R with clock:=R.clock+1})=O from hO]at cf;replace hO:=zH hO;unfold bg at cf;go_wp2_with fail;refine cf.mono ?_;rintro e w8 ⟨X,rfl,hT⟩;have eK:=hT.kept zl bN;obtain⟨z0,z1,z2,z3,z4,z5,z6,z7,z8,-⟩:=eK.cs [0,1,2,3,4,5,6,7,8];simp only[bZ,Zx]at z0 z1 z2 z3 z4 z5 z6 z7 z8;obtain⟨y0,y1,y2,y3,y4,y5,y6,y7,y8,-⟩:=eK.fs [0,1,2,3,4,5,6,7,8];obtain⟨jY,eI⟩:=hT.put9 aI zl bN kp;replace eI:=zH eI;clear hT cf eK;go_wp2_with fail;show bodyPost _ _ _ _ _ (dA w8 w.heap.size O.1 X);generalize dA w8 w.heap.size O.1 X=w9 at *;obtain⟨r0,r1,r2,r3,r4,r5,r6,r7,r8,-⟩:=jY.cs [0,1,2,3,4,5,6,7,8];simp only[bg,Zx]at r0 r1 r2 r3 r4 r5 r6 r7 r8;exact bodyPost_ret (v:=.agg (bg O.1 X)) (by simp[results,results17,go_sem,bg,r0,r1,r2,r3,r4,r5,r6,r7,r8]) rfl ⟨X,by rw[yx.out,hO.out],by rw[yx.out,hO.out];exact eI.out⟩
 ·obtain⟨wt,Gm⟩:=zN ((if R.wait=0 then gG draw else R.wait));have hb:R.beats draw=if wt<=R.clock+1 then if R.hard.term<i9 then(Rf.rest {R with clock:=R.clock+1,wait:=wt}).asks else Rf.rest {R with clock:=R.clock+1,wait:=wt}else {R with clock:=R.clock+1,wait:=wt}:=by
   unfold Rf.beats;simp only;rw[if_neg hr];by_cases h0:R.wait=0
   ·rw[if_pos h0]at Gm ⊢;rw[Gm]
   ·rw[if_neg h0]at Gm ⊢;rw[<-Gm]
  have N9:(R.role==3)=false:=by simp;exact hr
  have cB:Ok (K+1) M (Rf.rest {R with clock:=R.clock+1,wait:=wt}):={hk.mono (Nat.le_succ K) (Nat.le_refl M)with ck:=⟨Int.le_refl 0,Int.natCast_nonneg _,re.2.2.1,by show R.round<=_;omega⟩};have eS:=Hl draw;have lp:∃ws,ao (ai aa w.heap.size b) b w1 g {R with clock:=R.clock+1,wait:=wt} ws/\ar ws g 107 (bE {R with clock:=R.clock+1,wait:=wt} v)/\
    ((R.wait=0/\wt=gG draw/\(w1.setCell ⟨g,15,none⟩ (.int .i64 (R.clock+1))).setCell ⟨g,16,none⟩ (.int .i64 wt)=ws)\/((wt==0)=false/\w1.setCell ⟨g,15,none⟩ (.int .i64 (R.clock+1))=ws)):=by
   by_cases h0:R.wait=0
   ·rw[if_pos h0]at Gm;have s:=(h1.s.set_ 15 (.int .i64 (R.clock+1))).set_ 16 (.int .i64 wt);simp only[bE,Zy]at s;exact⟨_,ao.nums (R':={R with clock:=R.clock+1,wait:=wt}) h1 s ((Fr.set g 15 _).trans (Fr.set g 16 _) fun _ h=>.inl h) rfl rfl rfl rfl rfl rfl rfl rfl rfl rfl rfl,s,.inl ⟨h0,Gm.symm,rfl⟩⟩
   ·rw[if_neg h0]at Gm;have s:=h1.s.set_ 15 (.int .i64 (R.clock+1));simp only[bE,Zy]at s;rw[Gm]at s;exact⟨_,ao.nums (R':={R with clock:=R.clock+1,wait:=wt}) h1 s (Fr.set g 15 _) rfl rfl rfl rfl rfl rfl rfl rfl rfl rfl rfl,s,.inr ⟨by rw[<-Gm];simp;exact h0,rfl⟩⟩
  obtain⟨ws,RC,Ta,VD⟩:=lp;have cT:=Ta.lt;obtain⟨d13,d15,d16,-⟩:=Ta.cs [13,15,16];simp only[bE,vi,Zx]at d13 d15 d16;have JE:=d13;have Iw:=d16;obtain⟨k15,k16⟩:=nY [g] d15 d16;replace RC:=zH RC;replace cB:=zH cB;clear h h1 Ta d15 d16 d13;replace JE:=zH JE;replace Iw:=zH Iw;by_cases fo:wt<=R.clock+1
  ·rw[if_pos fo]at hb;have AW:=(RC.out.below (w2:=ws.drew) (zb.drew)).call (fun ag v1 h=>rR h);have aF:∃RB,R.tick draw=Rf.tell RB/\∀wr,ao (ai aa w.heap.size b) b w1 g (Rf.rest {R with clock:=R.clock+1,wait:=wt}) wr->Calls prog 51 #[.pointer (some ⟨g,0,none⟩)] wr fun e w'=>e=.returned (.tuple #[])/\ao (ai aa w.heap.size b) b w1 g RB w':=by
    by_cases ht:R.hard.term<i9
    ·rw[if_pos ht]at hb;exact⟨_,by unfold Rf.tick;rw[hb],fun wr hP=>hP.call fun ag v1 h=>Gs h cB.out (by omega) (by omega) ht⟩
    ·rw[if_neg ht]at hb;exact⟨_,by unfold Rf.tick;rw[hb],fun wr hP=>hP.call fun ag v1 h=>Jk h (Int.not_lt.1 ht)⟩
   obtain⟨RB,yx,aH⟩:=aF;replace yx:=zH yx;replace aH:=zH aH;clear hb;obtain⟨L9,ND,_,_⟩:=re;rcases VD with⟨h0,P4,fO⟩|⟨h0,fO⟩
   ·have eS:=eS (w1.setCell ⟨g,15,none⟩ (.int .i64 (R.clock+1))) zo B9;rw[<-P4]at eS;rw[h0]at c16;clear P4 Gm h0;go_enter func17,ntmps17;go_wp2_with fail;refine eS.mono ?_;rintro e w2 ⟨rfl,rfl⟩;clear eS;go_wp2_with fail;try rw[fO]
    refine dV [g] ws [] [0,1,2,3,4,5,6,7,8] ?_;refine aj ?_;simp only[af,Zx];repeat go_big_quiet_step(fail)
    apply wpQuiet_nil;go_wp2_with fail;refine AW.mono ?_;rintro e w4 ⟨rfl,yE⟩;have Ft:=aH.out _ yE;clear yE;go_wp2_with fail;refine Ft.mono ?_;rintro e w5 ⟨rfl,hP⟩;clear Ft;obtain⟨O,hO⟩:=zN (Rf.tell RB);have cf:=hP.take i;rw[show(Rf.tell RB)=O from hO]at cf;replace hO:=zH hO;unfold bg at cf;go_wp2_with fail;refine cf.mono ?_;rintro e w8 ⟨X,rfl,hT⟩;have eK:=hT.kept zl bN;obtain⟨z0,z1,z2,z3,z4,z5,z6,z7,z8,-⟩:=eK.cs [0,1,2,3,4,5,6,7,8];simp only[bZ,Zx]at z0 z1 z2 z3 z4 z5 z6 z7 z8;obtain⟨y0,y1,y2,y3,y4,y5,y6,y7,y8,-⟩:=eK.fs [0,1,2,3,4,5,6,7,8];obtain⟨jY,eI⟩:=hT.put9 aI zl bN kp;replace eI:=zH eI;clear hT cf eK;go_wp2_with fail;show bodyPost _ _ _ _ _ (dA w8 w.heap.size O.1 X);generalize dA w8 w.heap.size O.1 X=w9 at *;obtain⟨r0,r1,r2,r3,r4,r5,r6,r7,r8,-⟩:=jY.cs [0,1,2,3,4,5,6,7,8];simp only[bg,Zx]at r0 r1 r2 r3 r4 r5 r6 r7 r8;exact bodyPost_ret (v:=.agg (bg O.1 X)) (by simp[results,results17,go_sem,bg,r0,r1,r2,r3,r4,r5,r6,r7,r8]) rfl ⟨X,by rw[yx.out,hO.out],by rw[yx.out,hO.out];exact eI.out⟩
   ·have d13:=JE.out;have d16:=Iw.out;clear eS;go_enter func17,ntmps17;go_wp2_with fail;try rw[fO]
    refine dV [g] ws [] [0,1,2,3,4,5,6,7,8] ?_;refine aj ?_;simp only[af,Zx];repeat go_big_quiet_step(fail)
    apply wpQuiet_nil;go_wp2_with fail;refine AW.mono ?_;rintro e w4 ⟨rfl,yE⟩;have Ft:=aH.out _ yE;clear yE;go_wp2_with fail;refine Ft.mono ?_;rintro e w5 ⟨rfl,hP⟩;clear Ft;obtain⟨O,hO⟩:=zN (Rf.tell RB);have cf:=hP.take i;rw[show(Rf.tell RB)=O from hO]at cf;replace hO:=zH hO;unfold bg at cf;go_wp2_with fail;refine cf.mono ?_;rintro e w8 ⟨X,rfl,hT⟩;have eK:=hT.kept zl bN;obtain⟨z0,z1,z2,z3,z4,z5,z6,z7,z8,-⟩:=eK.cs [0,1,2,3,4,5,6,7,8];simp only[bZ,Zx]at z0 z1 z2 z3 z4 z5 z6 z7 z8;obtain⟨y0,y1,y2,y3,y4,y5,y6,y7,y8,-⟩:=eK.fs [0,1,2,3,4,5,6,7,8];obtain⟨jY,eI⟩:=hT.put9 aI zl bN kp;replace eI:=zH eI;clear hT cf eK;go_wp2_with fail;show bodyPost _ _ _ _ _ (dA w8 w.heap.size O.1 X);generalize dA w8 w.heap.size O.1 X=w9 at *;obtain⟨r0,r1,r2,r3,r4,r5,r6,r7,r8,-⟩:=jY.cs [0,1,2,3,4,5,6,7,8];simp only[bg,Zx]at r0 r1 r2 r3 r4 r5 r6 r7 r8;exact bodyPost_ret (v:=.agg (bg O.1 X)) (by simp[results,results17,go_sem,bg,r0,r1,r2,r3,r4,r5,r6,r7,r8]) rfl ⟨X,by rw[yx.out,hO.out],by rw[yx.out,hO.out];exact eI.out⟩
  ·rw[if_neg fo]at hb;have AW:=RC.out.below (w2:=ws.drew) (zb.drew);have yx:=zH (show R.tick draw=Rf.tell {R with clock:=R.clock+1,wait:=wt} by unfold Rf.tick;rw[hb]);clear hb;obtain⟨L9,ND,_,_⟩:=re;rcases VD with⟨h0,P4,fO⟩|⟨h0,fO⟩
   ·have eS:=eS (w1.setCell ⟨g,15,none⟩ (.int .i64 (R.clock+1))) zo B9;rw[<-P4]at eS;rw[h0]at c16;clear P4 Gm h0;go_enter func17,ntmps17;go_wp2_with fail;refine eS.mono ?_;rintro e w2 ⟨rfl,rfl⟩;clear eS;go_wp2_with fail;try rw[fO]
    refine dV [g] ws [] [0,1,2,3,4,5,6,7,8] ?_;refine aj ?_;simp only[af,Zx];repeat go_big_quiet_step(fail)
    apply wpQuiet_nil;go_wp2_with fail;obtain⟨O,hO⟩:=zN (Rf.tell {R with clock:=R.clock+1,wait:=wt});have cf:=AW.take i;rw[show(Rf.tell {R with clock:=R.clock+1,wait:=wt})=O from hO]at cf;replace hO:=zH hO;unfold bg at cf;go_wp2_with fail;refine cf.mono ?_;rintro e w8 ⟨X,rfl,hT⟩;have eK:=hT.kept zl bN;obtain⟨z0,z1,z2,z3,z4,z5,z6,z7,z8,-⟩:=eK.cs [0,1,2,3,4,5,6,7,8];simp only[bZ,Zx]at z0 z1 z2 z3 z4 z5 z6 z7 z8;obtain⟨y0,y1,y2,y3,y4,y5,y6,y7,y8,-⟩:=eK.fs [0,1,2,3,4,5,6,7,8];obtain⟨jY,eI⟩:=hT.put9 aI zl bN kp;replace eI:=zH eI;clear hT cf eK;go_wp2_with fail;show bodyPost _ _ _ _ _ (dA w8 w.heap.size O.1 X);generalize dA w8 w.heap.size O.1 X=w9 at *;obtain⟨r0,r1,r2,r3,r4,r5,r6,r7,r8,-⟩:=jY.cs [0,1,2,3,4,5,6,7,8];simp only[bg,Zx]at r0 r1 r2 r3 r4 r5 r6 r7 r8;exact bodyPost_ret (v:=.agg (bg O.1 X)) (by simp[results,results17,go_sem,bg,r0,r1,r2,r3,r4,r5,r6,r7,r8]) rfl ⟨X,by rw[yx.out,hO.out],by rw[yx.out,hO.out];exact eI.out⟩
   ·have d13:=JE.out;have d16:=Iw.out;clear eS;go_enter func17,ntmps17;go_wp2_with fail;try rw[fO]
    refine dV [g] ws [] [0,1,2,3,4,5,6,7,8] ?_;refine aj ?_;simp only[af,Zx];repeat go_big_quiet_step(fail)
    apply wpQuiet_nil;go_wp2_with fail;obtain⟨O,hO⟩:=zN (Rf.tell {R with clock:=R.clock+1,wait:=wt});have cf:=AW.take i;rw[show(Rf.tell {R with clock:=R.clock+1,wait:=wt})=O from hO]at cf;replace hO:=zH hO;unfold bg at cf;go_wp2_with fail;refine cf.mono ?_;rintro e w8 ⟨X,rfl,hT⟩;have eK:=hT.kept zl bN;obtain⟨z0,z1,z2,z3,z4,z5,z6,z7,z8,-⟩:=eK.cs [0,1,2,3,4,5,6,7,8];simp only[bZ,Zx]at z0 z1 z2 z3 z4 z5 z6 z7 z8;obtain⟨y0,y1,y2,y3,y4,y5,y6,y7,y8,-⟩:=eK.fs [0,1,2,3,4,5,6,7,8];obtain⟨jY,eI⟩:=hT.put9 aI zl bN kp;replace eI:=zH eI;clear hT cf eK;go_wp2_with fail;show bodyPost _ _ _ _ _ (dA w8 w.heap.size O.1 X);generalize dA w8 w.heap.size O.1 X=w9 at *;obtain⟨r0,r1,r2,r3,r4,r5,r6,r7,r8,-⟩:=jY.cs [0,1,2,3,4,5,6,7,8];simp only[bg,Zx]at r0 r1 r2 r3 r4 r5 r6 r7 r8;exact bodyPost_ret (v:=.agg (bg O.1 X)) (by simp[results,results17,go_sem,bg,r0,r1,r2,r3,r4,r5,r6,r7,r8]) rfl ⟨X,by rw[yx.out,hO.out],by rw[yx.out,hO.out];exact eI.out⟩
end
end
section
open Go.MapKept
def pE(aa:Nat->Nat)(b:Nat)(w:World)(g:Nat)(R':Rf)(v:Rw)(w':World):Prop:=
 ∃ak:Nat->Nat,ax ak b w' g R' v/\(∀j,j<w.heap.size->ak j=aa j)/\Fr (aN aa b) w w'
def cJ(aa:Nat->Nat)(b:Nat)(w:World)(g:Nat)(R1:Rf)(N:Nat)(wX:World):Prop:=
 ∃(ak:Nat->Nat) (v':Rw),ax ak b wX g R1 v'/\(∀j,j<w.heap.size->¬aN aa b j->ak j=aa j)/\(∀j,j<w.heap.size->aN aa b j->aN ak b j)/\Fr (aN aa b) w wX/\
  ∀j,w.heap.size<=j->j<w.heap.size+N->j<wX.heap.size/\ak j=b
def boxes(B N:Nat)(w w':World):Prop:=∀j,B<=j->j<B+N->w'.heap[j]?=w.heap[j]?
section
variable {aa ag:Nat->Nat}{b g i q N:Nat}{w w' w1 w2 wX:World}{R R' R1 R2:Rf}{v:Rw}
theorem pE.post(h:pE aa b w g R' v w'):ao aa b w g R' w':=by
 obtain⟨ak,h1,h2,h3⟩:=h;exact⟨ak,v,h1,fun j hj _=>h2 j hj,fun j hj hm=>by unfold aN at hm ⊢;rw[h2 j hj];exact hm,h3⟩
theorem pE.blk(h:pE aa b w g R' v w'):ar w' g 107 (bE R' v):=by
 obtain⟨ak,h1,h2,h3⟩:=h;exact h1.s
theorem cJ.start(h:ax aa b w g R v)(hb:Below w.heap.size w w1)(hN:w.heap.size+N<=w1.heap.size):cJ aa b w g R N w1:=
 ⟨_,v,h.fresh hb,fun j hj _=>ac hj,fun j hj hm=>by unfold aN at hm ⊢;rw[ac hj];exact hm,Fr.of_below hb,fun j h1 h2=>⟨by omega,ay h1⟩⟩
theorem cJ.post(h:cJ aa b w g R1 N wX):ao aa b w g R1 wX:=by
 obtain⟨ak,v',h1,h2,h3,h4,_⟩:=h;exact⟨ak,v',h1,h2,h3,h4⟩
theorem ip(h2:∀j,j<w.heap.size->¬aN aa b j->ag j=aa j)(h3:∀j,j<w.heap.size->aN aa b j->aN ag b j)(h4:Fr (aN aa b) w wX)(h5:∀j,w.heap.size<=j->j<w.heap.size+N->j<wX.heap.size/\ag j=b)
  (hP:ao ag b wX g R2 w'):cJ aa b w g R2 N w'/\boxes w.heap.size N wX w':=by
 obtain⟨bu,v2,q1,q2,q3,q4⟩:=hP;have gu:=h4.size;have tL:∀j,w.heap.size<=j->j<w.heap.size+N->¬aN ag b j:=fun j ha hb hm=>by
  unfold aN at hm;rw[(h5 j ha hb).2]at hm;omega
 refine⟨⟨bu,v2,q1,fun j hj hm=>?_,fun j hj hm=>q3 j (by omega) (h3 j hj hm),h4.trans q4 fun j hj=>?_,fun j ha hb=>?_⟩,fun j ha hb=>q4.block j (h5 j ha hb).1 (tL j ha hb)⟩
 ·rw[q2 j (by omega) fun h=>hm (gX h2 hj h)];exact h2 j hj hm
 ·rcases Nat.lt_or_ge j w.heap.size with hl|hl
  ·exact .inl (gX h2 hl hj)
  ·exact .inr hl
 ·have:=h5 j ha hb;have hq:=q4.size;exact⟨by omega,(q2 j this.1 (tL j ha hb)).trans this.2⟩
theorem cJ.act{f:Nat}{args:Array Value}{E:Ending}(h:cJ aa b w g R1 N wX)(hs:∀ag v1,ax ag b wX g R1 v1->Calls prog f args wX fun e w'=>e=E/\ao ag b wX g R2 w') :
  Calls prog f args wX fun e w'=>e=E/\cJ aa b w g R2 N w'/\boxes w.heap.size N wX w':=by
 obtain⟨ag,v1,h1,h2,h3,h4,h5⟩:=h;refine(hs ag v1 h1).mono ?_;rintro e w' ⟨rfl,hP⟩;exact⟨rfl,ip h2 h3 h4 h5 hP⟩
theorem cJ.below(h:cJ aa b w g R1 N wX)(hb:Below wX.heap.size wX w'):cJ aa b w g R1 N w'/\boxes w.heap.size N wX w':=by
 obtain⟨ag,v1,h1,h2,h3,h4,h5⟩:=h;exact ip h2 h3 h4 h5 ((ao.below (w1:=wX) ⟨ag,v1,h1,fun _ _ _=>rfl,fun _ _ h=>h,Fr.refl _ _⟩ hb))
theorem cJ.set(h:cJ aa b w g R1 N wX){j:Nat}(ha:w.heap.size<=j)(hb:j<w.heap.size+N)(hF:Fr (fun k=>k=j) wX w'):cJ aa b w g R1 N w':=by
 obtain⟨ag,v1,h1,h2,h3,h4,h5⟩:=h;have hs:=hF.size;refine⟨ag,v1,h1.keep fun k hk hl=>hF.block k hl fun e=>?_,h2,h3,h4.trans hF fun k e=>.inr (by omega),fun k ka kb=>⟨by have:=(h5 k ka kb).1;omega,(h5 k ka kb).2⟩⟩;unfold bv at hk;rw[e,(h5 j ha hb).2]at hk;omega
theorem cJ.byt{mi:Nat}{x:Value}{l:List UInt8}(h:cJ aa b w g R1 N wX)(hm:mi<=b\/b+13<mi)(he:bM aa mi w x l):∃ag v1,ax ag b wX g R1 v1/\bM ag mi wX x l:=by
 obtain⟨ag,v1,h1,h2,h3,h4,h5⟩:=h;have hn:∀j,aa j=mi->¬aN aa b j:=fun j e hx=>by unfold aN at hx;omega
 refine⟨ag,v1,h1,(he.relabel (ak:=ag) (k:=mi) fun j hl e=>(h2 j hl (hn j e)).trans e).keep fun j hj nj=>h4.block j nj fun hx=>?_⟩;have h6:=h3 j nj hx;have hj:ag j=mi:=hj;unfold aN at h6;omega
theorem cJ.ens2{mi:Nat}{x:Value}{L:List En}(h:cJ aa b w g R1 N wX)(hm:mi<=b\/b+13<mi)(he:cN aa mi w x L) :
  ∃ag v1,ax ag b wX g R1 v1/\cN ag mi wX x L/\∀w' R2,ao ag b wX g R2 w'->cJ aa b w g R2 N w'/\boxes w.heap.size N wX w':=by
 obtain⟨ag,v1,h1,h2,h3,h4,h5⟩:=h;have hn:∀j,aa j=mi->¬aN aa b j:=fun j e hx=>by unfold aN at hx;omega
 refine⟨ag,v1,h1,?_,fun w' R2 hP=>ip h2 h3 h4 h5 hP⟩;refine(he.relabel (ak:=ag) (k:=mi) fun j hl e=>(h2 j hl (hn j e)).trans e).keep fun j hj nj=>h4.block j nj fun hx=>?_
 have h6:=h3 j nj hx;have hj:ag j=mi:=hj;unfold aN at h6;omega
theorem cJ.raft(h:cJ aa b w g R1 N wX):∃ag v1,ax ag b wX g R1 v1/\∀w' R2,ao ag b wX g R2 w'->cJ aa b w g R2 N w'/\boxes w.heap.size N wX w':=by
 obtain⟨ag,v1,h1,h2,h3,h4,h5⟩:=h;exact⟨ag,v1,h1,fun w' R2 hP=>ip h2 h3 h4 h5 hP⟩
theorem boxes.trans(h:boxes q N w w1)(h':boxes q N w1 w2):boxes q N w w2:=fun j ha hb=>(h' j ha hb).trans (h j ha hb)
theorem boxes.blk{T:TypeId}{cs:Array Value}{k:Nat}(h:boxes q N w w1)(ha:q<=k)(hb:k<q+N)(hk:ar w k T cs):ar w1 k T cs:=(h k ha hb).trans hk
theorem HL(i:Int)(h:ax aa b w g R v)(hN:R.track.L.length<=1000000) :
  Calls prog 127 #[v.trk,.int .i64 i] w fun e w'=>e=.returned (.int .i64 (R.track.dropF i).1)/\pE aa b w g {R with track:=(R.track.dropF i).2} v w':=by
 obtain⟨gt,S,A,n,c,zs,hv,hT,hl⟩:=id h.t;rw[hv];refine(ux i hT (by have:=hT.len.1;omega) zz).mono ?_;rintro e w' ⟨rfl,hP⟩;obtain⟨ak,q1,q2,q3,q4⟩:=ou (q:=b) hT hl hP (by obtain⟨_,_,_,_,_,_,_,_,_,hF⟩:=hP;exact hF.size);rw[<-hv]at q3;obtain⟨h1,h2⟩:=h.track q1 q3 q4;exact⟨rfl,ak,h1,q1,h2⟩
theorem Ak(S2:Nat->Prop)(idx tm:Int)(A2:Option Addr)(m c2:Nat)(ys:List (Value×En))(h:ax aa b w g R v)(hN:R.track.L.length<=1000000)(hr:fu w A2 m ys)(hd:bq S2 w ys)
  (hm:m<=100000) (Ao:m<=c2) (Pq:c2<=maxLen) (ls:∀j,S2 j->aa j≠b+2) (Dg:0<m->∀j,az A2 j->aa j≠b+2) :
  Calls prog 43 #[v.trk,.int .i64 idx,.int .i64 tm,.slice A2 m c2] w fun e w'=>
   e=.returned (.tuple #[.int .i64 (R.track.takeF idx tm (ys.map (·.2))).1.1,.bool (R.track.takeF idx tm (ys.map (·.2))).1.2])/\pE aa b w g {R with track:=(R.track.takeF idx tm (ys.map (·.2))).2} v w':=by
 obtain⟨gt,S,A,n,c,zs,hv,hT,hl⟩:=id h.t;rw[hv];refine(Dz S2 idx tm A2 m c2 ys hT (by have:=hT.len.1;omega) zz hr hd hm Ao Pq (fun j hj e=>ls j hj (hl j (.inl e))) fun h0 j hj e=>Dg h0 j hj (hl j (.inl e))).mono ?_;rintro e w' ⟨rfl,hP⟩;obtain⟨ak,q1,q2,q3,q4⟩:=ou (q:=b) hT hl hP (by obtain⟨_,_,_,_,_,_,_,_,_,hF⟩:=hP;exact hF.size);rw[<-hv]at q3;obtain⟨h1,h2⟩:=h.track q1 q3 q4;exact⟨rfl,ak,h1,q1,h2⟩
end
end
end Go.Proofs.YtjcninheccmpoaaGreat
