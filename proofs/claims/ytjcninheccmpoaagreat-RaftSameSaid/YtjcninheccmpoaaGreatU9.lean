import Derived.Test.YtjcninheccmpoaaGreatU8
set_option maxRecDepth 100000
set_option maxHeartbeats 8000000
set_option linter.all false
namespace Go.Proofs.YtjcninheccmpoaaGreat
open Go.RowKit Go.Proofs.Tryz
structure Gv where
 l:Value
 disk:Value
 net:Value
 log:Value
 pos:Value
 leads:Value
 reads:Value
 early:Bool
 told:Int
def dQ(G:Gp)(v:Gv):Array Value:=#[vi G.n,v.l,v.disk,v.net,v.log,.bool false,v.pos,v.leads,.bool G.two,.bool false,v.reads,.bool v.early,vi v.told,.bool true]
def rM(z:(Value×Value)×gk):List Value:=[vi z.2.hard.term,vi z.2.hard.vote,vi z.2.snap.idx,vi z.2.snap.term,z.1.1,z.1.2]
theorem ja(z:(Value×Value)×gk):(rM z).length=6:=rfl
def HY(aa:Nat->Nat)(q:Nat)(w:World)(z:(Value×Value)×gk):Prop:=cT aa q w z.1.1 z.2.snap.data/\da aa q w z.1.2 z.2.entries
def lW(aa:Nat->Nat)(i q:Nat)(w:World)(v:Value)(ds:List gk):Prop:=
 ∃zs:List ((Value×Value)×gk),aX aa i w 29 6 v ds.length (zs.flatMap rM)/\(∀z∈zs,HY aa q w z)/\zs.map (·.2)=ds
def tK(aa:Nat->Nat)(i q:Nat)(w:World)(v:Value)(ms:List Mg):Prop:=
 ∃zs:List ((Value×Value)×Mg),eP aa i w 39 13 v ms.length (zs.flatMap iC)/\(∀z∈zs,eA aa q w z)/\zs.map (·.2)=ms
def eq(aa:Nat->Nat)(i:Nat)(w:World)(v:Value)(n:Nat):Prop:=
 ∃rs:List (Int×Int×Int),rs.length=n/\aX aa i w 149 3 v n (rs.flatMap fun x=>[vi x.1,vi x.2.1,vi x.2.2])
def kq(p:Nat):Value:=.pointer (some ⟨p,0,none⟩)
structure bB(aa:Nat->Nat)(w:World)(g:Nat)(G:Gp)(v:Gv)(ps:List Nat):Prop where
 s:ay w g 79 (dQ G v)
 sl:aa g=1
 l:aX aa 2 w 32 1 v.l G.n (ps.map kq)
 d:lW aa 3 10 w v.disk G.disk
 m:tK aa 4 10 w v.net G.net
 e:ee aa 5 10 w v.log G.log
 p:aX aa 6 w 3 1 v.pos G.pos.length (G.pos.map vi)
 t:aX aa 7 w 3 1 v.leads G.leads.length (G.leads.map vi)
 r:eq aa 8 w v.reads G.rn
def cW(k:Nat):Prop:=(1<=k/\k<=8)\/k=10
def eK(aa:Nat->Nat)(j:Nat):Prop:=aa j<20/\aa j≠10
def sb(s:Nat):Nat:=20+20*s
def fS(aa:Nat->Nat)(w:World)(n:Nat)(l:List Rf)(ps:List Nat):Prop:=∀s,s<n->∃p rv,ps[s]?=some p/\av aa (sb s) w p (l[s]?.getD AV) rv
section
variable {X:Nat->Prop}{aa ac:Nat->Nat}{w w':World}{g i q k n:Nat}{G:Gp}{v:Gv}{ps:List Nat}{ds:List gk}{ms:List Mg}{u:Value}
theorem HY.keep{z:(Value×Value)×gk}(h:HY aa q w z)(hk:∀j,aa j=q->j<w.heap.size->w'.heap[j]?=w.heap[j]?):HY aa q w' z:=⟨h.1.keep hk,h.2.keep hk⟩
theorem HY.relabel{z:(Value×Value)×gk}(h:HY aa q w z)(hl:∀j,j<w.heap.size->aa j=q->ac j=k):HY ac k w z:=⟨h.1.relabel hl,h.2.relabel hl⟩
theorem lW.keep(h:lW aa i q w u ds)(hk:∀j,aa j=i->j<w.heap.size->w'.heap[j]?=w.heap[j]?)(hq:∀j,aa j=q->j<w.heap.size->w'.heap[j]?=w.heap[j]?):lW aa i q w' u ds:=by
 obtain⟨zs,h1,h2,h3⟩:=h;exact⟨zs,h1.keep hk,fun z hz=>(h2 z hz).keep hq,h3⟩
theorem lW.relabel(h:lW aa i q w u ds)(hl:∀j,j<w.heap.size->aa j=i->ac j=i)(hq:∀j,j<w.heap.size->aa j=q->ac j=q):lW ac i q w u ds:=by
 obtain⟨zs,h1,h2,h3⟩:=h;exact⟨zs,h1.relabel hl,fun z hz=>(h2 z hz).relabel hq,h3⟩
theorem tK.keep(h:tK aa i q w u ms)(hk:∀j,aa j=i->j<w.heap.size->w'.heap[j]?=w.heap[j]?)(hq:∀j,aa j=q->j<w.heap.size->w'.heap[j]?=w.heap[j]?):tK aa i q w' u ms:=by
 obtain⟨zs,h1,h2,h3⟩:=h;exact⟨zs,h1.keep hk,fun z hz=>(h2 z hz).keep hq,h3⟩
theorem tK.relabel(h:tK aa i q w u ms)(hl:∀j,j<w.heap.size->aa j=i->ac j=i)(hq:∀j,j<w.heap.size->aa j=q->ac j=q):tK ac i q w u ms:=by
 obtain⟨zs,h1,h2,h3⟩:=h;exact⟨zs,h1.relabel hl,fun z hz=>(h2 z hz).relabel hq,h3⟩
theorem eq.keep(h:eq aa i w u n)(hk:∀j,aa j=i->j<w.heap.size->w'.heap[j]?=w.heap[j]?):eq aa i w' u n:=by
 obtain⟨rs,h1,h2⟩:=h;exact⟨rs,h1,h2.keep hk⟩
theorem eq.relabel(h:eq aa i w u n)(hl:∀j,j<w.heap.size->aa j=i->ac j=i):eq ac i w u n:=by
 obtain⟨rs,h1,h2⟩:=h;exact⟨rs,h1,h2.relabel hl⟩
theorem bB.keep(h:bB aa w g G v ps)(hk:∀j,cW (aa j)->j<w.heap.size->w'.heap[j]?=w.heap[j]?):bB aa w' g G v ps:=by
 have k:∀i,cW i->∀j,aa j=i->j<w.heap.size->w'.heap[j]?=w.heap[j]?:=fun i hi j hj hl=>hk j (by rw[hj];exact hi) hl
 have q:∀i,1<=i->i<=8->cW i:=fun i h1 h2=>.inl ⟨h1,h2⟩
 have t:cW 10:=.inr rfl;exact⟨(k 1 (q 1 (by omega) (by omega)) g h.sl h.s.lt).trans h.s,h.sl,h.l.keep (k 2 (q 2 (by omega) (by omega))),h.d.keep (k 3 (q 3 (by omega) (by omega))) (k 10 t),h.m.keep (k 4 (q 4 (by omega) (by omega))) (k 10 t),h.e.keep (k 5 (q 5 (by omega) (by omega))) (k 10 t),
  h.p.keep (k 6 (q 6 (by omega) (by omega))),h.t.keep (k 7 (q 7 (by omega) (by omega))),h.r.keep (k 8 (q 8 (by omega) (by omega)))⟩
theorem bB.relabel(h:bB aa w g G v ps)(hl:∀j,j<w.heap.size->cW (aa j)->ac j=aa j):bB ac w g G v ps:=by
 have k:∀i,cW i->∀j,j<w.heap.size->aa j=i->ac j=i:=fun i hi j hj e=>(hl j hj (by rw[e];exact hi)).trans e
 have q:∀i,1<=i->i<=8->cW i:=fun i h1 h2=>.inl ⟨h1,h2⟩
 have t:cW 10:=.inr rfl;exact⟨h.s,k 1 (q 1 (by omega) (by omega)) g h.s.lt h.sl,h.l.relabel (k 2 (q 2 (by omega) (by omega))),h.d.relabel (k 3 (q 3 (by omega) (by omega))) (k 10 t),h.m.relabel (k 4 (q 4 (by omega) (by omega))) (k 10 t),h.e.relabel (k 5 (q 5 (by omega) (by omega))) (k 10 t),
  h.p.relabel (k 6 (q 6 (by omega) (by omega))),h.t.relabel (k 7 (q 7 (by omega) (by omega))),h.r.relabel (k 8 (q 8 (by omega) (by omega)))⟩
theorem bC.grp(h:bC X aa ac w w')(hX:∀j,j<w.heap.size->cW (aa j)->¬X j)(hg:bB aa w g G v ps):bB ac w' g G v ps:=
 h.hold (P:=fun aa w=>bB aa w g G v ps) cW 9 (fun h=>by rcases h with h|h <;> omega) (fun _ _ _ h1 h2=>h1.relabel h2) (fun _ _ _ h1 h2=>h1.keep h2) hX hg
theorem bC.srvs{l:List Rf}(h:bC X aa ac w w')(hX:∀j,j<w.heap.size->X j->aa j<20)(hs:fS aa w n l ps):fS ac w' n l ps:=fun s fw=>by
 obtain⟨p,rv,h1,h2⟩:=hs s fw;refine⟨p,rv,h1,h.raft (fun j hj hm hx=>?_) h2⟩;have:=hX j hj hx;unfold ba sb at hm;omega
theorem bB.turn{G':Gp}{v':Gv}{ps':List Nat}(X:Nat->Prop)(h:bB aa w g G v ps)(hs:ay w' g 79 (dQ G' v'))(gn:w.heap.size<=w'.heap.size)(hl:∀j,j<w.heap.size->cW (aa j)->ac j=aa j)(hF:∀j,j<w.heap.size->cW (aa j)->aa j≠1->¬X (aa j)->w'.heap[j]?=w.heap[j]?)(hX:¬X 10)
  (l:aX ac 2 w' 32 1 v'.l G'.n (ps'.map kq)\/(¬X 2/\v'.l=v.l/\G'.n=G.n/\ps'=ps))
  (d:lW ac 3 10 w' v'.disk G'.disk\/(¬X 3/\v'.disk=v.disk/\G'.disk=G.disk))
  (m:tK ac 4 10 w' v'.net G'.net\/(¬X 4/\v'.net=v.net/\G'.net=G.net))
  (e:ee ac 5 10 w' v'.log G'.log\/(¬X 5/\v'.log=v.log/\G'.log=G.log))
  (p:aX ac 6 w' 3 1 v'.pos G'.pos.length (G'.pos.map vi)\/(¬X 6/\v'.pos=v.pos/\G'.pos=G.pos))
  (t:aX ac 7 w' 3 1 v'.leads G'.leads.length (G'.leads.map vi)\/(¬X 7/\v'.leads=v.leads/\G'.leads=G.leads))
  (r:eq ac 8 w' v'.reads G'.rn\/(¬X 8/\v'.reads=v.reads/\G'.rn=G.rn)):bB ac w' g G' v' ps':=by
 have bV:=h.s.lt;have g4:ac g=1:=(hl g bV (by rw[h.sl];exact .inl ⟨by omega,by omega⟩)).trans h.sl;have lv:bC (fun j=>¬(cW (aa j)/\aa j≠1/\¬X (aa j))) aa ac w {w' with os:=w.os,tape:=w.tape,output:=w.output}:=
  ⟨gn,fun j hj hn=>by
   have hn:=Classical.not_not.1 hn;exact⟨hl j hj hn.1,hF j hj hn.1 hn.2.1 hn.2.2⟩,rfl,rfl,rfl⟩
 have hk:∀i,2<=i->i<=10->i≠9->¬X i->∀j,j<w.heap.size->aa j=i->¬¬(cW (aa j)/\aa j≠1/\¬X (aa j)):=fun i h1 h2 h3 h4 j _ e hn=>hn (by
  rw[e];refine⟨?_,by omega,h4⟩;unfold cW;omega)
 have iq:∀i,2<=i->i<=8->¬X i->∀j,j<w.heap.size->aa j=i\/aa j=10->¬¬(cW (aa j)/\aa j≠1/\¬X (aa j)):=fun i h1 h2 h4 j hj e=>by
  rcases e with e|e
  ·exact hk i h1 (by omega) (by omega) h4 j hj e
  ·exact hk 10 (by omega) (by omega) (by omega) hX j hj e
 have two:∀{P:(Nat->Nat)->World->Prop} (i:Nat),2<=i->i<=8->¬X i->(∀aa ac w,P aa w->(∀j,j<w.heap.size->aa j=i\/aa j=10->ac j=aa j)->P ac w)->
   (∀aa w w',P aa w->(∀j,aa j=i\/aa j=10->j<w.heap.size->w'.heap[j]?=w.heap[j]?)->P aa w')->P aa w->P ac {w' with os:=w.os,tape:=w.tape,output:=w.output}:=fun {P} i h1 h2 h4 p1 p2 hp=>
  lv.hold (fun k=>k=i\/k=10) 0 (by omega) p1 p2 (fun j hj e=>iq i h1 h2 h4 j hj e) hp
 refine⟨hs,g4,?_,?_,?_,?_,?_,?_,?_⟩
 ·rcases l with l|⟨x,e1,e2,e3⟩
  ·exact l
  ·rw[e1,e2,e3];exact two (P:=fun aa w=>aX aa 2 w 32 1 v.l G.n (ps.map kq)) 2 (by omega) (by omega) x (fun _ _ _ a b=>a.relabel fun j hj e=>(b j hj (.inl e)).trans e) (fun _ _ _ a b=>a.keep fun j e hj=>b j (.inl e) hj) h.l
 ·rcases d with d|⟨x,e1,e2⟩
  ·exact d
  ·rw[e1,e2];exact two (P:=fun aa w=>lW aa 3 10 w v.disk G.disk) 3 (by omega) (by omega) x (fun _ _ _ a b=>a.relabel (fun j hj e=>(b j hj (.inl e)).trans e) fun j hj e=>(b j hj (.inr e)).trans e) (fun _ _ _ a b=>a.keep (fun j e hj=>b j (.inl e) hj) fun j e hj=>b j (.inr e) hj) h.d
 ·rcases m with m|⟨x,e1,e2⟩
  ·exact m
  ·rw[e1,e2];exact two (P:=fun aa w=>tK aa 4 10 w v.net G.net) 4 (by omega) (by omega) x (fun _ _ _ a b=>a.relabel (fun j hj e=>(b j hj (.inl e)).trans e) fun j hj e=>(b j hj (.inr e)).trans e) (fun _ _ _ a b=>a.keep (fun j e hj=>b j (.inl e) hj) fun j e hj=>b j (.inr e) hj) h.m
 ·rcases e with e|⟨x,e1,e2⟩
  ·exact e
  ·rw[e1,e2];exact two (P:=fun aa w=>ee aa 5 10 w v.log G.log) 5 (by omega) (by omega) x (fun _ _ _ a b=>a.relabel (fun j hj e=>(b j hj (.inl e)).trans e) fun j hj e=>(b j hj (.inr e)).trans e) (fun _ _ _ a b=>a.keep (fun j e hj=>b j (.inl e) hj) fun j e hj=>b j (.inr e) hj) h.e
 ·rcases p with p|⟨x,e1,e2⟩
  ·exact p
  ·rw[e1,e2];exact two (P:=fun aa w=>aX aa 6 w 3 1 v.pos G.pos.length (G.pos.map vi)) 6 (by omega) (by omega) x (fun _ _ _ a b=>a.relabel fun j hj e=>(b j hj (.inl e)).trans e) (fun _ _ _ a b=>a.keep fun j e hj=>b j (.inl e) hj) h.p
 ·rcases t with t|⟨x,e1,e2⟩
  ·exact t
  ·rw[e1,e2];exact two (P:=fun aa w=>aX aa 7 w 3 1 v.leads G.leads.length (G.leads.map vi)) 7 (by omega) (by omega) x (fun _ _ _ a b=>a.relabel fun j hj e=>(b j hj (.inl e)).trans e) (fun _ _ _ a b=>a.keep fun j e hj=>b j (.inl e) hj) h.t
 ·rcases r with r|⟨x,e1,e2⟩
  ·exact r
  ·rw[e1,e2];exact two (P:=fun aa w=>eq aa 8 w v.reads G.rn) 8 (by omega) (by omega) x (fun _ _ _ a b=>a.relabel fun j hj e=>(b j hj (.inl e)).trans e) (fun _ _ _ a b=>a.keep fun j e hj=>b j (.inl e) hj) h.r
theorem aX.setAt{size n c q i:Nat}{T:TypeId}{xs:List Value}(h:aX aa i w T size (.slice (some ⟨q,0,none⟩) n c) n xs)(j:Nat)(u:Value):aX aa i (w.setCell ⟨q,j,none⟩ u) T size (.slice (some ⟨q,0,none⟩) n c) n (xs.set j u):=by
 obtain⟨A,c',e,h1,h2⟩:=h;injection e with e1 _ e3;subst e1 e3;exact⟨_,_,rfl,(h1.stored j u).1,h2⟩
theorem aX.form{size n i:Nat}{T:TypeId}{u:Value}{xs:List Value}(h:aX aa i w T size u n xs)(hn:0<n):∃q c,u=.slice (some ⟨q,0,none⟩) n c/\n<=c/\c<=maxLen/\aa q=i/\q<w.heap.size/\(∀j y,xs[j]?=some y->w.cell? ⟨q,j,none⟩=some y)/\(∀j,w.frozen? ⟨q,j,none⟩=false):=by
 obtain⟨A,c,rfl,h1,h2⟩:=h;have hb:=aZ h1;rcases h1.2 with⟨_,h0⟩|⟨q,cap,cur,e,_,hg,_⟩
 ·omega
 ·injection e with e1 e2 e3;subst e1;obtain⟨ad,e,hc⟩:=(cj.of_own h1).2 hn;injection e with e;subst e;refine⟨q,c,rfl,hb.1,hb.2,h2 q ⟨_,rfl,rfl⟩,aS hg,fun j y hy=>?_,fun j=>?_⟩
  ·have:=hc j y hy;rw[Addr.add_lit,Nat.zero_add]at this;exact this
  ·simp[World.frozen?,hg]
theorem uC{j:Nat}(h:eK aa j):aa j<20:=by unfold eK at h;omega
theorem Ci{j:Nat}(h:aa j=10):¬eK aa j:=fun hx=>by unfold eK at hx;omega
end
def Oj(l:List Value)(g bx:Nat)(s:Int):Prop:=l.length=69/\l[0]?=some (.pointer (some ⟨g,0,none⟩))/\l[1]?=some (.int .i64 s)/\l[5]?=some (.pointer (some ⟨bx,0,none⟩))
structure H4(aa:Nat->Nat)(g bx:Nat)(G:Gp)(v:Gv)(x y:Int)(w0 w:World):Prop where
 s:ay w g 79 (dQ G v)
 r:eq aa 8 w v.reads G.rn
 b:ay w bx 134 #[.int .i64 x,.int .i64 y]
 f:Below w0.heap.size w0 w
theorem eq.at_{aa:Nat->Nat}{i n k:Nat}{w:World}{u:Value}(h:eq aa i w u n)(hk:k<n) :
  ∃ad c a1 a2 a3,u=.slice (some ad) n c/\n<=c/\w.cell? (ad.add (k*3))=some (.int .i64 a1)/\w.cell? ⟨(ad.add (k*3)).block,(ad.add (k*3)).off+1,none⟩=some (.int .i64 a2)/\w.cell? ⟨(ad.add (k*3)).block,(ad.add (k*3)).off+2,none⟩=some (.int .i64 a3):=by
 obtain⟨rs,hl,A,c,rfl,ho,_⟩:=h;have hb:=aZ ho;obtain⟨ad,rfl,hc⟩:=(cj.of_own ho).2 (by omega);have hz:rs[k]?=some (rs[k]'(by omega)):=List.getElem?_eq_getElem (by omega);obtain⟨x,BZ⟩:∃z,z=rs[k]'(by omega):=⟨_,rfl⟩;rw[<-BZ]at hz;have key:∀j u,j<3->([vi x.1,vi x.2.1,vi x.2.2]:List Value)[j]?=some u->w.cell? (ad.add (k*3+j))=some u:=fun j u hj hu=>hc _ _ ((cB (k:=3) (f:=fun x:Int×Int×Int=>[vi x.1,vi x.2.1,vi x.2.2]) (fun _=>rfl) hj hz).trans hu)
 have c0:=key 0 _ (by omega) rfl;have c1:=key 1 _ (by omega) rfl;have c2:=key 2 _ (by omega) rfl;rw[<-fE,jy _ _ (by omega)]at c1 c2;exact⟨ad,c,x.1,x.2.1,x.2.2,rfl,hb.1,c0,c1,c2⟩
theorem eq.form{aa:Nat->Nat}{i n:Nat}{w:World}{u:Value}(h:eq aa i w u n):∃A c,u=.slice A n c/\n<=c/\c<=maxLen:=by
 obtain⟨rs,hl,A,c,rfl,ho,_⟩:=h;have hb:=aZ ho;exact⟨A,c,rfl,hb.1,hb.2⟩
section
variable {aa:Nat->Nat}{g bx:Nat}{x y s:Int}{G:Gp}{v:Gv}{ps:List Nat}{w0 wx w':World}{K:Go.Act->World->Prop}{Q':Exit->Go.Act->World->Prop}{l:List Value}{H:Ending->World->Prop}
theorem YO(hl:l.length=69/\l[0]?=some (.pointer (some ⟨g,0,none⟩))/\l[1]?=some (.int .i64 s)/\l[2]?=some (.agg #[.int .i64 x,.int .i64 y]))(hK:∀l':List Value,Oj l' g wx.heap.size s->K ⟨l'.toArray,[]⟩ (wx.alloc (.cells #[.int .i64 x,.int .i64 y] 134))):sQ 0 f84 K Q' l wx:=by
 obtain⟨ab,ax,aM,bE⟩:=hl;obtain⟨fr,rfl,ag⟩:=am ab;rw[eZ,ag _ _ ax,ag _ _ aM,ag _ _ bE];clear ab ag ax aM bE;refine lu 0 f84 rfl ?_;go_wp2_with fail;exact⟨rfl,rfl,rfl,rfl⟩
theorem H4.below(h:H4 aa g bx G v x y w0 wx)(hb:Below wx.heap.size wx w'):H4 aa g bx G v x y w0 w':=
 ⟨h.s.kept hb,h.r.keep fun j _ hl=>hb.block j hl,h.b.kept hb,aj h.f hb zl⟩
theorem YP(bP:H4 aa g bx G v x y wx wx)(Zr:g≠bx)(hl:Oj l g bx s)(hK:∀l' w',Oj l' g bx s->H4 aa g bx G v x y wx w'->K ⟨l'.toArray,[]⟩ w')(hH:∀w' (e:Bool) (t:Int),ay w' g 79 (dQ G {v with early:=e,told:=t})->Fr (fun j=>j=g) wx w'->H (.returned (.tuple #[])) w'):sP 1 f84 K H l wx:=by
 obtain⟨A,c,hA,lO,eW⟩:=bP.r.form;obtain⟨n,hn⟩:=zN (G.rn);rw[hn]at hA lO;unfold maxLen at eW;replace bP:=zH bP;replace hA:=zH hA;replace hn:=zH hn;replace hK:=zH hK;replace hH:=zH hH;obtain⟨ab,ax,aM,cP⟩:=hl;obtain⟨fr,rfl,ag⟩:=am ab;rw[eZ,ag _ _ ax,ag _ _ aM,ag _ _ cP];clear ab ag ax aM cP;refine lu 1 f84 rfl ?_;go_wp2_with fail
 go_loopw [6] (fun i6 wr=>∃k:Nat,k<=n/\i6=.int .i64 k/\H4 aa g bx G v x y wx wr) (fun i6 _=>n-(intOf i6).toNat)
 case atStart=>exact⟨0,Nat.zero_le _,rfl,bP.out⟩
 case round=>
  obtain⟨k,hk,rfl,hs⟩:=hrel;obtain⟨z10,z11,z12,-⟩:=hs.s.cs [10,11,12];simp only[dQ,vi,Zx]at z10 z11 z12;rw[hA.out]at z10;by_cases bh:k<n
  ·obtain⟨ad,c1,a1,a2,a3,e1,e2,d0,d1,d2⟩:=hs.r.at_ (k:=k) (by rw[hn.out];exact bh);rw[hA.out,hn.out]at e1;injection e1 with e1 _ e3;subst e1 e3;obtain⟨b0,b1,-⟩:=hs.b.cs [0,1];simp only[Zx]at b0 b1;have bi:=zH (show n-(k+1)<n-k by omega);have hQ:=zH (hs.below ((Below.refl wr.heap.size wr).drew));obtain⟨f11,f12,-⟩:=hs.s.fs [11,12];have bV:=hs.s.lt;have Bq:=zH (Fr.of_below (X:=fun j=>j=g) hs.f);have ci:=zH (fun(e:Bool) (t:Int)=>by
    have hB:ay ((wr.setCell ⟨g,11,none⟩ (.bool e)).setCell ⟨g,12,none⟩ (.int .i64 t)) g 79 (dQ G {v with early:=e,told:=t}):=(hs.s.set_ 11 (.bool e)).set_ 12 (.int .i64 t);exact hH.out (((wr.setCell ⟨g,11,none⟩ (.bool e)).setCell ⟨g,12,none⟩ (.int .i64 t)).drew.drew) e t (hB.kept ((zb.drew).drew)) (((Bq.out.trans (Fr.set g 11 (.bool e)) fun _ h=>.inl h).trans (Fr.set g 12 (.int .i64 t)) fun _ h=>.inl h).trans (Fr.of_below (X:=fun j=>j=g) ((zb.drew).drew)) fun _ h=>.inl h))
   obtain⟨k10,k11,k12,q0,q1,q2,q3,q4⟩:=Uz [g,bx,(ad.add (k*3)).block] z10 z11 z12 d0 d1 d2 b0 b1;replace hs:=zH hs;rcases Bool.eq_false_or_eq_true (a1==s)with h1|h1
   ·rcases Bool.eq_false_or_eq_true (a2==x)with h2|h2
    ·go_wp2_with fail;refine gj [g,bx,(ad.add (k*3)).block] wr [] [0,1,2,3,4,5,6,7,8,9,10,11,12,13,14,15,16,17,18,19,20,21,22] ?_;refine an ?_;simp only[af,Zx];repeat go_big_quiet_step(fail)
     apply wpQuiet_nil;cases he:v.early <;> rw[he]at z11
     ·go_wp2_with fail;go_region;go_wp2_with fail;exact bf rfl rfl (ci.out _ _)
     ·go_wp2_with fail;go_region;go_wp2_with fail;exact bf rfl rfl (ci.out _ _)
    ·go_wp2_with fail;refine gj [g,bx,(ad.add (k*3)).block] wr [] [0,1,2,3,4,5,6,7,8,9,10,11,12,13,14,15,16,17,18,19,20,21,22] ?_;refine an ?_;simp only[af,Zx];repeat go_big_quiet_step(fail)
     apply wpQuiet_nil;go_wp2_with fail;exact⟨⟨k+1,bh,by go_num,hQ.out⟩,by simp[intOf];exact bi.out⟩
   ·go_wp2_with fail;refine gj [g,bx,(ad.add (k*3)).block] wr [] [0,1,2,3,4,5,6,7,8,9,10,11,12,13,14,15,16,17,18,19,20,21,22] ?_;refine an ?_;simp only[af,Zx];repeat go_big_quiet_step(fail)
    apply wpQuiet_nil;go_wp2_with fail;exact⟨⟨k+1,bh,by go_num,hQ.out⟩,by simp[intOf];exact bi.out⟩
  ·have hQ:=zH hs;obtain rfl:k=n:=by omega
   clear hs;go_wp2_with fail;exact hK.out _ _ ⟨rfl,rfl,rfl,rfl⟩ hQ.out
theorem YQ(bP:H4 aa g bx G v x y w0 wx)(hl:Oj l g bx s)(hH:∀w' (e:Bool) (t:Int),ay w' g 79 (dQ G {v with early:=e,told:=t})->Fr (fun j=>j=g) w0 w'->H (.returned (.tuple #[])) w'):tP 2 f84 H l wx:=by
 have f11:=bP.s.free 11;have c11:=bP.s.cell 11;simp only[dQ,Zx]at c11;have bV:=bP.s.lt;have hB:ay (wx.setCell ⟨g,11,none⟩ (.bool true)) g 79 (dQ G {v with early:=true,told:=v.told}):=bP.s.set_ 11 (.bool true);have hE:=zH (hH _ true v.told hB ((Fr.of_below (X:=fun j=>j=g) bP.f).trans (Fr.set g 11 (.bool true)) fun _ h=>.inl h));clear bP hH hB;obtain⟨ab,ax,aM,cP⟩:=hl;obtain⟨fr,rfl,ag⟩:=am ab;rw[eZ,ag _ _ ax,ag _ _ aM,ag _ _ cP];clear ab ag ax aM cP;refine Kw 2 f84 rfl ?_;go_wp2_with fail;exact ai rfl rfl hE.out
theorem Cu(h:bB aa wx g G v ps)(s x y:Int):Calls prog 84 #[.pointer (some ⟨g,0,none⟩),.int .i64 s,.agg #[.int .i64 x,.int .i64 y]] wx fun e w'=>e=.returned (.tuple #[])/\∃(e1:Bool) (t:Int),bB aa w' g G {v with early:=e1,told:=t} ps/\Fr (fun j=>j=g) wx w':=by
 refine bJ (args:=[.pointer (some ⟨g,0,none⟩),.int .i64 s,.agg #[.int .i64 x,.int .i64 y]]) 69 func84 (by kernel_rfl) ntmps84 (by simp) fun la gF cQ=>?_
 have hb:=(Below.refl wx.heap.size wx).alloc zl (.cells #[.int .i64 x,.int .i64 y] 134);have hk:=ay.new wx 134 #[.int .i64 x,.int .i64 y];refine cK (by kernel_rfl) (YO ⟨gF,cQ 0 _ rfl,cQ 1 _ rfl,cQ 2 _ rfl⟩ fun l0 ir=>?_);obtain⟨w1,bM⟩:=zN (wx.alloc (.cells #[.int .i64 x,.int .i64 y] 134));rw[bM]at hb hk;rw[bM];have bV:=h.s.lt;have gn:=hb.size;have hS:H4 aa g wx.heap.size G v x y w1 w1:=⟨h.s.kept hb,h.r.keep fun j _ hl=>hb.block j hl,hk,Below.refl _ _⟩;have aO:∀w' (e:Bool) (t:Int),ay w' g 79 (dQ G {v with early:=e,told:=t})->Fr (fun j=>j=g) w1 w'->(.returned (.tuple #[]):Ending)=.returned (.tuple #[])/\∃(e1:Bool) (t:Int),bB aa w' g G {v with early:=e1,told:=t} ps/\Fr (fun j=>j=g) wx w':=fun w' e t hB hF=>by
  have Bq:=(Fr.of_below (X:=fun j=>j=g) hb).trans hF fun _ h=>.inl h
  refine⟨rfl,e,t,bB.turn (fun _=>False) h hB Bq.size (fun _ _ _=>rfl) (fun j hj _ h1 _=>Bq.block j hj fun e=>h1 (by rw[e];exact h.sl)) (fun h=>h) (.inr ⟨fun h=>h,rfl,rfl,rfl⟩) (.inr ⟨fun h=>h,rfl,rfl⟩) (.inr ⟨fun h=>h,rfl,rfl⟩) (.inr ⟨fun h=>h,rfl,rfl⟩) (.inr ⟨fun h=>h,rfl,rfl⟩) (.inr ⟨fun h=>h,rfl,rfl⟩) (.inr ⟨fun h=>h,rfl,rfl⟩),Bq⟩
 refine cK (by kernel_rfl) (YP hS (by omega) ir (fun l1 w2 dm kh=>?_) aO);exact YQ kh dm aO
end
section
open Go.MapKept
def xE:Array Value:=#[.int .i64 0,.int .i64 0,.int .i64 0,.int .i64 0,.int .i64 0,.int .i64 0,.int .i64 0]
def fb(R:Rf):Array Value:=#[.int .i64 R.role,.int .i64 R.leader,.int .i64 R.hard.term,.int .i64 R.hard.vote,.int .i64 R.commit,.int .i64 R.track.index,.int .i64 R.track.lastF.1]
section
variable {aa:Nat->Nat}{b g:Nat}{w:World}{R:Rf}{v:Rw}
theorem mO(h:av aa b w g R v)(hN:R.track.L.length<=100000000000) :
  Calls prog 31 #[.pointer (some ⟨g,0,none⟩)] w fun e w'=>e=.returned (.agg (fb R))/\Below w.heap.size w w':=by
 have bV:=h.s.lt;have aU:Below w.heap.size w (w.alloc (.cells xE 84)):=zb.alloc zl _;have cA:=ay.new w 84 xE;obtain⟨w1,bM⟩:=zN (w.alloc (.cells #[.int .i64 0,.int .i64 0,.int .i64 0,.int .i64 0,.int .i64 0,.int .i64 0,.int .i64 0] 84));rw[show w.alloc (.cells xE 84)=w1 from bM]at aU cA;have h1:=h.below aU;have a8:=h.s.cell 8;simp only[bt,vi,Zx]at a8;have c8:=h1.s.cell 8;simp only[bt,vi,Zx]at c8;have bD:=nM h1.t;obtain⟨l1,dm⟩:∃l,R.track.lastF.1=l:=⟨_,rfl⟩;obtain⟨i1,xR⟩:∃i,R.track.index=i:=⟨_,rfl⟩;rw[xR]at bD;have bP:fb R=#[.int .i64 R.role,.int .i64 R.leader,.int .i64 R.hard.term,.int .i64 R.hard.vote,.int .i64 R.commit,.int .i64 i1,.int .i64 l1]:=by unfold fb;rw[dm,xR]
 replace bM:=zH bM;replace bP:=zH bP;replace dm:=zH dm;replace xR:=zH xR;have hH:=zH h1;clear h h1;go_enter func31,ntmps31;go_wp2_with fail;rw[bM.out];try go_wp2_with fail
 refine bD.mono ?_;rintro e w2 ⟨rfl,bU⟩;have h2:=hH.out.below bU;have d8:=h2.s.cell 8;simp only[bt,vi,Zx]at d8;have ci:=iy h2.t hN;rw[dm.out]at ci;clear bD h2;go_wp2_with fail;refine ci.mono ?_;rintro e w3 ⟨rfl,cv⟩;have kw:=aj bU cv zl;have h3:=hH.out.below kw;have mu:=cA.kept kw;obtain⟨e6,e7,e12,e13,e14,-⟩:=h3.s.cs [6,7,12,13,14];simp only[bt,vi,Zx]at e6 e7 e12 e13 e14;obtain⟨k6,k7,k12,k13,k14⟩:=O6 [g] e6 e7 e12 e13 e14;obtain⟨z0,z1,z2,z3,z4,z5,z6,-⟩:=mu.cs [0,1,2,3,4,5,6];simp only[xE,vi,Zx]at z0 z1 z2 z3 z4 z5 z6;obtain⟨u0,u1,u2,u3,u4,u5,u6,-⟩:=mu.fs [0,1,2,3,4,5,6];have ip:g<w3.heap.size:=h3.s.lt;have eI:=aj aU kw zl;obtain⟨w4,gi⟩:=zN ((((((((w3.setCell ⟨w.heap.size,0,none⟩ (.int .i64 R.role)).setCell ⟨w.heap.size,1,none⟩ (.int .i64 R.leader)).setCell ⟨w.heap.size,2,none⟩ (.int .i64 R.hard.term)).setCell ⟨w.heap.size,3,none⟩ (.int .i64 R.hard.vote)).setCell ⟨w.heap.size,4,none⟩ (.int .i64 R.commit)).setCell ⟨w.heap.size,5,none⟩ (.int .i64 i1)).setCell ⟨w.heap.size,6,none⟩ (.int .i64 l1)).drew);have LA:ay w4 w.heap.size 84 #[.int .i64 R.role,.int .i64 R.leader,.int .i64 R.hard.term,.int .i64 R.hard.vote,.int .i64 R.commit,.int .i64 i1,.int .i64 l1]:=by
  have s:=((((((mu.set_ 0 (.int .i64 R.role)).set_ 1 (.int .i64 R.leader)).set_ 2 (.int .i64 R.hard.term)).set_ 3 (.int .i64 R.hard.vote)).set_ 4 (.int .i64 R.commit)).set_ 5 (.int .i64 i1)).set_ 6 (.int .i64 l1);simp only[xE,Zy]at s;have s2:=s.kept (zb.drew);rw[gi]at s2;exact s2
 have dV:Below w.heap.size w w4:=by
  rw[<-gi];exact(((((((eI.setCell zl _).setCell zl _).setCell zl _).setCell zl _).setCell zl _).setCell zl _).setCell zl _).drew
 replace gi:=zH gi;clear ci h3 mu;go_wp2_with fail;refine qY [g] w3 [] ([0,1,2,3,4,5,6,7,8,9,10,11,12,13,14,15,16,17,18],19) ?_;refine aE ?_;simp only[af,Zx];repeat go_big_quiet_step(fail)
 apply wpQuiet_nil;go_wp2_with fail;rw[gi.out];obtain⟨r0,r1,r2,r3,r4,r5,r6,-⟩:=LA.cs [0,1,2,3,4,5,6];simp only[Zx]at r0 r1 r2 r3 r4 r5 r6;exact bodyPost_ret (v:=.agg #[.int .i64 R.role,.int .i64 R.leader,.int .i64 R.hard.term,.int .i64 R.hard.vote,.int .i64 R.commit,.int .i64 i1,.int .i64 l1]) (by simp[results,results31,go_sem,r0,r1,r2,r3,r4,r5,r6]) rfl ⟨by rw[bP.out],dV⟩
end
end
def KI(l:List Value)(g bx s:Nat):Prop:=l.length=88/\l[0]?=some (.pointer (some ⟨g,0,none⟩))/\l[1]?=some (.int .i64 s)/\l[4]?=some (.pointer (some ⟨bx,0,none⟩))
structure uR(ao aa:Nat->Nat)(w0 w:World)(g bx:Nat)(G:Gp)(v:Gv)(ps:List Nat)(R:Rf):Prop where
 o:bB aa w g G v ps
 b:ay w bx 84 (fb R)
 bl:aa bx=9
 f:bC (eK ao) ao aa w0 w
section
variable {ao aa:Nat->Nat}{g bx s p:Nat}{G:Gp}{v:Gv}{ps:List Nat}{R:Rf}{w0 wx w':World}{K:Go.Act->World->Prop}{Q':Exit->Go.Act->World->Prop}{l:List Value}{H:Ending->World->Prop}
theorem uR.below(h:uR ao aa w0 wx g bx G v ps R)(hb:Below wx.heap.size wx w'):uR ao (relab aa wx.heap.size 9) w0 w' g bx G v ps R:=
 have hL:=bC.new 9 aa hb
 ⟨hL.grp (fun _ _ _ h=>h) h.o,h.b.kept hb,(ae h.b.lt).trans h.bl,h.f.trans hL fun _ _ _ _ h=>h⟩
theorem SA(h:bB aa wx g G v ps)(hs:s<G.n)(gg:G.n<=7)(hp:ps[s]?=some p)(bP:Calls prog 31 #[.pointer (some ⟨p,0,none⟩)] wx fun e w'=>e=.returned (.agg (fb R))/\Below wx.heap.size wx w')(hl:l.length=88/\l[0]?=some (.pointer (some ⟨g,0,none⟩))/\l[1]?=some (.int .i64 s))(hK:∀l' w' ac bx,KI l' g bx s/\uR aa ac wx w' g bx G v ps R->K ⟨l'.toArray,[]⟩ w'):sQ 0 f82 K Q' l wx:=by
 obtain⟨q,c,hq,jX,eW,fR,kG,aQ,ef⟩:=h.l.form (by omega);have c1:=h.s.cell 1;simp only[dQ,vi,Zx]at c1;rw[hq]at c1;have cp:=aQ s (kq p) (by rw[List.getElem?_map,hp];rfl);unfold kq at cp;have bV:=h.s.lt;obtain⟨n,hn⟩:=zN (G.n);rw[hn]at c1 hs jX;have ou:s<7:=by omega
 have aO:=zH (fun(w1:World) (bH:Below wx.heap.size wx w1)=>show uR aa (relab aa wx.heap.size 9) wx (w1.alloc (.cells (fb R) 84)) g w1.heap.size G v ps R from
  have hb:=aj bH (zb.alloc zl (.cells (fb R) 84)) zl;have hL:=bC.new 9 aa hb
  ⟨hL.grp (fun _ _ _ h=>h) h,ay.new w1 84 (fb R),aA bH.size,hL.mono fun _ _ h=>h.elim⟩)
 replace hK:=zH hK;replace hn:=zH hn;replace aQ:=zH aQ;replace ef:=zH ef;replace hp:=zH hp;unfold fb at bP;clear h;obtain⟨ab,ax,aM⟩:=hl;obtain⟨fr,rfl,ag⟩:=am ab;rw[tx,ag _ _ ax,ag _ _ aM];clear ab ag ax aM;refine lu 0 f82 rfl ?_;go_wp2_with fail;refine bP.mono ?_;rintro e w1 ⟨rfl,bH⟩;have hF:=zH (aO.out w1 bH);clear bP;go_wp2_with fail;exact hK.out _ _ _ _ ⟨⟨rfl,rfl,rfl,rfl⟩,hF.out⟩
theorem SB(h:uR ao aa w0 wx g bx G v ps R)(hl:KI l g bx s)(hH:R.role≠3->H (.returned (.tuple #[])) wx)(hK:∀l':List Value,KI l' g bx s/\R.role=3->K ⟨l'.toArray,[]⟩ wx):sP 1 f82 K H l wx:=by
 have b0:=h.b.cell 0;simp only[fb,vi,Zx]at b0;replace hK:=zH hK;replace hH:=zH hH;clear h;by_cases hr:R.role=3
 ·have h1:(R.role==3)=true:=beq_iff_eq.2 hr;have h2:(R.role !=3)=false:=by rw[bne,h1];rfl
  replace hr:=zH hr;obtain⟨ab,ax,aM,bc⟩:=hl;obtain⟨fr,rfl,ag⟩:=am ab;rw[tx,ag _ _ ax,ag _ _ aM,ag _ _ bc];clear ab ag ax aM bc;refine lu 1 f82 rfl ?_;go_wp2_with fail;exact hK.out _ ⟨⟨rfl,rfl,rfl,rfl⟩,hr.out⟩
 ·have h1:(R.role==3)=false:=beq_eq_false_iff_ne.2 hr;have h2:(R.role !=3)=true:=by rw[bne,h1];rfl
  have vj:=zH (hH.out hr);clear hr hH;obtain⟨ab,ax,aM,bc⟩:=hl;obtain⟨fr,rfl,ag⟩:=am ab;rw[tx,ag _ _ ax,ag _ _ aM,ag _ _ bc];clear ab ag ax aM bc;refine lu 1 f82 rfl ?_;go_wp2_with fail;exact bf rfl rfl vj.out
def pZ(w:World)(p:Addr):Nat:=match w.cell? p with
 | some (.slice _ n _)=>n
 | _=>0
theorem xn(G:Gp)(T:Int):(G.room T).length=max G.leads.length (min (T.toNat+1) 5000):=by
 unfold Gp.room;rw[List.length_append,List.length_replicate];omega
theorem uR.lead_room(h:uR ao aa w0 wx g bx G v ps R):∃A c,v.leads=.slice A G.leads.length c/\G.leads.length<=c/\c<=maxLen:=by
 obtain⟨A,c,e,ho,_⟩:=id h.o.t;have hb:=aZ ho;exact⟨A,c,e,hb.1,hb.2⟩
theorem uR.grow{A3:Option Addr}{c3 m:Nat}{w3:World}(h:uR ao aa w0 wx g bx G v ps R)(hm:G.leads.length=m)
  (aD:aX (relab (relab aa wx.heap.size 9) (wx.alloc (.cells #[.int .i64 0] 3)).heap.size 7) 7 w3 3 1 (.slice A3 (m+1) c3) (m+1) (G.leads.map vi++[.int .i64 0]))
  (hF:Fr (aL (relab aa wx.heap.size 9) 7) (wx.alloc (.cells #[.int .i64 0] 3)) w3) :
  ay w3 g 79 (dQ G v)/\∃ac,uR ao ac w0 (w3.setCell ⟨g,7,none⟩ (.slice A3 (m+1) c3)) g bx {G with leads:=G.leads++[0]} {v with leads:=.slice A3 (m+1) c3} ps R:=by
 have hb:Below wx.heap.size wx (wx.alloc (.cells #[.int .i64 0] 3)):=zb.alloc zl _;have h1:=h.below hb;obtain⟨w1,bM⟩:=zN (wx.alloc (.cells #[.int .i64 0] 3));obtain⟨ar,M7⟩:∃l,relab aa wx.heap.size 9=l:=⟨_,rfl⟩;rw[bM]at aD hF h1;rw[M7]at aD hF h1;have ig:ay w3 g 79 (dQ G v):=(hF.block g h1.o.s.lt fun e=>by have e:ar g=7:=e;have:=h1.o.sl;omega).trans h1.o.s;refine⟨ig,relab ar w1.heap.size 7,?_⟩;have hS:=ig.set_ 7 (.slice A3 (m+1) c3);have gn:=hF.size;have du:=Fr.set (w:=w3) g 7 (.slice A3 (m+1) c3);have bV:=h1.o.s.lt;have dn:∀j,j<w1.heap.size->ar j≠7->ar j≠1->(w3.setCell ⟨g,7,none⟩ (.slice A3 (m+1) c3)).heap[j]?=w1.heap[j]?:=fun j hj h7 oh=>
  (du.block j (by omega) fun e=>oh (by rw[e];exact h1.o.sl)).trans (hF.block j hj h7)
 refine⟨bB.turn (fun i=>i=7) h1.o hS (by have:=du.size;omega) (fun j hj _=>ae hj) (fun j hj _ oh gg=>dn j hj gg oh) (by decide) (.inr ⟨by decide,rfl,rfl,rfl⟩) (.inr ⟨by decide,rfl,rfl⟩) (.inr ⟨by decide,rfl,rfl⟩) (.inr ⟨by decide,rfl,rfl⟩) (.inr ⟨by decide,rfl,rfl⟩) (.inl ?_) (.inr ⟨by decide,rfl,rfl⟩),(dn bx h1.b.lt (by rw[h1.bl];omega) (by rw[h1.bl];omega)).trans h1.b,(ae h1.b.lt).trans h1.bl,h1.f.trans (Y:=fun j=>eK ar j) ⟨by have:=du.size;omega,fun j hj hn=>⟨ae hj,dn j hj (fun e=>hn (by unfold eK;omega)) fun e=>hn (by unfold eK;omega)⟩,?_⟩ fun j _ hn e hx=>hn (by unfold eK at hx ⊢;rw[<-e];exact hx)⟩
 ·show aX (relab ar w1.heap.size 7) 7 _ 3 1 (.slice A3 (m+1) c3) (G.leads++[0]).length ((G.leads++[0]).map vi);rw[List.length_append,List.map_append,hm];exact aD.keep fun j e hj=>du.block j hj fun e2=>by
   rw[e2,ae bV,h1.o.sl]at e;omega
 ·exact⟨du.os.trans hF.os,du.tape.trans hF.tape,du.output.trans hF.output⟩
theorem SC(h:uR ao aa w0 wx g bx G v ps R)(BU:0<=R.hard.term)(pL:R.hard.term<=1099511627776)(hz:G.leads.length<=5000)(hl:KI l g bx s)(hK:∀l' w' ac v',KI l' g bx s/\uR ao ac w0 w' g bx {G with leads:=G.room R.hard.term} v' ps R->K ⟨l'.toArray,[]⟩ w'):sP 2 f82 K H l wx:=by
 have qr:=xn G R.hard.term;obtain⟨rl,J4⟩:=zN ((G.room R.hard.term).length);have Hv:∀k,G.leads.length+k=rl->G.leads++List.replicate k 0=G.room R.hard.term:=fun k e=>by
  unfold Gp.room;congr 2;omega
 rw[J4]at qr;replace hK:=zH hK;replace Hv:=zH Hv;replace J4:=zH J4;replace h:=zH h;obtain⟨T,hT⟩:=zN (R.hard.term);rw[hT]at qr BU pL;obtain⟨n,hn⟩:=zN (G.leads.length);rw[hn]at qr hz;replace hT:=zH hT;replace hn:=zH hn;obtain⟨ab,ax,aM,bc⟩:=hl;obtain⟨fr,rfl,ag⟩:=am ab;rw[tx,ag _ _ ax,ag _ _ aM,ag _ _ bc];clear ab ag ax aM bc;refine lu 2 f82 rfl ?_;go_wp2_with fail
 go_loopw [] (fun wr=>∃(k:Nat) (ac:Nat->Nat) (v':Gv),n+k<=rl/\uR ao ac w0 wr g bx {G with leads:=G.leads++List.replicate k 0} v' ps R) (fun wr=>rl-pZ wr ⟨g,7,none⟩)
 case atStart=>exact⟨0,aa,v,by omega,by rw[List.replicate_zero,List.append_nil];exact h.out⟩
 case round=>
  obtain⟨k,ar,v1,hk,hs⟩:=hrel;obtain⟨m,hm⟩:=zN (n+k);have ab:(G.leads++List.replicate k 0).length=m:=by rw[List.length_append,List.length_replicate,hn.out,hm]
  obtain⟨A,c,hv,uY,eW⟩:=hs.lead_room;have hv:v1.leads=.slice A m c:=hv.trans (by show Value.slice A (G.leads++List.replicate k 0).length c=_;rw[ab]);have uY:m<=c:=by have:(G.leads++List.replicate k 0).length<=c:=uY;omega
  have z7:=hs.o.s.cell 7;simp only[dQ,vi,Zx]at z7;rw[hv]at z7;have f7:=hs.o.s.free 7;have b2:=hs.b.cell 2;simp only[fb,vi,Zx]at b2;rw[hT.out]at b2;have bV:=hs.o.s.lt;have OK:=zH (show pZ wr ⟨g,7,none⟩=m by unfold pZ;rw[z7]);obtain⟨k7,k2⟩:=rQ [g,bx] z7 b2;have hQ:=hs.below ((Below.refl wr.heap.size wr).drew);rcases(show((m:Int)<=T/\(m:Int)<5000)\/((m:Int)<=T/\¬(m:Int)<5000)\/¬((m:Int)<=T) by omega)with⟨d1,d2⟩|⟨d1,d2⟩|d1
  ·have OT:m+1<=rl:=by omega
   have aU:Below wr.drew.heap.size wr.drew (wr.drew.alloc (.cells #[.int .i64 0] 3)):=zb.alloc zl _;have aJ:aX (relab (relab ar wr.heap.size 9) wr.drew.heap.size 9) 7 (wr.drew.alloc (.cells #[.int .i64 0] 3)) 3 1 (.slice A m c) m ((G.leads++List.replicate k 0).map vi):=by
    have t:=(hQ.below aU).o.t;rw[hv]at t;have t:aX (relab (relab ar wr.heap.size 9) wr.drew.heap.size 9) 7 (wr.drew.alloc (.cells #[.int .i64 0] 3)) 3 1 (.slice A m c) (G.leads++List.replicate k 0).length ((G.leads++List.replicate k 0).map vi):=t;rw[ab]at t;exact t
   have eu:=ay.new wr.drew 3 #[.int .i64 0];have fo:=fun A3 c3 w3 aD hF=>show ay w3 g 79 (dQ {G with leads:=G.leads++List.replicate k 0} v1)/\RowKit.Hid ((∃(k:Nat) (ac:Nat->Nat) (v':Gv),n+k<=rl/\uR ao ac w0 (w3.setCell ⟨g,7,none⟩ (.slice A3 (m+1) c3)) g bx {G with leads:=G.leads++List.replicate k 0} v' ps R)/\rl-pZ (w3.setCell ⟨g,7,none⟩ (.slice A3 (m+1) c3)) ⟨g,7,none⟩<rl-pZ wr ⟨g,7,none⟩)from by
    obtain⟨g1,bK,g2⟩:=hQ.grow (A3:=A3) (c3:=c3) (m:=m) (w3:=w3) ab aD hF;refine⟨g1,zH ⟨⟨k+1,bK,{v1 with leads:=.slice A3 (m+1) c3},by omega,?_⟩,?_⟩⟩
    ·rw[List.replicate_succ',<-List.append_assoc];exact g2
    ·have z:=g2.o.s.cell 7;simp only[dQ,Zx]at z;have e:pZ (w3.setCell ⟨g,7,none⟩ (.slice A3 (m+1) c3)) ⟨g,7,none⟩=m+1:=by unfold pZ;rw[z]
     rw[e,OK.out];omega
   replace d1:=decide_eq_true d1;replace d2:=decide_eq_true d2;replace hs:=zH hs;replace fo:=zH fo;clear hQ ab hv aU;go_wp2_with fail;refine gj [g,bx] wr [] [0,1,2,3,4,5,6,7,8,9,10,11,12,13,14,15,16] ?_;refine an ?_;simp only[af,Zx];repeat go_big_quiet_step(fail)
   apply wpQuiet_nil;go_wp2_with (at_builtin;refine jI rfl (.tmp 38) (.tmp 39) rfl rfl aJ rfl eu rfl (by omega) ?_;intro A3 c3 w3 bg dW;obtain⟨ig,pp⟩:=fo.out A3 c3 w3 bg dW;have y7:=ig.cell 7;have u7:=ig.free 7;simp only[dQ,Zx]at y7;clear fo bg dW ig);exact pp.out
  ·have hQ:=zH hQ;have he:=zH (Hv.out k (by have:=hn.out;omega));replace d1:=decide_eq_true d1;replace d2:=decide_eq_false d2;replace hs:=zH hs;clear ab hv;go_wp2_with fail;refine gj [g,bx] wr [] [0,1,2,3,4,5,6,7,8,9,10,11,12,13,14,15,16] ?_;refine an ?_;simp only[af,Zx];repeat go_big_quiet_step(fail)
   apply wpQuiet_nil;go_wp2_with fail;exact hK.out _ _ _ _ ⟨⟨rfl,rfl,rfl,rfl⟩,by rw[<-he.out];exact hQ.out⟩
  ·have hQ:=zH hQ;have he:=zH (Hv.out k (by have:=hn.out;omega));replace d1:=decide_eq_false d1;replace hs:=zH hs;clear ab hv;go_wp2_with fail;refine gj [g,bx] wr [] [0,1,2,3,4,5,6,7,8,9,10,11,12,13,14,15,16] ?_;refine an ?_;simp only[af,Zx];repeat go_big_quiet_step(fail)
   apply wpQuiet_nil;go_wp2_with fail;exact hK.out _ _ _ _ ⟨⟨rfl,rfl,rfl,rfl⟩,by rw[<-he.out];exact hQ.out⟩
theorem uR.seen{m c q:Nat}(h:uR ao aa w0 wx g bx G v ps R)(hq:v.leads=.slice (some ⟨q,0,none⟩) m c)(hm:G.leads.length=m)(fR:aa q=7)(kG:q<wx.heap.size)(t:Nat)(b:Bool)(y:Int)(hb:Below wx.heap.size ((wx.setCell ⟨g,8,none⟩ (.bool b)).setCell ⟨q,t,none⟩ (.int .i64 y)) w') :
  bB aa w' g {G with two:=b,leads:=G.leads.set t y} v ps/\bC (eK ao) ao aa w0 w':=by
 have cH:g≠q:=fun e=>by rw[<-e]at fR;have:=h.o.sl;omega
 have hS:ay ((wx.setCell ⟨g,8,none⟩ (.bool b)).setCell ⟨q,t,none⟩ (.int .i64 y)) g 79 (dQ {G with two:=b,leads:=G.leads.set t y} v):=(h.o.s.set_ 8 (.bool b)).far (p:=⟨q,t,none⟩) cH (.int .i64 y);have pG:=Fr.set (w:=wx) g 8 (.bool b);have pj:=Fr.set (w:=wx.setCell ⟨g,8,none⟩ (.bool b)) q t (.int .i64 y);have eC:=pG.size;have oo:=pj.size;have aD:=h.o.t.keep (w':=wx.setCell ⟨g,8,none⟩ (.bool b)) fun j e hj=>pG.block j hj fun e2=>by rw[e2,h.o.sl]at e;omega
 rw[hq,hm]at aD;have jc:=aD.setAt t (.int .i64 y);have hG:bB aa ((wx.setCell ⟨g,8,none⟩ (.bool b)).setCell ⟨q,t,none⟩ (.int .i64 y)) g {G with two:=b,leads:=G.leads.set t y} v ps:=bB.turn (fun i=>i=7) h.o hS (by omega) (fun _ _ _=>rfl) (fun j hj _ h1 h7=>(pj.block j (by omega) fun e=>h7 (by rw[e];exact fR)).trans (pG.block j hj fun e=>h1 (by rw[e];exact h.o.sl))) (by decide) (.inr ⟨by decide,rfl,rfl,rfl⟩) (.inr ⟨by decide,rfl,rfl⟩) (.inr ⟨by decide,rfl,rfl⟩) (.inr ⟨by decide,rfl,rfl⟩) (.inr ⟨by decide,rfl,rfl⟩) (.inl (by
  show aX aa 7 _ 3 1 v.leads (G.leads.set t y).length ((G.leads.set t y).map vi);rw[List.length_set,hm,List.map_set,hq];exact jc)) (.inr ⟨by decide,rfl,rfl⟩)
 have esz:∀(w:World) (p:Addr) (u:Value),(w.setCell p u).heap.size=w.heap.size:=fun w p u=>by simp[World.setCell]
 refine⟨hG.keep fun j _ hj=>hb.block j (by rw[esz,esz]at hj;exact hj),?_⟩;have hL:bC (eK aa) aa aa wx w':=⟨by have:=hb.size;omega,fun j hj hn=>⟨rfl,(hb.block j hj).trans ((pj.block j (by omega) fun e=>hn (by rw[e];unfold eK;omega)).trans (pG.block j hj fun e=>hn (by rw[e];unfold eK;have:=h.o.sl;omega)))⟩,hb.os,hb.tape,hb.output⟩;exact h.f.trans hL fun j _ hn e hx=>hn (by unfold eK at hx ⊢;rw[<-e];exact hx)
theorem SD(h:uR ao aa w0 wx g bx G v ps R)(BU:0<=R.hard.term)(pL:R.hard.term<=1099511627776)(BV:G.two=false)(ou:s<7)(WY:G.leads.length<=5000)(hl:KI l g bx s)(hH:∀w' ac v',bB ac w' g (if R.hard.term<G.leads.length then {G with two:=decide (G.leads[R.hard.term.toNat]?.getD 0≠0/\G.leads[R.hard.term.toNat]?.getD 0≠(s:Int)+1),leads:=G.leads.set R.hard.term.toNat ((s:Int)+1)}else G) v' ps->bC (eK ao) ao ac w0 w'->H (.returned (.tuple #[])) w'):tP 3 f82 H l wx:=by
 obtain⟨t,ht⟩:∃t:Nat,R.hard.term=t:=⟨_,(Int.toNat_of_nonneg BU).symm⟩;obtain⟨m,hm⟩:=zN (G.leads.length);obtain⟨A,c,hv,uY,eW⟩:=h.lead_room;rw[hm]at hv uY WY;obtain⟨z7,z8,-⟩:=h.o.s.cs [7,8];simp only[dQ,vi,Zx]at z7 z8;rw[hv]at z7;rw[BV]at z8;have b2:=h.b.cell 2;simp only[fb,vi,Zx]at b2;rw[ht]at b2;have f8:=h.o.s.free 8;have bV:=h.o.s.lt;have uV:=h.b.lt;obtain⟨k7,k2⟩:=rQ [g,bx] z7 b2;rw[ht,hm,Int.toNat_natCast]at hH;rw[ht]at pL;by_cases bh:t<m
 ·rw[if_pos (by omega)]at hH;obtain⟨q,c',hq,jX,_,fR,kG,aQ,ef⟩:=h.o.t.form (by omega);rw[hv,hm]at hq;injection hq with e1 _ e3;subst e1 e3;obtain⟨x,hx⟩:∃x,G.leads[t]?=some x:=⟨_,List.getElem?_eq_getElem (by omega)⟩;have cq:wx.cell? ⟨q,t,none⟩=some (.int .i64 x):=aQ t (vi x) (by rw[List.getElem?_map,hx];rfl);have fq:=ef t;rw[hx]at hH;simp only[Option.getD_some]at hH;have XM:q≠g:=fun e=>by rw[e]at fR;have:=h.o.sl;omega
  have d1:decide ((t:Int)<(m:Int))=true:=decide_eq_true (by omega);have ci:=zH (fun(b:Bool) (e:decide (x≠0/\x≠(s:Int)+1)=b)=>by
   obtain⟨g1,g2⟩:=h.seen (b:=b) (w':=((wx.setCell ⟨g,8,none⟩ (.bool b)).setCell ⟨q,t,none⟩ (.int .i64 ((s:Int)+1))).drew.drew.drew) hv hm fR kG t ((s:Int)+1) (Below.refl wx.heap.size _).drew.drew.drew;have hh:=hH (((wx.setCell ⟨g,8,none⟩ (.bool b)).setCell ⟨q,t,none⟩ (.int .i64 ((s:Int)+1))).drew.drew.drew) aa v;rw[e]at hh;exact hh g1 g2)
  replace h:=zH h;clear hH;replace aQ:=zH aQ;replace ef:=zH ef;clear hx hv BV jX;obtain⟨ab,ax,aM,bc⟩:=hl;obtain⟨fr,rfl,ag⟩:=am ab;rw[tx,ag _ _ ax,ag _ _ aM,ag _ _ bc];clear ab ag ax aM bc;refine Kw 3 f82 rfl ?_;go_wp2_with fail;refine gj [g,bx] wx [] [0,1,2,3,4,5,6,7,8] ?_;refine an ?_;simp only[af,Zx];repeat go_big_quiet_step(fail)
  apply wpQuiet_nil;go_wp2_with fail;have j7:=zK [g,bx,q] (w:=wx.drew) z7 (by simp);have j2:=zK [g,bx,q] (w:=wx.drew) b2 (by simp);have jq:=zK [g,bx,q] (w:=wx.drew) cq (by simp);refine bo (C:=cr [g,bx,q] wx.drew) [] [0,1,2,3,4,5,6,7,8,9] (by kernel_rfl) (by kernel_rfl) (fun _ _ _ _ e h=>⟨e.symm.trans h.1,h.2⟩) az ?_;refine an ?_;simp only[af,Zx];repeat go_big_quiet_step(fail)
  apply wpQuiet_nil;have Dn:(x=0)\/(¬x=0/\x=(s:Int)+1)\/(¬x=0/\¬x=(s:Int)+1):=by omega
  rcases Dn with i1|⟨i1,i2⟩|⟨i1,i2⟩
  ·have e1:(x==0)=true:=beq_iff_eq.2 i1;have e2:(x !=0)=false:=by rw[bne,e1];rfl
   have hE:=zH (ci.out false (decide_eq_false fun hh=>hh.1 i1));clear i1 ci;go_wp2_with fail;go_region;go_wp2_with fail;exact ai rfl rfl hE.out
  ·have e1:(x==0)=false:=beq_eq_false_iff_ne.2 i1;have e2:(x !=0)=true:=by rw[bne,e1];rfl
   have e3:(x==(s:Int)+1)=true:=beq_iff_eq.2 i2;have e4:(x !=(s:Int)+1)=false:=by rw[bne,e3];rfl
   have hE:=zH (ci.out false (decide_eq_false fun hh=>hh.2 i2));clear i1 i2 ci;go_wp2_with fail;go_region;go_wp2_with fail;exact ai rfl rfl hE.out
  ·have e1:(x==0)=false:=beq_eq_false_iff_ne.2 i1;have e2:(x !=0)=true:=by rw[bne,e1];rfl
   have e3:(x==(s:Int)+1)=false:=beq_eq_false_iff_ne.2 i2;have e4:(x !=(s:Int)+1)=true:=by rw[bne,e3];rfl
   have hE:=zH (ci.out true (decide_eq_true ⟨i1,i2⟩));clear i1 i2 ci;go_wp2_with fail;go_region;go_wp2_with fail;exact ai rfl rfl hE.out
 ·rw[if_neg (by omega)]at hH;have d1:decide ((t:Int)<(m:Int))=false:=decide_eq_false (by omega);have hb:Below wx.heap.size wx wx.drew:=zb.drew;have hE:=zH (hH wx.drew aa v (h.o.keep fun j _ hl=>hb.block j hl) (h.f.trans (bC.same aa hb) fun _ _ _ _ hx=>hx));replace h:=zH h;clear hH hv BV;obtain⟨ab,ax,aM,bc⟩:=hl;obtain⟨fr,rfl,ag⟩:=am ab;rw[tx,ag _ _ ax,ag _ _ aM,ag _ _ bc];clear ab ag ax aM bc;refine Kw 3 f82 rfl ?_;go_wp2_with fail;refine gj [g,bx] wx [] [0,1,2,3,4,5,6,7,8] ?_;refine an ?_;simp only[af,Zx];repeat go_big_quiet_step(fail)
  apply wpQuiet_nil;go_wp2_with fail;exact ai rfl rfl hE.out
theorem B6(h:bB aa wx g G v ps)(hs:s<G.n)(gg:G.n<=7)(hp:ps[s]?=some p){rv:Rw}(hr:av aa (sb s) wx p (G.srv s) rv)(hN:(G.srv s).track.L.length<=100000000000)(BU:0<=(G.srv s).hard.term)(pL:(G.srv s).hard.term<=1099511627776)(Ro:G.leads.length<=5000)(BV:G.two=false) :
  Calls prog 82 #[.pointer (some ⟨g,0,none⟩),.int .i64 s] wx fun e w'=>e=.returned (.tuple #[])/\∃ac v',bB ac w' g (G.looks s) v' ps/\bC (eK aa) aa ac wx w':=by
 refine bJ (args:=[.pointer (some ⟨g,0,none⟩),.int .i64 s]) 88 func82 (by kernel_rfl) ntmps82 (by simp) fun la gF cQ=>?_
 refine cK (by kernel_rfl) (SA h hs gg hp (mO hr hN) ⟨gF,cQ 0 _ rfl,cQ 1 _ rfl⟩ fun l0 w1 ar bx h1=>?_);obtain⟨dm,g4⟩:=h1;refine cK (by kernel_rfl) (SB g4 dm (fun dn=>?_) fun l1 h2=>?_)
 ·refine⟨rfl,ar,v,?_,g4.f⟩;unfold Gp.looks;rw[if_neg dn];exact g4.o
 ·obtain⟨fB,AA⟩:=h2;refine cK (by kernel_rfl) (SC g4 BU pL Ro fB fun l3 w3 dX v3 h3=>?_);obtain⟨oe,ip⟩:=h3;refine SD ip BU pL BV (by omega) (by show(G.room (G.srv s).hard.term).length<=5000;rw[xn];omega) oe fun w4 su v4 MK De=>⟨rfl,su,v4,?_,De⟩
  have e:G.looks s=if(G.srv s).hard.term<(G.room (G.srv s).hard.term).length then {G with two:=decide ((G.room (G.srv s).hard.term)[(G.srv s).hard.term.toNat]?.getD 0≠0/\(G.room (G.srv s).hard.term)[(G.srv s).hard.term.toNat]?.getD 0≠(s:Int)+1),leads:=(G.room (G.srv s).hard.term).set (G.srv s).hard.term.toNat ((s:Int)+1)}else {G with leads:=G.room (G.srv s).hard.term}:=by
   unfold Gp.looks;rw[if_pos AA,BV,Bool.false_or]
  rw[e];exact MK
end
theorem ee.ens{aa:Nat->Nat}{i n c:Nat}{w:World}{A:Option Addr}{L:List En}(h:ee aa i i w (.slice A n c) L):da aa i w (.slice A n c) L:=by
 obtain⟨zs,⟨A',c',e,ho,hl⟩,hd,hm⟩:=h;injection e with e1 e2 e3;subst e1 e2 e3;have hb:=aZ ho;exact⟨A,L.length,c,zs,rfl,cj.of_own ho,hd,hm,hb.1,hb.2,fun _ j hj=>hl j hj⟩
theorem fd.ents{aa:Nat->Nat}{i:Nat}{w:World}{o:Ot}{X:Ox}(h:fd aa i w o X):∃zs,im w X.ea o.entries.length zs/\bA (aL aa i) w zs/\zs.map (·.2)=o.entries/\o.entries.length<=X.ec/\X.ec<=maxLen:=by
 obtain⟨zs,⟨A,c,e,ho,_⟩,hd,hm⟩:=h.e;injection e with e1 e2 e3;subst e1 e3;have hb:=aZ ho;exact⟨zs,cj.of_own ho,hd,hm,hb.1,hb.2⟩
theorem fd.snp{aa:Nat->Nat}{i:Nat}{w:World}{o:Ot}{X:Ox}(h:fd aa i w o X):(o.snap=none/\X.sp=none)\/∃x q A n c,o.snap=some x/\X.sp=some ⟨q,0,none⟩/\aa q=i/\ay w q 26 #[.int .i64 x.idx,.int .i64 x.term,.slice A n c]/\cT aa i w (.slice A n c) x.data:=by
 have hs:=h.s;cases hx:o.snap with
 | none=>
  rw[hx]at hs;injection hs with hs;exact .inl ⟨rfl,hs⟩
 | some x=>
  rw[hx]at hs;obtain⟨q,vd,h1,h2,h3,h4,_⟩:=hs;injection h1 with h1;obtain⟨A,c,e,_⟩:=id h4;rw[e]at h3 h4;exact .inr ⟨x,q,A,_,c,rfl,h1,h2,h3,h4⟩
structure mU(ao aa:Nat->Nat)(w0 w:World)(g b1 b2:Nat)(G:Gp)(v:Gv)(ps:List Nat)(o:Ot)(X:Ox)(d:gk)(vd ve:Value):Prop where
 gr:bB aa w g G v ps
 k1:ay w b1 49 (aK o X)
 k2:ay w b2 29 #[.int .i64 d.hard.term,.int .i64 d.hard.vote,.int .i64 d.snap.idx,.int .i64 d.snap.term,vd,ve]
 l1:aa b1=9
 l2:aa b2=9
 x:fd aa 10 w o X
 dd:cT aa 10 w vd d.snap.data
 de:da aa 10 w ve d.entries
 f:bC (eK ao) ao aa w0 w
def S0(k:Nat):Prop:=(1<=k/\k<=10)
def KJ(l:List Value)(g b1 b2 s:Nat):Prop:=l.length=76/\l[0]?=some (.pointer (some ⟨g,0,none⟩))/\l[1]?=some (.int .i64 s)/\l[5]?=some (.pointer (some ⟨b1,0,none⟩))/\l[6]?=some (.pointer (some ⟨b2,0,none⟩))
section
variable {X':Nat->Prop}{ao aa ac:Nat->Nat}{g b1 b2 s p:Nat}{G:Gp}{v:Gv}{ps:List Nat}{o:Ot}{X:Ox}{d d':gk}{vd ve vd' ve':Value}{w0 wx w':World}{K:Go.Act->World->Prop}{Q':Exit->Go.Act->World->Prop}{l:List Value}{H:Ending->World->Prop}
theorem mU.leaves(h:mU ao aa w0 wx g b1 b2 G v ps o X d vd ve)(hL:bC X' aa ac wx w')(hX:∀j,j<wx.heap.size->X' j->aa j=0\/(10<aa j/\aa j<20)):mU ao ac w0 w' g b1 b2 G v ps o X d vd ve:=by
 have k:∀i,1<=i->i<=10->∀j,j<wx.heap.size->aa j=i->¬X' j:=fun i h1 h2 j hj e hx=>by
  have:=hX j hj hx;omega
 have kg:∀j,j<wx.heap.size->cW (aa j)->¬X' j:=fun j hj hg hx=>by
  have:=hX j hj hx;unfold cW at hg;omega
 have s1:=hL.stay b1 h.k1.lt (k 9 (by omega) (by omega) b1 h.k1.lt h.l1);have s2:=hL.stay b2 h.k2.lt (k 9 (by omega) (by omega) b2 h.k2.lt h.l2);exact⟨hL.grp kg h.gr,s1.2.trans h.k1,s2.2.trans h.k2,s1.1.trans h.l1,s2.1.trans h.l2,hL.outX (k 10 (by omega) (by omega)) h.x,hL.byt (k 10 (by omega) (by omega)) h.dd,hL.ens (k 10 (by omega) (by omega)) h.de,
  h.f.trans hL fun j hj hn e hx=>hn (by
   have:=hX j (Nat.lt_of_lt_of_le hj h.f.size) hx;rw[e]at this;unfold eK;omega)⟩
theorem mU.below(h:mU ao aa w0 wx g b1 b2 G v ps o X d vd ve)(hb:Below wx.heap.size wx w'):mU ao aa w0 w' g b1 b2 G v ps o X d vd ve:=h.leaves (bC.same aa hb) fun _ _ hf=>hf.elim
theorem mU.set(h:mU ao aa w0 wx g b1 b2 G v ps o X d vd ve)(hB:ay w' b2 29 #[.int .i64 d'.hard.term,.int .i64 d'.hard.vote,.int .i64 d'.snap.idx,.int .i64 d'.snap.term,vd',ve'])(hF:Fr (fun j=>j=b2) wx w')(hd:cT aa 10 wx vd' d'.snap.data)(he:da aa 10 wx ve' d'.entries)(cH:b1≠b2):mU ao aa w0 w' g b1 b2 G v ps o X d' vd' ve':=by
 have hL:bC (fun j=>j=b2) aa aa wx w':=bC.of_fr hF fun j _ hn=>⟨rfl,hn⟩
 have k:∀j,j<wx.heap.size->aa j=10->¬j=b2:=fun j _ e e2=>by
  have:=h.l2;rw[e2]at e;omega
 refine⟨hL.grp (fun j _ hg e=>?_) h.gr,(hF.block b1 h.k1.lt cH).trans h.k1,hB,h.l1,h.l2,hL.outX k h.x,hL.byt k hd,hL.ens k he,h.f.trans hL fun j hj hn e hx=>hn ?_⟩
 ·have:=h.l2;rw[e]at hg;unfold cW at hg;omega
 ·have:=h.l2;have hx:j=b2:=hx;rw[<-hx,e]at this;unfold eK;omega
theorem YT(hl:l.length=76/\l[0]?=some (.pointer (some ⟨g,0,none⟩))/\l[1]?=some (.int .i64 s)/\l[2]?=some (.agg (aK o X)))(hK:∀l':List Value,l'.length=76/\l'[0]?=some (.pointer (some ⟨g,0,none⟩))/\l'[1]?=some (.int .i64 s)/\l'[5]?=some (.pointer (some ⟨wx.heap.size,0,none⟩))->K ⟨l'.toArray,[]⟩ (wx.alloc (.cells (aK o X) 49))):sQ 0 f34 K Q' l wx:=by
 unfold aK at *;obtain⟨ab,ax,aM,bE⟩:=hl;obtain⟨fr,rfl,ag⟩:=am ab;rw[nG,ag _ _ ax,ag _ _ aM,ag _ _ bE];clear ab ag ax aM bE;refine lu 0 f34 rfl ?_;go_wp2_with fail;exact⟨rfl,rfl,rfl,rfl⟩
theorem SR(h:bB aa wx g G v ps)(hs:s<G.n)(gg:G.n<=7)(od:G.disk.length=G.n)(bH:ay wx b1 49 (aK o X))(dm:aa b1=9)(hx:fd aa 10 wx o X)(hf:bC (eK ao) ao aa w0 wx)(hl:l.length=76/\l[0]?=some (.pointer (some ⟨g,0,none⟩))/\l[1]?=some (.int .i64 s)/\l[5]?=some (.pointer (some ⟨b1,0,none⟩)))(hK:∀(l':List Value) w' b2 vd ve,KJ l' g b1 b2 s/\mU ao (relab aa wx.heap.size 9) w0 w' g b1 b2 G v ps o X (G.dk s) vd ve/\b1≠b2->K ⟨l'.toArray,[]⟩ w'):sQ 1 f34 K Q' l wx:=by
 obtain⟨zs,aD,dv,bN⟩:=id h.d;obtain⟨q,c,hq,jX,eW,fR,kG,aQ,ef⟩:=aD.form (by omega);have c2:=h.s.cell 2;simp only[dQ,vi,Zx]at c2;rw[hq]at c2;obtain⟨z,hz⟩:∃z,zs[s]?=some z:=⟨_,List.getElem?_eq_getElem (by have:=congrArg List.length bN;rw[List.length_map]at this;omega)⟩;have Gs:z.2=G.dk s:=by
  unfold Gp.dk;rw[<-bN,List.getElem?_map,hz];rfl
 have key:∀j u,j<6->(rM z)[j]?=some u->wx.cell? ⟨q,s*6+j,none⟩=some u:=fun j u hj hu=>aQ _ _ ((cB ja hj hz).trans hu)
 have d0:wx.cell? ⟨q,s*6,none⟩=some (vi z.2.hard.term):=key 0 _ (by omega) rfl;have d1:wx.cell? ⟨q,s*6+1,none⟩=some (vi z.2.hard.vote):=key 1 _ (by omega) rfl;have d2:wx.cell? ⟨q,s*6+2,none⟩=some (vi z.2.snap.idx):=key 2 _ (by omega) rfl;have d3:wx.cell? ⟨q,s*6+3,none⟩=some (vi z.2.snap.term):=key 3 _ (by omega) rfl;have d4:wx.cell? ⟨q,s*6+4,none⟩=some (z.1.1):=key 4 _ (by omega) rfl;have d5:wx.cell? ⟨q,s*6+5,none⟩=some (z.1.2):=key 5 _ (by omega) rfl;obtain⟨AI,yX⟩:=dv z (List.mem_of_getElem? hz);rw[Gs]at d0 d1 d2 d3 AI yX;obtain⟨A4,c4,e4,_⟩:=id AI;obtain⟨A5,n5,c5,zs5,e5,_⟩:=id yX;rw[e4]at d4 AI;rw[e5]at d5 yX;simp only[vi]at d0 d1 d2 d3;have bV:=h.s.lt;obtain⟨n,hn⟩:=zN (G.disk.length);rw[hn]at c2 jX;have fw:s<n:=by omega
 have ou:s<7:=by omega
 obtain⟨n4,wq⟩:=zN ((G.dk s).snap.data.length);rw[wq]at d4;have aO:=zH (show mU ao (relab aa wx.heap.size 9) w0 (wx.alloc (.cells #[.int .i64 (G.dk s).hard.term,.int .i64 (G.dk s).hard.vote,.int .i64 (G.dk s).snap.idx,.int .i64 (G.dk s).snap.term,(.slice A4 n4 c4),(.slice A5 n5 c5)] 29)) g b1 wx.heap.size G v ps o X (G.dk s) (.slice A4 n4 c4) (.slice A5 n5 c5) by
  have hb:=(Below.refl wx.heap.size wx).alloc zl (.cells #[.int .i64 (G.dk s).hard.term,.int .i64 (G.dk s).hard.vote,.int .i64 (G.dk s).snap.idx,.int .i64 (G.dk s).snap.term,(.slice A4 n4 c4),(.slice A5 n5 c5)] 29);have hL:=bC.new 9 aa hb;rw[wq]at AI;exact⟨hL.grp (fun _ _ _ h=>h) h,bH.kept hb,ay.new wx 29 _,(ae bH.lt).trans dm,aA zl,hL.outX (fun _ _ _ h=>h) hx,hL.byt (fun _ _ _ h=>h) AI,hL.ens (fun _ _ _ h=>h) yX,hf.trans hL fun _ _ _ _ h=>h⟩)
 have cH:b1≠wx.heap.size:=by have:=bH.lt;omega
 replace hK:=zH hK;replace hn:=zH hn;replace wq:=zH wq;replace aQ:=zH aQ;replace ef:=zH ef;replace key:=zH key;clear h aD dv AI yX hx hf hz Gs e4 e5 bN hq;obtain⟨ab,ax,aM,cP⟩:=hl;obtain⟨fr,rfl,ag⟩:=am ab;rw[nG,ag _ _ ax,ag _ _ aM,ag _ _ cP];clear ab ag ax aM cP;refine lu 1 f34 rfl ?_;go_wp2_with fail;refine hK.out _ _ wx.heap.size (.slice A4 n4 c4) (.slice A5 n5 c5) ?_;exact⟨⟨rfl,rfl,rfl,rfl,rfl⟩,aO.out,cH⟩
theorem mU.forms(h:mU ao aa w0 wx g b1 b2 G v ps o X d vd ve):∃A4 c4 A5 n5 c5,vd=.slice A4 d.snap.data.length c4/\ve=.slice A5 n5 c5/\n5=d.entries.length/\n5<=c5/\c5<=maxLen:=by
 obtain⟨A4,c4,e4,_⟩:=id h.dd;obtain⟨A5,n5,c5,zs5,e5,hr,_,hm,q1,q2,_⟩:=id h.de;exact⟨A4,c4,A5,n5,c5,e4,e5,by rw[<-hm,List.length_map];exact hr.len.symm,q1,q2⟩
theorem YU(h:mU ao aa w0 wx g b1 b2 G v ps o X d vd ve)(cH:b1≠b2)(hl:KJ l g b1 b2 s)(hK:∀(l':List Value) w' vd' ve',KJ l' g b1 b2 s/\mU ao aa w0 w' g b1 b2 G v ps o X (d.told o) vd' ve'->K ⟨l'.toArray,[]⟩ w'):sQ 2 f34 K Q' l wx:=by
 obtain⟨A4,c4,A5,n5,c5,e4,e5,_⟩:=h.forms;subst e4 e5;obtain⟨y1,y6,-⟩:=h.k1.cs [1,6];simp only[aK,vi,Zx]at y1 y6;replace hK:=zH hK;have uV:=h.k2.lt;obtain⟨f2,f3,f4,f5,-⟩:=h.k2.fs [2,3,4,5];obtain⟨z2,z3,z4,z5,-⟩:=h.k2.cs [2,3,4,5];simp only[Zx]at z2 z3 z4 z5;rcases h.x.snp with⟨h1,h2⟩|⟨x,q,A,n,c,h1,h2,hq,OQ,Uh⟩
 ·have e:d.told o=d:=by unfold gk.told;rw[h1]
  rw[h2]at y6;have hE:=zH h;replace e:=zH e;clear h h1 h2;obtain⟨ab,ax,aM,cP,bL⟩:=hl;obtain⟨fr,rfl,ag⟩:=am ab;rw[nG,ag _ _ ax,ag _ _ aM,ag _ _ cP,ag _ _ bL];clear ab ag ax aM cP bL;refine lu 2 f34 rfl ?_;go_wp2_with fail;exact hK.out _ _ _ _ ⟨⟨rfl,rfl,rfl,rfl,rfl⟩,by rw[e.out];exact hE.out⟩
 ·rw[h2]at y6;obtain⟨x0,x1,x2,-⟩:=OQ.cs [0,1,2];simp only[Zx]at x0 x1 x2;have fR:=OQ.lt;have XN:q≠b2:=fun e2=>by have:=h.l2;rw[e2]at hq;omega
  have hS:=(((h.k2.set_ 2 (.int .i64 x.idx)).set_ 3 (.int .i64 x.term)).set_ 4 (.slice A n c));simp only[Zy]at hS;have hF:Fr (fun j=>j=b2) wx (((wx.setCell ⟨b2,2,none⟩ (.int .i64 x.idx)).setCell ⟨b2,3,none⟩ (.int .i64 x.term)).setCell ⟨b2,4,none⟩ (.slice A n c)):=((Fr.set b2 2 _).trans (Fr.set b2 3 _) fun _ h=>.inl h).trans (Fr.set b2 4 _) fun _ h=>.inl h
  cases hr:o.reset with
  | false=>
   rw[hr]at y1;have e:d.told o={d with snap:=x}:=by unfold gk.told;rw[h1,hr];rfl
   have hE:=zH (show mU ao aa w0 (((wx.setCell ⟨b2,2,none⟩ (.int .i64 x.idx)).setCell ⟨b2,3,none⟩ (.int .i64 x.term)).setCell ⟨b2,4,none⟩ (.slice A n c)) g b1 b2 G v ps o X (d.told o) (.slice A n c) (.slice A5 n5 c5) by
    rw[e];exact h.set hS hF Uh h.de cH)
   clear h h1 h2 hr e hS hF OQ;obtain⟨ab,ax,aM,cP,bL⟩:=hl;obtain⟨fr,rfl,ag⟩:=am ab;rw[nG,ag _ _ ax,ag _ _ aM,ag _ _ cP,ag _ _ bL];clear ab ag ax aM cP bL;refine lu 2 f34 rfl ?_;go_wp2_with fail;refine hK.out _ _ (.slice A n c) (.slice A5 n5 c5) ?_;exact⟨⟨rfl,rfl,rfl,rfl,rfl⟩,hE.out⟩
  | true=>
   rw[hr]at y1;have e:d.told o={d with snap:=x,entries:=[]}:=by unfold gk.told;rw[h1,hr];rfl
   have kh:=hS.set_ 5 (.slice none 0 0);simp only[Zy]at kh;have pj:=hF.trans (Fr.set b2 5 (.slice none 0 0)) fun _ h=>.inl h
   have hE:=zH (show mU ao aa w0 ((((wx.setCell ⟨b2,2,none⟩ (.int .i64 x.idx)).setCell ⟨b2,3,none⟩ (.int .i64 x.term)).setCell ⟨b2,4,none⟩ (.slice A n c)).setCell ⟨b2,5,none⟩ (.slice none 0 0)) g b1 b2 G v ps o X (d.told o) (.slice A n c) (.slice none 0 0) by
    rw[e];exact h.set kh pj Uh (da.nil _ _ _) cH)
   clear h h1 h2 hr e hS hF kh pj OQ;obtain⟨ab,ax,aM,cP,bL⟩:=hl;obtain⟨fr,rfl,ag⟩:=am ab;rw[nG,ag _ _ ax,ag _ _ aM,ag _ _ cP,ag _ _ bL];clear ab ag ax aM cP bL;refine lu 2 f34 rfl ?_;go_wp2_with fail;refine hK.out _ _ (.slice A n c) (.slice none 0 0) ?_;exact⟨⟨rfl,rfl,rfl,rfl,rfl⟩,hE.out⟩
theorem bC.deep{i:Nat}{zs:List (Value×En)}(h:bC X' aa ac wx w')(hX:∀j,j<wx.heap.size->aa j=i->¬X' j)(hd:bA (aL aa i) wx zs):bA (aL ac i) w' zs:=
 h.one (P:=fun aa w=>bA (aL aa i) w zs) (fun _ _ _ h1 h2=>h1.mono h2) (fun _ _ _ h1 h2=>h1.keep h2) hX hd
theorem mU.more{k:Nat}{A':Option Addr}{c':Nat}{zs ys:List (Value×En)}(h:mU ao aa w0 wx g b1 b2 G v ps o X d vd ve)(hd:bA (aL aa 10) wx zs)(QI:bA (aL aa 10) wx ys)(aD:aX (relab aa wx.heap.size 11) 11 w' 59 6 (.slice A' k c') k ((zs++ys).flatMap dE))(hk:k=zs.length+ys.length)(hF:Fr (aL aa 11) wx w') :
  mU ao (relab aa wx.heap.size 11) w0 w' g b1 b2 G v ps o X d vd ve/\ee (relab aa wx.heap.size 11) 11 10 w' (.slice A' k c') ((zs++ys).map (·.2)):=by
 have hL:bC (fun j=>aa j=11) aa (relab aa wx.heap.size 11) wx w':=bC.of_fr hF fun j hj hn=>⟨ae hj,hn⟩
 have k10:∀j,j<wx.heap.size->aa j=10->¬aa j=11:=fun j _ e e2=>by omega
 refine⟨h.leaves hL fun j _ e=>.inr ⟨by omega,by omega⟩,zs++ys,?_,(hL.deep k10 hd).append (hL.deep k10 QI),rfl⟩;rw[List.length_map,List.length_append,<-hk];exact aD
theorem mU.filled{k c:Nat}{A:Option Addr}{L:List En}(h:mU ao aa w0 wx g b1 b2 G v ps o X d vd ve)(hE:ee aa 11 10 wx (.slice A k c) L)(cH:b1≠b2):mU ao (ew aa 11 10) w0 (wx.setCell ⟨b2,5,none⟩ (.slice A k c)) g b1 b2 G v ps o X {d with entries:=L} vd (.slice A k c):=by
 have hk:k=L.length:=by
  obtain⟨zs,⟨A',c',e,_⟩,_⟩:=hE;injection e with _ e _
 subst hk;have hL:bC (fun j=>aa j=11) aa (ew aa 11 10) wx wx:=⟨Nat.le_refl _,fun j _ hn=>⟨if_neg hn,rfl⟩,rfl,rfl,rfl⟩;have h1:=h.leaves hL fun j _ e=>.inr ⟨by omega,by omega⟩
 have Ga:da (ew aa 11 10) 10 wx (.slice A L.length c) L:=ee.ens (hE.relabel (ac:=ew aa 11 10) (k:=10) (r:=10) (fun j _ e=>if_pos e) fun j _ e=>(if_neg (by omega)).trans e);have hS:=h1.k2.set_ 5 (.slice A L.length c);simp only[Zy]at hS;exact h1.set (d':={d with entries:=L}) hS (Fr.set b2 5 _) h1.dd Ga cH
theorem mU.room{k:Nat}{u:Value}{xs:List Value}{zs ys:List (Value×En)}(h:mU ao aa w0 wx g b1 b2 G v ps o X d vd ve)(aD:aX aa 11 wx 59 6 u k xs)(hd:bA (aL aa 10) wx zs)(QI:bA (aL aa 10) wx ys)(hb:Below wx.heap.size wx w') :
  mU ao (relab aa wx.heap.size 12) w0 w' g b1 b2 G v ps o X d vd ve/\aX (relab aa wx.heap.size 12) 11 w' 59 6 u k xs/\bA (aL (relab aa wx.heap.size 12) 10) w' zs/\bA (aL (relab aa wx.heap.size 12) 10) w' ys:=by
 have hL:=bC.new 12 aa hb;exact⟨h.leaves hL fun _ _ hf=>hf.elim,hL.one (P:=fun aa w=>aX aa 11 w 59 6 u k xs) (fun _ _ _ h1 h2=>h1.relabel h2) (fun _ _ _ h1 h2=>h1.keep h2) (fun _ _ _ hf=>hf) aD,hL.deep (fun _ _ _ hf=>hf) hd,hL.deep (fun _ _ _ hf=>hf) QI⟩
theorem gP{w:World}{ops:Array Oper}{rest:List Oper}{o:Oper}{a:Go.Act}{Q:Exit->Go.Act->World->Prop}(iJ:o.guard=none)(s x:Operand)
  (ho:o.op=.call {callee:=.builtin .append,args:=#[s,x],argTypes:=#[27,27]}) {i n:Nat} {v:Value} {zs:List (Value×En)} (hs:a.eval s=v) (aJ:aX aa i w 59 6 v n (zs.flatMap dE))
  {A:Option Addr} {m d:Nat} {ys:List (Value×En)} (hx:a.eval x=.slice A m d) (hr:im w A m ys) (h1:∀z∈ys,z.1.oneCell'=true) (hn:n+m<=2199023255552)
  (h:∀A' c' w',aX (relab aa w.heap.size i) i w' 59 6 (.slice A' (n+m) c') (n+m) ((zs++ys).flatMap dE)->Fr (aL aa i) w w'->wpList prog ops Q rest (a.put o.dst (.slice A' (n+m) c')) w'):wpList prog ops Q (o::rest) a w:=by
 obtain⟨i0,fT,gv,fC,fK⟩:=info_parts nk;refine cO iJ s x 27 ho 59 i0 _ 6 64 underlying27 fT gv fC fK rfl (by omega) v n _ hs aJ A m d _ hx hr (pD h1) (by unfold maxLen;omega) (by omega) fun A' c' w' h3 h4=>h A' c' w' ?_ h4
 rw[List.flatMap_append];exact h3
theorem YV(h:mU ao aa w0 wx g b1 b2 G v ps o X d vd ve)(cH:b1≠b2)(G3:d.entries.length<=1099511627776/\o.entries.length<=1099511627776)(hl:KJ l g b1 b2 s)(hK:∀(l':List Value) w' ac vd' ve',KJ l' g b1 b2 s/\mU ao ac w0 w' g b1 b2 G v ps o X (if o.save=true then {d with hard:=o.hard,entries:=d.put o.entries}else d) vd' ve'->K ⟨l'.toArray,[]⟩ w'):sP 3 f34 K H l wx:=by
 obtain⟨A4,c4,A5,n5,c5,e4,e5,vg,Rv,QC⟩:=h.forms;subst e4 e5;obtain⟨y0,y2,y3,y4,-⟩:=h.k1.cs [0,2,3,4];simp only[aK,vi,Zx]at y0 y2 y3 y4;replace hK:=zH hK;have uV:=h.k2.lt;obtain⟨f0,f1,-⟩:=h.k2.fs [0,1];obtain⟨z0,z1,-⟩:=h.k2.cs [0,1];simp only[Zx]at z0 z1;cases iS:o.save with
 | false=>
  rw[iS]at y0;have hE:=zH h;replace iS:=zH iS;clear h;obtain⟨ab,ax,aM,cP,bL⟩:=hl;obtain⟨fr,rfl,ag⟩:=am ab;rw[nG,ag _ _ ax,ag _ _ aM,ag _ _ cP,ag _ _ bL];clear ab ag ax aM cP bL;refine lu 3 f34 rfl ?_;go_wp2_with fail;refine hK.out _ _ aa (.slice A4 d.snap.data.length c4) (.slice A5 n5 c5) ?_;exact⟨⟨rfl,rfl,rfl,rfl,rfl⟩,by rw[iS.out];exact hE.out⟩
 | true=>
  rw[iS]at y0;have hS:=(h.k2.set_ 0 (.int .i64 o.hard.term)).set_ 1 (.int .i64 o.hard.vote);simp only[Zy]at hS;have hF:Fr (fun j=>j=b2) wx ((wx.setCell ⟨b2,0,none⟩ (.int .i64 o.hard.term)).setCell ⟨b2,1,none⟩ (.int .i64 o.hard.vote)):=(Fr.set b2 0 _).trans (Fr.set b2 1 _) fun _ h=>.inl h
  have hE:=zH (h.set (d':={d with hard:=o.hard}) hS hF h.dd h.de cH);obtain⟨no,dn⟩:=zN (o.entries.length);rw[dn]at y4 G3;rw[<-vg]at G3;replace iS:=zH iS;replace vg:=zH vg;clear h hS hF;cases Gl:o.entries with
  | nil=>
   rw[Gl]at dn;have dn:no=0:=dn.symm;subst dn;have e:d.put o.entries=d.entries:=by rw[Gl];rfl
   replace e:=zH e;clear Gl;obtain⟨ab,ax,aM,cP,bL⟩:=hl;obtain⟨fr,rfl,ag⟩:=am ab;rw[nG,ag _ _ ax,ag _ _ aM,ag _ _ cP,ag _ _ bL];clear ab ag ax aM cP bL;refine lu 3 f34 rfl ?_;go_wp2_with fail;refine hK.out _ _ aa (.slice A4 d.snap.data.length c4) (.slice A5 n5 c5) ?_;exact⟨⟨rfl,rfl,rfl,rfl,rfl⟩,by rw[iS.out,e.out];exact hE.out⟩
  | cons yy rr=>
   have Rz:0<no:=by rw[<-dn,Gl];simp
   replace dn:=zH dn;replace Gl:=zH Gl;obtain⟨ab,ax,aM,cP,bL⟩:=hl;obtain⟨fr,rfl,ag⟩:=am ab;rw[nG,ag _ _ ax,ag _ _ aM,ag _ _ cP,ag _ _ bL];clear ab ag ax aM cP bL;refine lu 3 f34 rfl ?_;go_wp2_with fail
   go_loopw [7,8] (fun u7 u8 wr=>∃(i:Nat) (ac:Nat->Nat),i<=n5/\u8=.int .i64 i/\ee ac 11 10 wr u7 ((d.entries.take i).filter fun x=>decide (x.idx<yy.idx))/\mU ao ac w0 wr g b1 b2 G v ps o X {d with hard:=o.hard} (.slice A4 d.snap.data.length c4) (.slice A5 n5 c5)) (fun _ u8 _=>n5-(intOf u8).toNat)
   case atStart=>exact⟨0,aa,Nat.zero_le _,rfl,ee.nil _ _ _ _,hE.out⟩
   case round=>
    obtain⟨i,ar,hi,rfl,hL,hs⟩:=hrel;obtain⟨A,n,c,zs,e,hr,Ge,IC,_⟩:=id hs.de;injection e with e1 e2 e3;subst e1 e2 e3;obtain⟨os,ho,IH,Nr,_,_⟩:=hs.x.ents;rw[dn.out]at ho;obtain⟨ad2,v2,x2,lM,fK,q0,_⟩:=ho.at_ (k:=0) Rz;have BX:x2=yy:=by
     have e:=congrArg (fun l=>l[0]?) (Nr.trans Gl.out);simp only[List.getElem?_map,fK,List.getElem?_cons_zero,Option.map_some]at e;exact Option.some.inj e
    subst BX;rw[Nat.zero_mul,iE]at q0;have p4:=hs.k1.cell 4;simp only[aK,vi,Zx]at p4;rw[dn.out,lM]at p4;have e5:=hs.k2.cell 5;simp only[Zx]at e5;obtain⟨zsL,aD,KW,At⟩:=id hL;by_cases bh:i<n5
    ·obtain⟨ad,vz,x,hA,hz,r0,r1,r2,r3,r4,r5⟩:=hr.at_ bh;rw[hA]at e5;have HC:d.entries[i]?=some x:=by rw[<-IC,List.getElem?_map,hz];rfl
     have ef:=Ge _ (List.mem_of_getElem? hz);obtain⟨Af,nf,cf,Kk,_⟩:=ef.form;have Kk:vz=.slice Af nf cf:=Kk;subst Kk;have bi:=zH (show n5-(i+1)<n5-i by omega);obtain⟨w4,w5,w6,w7⟩:=IY [b1,b2,(ad.add (i*6)).block,ad2.block] p4 e5 q0 r0;by_cases hc:x.idx<x2.idx
     ·have fJ:((d.entries.take (i+1)).filter fun x=>decide (x.idx<x2.idx))=((d.entries.take i).filter fun x=>decide (x.idx<x2.idx))++[x]:=by
       rw[List.take_add_one,HC,List.filter_append];congr 1;show List.filter _ [x]=[x];rw[List.filter_cons,if_pos (by simp[hc])];rfl
      have aU:Below wr.heap.size wr (wr.drew.alloc (.cells #[.int .i64 x.idx,.int .i64 x.term,.int .i64 x.op,.int .i64 x.sess,.int .i64 x.seq,.slice Af nf cf] 59)):=(zb.drew).alloc zl _;have Ij:bA (aL ar 10) wr [(.slice Af nf cf,x)]:=fun z hz=>by rw[List.mem_singleton.1 hz];exact ef
      obtain⟨oo,jc,Ms,Eo⟩:=hs.room aD KW Ij aU;have eu:=ay.new wr.drew 59 #[.int .i64 x.idx,.int .i64 x.term,.int .i64 x.op,.int .i64 x.sess,.int .i64 x.seq,.slice Af nf cf];have gu:im _ _ 1 [(.slice Af nf cf,x)]:=im.one (z:=(.slice Af nf cf,x)) eu;have jp:∀z∈[((.slice Af nf cf:Value),x)],z.1.oneCell'=true:=fun z hz=>by rw[List.mem_singleton.1 hz];rfl
      have sV:zsL.length=((d.entries.take i).filter fun x=>decide (x.idx<x2.idx)).length:=by rw[<-At,List.length_map]
      obtain⟨kL,Iv⟩:=zN (((d.entries.take i).filter fun x=>decide (x.idx<x2.idx)).length);have Q9:kL<=n5:=by rw[<-Iv];exact Nat.le_trans (List.length_filter_le ..) (by rw[List.length_take];omega)
      rw[Iv]at jc sV;obtain⟨AL,cL,R9,_⟩:=id jc;have fo:=fun A3 c3 w3 bg dW=>oo.more (k:=kL+1) (A':=A3) (c':=c3) (w':=w3) Ms Eo bg (by rw[sV];rfl) dW
      subst R9;replace hs:=zH hs;replace oo:=zH oo;replace fJ:=zH fJ;replace fo:=zH fo;replace At:=zH At;replace hc:=decide_eq_true hc;clear hr Ge IC ho IH Nr fK hz HC ef hL aD KW Ms Ij Eo hA lM Iv sV;go_wp2_with fail;refine gj [b1,b2,(ad.add (i*6)).block,ad2.block] wr [] [0,1,2,3,4,5,6,7,8,9,10,11] ?_;refine an ?_;simp only[af,Zx];repeat go_big_quiet_step(fail)
      apply wpQuiet_nil;go_wp2_with (at_builtin;refine gP rfl (.tmp 55) (.tmp 61) rfl rfl jc rfl gu jp (by omega) ?_;intro A3 c3 w3 bg dW;obtain⟨iY,I6⟩:=fo.out A3 c3 w3 bg dW;replace iY:=zH iY;replace I6:=zH I6;clear fo bg dW jc gu eu);exact⟨⟨i+1,_,bh,by go_num,by rw[fJ.out];rw[List.map_append,At.out]at I6;exact I6.out,iY.out⟩,by simp[intOf];exact bi.out⟩
     ·have fJ:((d.entries.take (i+1)).filter fun x=>decide (x.idx<x2.idx))=((d.entries.take i).filter fun x=>decide (x.idx<x2.idx)):=by
       rw[List.take_add_one,HC,List.filter_append];show _++List.filter _ [x]=_;rw[List.filter_cons,if_neg (by simp;omega)];exact List.append_nil _
      have oo:=zH (hs.below (w':=wr.drew) (zb.drew));have PV:ee ar 11 10 wr.drew u7 _:=hL;replace PV:=zH PV;replace hs:=zH hs;replace fJ:=zH fJ;replace hc:=decide_eq_false hc;clear hr Ge IC ho IH Nr fK hz HC ef hL aD KW hA lM At;go_wp2_with fail;refine gj [b1,b2,(ad.add (i*6)).block,ad2.block] wr [] [0,1,2,3,4,5,6,7,8,9,10,11] ?_;refine an ?_;simp only[af,Zx];repeat go_big_quiet_step(fail)
      apply wpQuiet_nil;go_wp2_with fail;exact⟨⟨i+1,ar,bh,by go_num,by rw[fJ.out];exact PV.out,oo.out⟩,by simp[intOf];exact bi.out⟩
    ·obtain rfl:i=n5:=by omega
     have BR:d.put o.entries=((d.entries.take i).filter fun x=>decide (x.idx<x2.idx))++o.entries:=by
      unfold gk.put;rw[Gl.out,vg.out,List.take_length]
     obtain⟨kL,Iv⟩:=zN (((d.entries.take i).filter fun x=>decide (x.idx<x2.idx)).length);have Q9:kL<=i:=by rw[<-Iv];exact Nat.le_trans (List.length_filter_le ..) (by rw[List.length_take];omega)
     have sV:zsL.length=kL:=by rw[<-Iv,<-At,List.length_map]
     have Ix:os.length=no:=ho.len;rw[Iv]at aD;obtain⟨AL,cL,R9,_⟩:=id aD;subst R9;have jp:∀z∈os,z.1.oneCell'=true:=IH.one;have fo:=fun A3 c3 w3 bg dW=>hs.more (k:=kL+no) (A':=A3) (c':=c3) (w':=w3) KW IH bg (by rw[sV,Ix]) dW
     rw[List.map_append,At,Nr]at fo;have aO:=zH (show {d with hard:=o.hard,entries:=((d.entries.take i).filter fun x=>decide (x.idx<x2.idx))++o.entries}=(if o.save=true then {d with hard:=o.hard,entries:=d.put o.entries}else d) by rw[iS.out,BR];rfl);rw[lM]at ho;replace hs:=zH hs;replace fo:=zH fo;clear hr Ge IC IH fK hL KW Iv sV Ix BR At Nr;go_wp2_with (at_builtin;refine gP rfl (.tmp 63) (.tmp 65) rfl rfl aD rfl ho jp (by omega) ?_;intro A3 c3 w3 bg dW;obtain⟨iY,I6⟩:=fo.out A3 c3 w3 bg dW;have t5:=iY.k2.cell 5;have g5:=iY.k2.free 5;simp only[Zx]at t5;have LF:=zH (iY.filled I6 cH);clear fo bg dW aD ho iY I6);refine hK.out _ _ (ew (relab ar wr.heap.size 11) 11 10) (.slice A4 d.snap.data.length c4) (.slice A3 (kL+no) c3) ?_;exact⟨⟨rfl,rfl,rfl,rfl,rfl⟩,by rw[<-aO.out];exact LF.out⟩
theorem tT{z:(Value×Value)×gk}:∀{l:List ((Value×Value)×gk)} {i:Nat},i<l.length->
  ((((((l.flatMap rM).set (i*6) (vi z.2.hard.term)).set (i*6+1) (vi z.2.hard.vote)).set (i*6+2) (vi z.2.snap.idx)).set (i*6+3) (vi z.2.snap.term)).set (i*6+4) z.1.1).set (i*6+5) z.1.2=(l.set i z).flatMap rM
 | [],_,h=>by cases h
 | y::l,0,_=>by simp[List.flatMap_cons,rM,vi]
 | y::l,i+1,h=>by
  have ih:=tT (z:=z) (l:=l) (i:=i) (by simpa using h);rw[List.flatMap_cons,List.set_cons_succ,List.flatMap_cons,<-ih];have e:∀(u:Value) (m:List Value) (j:Nat),(rM y++m).set ((i+1)*6+j) u=rM y++m.set (i*6+j) u:=fun u m j=>by
   rw[List.set_append_right _ _ (by rw[ja];omega),ja];congr 2;omega
  have e0:∀(u:Value) (m:List Value),(rM y++m).set ((i+1)*6) u=rM y++m.set (i*6) u:=fun u m=>e u m 0
  rw[e0,e,e,e,e,e]
def ru(w:World)(q i:Nat)(z:(Value×Value)×gk):World:=(((((w.setCell ⟨q,i*6,none⟩ (.int .i64 z.2.hard.term)).setCell ⟨q,i*6+1,none⟩ (.int .i64 z.2.hard.vote)).setCell ⟨q,i*6+2,none⟩ (.int .i64 z.2.snap.idx)).setCell ⟨q,i*6+3,none⟩ (.int .i64 z.2.snap.term)).setCell ⟨q,i*6+4,none⟩ z.1.1).setCell ⟨q,i*6+5,none⟩ z.1.2
theorem jH(w:World)(q i:Nat)(z:(Value×Value)×gk):Fr (fun j=>j=q) w (ru w q i z):=
 have e:∀{a b:World},Fr (fun j=>j=q) w a->Fr (fun j=>j=q) a b->Fr (fun j=>j=q) w b:=fun h h'=>h.trans h' fun _ h=>.inl h
 e (e (e (e (e (Fr.set q _ _) (Fr.set q _ _)) (Fr.set q _ _)) (Fr.set q _ _)) (Fr.set q _ _)) (Fr.set q _ _)
theorem bB.setDisk{q c n:Nat}(h:bB aa wx g G v ps)(hq:v.disk=.slice (some ⟨q,0,none⟩) n c)(hn:G.disk.length=n)(hs:s<n)(hd:cT aa 10 wx vd d.snap.data)(he:da aa 10 wx ve d.entries) :
  aa q=3/\bB aa (ru wx q s ((vd,ve),d)) g {G with disk:=G.disk.set s d} v ps:=by
 obtain⟨zs,aD,dv,bN⟩:=id h.d;obtain⟨q',c',xU,_,_,fR,kG,_,_⟩:=aD.form (by omega);rw[hq]at xU aD;injection xU with e1 _ e3;injection e1 with e1;injection e1 with e1;subst e1 e3;rw[hn]at aD;have E6:zs.length=n:=by have:=congrArg List.length bN;rw[List.length_map]at this;omega
 have hF:=jH wx q s ((vd,ve),d);have bV:=h.s.lt;have cH:q≠g:=fun e=>by rw[e]at fR;have:=h.sl;omega
 have hS:ay (ru wx q s ((vd,ve),d)) g 79 (dQ {G with disk:=G.disk.set s d} v):=(hF.block g bV fun e=>cH e.symm).trans h.s;have vj:=(((((aD.setAt (s*6) (.int .i64 d.hard.term)).setAt (s*6+1) (.int .i64 d.hard.vote)).setAt (s*6+2) (.int .i64 d.snap.idx)).setAt (s*6+3) (.int .i64 d.snap.term)).setAt (s*6+4) vd).setAt (s*6+5) ve;have e6:=tT (z:=((vd,ve),d)) (l:=zs) (i:=s) (by omega);have J2:aX aa 3 (ru wx q s ((vd,ve),d)) 29 6 (.slice (some ⟨q,0,none⟩) n c) n ((zs.set s ((vd,ve),d)).flatMap rM):=by
  rw[<-e6];exact vj
 have k10:∀j,aa j=10->j<wx.heap.size->(ru wx q s ((vd,ve),d)).heap[j]?=wx.heap[j]?:=fun j e hj=>hF.block j hj fun e2=>by rw[e2]at e;omega
 refine⟨fR,bB.turn (fun i=>i=3) h hS hF.size (fun _ _ _=>rfl) (fun j hj _ _ h3=>hF.block j hj fun e=>h3 (by rw[e];exact fR)) (by decide) (.inr ⟨by decide,rfl,rfl,rfl⟩) (.inl ⟨zs.set s ((vd,ve),d),?_,fun z hz=>?_,?_⟩) (.inr ⟨by decide,rfl,rfl⟩) (.inr ⟨by decide,rfl,rfl⟩) (.inr ⟨by decide,rfl,rfl⟩) (.inr ⟨by decide,rfl,rfl⟩) (.inr ⟨by decide,rfl,rfl⟩)⟩
 ·show aX aa 3 _ 29 6 v.disk (G.disk.set s d).length _;rw[List.length_set,hn,hq];exact J2
 ·rcases List.mem_or_eq_of_mem_set hz with hz|hz
  ·exact(dv z hz).keep k10
  ·subst hz;exact⟨cT.keep hd k10,da.keep he k10⟩
 ·show(zs.set s ((vd,ve),d)).map (·.2)=G.disk.set s d;rw[List.map_set,bN]
theorem YW(h:mU ao aa w0 wx g b1 b2 G v ps o X d vd ve)(hs:s<G.n)(gg:G.n<=7)(od:G.disk.length=G.n)(hl:KJ l g b1 b2 s)(hH:∀w',bB aa w' g {G with disk:=G.disk.set s d} v ps->bC (eK ao) ao aa w0 w'->H (.returned (.tuple #[])) w'):tP 4 f34 H l wx:=by
 obtain⟨A4,c4,A5,n5,c5,e4,e5,vg,Rv,QC⟩:=h.forms;subst e4 e5;replace vg:=zH vg;obtain⟨zs,aD,dv,bN⟩:=id h.gr.d;obtain⟨q,c,hq,jX,eW,fR,kG,aQ,ef⟩:=aD.form (by omega);obtain⟨n,hn⟩:=zN (G.disk.length);rw[hn]at hq jX;have fw:s<n:=by omega
 obtain⟨_,hG⟩:=h.gr.setDisk hq hn fw h.dd h.de;have c2:=h.gr.s.cell 2;simp only[dQ,vi,Zx]at c2;rw[hq]at c2;obtain⟨z0,z1,z2,z3,z4,z5,-⟩:=h.k2.cs [0,1,2,3,4,5];simp only[Zx]at z0 z1 z2 z3 z4 z5;have f0:=ef (s*6);have f1:=ef (s*6+1);have f2:=ef (s*6+2);have f3:=ef (s*6+3);have f4:=ef (s*6+4);have f5:=ef (s*6+5);obtain⟨z,hz⟩:∃z,zs[s]?=some z:=⟨_,List.getElem?_eq_getElem (by have:=congrArg List.length bN;rw[List.length_map]at this;omega)⟩;have key:∀j u,j<6->(rM z)[j]?=some u->wx.cell? ⟨q,s*6+j,none⟩=some u:=fun j u hj hu=>aQ _ _ ((cB ja hj hz).trans hu)
 have p0:wx.cell? ⟨q,s*6,none⟩=some (vi z.2.hard.term):=key 0 _ (by omega) rfl;have p1:wx.cell? ⟨q,s*6+1,none⟩=some (vi z.2.hard.vote):=key 1 _ (by omega) rfl;have p2:wx.cell? ⟨q,s*6+2,none⟩=some (vi z.2.snap.idx):=key 2 _ (by omega) rfl;have p3:wx.cell? ⟨q,s*6+3,none⟩=some (vi z.2.snap.term):=key 3 _ (by omega) rfl;have p4:wx.cell? ⟨q,s*6+4,none⟩=some z.1.1:=key 4 _ (by omega) rfl;have p5:wx.cell? ⟨q,s*6+5,none⟩=some z.1.2:=key 5 _ (by omega) rfl;have bV:=h.gr.s.lt;have hE:=zH (fun w' (hb:Below wx.heap.size (ru wx q s ((.slice A4 d.snap.data.length c4,.slice A5 n5 c5),d)) w')=>hH w' (hG.keep fun j _ hj=>hb.block j (Nat.lt_of_lt_of_le hj (by
  simp only[ru,World.setCell];simp))) (h.f.trans (Y:=fun j=>j=q) ⟨Nat.le_trans (jH wx q s _).size hb.size,fun j hj hx=>⟨rfl,(hb.block j hj).trans ((jH wx q s _).block j hj hx)⟩,hb.os.trans (jH wx q s _).os,hb.tape.trans (jH wx q s _).tape,hb.output.trans (jH wx q s _).output⟩ fun j _ hx e e2=>hx (by unfold eK;rw[<-e,e2];omega)))
 replace aQ:=zH aQ;replace ef:=zH ef;replace key:=zH key;replace hz:=zH hz;clear h aD dv bN hG hH hn od hq;obtain⟨ab,ax,aM,cP,bL⟩:=hl;obtain⟨fr,rfl,ag⟩:=am ab;rw[nG,ag _ _ ax,ag _ _ aM,ag _ _ cP,ag _ _ bL];clear ab ag ax aM cP bL;refine Kw 4 f34 rfl ?_;go_wp2_with fail;go_region;exact ai rfl rfl (hE.out _ (zb.drew))
theorem yr(h:bB aa wx g G v ps)(ho:fd aa 10 wx o X)(hs:s<G.n)(gg:G.n<=7)(od:G.disk.length=G.n)(G3:((G.dk s).told o).entries.length<=1099511627776/\o.entries.length<=1099511627776) :
  Calls prog 34 #[.pointer (some ⟨g,0,none⟩),.int .i64 s,.agg (aK o X)] wx fun e w'=>e=.returned (.tuple #[])/\∃ac,bB ac w' g (G.saves s o) v ps/\bC (eK aa) aa ac wx w':=by
 refine bJ (args:=[.pointer (some ⟨g,0,none⟩),.int .i64 s,.agg (aK o X)]) 76 func34 (by kernel_rfl) ntmps34 (by simp) fun la gF cQ=>?_
 have hb:=(Below.refl wx.heap.size wx).alloc zl (.cells (aK o X) 49);have hk:=ay.new wx 49 (aK o X);refine cK (by kernel_rfl) (YT ⟨gF,cQ 0 _ rfl,cQ 1 _ rfl,cQ 2 _ rfl⟩ fun l0 ir=>?_);obtain⟨w1,bM⟩:=zN (wx.alloc (.cells (aK o X) 49));rw[bM]at hb hk;rw[bM];have hL:=bC.new 9 aa hb;refine cK (by kernel_rfl) (SR (ao:=aa) (w0:=wx) (X:=X) (o:=o) (hL.grp (fun _ _ _ h=>h) h) hs gg od hk (aA zl) (hL.outX (fun _ _ _ h=>h) ho) (hL.mono fun _ _ h=>h.elim) ir fun l1 w2 b2 vd ve h1=>?_);obtain⟨dm,g4,cH⟩:=h1;refine cK (by kernel_rfl) (YU g4 cH dm fun l2 w3 vd2 ve2 h2=>?_);obtain⟨fB,jo⟩:=h2;refine cK (by kernel_rfl) (YV jo cH G3 fB fun l3 w4 su vd3 ve3 h3=>?_);obtain⟨oe,ip⟩:=h3;exact YW ip hs gg od oe fun w5 lN MC=>⟨rfl,su,lN,MC⟩
end
namespace Gp
variable (G:Gp)
def tick(s:Nat)(d:Int):Gp:=G.act s ((G.srv s).tick d)
def step(s:Nat)(m:Mg):Gp:=G.act s ((G.srv s).step m)
def hU(k:Nat)(stay:Bool):Gp:=if stay=true then G else {G with net:=G.net.eraseIdx k}
def Pm(m:Mg):Prop:=1<=m.tgt/\m.tgt<=G.n
def SZ(s:Nat)(draw:Int):Int:=(G.srv s).track.index+(cu draw (1+(G.srv s).commit-(G.srv s).track.index).toNat:Nat)
def cutT(s:Nat)(i:Int):Int:=match((G.dk s).entries.filter fun x=>decide (x.idx=i)).getLast? with
 | some x=>x.term
 | none=>0
def cut(s:Nat)(i:Int)(data:List UInt8):Gp:=
 {G with l:=G.l.set s ((G.srv s).compact i data).2,disk:=G.disk.set s {G.dk s with snap:=⟨i,G.cutT s i,data⟩}}
end Gp
structure mB(G:Gp)(s:Nat)(o:Ot):Prop where
 sn:∀x,o.snap=some x->0<=x.idx/\x.idx<=G.log.length
 p0:0<=G.up s/\G.up s<=G.log.length
 cs:∀(k:Nat) e,o.commits[k]?=some e->e.idx=G.snapTo s o+1+k/\(e.idx<=G.log.length->G.log[(e.idx-1).toNat]?=some e)
def ik(K:Nat)(G:Gp):Prop:=∃gh Fs,iT K G gh Fs
section
variable {n t T:Int}{i a N N0 k v s K:Nat}{gh gh':Gh}{R R' R0:Rf}{F F' F0 l:List En}{m:Mg}{d:gk}{o:Ot}{G:Gp}{Fs:Nat->List En}
theorem iT.coms(h:iT K G gh Fs)(hs:s<G.n)(A:vu G.n gh (s+1) (G.srv s) (Fs s) G.log.length gh' F' o R')(hx:∀x,o.snap=some x->x.idx≠0/\x.idx<=G.log.length):mB G s o:=by
 obtain⟨hI,AG,gf⟩:=h.sv s hs;have hm:=A.mid;have sv':=hm.sv;have iU:=hm.cc;have gn:=hI.sv.cm;have wG:=hI.sv.idx0;have ab:R'.commit.toNat<=F'.length:=sv'.co.len;unfold kJ at iU;simp only at iU;refine⟨fun x om=>?_,by omega,fun k e he=>?_⟩
 ·have:=hx x om;rw[om]at iU;simp only at iU;omega
 ·unfold Gp.snapTo;cases om:o.snap with
  | some x=>
   rw[om]at iU;simp only at iU;rw[iU.2.1]at he;cases he
  | none=>
   rw[om]at iU;simp only at iU ⊢;obtain⟨c1,c2⟩:=iU;rw[c2]at he;rw[List.getElem?_take]at he;split at he
   ·rename_i hk;rw[List.getElem?_drop]at he;have hi:=sv'.fi _ e he;refine⟨by omega,fun fQ=>?_⟩;have ha:=h.logAlike hm.bs hm.ext sv'.co (j:=(G.srv s).commit.toNat+k+1) (by show _<=R'.commit.toNat;omega) (by omega);have e1:(F'.take ((G.srv s).commit.toNat+k+1))[(G.srv s).commit.toNat+k]?=some e:=by rw[dI (by omega)];exact he
    rw[ha,dI (by omega)]at e1;rw[show(e.idx-1).toNat=(G.srv s).commit.toNat+k by omega];exact e1
   ·cases he
theorem ik.mono{K':Nat}(h:ik K G)(hK:K<=K'):ik K' G:=by
 obtain⟨gh,Fs,h⟩:=h;exact⟨gh,Fs,h.mono hK⟩
theorem ik.crash(h:ik K G)(hs:s<G.n):(∃R',Rf.new ((s+1:Nat):Int) G.n (G.dk s)=some R')/\ik K (G.crash s):=by
 obtain⟨gh,Fs,h⟩:=h;obtain⟨R',h1,h2⟩:=h.crash hs;exact⟨⟨R',h1⟩,gh,Fs,h2⟩
theorem ik.fewer(h:ik K G){ms:List Mg}(hm:∀m∈ms,m∈G.net)(hl:ms.length<=G.net.length):ik K {G with net:=ms}:=by
 obtain⟨gh,Fs,h⟩:=h;exact⟨gh,Fs,h.fewer hm hl⟩
theorem ox{α:Type}{l:List α}{k:Nat}{x:α}(h:x∈l.eraseIdx k):x∈l:=(List.eraseIdx_sublist l k).mem h
theorem sG(G:Gp)(s:Nat)(R:Rf)(h:∃R',Rf.new ((s+1:Nat):Int) G.n (G.dk s)=some R'):({G with l:=G.l.set s R}:Gp).crash s=G.crash s:=by
 obtain⟨R',h⟩:=h;unfold Gp.crash;show(match Rf.new ((s+1:Nat):Int) G.n (G.dk s)with|none=>_|some R''=>_)=_;rw[h];simp only[List.set_set];rfl
theorem sH:∀(l:List En) (c y:Int),(∀(k:Nat) x,l[k]?=some x->x.idx=c+k)->c<=y->(l.filter fun x=>decide (x.idx=y))=(l.drop (y-c).toNat).take 1
 | [],_,_,_,_=>by simp
 | x::l,c,y,h,hc=>by
  have hx:=h 0 x rfl;rcases Int.lt_or_le c y with h1|h1
  ·have ih:=sH l (c+1) y (fun k z hz=>by have:=h (k+1) z hz;omega) (by omega);rw[List.filter_cons,if_neg (by simp;omega),ih,show(y-c).toNat=(y-(c+1)).toNat+1 by omega,List.drop_succ_cons]
  ·rw[show(y-c).toNat=0 by omega,List.drop_zero,List.filter_cons,if_pos (by simp;omega)];rw[List.filter_eq_nil_iff.2 fun z hz=>by
    obtain⟨k,hk⟩:=List.getElem?_of_mem hz;have:=h (k+1) z hk;simp;omega]
   rfl
theorem ik.cut{idx:Int}{data:List UInt8}(h:ik K G)(hs:s<G.n)(Hc:(G.srv s).track.index<idx)(hb:idx<=(G.srv s).commit)(od:1<=data.length/\data.length<=65536):((G.srv s).compact idx data).1=0/\ik (K+11) (G.cut s idx data):=by
 obtain⟨gh,Fs,h⟩:=h;obtain⟨hI,AG,gf⟩:=h.sv s hs;have sv:=hI.sv;have wG:=sv.idx0;have eW:=sv.cm;have h0:((G.srv s).compact idx data).1=0:=by
  unfold Rf.compact;rw[if_neg (by omega),if_neg (by omega),if_neg (by omega)]
 obtain⟨iS,Nu,d7⟩:=sv.compact h0;have NU:=yj hI.vt idx data;have cz:=hI.ok.compacted idx data;unfold Gp.cut;obtain⟨R',KQ⟩:∃R',((G.srv s).compact idx data).2=R':=⟨_,rfl⟩;rw[KQ]at iS Nu d7 NU cz ⊢;have Ig:=sv.clen;rcases d7 with e|⟨q1,q2,q3,q4,q5,q6,_⟩
 ·exfalso
  have e2:((G.srv s).compact idx data).2.track.index=idx:=by
   unfold Rf.compact;rw[if_neg (by omega),if_neg (by omega),if_neg (by omega)];show((G.srv s).track.dropF idx).2.index=idx;rw[qc (sv.termF (j:=idx) (by omega) (by omega))]
  rw[KQ,e]at e2;omega
 ·obtain⟨j,hj,ua⟩:=hI.dk.en;have cl:G.cutT s idx=eo (Fs s) idx.toNat:=by
   unfold Gp.cutT;rw[ua,sH _ (j+1) idx (sv.dropIdx j) (by omega),List.drop_drop];obtain⟨p,hp⟩:∃p,idx.toNat=p+1:=⟨idx.toNat-1,by omega⟩;rw[show j+(idx-(j+1)).toNat=p by omega,hp,bw];obtain⟨y,hy⟩:∃y,(Fs s)[p]?=some y:=⟨_,List.getElem?_eq_getElem (by omega)⟩;rw[hy,iG hy];rfl
  have esrv:∀j,(G.l.set s R')[j]?.getD AV=if s=j then R' else G.srv j:=fun j=>eH (by rw[h.ll];exact hs)
  have edk:∀j,(G.disk.set s {G.dk s with snap:=⟨idx,G.cutT s idx,data⟩})[j]?.getD gm=if s=j then {G.dk s with snap:=⟨idx,G.cutT s idx,data⟩}else G.dk j:=fun j=>eH (by rw[h.dl];exact hs)
  refine⟨h0,gh,Fs,{h with
   ll:=by show(G.l.set s R').length=G.n;rw[List.length_set];exact h.ll
   dl:=by show(G.disk.set s _).length=G.n;rw[List.length_set];exact h.dl
   sv:=fun i hi=>?_}⟩
  show nh (K+11) G.n gh (i+1) ((G.l.set s R')[i]?.getD AV) (Fs i) ((G.disk.set s {G.dk s with snap:=⟨idx,G.cutT s idx,data⟩})[i]?.getD gm)/\G.up i=((G.l.set s R')[i]?.getD AV).commit/\((G.l.set s R')[i]?.getD AV).commit<=G.log.length;rw[esrv,edk];by_cases e:s=i
  ·subst e;rw[if_pos rfl,if_pos rfl];refine⟨⟨iS,by rw[Nu];exact hI.out,NU,cz,⟨by rw[q4];exact hI.dk.hd,by rw[q6,cl],j,by rw[q3];omega,ua⟩,fun hz=>?_⟩,by rw[q5];exact AG,by rw[q5];exact gf⟩;rw[q6]at hz;have hz:idx=0:=hz;omega
  ·rw[if_neg e,if_neg e];obtain⟨a,b,c⟩:=h.sv i hi;exact⟨a.mono (by omega),b,c⟩
end
theorem FM{α:Type}{l:List α}{i:Nat}{x:α}(h:l[i]?=some x):l.set i x=l:=List.ext_getElem? fun j=>by
 rw[List.getElem?_set];by_cases e:i=j
 ·subst e;rw[if_pos rfl,if_pos (List.getElem?_eq_some_iff.1 h).1,h]
 ·rw[if_neg e]
theorem fd.coms{aa:Nat->Nat}{i:Nat}{w:World}{o:Ot}{X:Ox}(h:fd aa i w o X):∃zs,im w X.ca o.commits.length zs/\bA (aL aa i) w zs/\zs.map (·.2)=o.commits/\o.commits.length<=X.cc/\X.cc<=maxLen:=by
 obtain⟨zs,⟨A,c,e,ho,_⟩,hd,hm⟩:=h.c;injection e with e1 e2 e3;subst e1 e3;have hb:=aZ ho;exact⟨zs,cj.of_own ho,hd,hm,hb.1,hb.2⟩
structure rR(ao aa:Nat->Nat)(w0 w:World)(g b1:Nat)(G:Gp)(v:Gv)(ps:List Nat)(o:Ot)(X:Ox):Prop where
 gr:bB aa w g G v ps
 k1:ay w b1 49 (aK o X)
 l1:aa b1=9
 x:fd aa 10 w o X
 f:bC (eK ao) ao aa w0 w
def Oh(l:List Value)(g b1 s:Nat):Prop:=l.length=119/\l[0]?=some (.pointer (some ⟨g,0,none⟩))/\l[1]?=some (.int .i64 s)/\l[5]?=some (.pointer (some ⟨b1,0,none⟩))
def Gp.comK(G:Gp)(s p0:Nat)(cs:List En)(i:Nat):Gp:={G with pos:=G.pos.set s ((p0+i:Nat):Int),log:=G.log++(cs.take i).drop (G.log.length-p0)}
section
variable {X':Nat->Prop}{ao aa ac:Nat->Nat}{g b1 b2 s:Nat}{G:Gp}{v:Gv}{ps:List Nat}{o:Ot}{X:Ox}{w0 wx w':World}{K:Go.Act->World->Prop}{Q':Exit->Go.Act->World->Prop}{l:List Value}{H:Ending->World->Prop}
theorem rR.leaves(h:rR ao aa w0 wx g b1 G v ps o X)(hL:bC X' aa ac wx w')(hX:∀j,j<wx.heap.size->X' j->aa j=0\/(10<aa j/\aa j<20)):rR ao ac w0 w' g b1 G v ps o X:=by
 have k:∀i,1<=i->i<=10->∀j,j<wx.heap.size->aa j=i->¬X' j:=fun i h1 h2 j hj e hx=>by
  have:=hX j hj hx;omega
 have kg:∀j,j<wx.heap.size->cW (aa j)->¬X' j:=fun j hj hg hx=>by
  have:=hX j hj hx;unfold cW at hg;omega
 have s1:=hL.stay b1 h.k1.lt (k 9 (by omega) (by omega) b1 h.k1.lt h.l1);exact⟨hL.grp kg h.gr,s1.2.trans h.k1,s1.1.trans h.l1,hL.outX (k 10 (by omega) (by omega)) h.x,h.f.trans hL fun j hj hn e hx=>hn (by
   have:=hX j (Nat.lt_of_lt_of_le hj h.f.size) hx;rw[e]at this;unfold eK;omega)⟩
theorem rR.below(h:rR ao aa w0 wx g b1 G v ps o X)(hb:Below wx.heap.size wx w'):rR ao aa w0 w' g b1 G v ps o X:=h.leaves (bC.same aa hb) fun _ _ hf=>hf.elim
theorem rR.room(h:rR ao aa w0 wx g b1 G v ps o X)(hb:Below wx.heap.size wx w'):rR ao (relab aa wx.heap.size 12) w0 w' g b1 G v ps o X:=h.leaves (bC.new 12 aa hb) fun _ _ hf=>hf.elim
theorem bB.setPos{q c n:Nat}(h:bB aa wx g G v ps)(hq:v.pos=.slice (some ⟨q,0,none⟩) n c)(hn:G.pos.length=n)(hs:s<n)(y:Int) :
  aa q=6/\q<wx.heap.size/\bB aa (wx.setCell ⟨q,s,none⟩ (.int .i64 y)) g {G with pos:=G.pos.set s y} v ps:=by
 obtain⟨q',c',xU,_,_,fR,kG,_,_⟩:=h.p.form (by omega);have aD:=h.p;rw[hq]at xU aD;injection xU with e1 _ e3;injection e1 with e1;injection e1 with e1;subst e1 e3;rw[hn]at aD;have hF:=Fr.set (w:=wx) q s (.int .i64 y);have bV:=h.s.lt;have cH:g≠q:=fun e=>by rw[<-e]at fR;have:=h.sl;omega
 have hS:ay (wx.setCell ⟨q,s,none⟩ (.int .i64 y)) g 79 (dQ {G with pos:=G.pos.set s y} v):=h.s.far (p:=⟨q,s,none⟩) cH _;have vj:=aD.setAt s (.int .i64 y);refine⟨fR,kG,bB.turn (fun i=>i=6) h hS hF.size (fun _ _ _=>rfl) (fun j hj _ _ h3=>hF.block j hj fun e=>h3 (by rw[e];exact fR)) (by decide) (.inr ⟨by decide,rfl,rfl,rfl⟩) (.inr ⟨by decide,rfl,rfl⟩) (.inr ⟨by decide,rfl,rfl⟩) (.inr ⟨by decide,rfl,rfl⟩) (.inl ?_) (.inr ⟨by decide,rfl,rfl⟩) (.inr ⟨by decide,rfl,rfl⟩)⟩;show aX aa 6 _ 3 1 v.pos (G.pos.set s y).length ((G.pos.set s y).map vi);rw[List.length_set,hn,List.map_set,hq];exact vj
theorem rR.setPos{q c n:Nat}(h:rR ao aa w0 wx g b1 G v ps o X)(hq:v.pos=.slice (some ⟨q,0,none⟩) n c)(hn:G.pos.length=n)(hs:s<n)(y:Int)(hb:Below wx.heap.size (wx.setCell ⟨q,s,none⟩ (.int .i64 y)) w'):rR ao aa w0 w' g b1 {G with pos:=G.pos.set s y} v ps o X:=by
 obtain⟨fR,kG,hG⟩:=h.gr.setPos hq hn hs y;have hF:=Fr.set (w:=wx) q s (.int .i64 y);have gn:(wx.setCell ⟨q,s,none⟩ (.int .i64 y)).heap.size=wx.heap.size:=by simp[World.setCell]
 have hL:bC (fun j=>j=q) aa aa wx w':=⟨by have:=hb.size;omega,fun j hj hn=>⟨rfl,(hb.block j hj).trans (hF.block j hj hn)⟩,hb.os,hb.tape,hb.output⟩;have k10:∀j,j<wx.heap.size->aa j=10->¬j=q:=fun j _ e e2=>by rw[e2]at e;omega
 have WB:b1≠q:=fun e=>by have:=h.l1;rw[e]at this;omega
 exact⟨hG.keep fun j _ hj=>hb.block j (by omega),(hb.block b1 h.k1.lt).trans ((hF.block b1 h.k1.lt WB).trans h.k1),h.l1,hL.outX k10 h.x,h.f.trans hL fun j _ hn e e2=>hn (by have e2:j=q:=e2;unfold eK;rw[<-e,e2];omega)⟩
theorem rR.grow{A3:Option Addr}{c3 m:Nat}{w3:World}{zs:List (Value×En)}{z:Value×En}(h:rR ao aa w0 wx g b1 G v ps o X)(hm:G.log.length=m)(hd:bA (aL aa 10) wx (zs++[z]))(oV:zs.map (·.2)=G.log)
  (aD:aX (relab aa wx.heap.size 5) 5 w3 59 6 (.slice A3 (m+1) c3) (m+1) ((zs++[z]).flatMap dE)) (hF:Fr (aL aa 5) wx w3) :
  ay w3 g 79 (dQ G v)/\rR ao (relab aa wx.heap.size 5) w0 (w3.setCell ⟨g,4,none⟩ (.slice A3 (m+1) c3)) g b1 {G with log:=G.log++[z.2]} {v with log:=.slice A3 (m+1) c3} ps o X:=by
 have ig:ay w3 g 79 (dQ G v):=(hF.block g h.gr.s.lt fun e=>by have e:aa g=5:=e;have:=h.gr.sl;omega).trans h.gr.s;have hS:=ig.set_ 4 (.slice A3 (m+1) c3);have du:=Fr.set (w:=w3) g 4 (.slice A3 (m+1) c3);have bV:=h.gr.s.lt;have gn:=hF.size;have dn:∀j,j<wx.heap.size->aa j≠5->aa j≠1->(w3.setCell ⟨g,4,none⟩ (.slice A3 (m+1) c3)).heap[j]?=wx.heap[j]?:=fun j hj h5 h1=>
  (du.block j (by omega) fun e=>h1 (by rw[e];exact h.gr.sl)).trans (hF.block j hj h5)
 have hL:bC (fun j=>aa j=5\/aa j=1) aa (relab aa wx.heap.size 5) wx (w3.setCell ⟨g,4,none⟩ (.slice A3 (m+1) c3)):=⟨by have:=du.size;omega,fun j hj hn=>⟨ae hj,dn j hj (fun e=>hn (.inl e)) fun e=>hn (.inr e)⟩,du.os.trans hF.os,du.tape.trans hF.tape,du.output.trans hF.output⟩;have k10:∀j,j<wx.heap.size->aa j=10->¬(aa j=5\/aa j=1):=fun j _ e e2=>by omega
 refine⟨ig,bB.turn (fun i=>i=5) h.gr hS hL.size (fun j hj _=>ae hj) (fun j hj _ h1 h5=>dn j hj h5 h1) (by decide) (.inr ⟨by decide,rfl,rfl,rfl⟩) (.inr ⟨by decide,rfl,rfl⟩) (.inr ⟨by decide,rfl,rfl⟩) (.inl ⟨zs++[z],?_,hL.deep k10 hd,?_⟩) (.inr ⟨by decide,rfl,rfl⟩) (.inr ⟨by decide,rfl,rfl⟩) (.inr ⟨by decide,rfl,rfl⟩),
  (dn b1 h.k1.lt (by rw[h.l1];omega) (by rw[h.l1];omega)).trans h.k1,(ae h.k1.lt).trans h.l1,hL.outX k10 h.x,h.f.trans hL fun j _ hn e e2=>hn (by have e2:aa j=5\/aa j=1:=e2;unfold eK;omega)⟩
 ·show aX _ 5 _ 59 6 (.slice A3 (m+1) c3) (G.log++[z.2]).length _;rw[List.length_append,hm];exact aD.keep fun j e hj=>du.block j hj fun e2=>by
   rw[e2,ae bV,h.gr.sl]at e;omega
 ·rw[List.map_append,oV];rfl
theorem bC.cell{q s:Nat}{u:Value}(hb:Below wx.heap.size (wx.setCell ⟨q,s,none⟩ u) w'):bC (fun j=>j=q) aa aa wx w':=
 have hF:=Fr.set (w:=wx) q s u;have gn:(wx.setCell ⟨q,s,none⟩ u).heap.size=wx.heap.size:=by simp[World.setCell]
 ⟨by have:=hb.size;omega,fun j hj hn=>⟨rfl,(hb.block j hj).trans (hF.block j hj hn)⟩,hb.os,hb.tape,hb.output⟩
theorem DK{cs:List En}{p0 i t:Nat}(ht:p0+i=t):(G.comK s p0 cs (i+1)).pos=(G.comK s p0 cs i).pos.set s ((t:Int)+1):=by
 unfold Gp.comK;show G.pos.set s ((p0+(i+1):Nat):Int)=(G.pos.set s ((p0+i:Nat):Int)).set s ((t:Int)+1);rw[List.set_set];congr 1;omega
theorem HJ{cs:List En}{p0 i:Nat}(h:p0<=G.log.length)(hi:i<=cs.length):(G.comK s p0 cs i).log.length=max G.log.length (p0+i):=by
 unfold Gp.comK;simp only[List.length_append,List.length_drop,List.length_take];omega
theorem Bb{cs:List En}{p0 i:Nat}(h:p0+i<G.log.length):(G.comK s p0 cs i).log=G.log/\(G.comK s p0 cs (i+1)).log=G.log:=by
 unfold Gp.comK;constructor
 ·show G.log++(cs.take i).drop _=_;rw[List.drop_eq_nil_of_le (by rw[List.length_take];omega),List.append_nil]
 ·show G.log++(cs.take (i+1)).drop _=_;rw[List.drop_eq_nil_of_le (by rw[List.length_take];omega),List.append_nil]
theorem Ba{cs:List En}{p0 i:Nat}{x:En}(hx:cs[i]?=some x)(h:G.log.length<=p0+i)(h0:p0<=G.log.length):(G.comK s p0 cs (i+1)).log=(G.comK s p0 cs i).log++[x]:=by
 unfold Gp.comK;show G.log++(cs.take (i+1)).drop _=(G.log++(cs.take i).drop _)++[x];rw[List.append_assoc,List.take_add_one,hx];congr 1;have hi:=(List.getElem?_eq_some_iff.1 hx).1;rw[List.drop_append_of_le_length (by rw[List.length_take];omega)];rfl
theorem UM(hl:l.length=119/\l[0]?=some (.pointer (some ⟨g,0,none⟩))/\l[1]?=some (.int .i64 s)/\l[2]?=some (.agg (aK o X)))(hK:∀l':List Value,Oh l' g wx.heap.size s->K ⟨l'.toArray,[]⟩ (wx.alloc (.cells (aK o X) 49))):sQ 0 f83 K Q' l wx:=by
 unfold aK at *;obtain⟨ab,ax,aM,bE⟩:=hl;obtain⟨fr,rfl,ag⟩:=am ab;rw[rf,ag _ _ ax,ag _ _ aM,ag _ _ bE];clear ab ag ax aM bE;refine lu 0 f83 rfl ?_;go_wp2_with fail;exact⟨rfl,rfl,rfl,rfl⟩
theorem UN(h:rR ao aa w0 wx g b1 G v ps o X)(hs:s<G.n)(gg:G.n<=7)(jw:G.pos.length=G.n)(hc:mB G s o)(nb:G.log.length<=1099511627776)(hl:Oh l g b1 s)(hK:∀(l':List Value) w',Oh l' g b1 s/\rR ao aa w0 w' g b1 {G with pos:=G.pos.set s (G.snapTo s o)} v ps o X->K ⟨l'.toArray,[]⟩ w'):sP 1 f83 K H l wx:=by
 obtain⟨q,c,hq,jX,eW,fR,kG,aQ,ef⟩:=h.gr.p.form (by omega);have AG:G.pos[s]?=some (G.up s):=by
  unfold Gp.up;rw[List.getElem?_eq_getElem (by omega)];rfl
 have lp:G.pos.set s (G.up s)=G.pos:=FM AG;have y6:=h.k1.cell 6;simp only[aK,vi,Zx]at y6;obtain⟨c4,c6,-⟩:=h.gr.s.cs [4,6];simp only[dQ,vi,Zx]at c4 c6;rw[hq]at c6;obtain⟨AL,cL,IP,JU,_⟩:=id h.gr.e.choose_spec.1;have Qp:=aZ JU;rw[IP]at c4;obtain⟨m,hm⟩:=zN (G.log.length);obtain⟨n,hn⟩:=zN (G.pos.length);rw[hn]at hq jX c6;have fw:s<n:=by omega
 have ou:s<7:=by omega
 replace hK:=zH hK;rcases h.x.snp with⟨h1,h2⟩|⟨x,r,A,k,d,h1,h2,hr,yS,eb⟩
 ·have e:({G with pos:=G.pos.set s (G.snapTo s o)}:Gp)=G:=by unfold Gp.snapTo;rw[h1];show({G with pos:=G.pos.set s (G.up s)}:Gp)=G;rw[lp]
  rw[h2]at y6;have hE:=zH h;replace e:=zH e;clear h h1 h2 hc aQ JU IP;obtain⟨ab,ax,aM,cP⟩:=hl;obtain⟨fr,rfl,ag⟩:=am ab;rw[rf,ag _ _ ax,ag _ _ aM,ag _ _ cP];clear ab ag ax aM cP;refine lu 1 f83 rfl ?_;go_wp2_with fail;exact hK.out _ _ ⟨⟨rfl,rfl,rfl,rfl⟩,by rw[e.out];exact hE.out⟩
 ·have hx:=hc.sn x h1;have sY:=hc.p0;have bP:G.snapTo s o=max (G.up s) x.idx:=by unfold Gp.snapTo;rw[h1]
  rw[h2]at y6;have x0:=yS.cell 0;simp only[Zx]at x0;have cp:wx.cell? ⟨q,s,none⟩=some (.int .i64 (G.up s)):=aQ s _ (by rw[List.getElem?_map,AG];rfl);have fp:=ef s;rw[hm]at c4 hx sY Qp;have d1:decide ((m:Int)<x.idx)=false:=decide_eq_false (by omega);have bV:=h.gr.s.lt;have uV:=h.k1.lt;have qr:=yS.lt;obtain⟨k4,k6,k7,k8,k9⟩:=O6 [g,b1,r,q] c4 c6 y6 x0 cp;have j4:=zK [g,b1,r,q] (w:=wx.drew) c4 (by simp);have j6:=zK [g,b1,r,q] (w:=wx.drew) c6 (by simp);have j7:=zK [g,b1,r,q] (w:=wx.drew) y6 (by simp);have j8:=zK [g,b1,r,q] (w:=wx.drew) x0 (by simp);have j9:=zK [g,b1,r,q] (w:=wx.drew) cp (by simp);by_cases Hc:G.up s<x.idx
  ·have d2:decide (G.up s<x.idx)=true:=decide_eq_true Hc;have e:G.snapTo s o=x.idx:=by rw[bP];omega
   have hE:=zH (fun w' hb=>h.setPos (w':=w') hq hn fw x.idx hb);replace e:=zH e;clear h h1 h2 hc aQ JU IP hx sY bP AG lp Hc jw;obtain⟨ab,ax,aM,cP⟩:=hl;obtain⟨fr,rfl,ag⟩:=am ab;rw[rf,ag _ _ ax,ag _ _ aM,ag _ _ cP];clear ab ag ax aM cP;refine lu 1 f83 rfl ?_;go_wp2_with fail;refine gj [g,b1,r,q] wx [] [0,1,2,3,4,5,6,7,8,9,10] ?_;refine an ?_;simp only[af,Zx];repeat go_big_quiet_step(fail)
   apply wpQuiet_nil;go_wp2_with fail;refine bo (C:=cr [g,b1,r,q] wx.drew) [] [0,1,2,3,4,5,6,7,8,9,10,11,12] (by kernel_rfl) (by kernel_rfl) (fun _ _ _ _ e h=>⟨e.symm.trans h.1,h.2⟩) az ?_;refine an ?_;simp only[af,Zx];repeat go_big_quiet_step(fail)
   apply wpQuiet_nil;go_wp2_with fail;go_region;refine hK.out _ _ ?_;exact⟨⟨rfl,rfl,rfl,rfl⟩,by rw[e.out];exact hE.out _ (zb.drew.drew.drew)⟩
  ·have d2:decide (G.up s<x.idx)=false:=decide_eq_false Hc;have e:({G with pos:=G.pos.set s (G.snapTo s o)}:Gp)=G:=by rw[bP,show max (G.up s) x.idx=G.up s by omega];show({G with pos:=G.pos.set s (G.up s)}:Gp)=G;rw[lp]
   have hE:=zH (fun w' hb=>h.below (w':=w') hb);replace e:=zH e;clear h h1 h2 hc aQ JU IP hx sY bP AG lp Hc jw;obtain⟨ab,ax,aM,cP⟩:=hl;obtain⟨fr,rfl,ag⟩:=am ab;rw[rf,ag _ _ ax,ag _ _ aM,ag _ _ cP];clear ab ag ax aM cP;refine lu 1 f83 rfl ?_;go_wp2_with fail;refine gj [g,b1,r,q] wx [] [0,1,2,3,4,5,6,7,8,9,10] ?_;refine an ?_;simp only[af,Zx];repeat go_big_quiet_step(fail)
   apply wpQuiet_nil;go_wp2_with fail;refine bo (C:=cr [g,b1,r,q] wx.drew) [] [0,1,2,3,4,5,6,7,8,9,10,11,12] (by kernel_rfl) (by kernel_rfl) (fun _ _ _ _ e h=>⟨e.symm.trans h.1,h.2⟩) az ?_;refine an ?_;simp only[af,Zx];repeat go_big_quiet_step(fail)
   apply wpQuiet_nil;go_wp2_with fail;refine hK.out _ _ ?_;exact⟨⟨rfl,rfl,rfl,rfl⟩,by rw[e.out];exact hE.out _ (zb.drew.drew)⟩
theorem UO{p0:Nat}(h:rR ao aa w0 wx g b1 {G with pos:=G.pos.set s (p0:Int)} v ps o X)(hs:s<G.n)(gg:G.n<=7)(jw:G.pos.length=G.n)(sY:p0<=G.log.length)(nb:G.log.length<=1099511627776)(kW:p0+o.commits.length<=1099511627776)(fA:∀(k:Nat) e,o.commits[k]?=some e->e.idx=(p0:Int)+1+k/\(e.idx<=G.log.length->G.log[(e.idx-1).toNat]?=some e))(hl:Oh l g b1 s)(hH:∀w' ac v',rR ao ac w0 w' g b1 (G.comK s p0 o.commits o.commits.length) v' ps o X->H (.returned (.tuple #[])) w'):tP 2 f83 H l wx:=by
 obtain⟨n,hn⟩:=zN (o.commits.length);rw[hn]at kW hH;replace h:=zH h;replace hH:=zH hH;replace hn:=zH hn;have ou:s<7:=by omega
 obtain⟨ab,ax,aM,cP⟩:=hl;obtain⟨fr,rfl,ag⟩:=am ab;rw[rf,ag _ _ ax,ag _ _ aM,ag _ _ cP];clear ab ag ax aM cP;refine Kw 2 f83 rfl ?_;go_wp2_with fail
 go_loopw [6] (fun u6 wr=>∃(i:Nat) (ac:Nat->Nat) (v':Gv),i<=n/\u6=.int .i64 i/\rR ao ac w0 wr g b1 (G.comK s p0 o.commits i) v' ps o X) (fun u6 _=>n-(intOf u6).toNat)
 case atStart=>exact⟨0,aa,v,Nat.zero_le _,rfl,by
  have e:G.comK s p0 o.commits 0={G with pos:=G.pos.set s (p0:Int)}:=by
   unfold Gp.comK;rw[List.take_zero,List.drop_nil,List.append_nil];rfl
  rw[e];exact h.out⟩
 case round=>
  obtain⟨i,ar,v1,hi,rfl,eC⟩:=hrel;have y5:=eC.k1.cell 5;simp only[aK,vi,Zx]at y5;rw[hn.out]at y5;by_cases bh:i<n
  ·obtain⟨cs,hr,WM,uY,QA,WH⟩:=eC.x.coms;rw[hn.out]at hr QA;obtain⟨ad,vz,x,hA,hz,r0,r1,r2,r3,r4,r5⟩:=hr.at_ bh;rw[hA]at y5;have HC:o.commits[i]?=some x:=by rw[<-uY,List.getElem?_map,hz];rfl
   obtain⟨Sk,vn⟩:=fA i x HC;have ef:=WM _ (List.mem_of_getElem? hz);obtain⟨Af,nf,cf,Kk,Zz,TG,Ld⟩:=ef.form;have Kk:vz=.slice Af nf cf:=Kk;have Ld:x.facts.length=nf:=Ld;subst Kk;obtain⟨t,ht⟩:=zN (p0+i);have Do:x.idx=(t:Int)+1:=by omega
   rw[Do]at r0;have X2:t<1099511627776:=by omega
   obtain⟨q,c,hq,jX,eW,fR,kG,aQ,JA⟩:=eC.gr.p.form (by show 0<(G.pos.set s _).length;rw[List.length_set];omega);have Ax:(G.comK s p0 o.commits i).pos.length=G.n:=by show(G.pos.set s _).length=_;rw[List.length_set];exact jw
   rw[Ax]at hq jX;obtain⟨c4,c6,-⟩:=eC.gr.s.cs [4,6];simp only[dQ,vi,Zx]at c4 c6;rw[hq]at c6;have cp:wr.cell? ⟨q,s,none⟩=some (.int .i64 (t:Int)):=aQ s _ (by
    show((G.pos.set s ((p0+i:Nat):Int)).map vi)[s]?=_;rw[List.getElem?_map,List.getElem?_set,if_pos rfl,if_pos (by omega),ht];rfl)
   have fp:=JA s;obtain⟨zL,⟨AL,cL,IP,JU,Zs⟩,KW,At⟩:=id eC.gr.e;have Qp:=aZ JU;rw[IP]at c4;obtain⟨m,hm⟩:=zN ((G.comK s p0 o.commits i).log.length);have pJ:=HJ (G:=G) (s:=s) (cs:=o.commits) (p0:=p0) (i:=i) sY (by have:=hn.out;omega);rw[hm]at c4 IP JU Qp pJ;have Ng:m<=1099511627776:=by omega
   have fw:s<G.n:=hs;have bH:Below wr.heap.size wr (wr.alloc (.cells #[.int .i64 ((t:Int)+1),.int .i64 x.term,.int .i64 x.op,.int .i64 x.sess,.int .i64 x.seq,.slice Af nf cf] 59)):=zb.alloc zl _;have iq:=ay.new wr 59 #[.int .i64 ((t:Int)+1),.int .i64 x.term,.int .i64 x.op,.int .i64 x.sess,.int .i64 x.seq,.slice Af nf cf];obtain⟨w1,bM⟩:=zN (wr.alloc (.cells #[.int .i64 ((t:Int)+1),.int .i64 x.term,.int .i64 x.op,.int .i64 x.sess,.int .i64 x.seq,.slice Af nf cf] 59));rw[bM]at bH iq;obtain⟨b2,bU⟩:=zN (wr.heap.size);have oo:=eC.room bH;rw[bU]at iq;have BS:q<b2:=by omega
   have jo:g<b2:=by have:=eC.gr.s.lt;omega
   have Hj:ay w1 b2 59 #[.int .i64 ((t:Int)+1),.int .i64 x.term,.int .i64 x.op,.int .i64 x.sess,.int .i64 x.seq,.slice Af nf cf]:=iq;have x0:=iq.cell 0;simp only[Zx]at x0;have a6:=(bH.cell (p:=⟨g,6,none⟩) (by show g<_;omega)).trans c6;have ap:=(bH.cell (p:=⟨q,s,none⟩) kG).trans cp;have fpa:w1.frozen? ⟨q,s,none⟩=false:=(World.frozen?_of_block (bH.block q kG)).trans fp;obtain⟨k6,kp,kx⟩:=C3 [g,q,b2] a6 ap x0;obtain⟨w2,eh⟩:=zN ((w1.setCell ⟨q,s,none⟩ (.int .i64 ((t:Int)+1))).drew.drew);have Jp:Below w1.heap.size (w1.setCell ⟨q,s,none⟩ (.int .i64 ((t:Int)+1))) w2:=by rw[<-eh];exact zb.drew.drew
   have iY:=oo.setPos (w':=w2) (n:=G.n) hq Ax fw ((t:Int)+1) Jp;have mu:ay w2 b2 59 #[.int .i64 ((t:Int)+1),.int .i64 x.term,.int .i64 x.op,.int .i64 x.sess,.int .i64 x.seq,.slice Af nf cf]:=(Jp.block b2 iq.lt).trans (iq.far (p:=⟨q,s,none⟩) (by show b2≠q;omega) _);obtain⟨e0,e1,e2,e3,e4,e5,-⟩:=mu.cs [0,1,2,3,4,5];simp only[Zx]at e0 e1 e2 e3 e4 e5;have d4:=iY.gr.s.cell 4;simp only[dQ,vi,Zx]at d4;have Ki:v1.log=.slice AL m cL:=IP;rw[Ki]at d4;obtain⟨m4,me⟩:=rQ [g,b2] d4 e0;have Sm:({x with idx:=(t:Int)+1}:En)=x:=by rw[<-Do]
   have QJ:bA (aL ar 10) wr [(.slice Af nf cf,({x with idx:=(t:Int)+1}:En))]:=fun z hz=>by rw[List.mem_singleton.1 hz];exact ef
   have Eo:=(bC.cell (aa:=relab ar wr.heap.size 12) Jp).deep (i:=10) (fun j hj e e2=>by rw[e2,ae kG]at e;omega) ((bC.new 12 ar bH).deep (fun _ _ _ hf=>hf) QJ);have Ay:=DK (G:=G) (s:=s) (cs:=o.commits) ht;have bY:∀j∈[g,b2],j<w2.drew.heap.size:=by simp;exact⟨iY.gr.s.lt,mu.lt⟩
   have bi:=zH (show n-(i+1)<n-i by omega);have Ru:m=t\/t<m:=by omega
   replace pJ:=zH pJ;replace hm:=zH hm;replace bM:=zH bM;replace eh:=zH eh;replace eC:=zH eC;replace oo:=zH oo;replace Sm:=zH Sm;replace Ay:=zH Ay;replace aQ:=zH aQ;replace JA:=zH JA;replace fA:=zH fA;replace vn:=zH vn;replace Do:=zH Do;replace Sk:=zH Sk;replace ht:=zH ht;replace bU:=zH bU;rcases Ru with Gk|Gk
   ·replace Gk:=Gk.symm;subst Gk;have aU:=zH (show Below w2.drew.heap.size w2.drew (w2.drew.drew.alloc (.cells #[.int .i64 ((t:Int)+1),.int .i64 x.term,.int .i64 x.op,.int .i64 x.sess,.int .i64 x.seq,.slice Af nf cf] 59))from((Below.refl _ w2.drew).drew).alloc (show w2.drew.heap.size<=w2.drew.drew.heap.size from Nat.le_refl _) _);have GZ:Below w2.heap.size w2 (w2.drew.drew.alloc (.cells #[.int .i64 ((t:Int)+1),.int .i64 x.term,.int .i64 x.op,.int .i64 x.sess,.int .i64 x.seq,.slice Af nf cf] 59)):=(((Below.refl _ w2).drew).drew).alloc (show w2.heap.size<=w2.drew.drew.heap.size from Nat.le_refl _) _;have J6:=iY.room GZ;have My:=(bC.new 12 (relab ar wr.heap.size 12) GZ).deep (fun _ _ _ hf=>hf) Eo;obtain⟨zM,sZ,Mt,Nh⟩:=id J6.gr.e;rw[Ki]at sZ;have sZ:aX _ 5 _ 59 6 (.slice AL t cL) (G.comK s p0 o.commits i).log.length (zM.flatMap dE):=sZ;rw[hm.out]at sZ;have eu:=ay.new w2.drew.drew 59 #[.int .i64 ((t:Int)+1),.int .i64 x.term,.int .i64 x.op,.int .i64 x.sess,.int .i64 x.seq,.slice Af nf cf];have gu:im _ _ 1 [((.slice Af nf cf:Value),({x with idx:=(t:Int)+1}:En))]:=im.one (z:=(.slice Af nf cf,({x with idx:=(t:Int)+1}:En))) eu;have jp:∀z∈[((.slice Af nf cf:Value),({x with idx:=(t:Int)+1}:En))],z.1.oneCell'=true:=fun z hz=>by rw[List.mem_singleton.1 hz];rfl
    have px:relab (relab ar wr.heap.size 12) w2.heap.size 12 b2=12:=(ae mu.lt).trans ((aA (by rw[bU.out];exact Nat.le_refl _)));have fo:=zH (fun A3 c3 w3 aD hF=>And.intro (show ∀j∈[g,b2],w3.heap[j]?=w2.drew.heap[j]? from fun j hj=>by
     have h1:relab (relab ar wr.heap.size 12) w2.heap.size 12 j≠5/\j<w2.heap.size:=by
      rcases List.mem_cons.1 hj with e|e
      ·rw[e];exact⟨by rw[J6.gr.sl];omega,iY.gr.s.lt⟩
      ·rw[List.mem_singleton.1 e];exact⟨by rw[px];omega,mu.lt⟩
     exact(Fr.block hF j (Nat.lt_of_lt_of_le h1.2 GZ.size) h1.1).trans (GZ.block j h1.2)) (J6.grow (A3:=A3) (c3:=c3) (m:=t) (w3:=w3) (z:=(.slice Af nf cf,({x with idx:=(t:Int)+1}:En))) hm.out (Mt.append My) Nh aD hF))
    have eX:=zH (show G.comK s p0 o.commits (i+1)={G.comK s p0 o.commits i with pos:=(G.comK s p0 o.commits i).pos.set s ((t:Int)+1),log:=(G.comK s p0 o.commits i).log++[({x with idx:=(t:Int)+1}:En)]} by
     have e1:=Ay.out;have e2:=Ba (G:=G) (s:=s) HC (by have:=pJ.out;have:=ht.out;omega) sY;show({G with pos:=(G.comK s p0 o.commits (i+1)).pos,log:=(G.comK s p0 o.commits (i+1)).log}:Gp)=_;rw[e1,e2,Sm.out];rfl)
    replace iY:=zH iY;replace J6:=zH J6;clear Mt My Nh;go_wp2_with fail;rw[bM.out,bU.out];try go_wp2_with fail
    refine gj [g,q,b2] w1 [] [0,1,2,3,4,5,6,7,8,9,10] ?_;refine an ?_;simp only[af,Zx];repeat go_big_quiet_step(fail)
    apply wpQuiet_nil;go_wp2_with fail;go_region;rw[eh.out];try go_wp2_with fail
    refine gj [g,b2] w2 [] [0,1,2,3,4,5,6,7,8] ?_;refine an ?_;simp only[af,Zx];repeat go_big_quiet_step(fail)
    apply wpQuiet_nil;go_wp2_with fail;have j4:=zK [g,b2] (w:=w2.drew) d4 (by simp);have j0:=zK [g,b2] (w:=w2.drew) e0 (by simp);have j1:=zK [g,b2] (w:=w2.drew) e1 (by simp);have j2:=zK [g,b2] (w:=w2.drew) e2 (by simp);have j3:=zK [g,b2] (w:=w2.drew) e3 (by simp);have j5:=zK [g,b2] (w:=w2.drew) e4 (by simp);have j6:=zK [g,b2] (w:=w2.drew) e5 (by simp);refine bz (C:=cr [g,b2] w2.drew) [([0,1,2,3,4,5],6),([],7)] ([8,9],10) (by kernel_rfl) (by kernel_rfl) (fun _ _ _ _ e h=>⟨e.symm.trans h.1,h.2⟩) az ?_;refine au fun K1 cF=>?_
    simp only[af,Zx];repeat go_big_quiet_step(fail)
    apply wpQuiet_nil;go_wp2_with fail;refine⟨aw bY aU.out,cF _ _ ?_⟩;refine au fun K3 jS=>?_
    simp only[af,Zx];apply wpQuiet_nil;go_wp2_with (at_builtin;refine gP rfl (.tmp 97) (.tmp 99) rfl rfl sZ rfl gu jp (by omega) ?_;intro A3 c3 w3 bg dW;obtain⟨fX,ig,pp⟩:=fo.out A3 c3 w3 bg dW;replace pp:=zH pp;replace fX:=zH fX;have u4:=ig.cell 4;have v4:=ig.free 4;simp only[dQ,Zx]at u4;clear fo bg dW sZ gu);have ip:=ig.lt;clear ig;refine⟨aT fX.out,jS _ _ ?_⟩;refine aE ?_;simp only[af,Zx];repeat go_big_quiet_step(fail)
    apply wpQuiet_nil;go_wp2_with fail;exact⟨⟨i+1,_,{v1 with log:=.slice A3 (t+1) c3},bh,by go_num,by rw[eX.out];exact pp.out⟩,by simp[intOf];exact bi.out⟩
   ·have n1:((t:Int)+1==(m:Int)+1)=false:=beq_eq_false_iff_ne.2 (by omega);obtain⟨zM,tb,Mt,Nh⟩:=id iY.gr.e;rw[Ki]at tb;have tb:aX _ 5 _ 59 6 (.slice AL m cL) (G.comK s p0 o.commits i).log.length (zM.flatMap dE):=tb;rw[hm.out]at tb;have NG:im w2 AL m zM:=by
     obtain⟨A',c',e,ho,_⟩:=tb;injection e with e1 _ e3;subst e1 e3;exact cj.of_own ho
    obtain⟨adL,vB,y,Tc,Sw,q0,q1,q2,q3,q4,q5⟩:=NG.at_ (k:=t) Gk;have JO:p0+i<G.log.length:=by have:=pJ.out;have:=ht.out;omega
    have km:=Bb (G:=G) (s:=s) (cs:=o.commits) JO;have Yh:y=x:=by
     have e1:=congrArg (fun l=>l[t]?) Nh;have e2:=vn.out (by have:=Do.out;have:=ht.out;omega);rw[show(x.idx-1).toNat=t by have:=Do.out;omega]at e2;have e3:(G.comK s p0 o.commits i).log[t]?=some x:=by rw[km.1];exact e2
     simp only[List.getElem?_map,Sw,Option.map_some]at e1;exact Option.some.inj (e1.trans e3)
    subst Yh;rw[Do.out]at q0;have QO:=Mt _ (List.mem_of_getElem? Sw);obtain⟨Bf,nB,df,Sc,Xr,WE,Di⟩:=QO.form;have Sc:vB=.slice Bf nB df:=Sc;subst Sc;have Ry:nB=nf:=Di.symm.trans Ld;subst Ry;have gf:=zI (w:=w2.drew.drew) (x:=({y with idx:=(t:Int)+1}:En)) (S:=aL (relab ar wr.heap.size 12) 10) (S':=aL (relab ar wr.heap.size 12) 10) (Eo _ (List.mem_singleton.2 rfl)) QO (by omega);unfold rN at gf;rw[Tc]at d4;have JE:∀j∈[g,b2,(adL.add (t*6)).block],j<w2.drew.heap.size:=by
     simp;exact⟨iY.gr.s.lt,mu.lt,World.block_lt_of_cell? _ _ q0⟩
    have eX:=zH (show G.comK s p0 o.commits (i+1)={G.comK s p0 o.commits i with pos:=(G.comK s p0 o.commits i).pos.set s ((t:Int)+1)} by
     have e1:=Ay.out;show({G with pos:=(G.comK s p0 o.commits (i+1)).pos,log:=(G.comK s p0 o.commits (i+1)).log}:Gp)=_;rw[e1,km.2,<-km.1];rfl)
    replace iY:=zH iY;replace km:=zH km;clear tb Mt Nh NG Sw QO Tc Xr WE Di;go_wp2_with fail;rw[bM.out,bU.out];try go_wp2_with fail
    refine gj [g,q,b2] w1 [] [0,1,2,3,4,5,6,7,8,9,10] ?_;refine an ?_;simp only[af,Zx];repeat go_big_quiet_step(fail)
    apply wpQuiet_nil;go_wp2_with fail;go_region;rw[eh.out];try go_wp2_with fail
    refine gj [g,b2] w2 [] [0,1,2,3,4,5,6,7,8] ?_;refine an ?_;simp only[af,Zx];repeat go_big_quiet_step(fail)
    apply wpQuiet_nil;go_wp2_with fail;have j4:=zK [g,b2,(adL.add (t*6)).block] (w:=w2.drew) d4 (by simp);have j0:=zK [g,b2,(adL.add (t*6)).block] (w:=w2.drew) e0 (by simp);have j1:=zK [g,b2,(adL.add (t*6)).block] (w:=w2.drew) e1 (by simp);have j2:=zK [g,b2,(adL.add (t*6)).block] (w:=w2.drew) e2 (by simp);have j3:=zK [g,b2,(adL.add (t*6)).block] (w:=w2.drew) e3 (by simp);have j5:=zK [g,b2,(adL.add (t*6)).block] (w:=w2.drew) e4 (by simp);have j6:=zK [g,b2,(adL.add (t*6)).block] (w:=w2.drew) e5 (by simp);have i0:=zK [g,b2,(adL.add (t*6)).block] (w:=w2.drew) q0 (by simp);have i1:=zK [g,b2,(adL.add (t*6)).block] (w:=w2.drew) q1 (by simp);have i2:=zK [g,b2,(adL.add (t*6)).block] (w:=w2.drew) q2 (by simp);have i3:=zK [g,b2,(adL.add (t*6)).block] (w:=w2.drew) q3 (by simp);have i4:=zK [g,b2,(adL.add (t*6)).block] (w:=w2.drew) q4 (by simp);have i5:=zK [g,b2,(adL.add (t*6)).block] (w:=w2.drew) q5 (by simp);refine bo (C:=cr [g,b2,(adL.add (t*6)).block] w2.drew) [([0,1,2,3,4,5,6,7,8,9],10)] [11] (by kernel_rfl) (by kernel_rfl) (fun _ _ _ _ e h=>⟨e.symm.trans h.1,h.2⟩) az ?_;refine aC fun K1 cF=>?_
    simp only[af,Zx];repeat go_big_quiet_step(fail)
    apply wpQuiet_nil;go_wp2_with fail;refine gf.mono ?_;rintro e w5 ⟨rfl,dp⟩;have Jj:Below w2.drew.heap.size w2.drew w5:=aj ((Below.refl _ w2.drew).drew) dp zl;have XT:=zH (iY.out.below (w':=w5) (aj (((Below.refl w2.heap.size w2).drew).drew) dp zl));clear gf dp;go_wp2_with fail;refine⟨aw JE Jj,cF _ _ ?_⟩;refine an ?_;simp only[af,Zx];repeat go_big_quiet_step(fail)
    apply wpQuiet_nil;go_wp2_with fail;exact⟨⟨i+1,_,v1,bh,by go_num,by rw[eX.out];exact XT.out⟩,by simp[intOf];exact bi.out⟩
  ·obtain rfl:i=n:=by omega
   have hE:=zH (hH.out wr ar v1 eC);clear eC;go_wp2_with fail;exact ai rfl rfl hE.out
theorem tU(h:bB aa wx g G v ps)(ho:fd aa 10 wx o X)(hs:s<G.n)(gg:G.n<=7)(jw:G.pos.length=G.n)(hc:mB G s o)(nb:G.log.length<=1099511627776)(kW:G.snapTo s o+o.commits.length<=1099511627776) :
  Calls prog 83 #[.pointer (some ⟨g,0,none⟩),.int .i64 s,.agg (aK o X)] wx fun e w'=>e=.returned (.tuple #[])/\∃ac v',bB ac w' g (G.commits s o) v' ps/\bC (eK aa) aa ac wx w':=by
 refine bJ (args:=[.pointer (some ⟨g,0,none⟩),.int .i64 s,.agg (aK o X)]) 119 func83 (by kernel_rfl) ntmps83 (by simp) fun la gF cQ=>?_
 have hb:=(Below.refl wx.heap.size wx).alloc zl (.cells (aK o X) 49);have hk:=ay.new wx 49 (aK o X);refine cK (by kernel_rfl) (UM ⟨gF,cQ 0 _ rfl,cQ 1 _ rfl,cQ 2 _ rfl⟩ fun l0 ir=>?_);obtain⟨w1,bM⟩:=zN (wx.alloc (.cells (aK o X) 49));rw[bM]at hb hk;rw[bM];have hL:=bC.new 9 aa hb;have hS:rR aa (relab aa wx.heap.size 9) wx w1 g wx.heap.size G v ps o X:=⟨hL.grp (fun _ _ _ h=>h) h,hk,aA zl,hL.outX (fun _ _ _ h=>h) ho,hL.mono fun _ _ h=>h.elim⟩;refine cK (by kernel_rfl) (UN hS hs gg jw hc nb ir fun l1 w2 h1=>?_);obtain⟨dm,g4⟩:=h1;have hp:=hc.p0;have fw:=hc.sn;have bP:0<=G.snapTo s o/\G.snapTo s o<=G.log.length:=by
  unfold Gp.snapTo;cases hx:o.snap with
  | none=>exact hp
  | some x=>
   have:=fw x hx;simp only;omega
 obtain⟨p0,sY⟩:∃p0:Nat,G.snapTo s o=p0:=⟨_,(Int.toNat_of_nonneg bP.1).symm⟩;rw[sY]at g4 bP kW;refine UO (p0:=p0) g4 hs gg jw (by omega) nb (by omega) (fun k e he=>?_) dm fun w3 dX v3 ip=>⟨rfl,dX,v3,?_,ip.f⟩
 ·have:=hc.cs k e he;rw[sY]at this;exact this
 ·have e:G.commits s o=G.comK s p0 o.commits o.commits.length:=by
   unfold Gp.commits Gp.comK;rw[sY,List.take_length];rfl
  rw[e];exact ip.gr
end
structure ni(G:Gp)(s:Nat)(o:Ot):Prop where
 hs:s<G.n
 n7:G.n<=7
 dl:G.disk.length=G.n
 pl:G.pos.length=G.n
 cs:mB G s o
 lk:G.log.length<=1099511627776
 ck:G.snapTo s o+o.commits.length<=1099511627776
 en:((G.dk s).told o).entries.length<=1099511627776/\o.entries.length<=1099511627776
 tr:(G.srv s).track.L.length<=100000000000
 tm:0<=(G.srv s).hard.term/\(G.srv s).hard.term<=1099511627776
 lz:G.leads.length<=5000
 two:G.two=false
 nl:G.net.length<=300
 ml:o.msgs.length<=10000000000
structure IZ(G:Gp)(s:Nat):Prop where
 hs:s<G.n
 n7:G.n<=7
 ll:G.l.length=G.n
 dl:G.disk.length=G.n
 pl:G.pos.length=G.n
 nw:∃R',Rf.new ((s+1:Nat):Int) G.n (G.dk s)=some R'
 en:(G.dk s).entries.length<=1200000000000
 fl:((G.dk s).entries.filter fun x=>decide ((G.dk s).snap.idx<x.idx)).length<=10000000000
 rn:G.rn<=1000000
section
variable {n t T:Int}{i a N N0 k v s K M:Nat}{gh gh':Gh}{R R' R0:Rf}{F F' F0 l:List En}{m:Mg}{d:gk}{o:Ot}{G G':Gp}{Fs:Nat->List En}
theorem tA(e:G'.pos=G.pos):G'.snapTo s o=G.snapTo s o:=by
 unfold Gp.snapTo Gp.up;rw[e]
theorem mB.of(h:mB G s o)(e1:G'.log=G.log)(e2:G'.pos=G.pos):mB G' s o:=
 ⟨fun x hx=>by rw[e1];exact h.sn x hx,by
  have:=h.p0;unfold Gp.up at this ⊢;rw[e1,e2];exact this,fun k e he=>by
  rw[tA e2,e1];exact h.cs k e he⟩
theorem CQ(h:Ok K 0 R)(d:Int):(R.tick d).1.msgs.length<=K+60:=by
 have:=(h.beats d).ms;show(R.beats d).out.msgs.length<=K+60;omega
theorem CH(h:Ok K 0 R)(hK:1<=K)(m:Mg):(R.step m).1.msgs.length<=K+100:=by
 unfold Rf.step;split
 ·exact Nat.zero_le _
 ·rename_i hr;have iL:vC R m:=qZ (by cases hx:R.right m <;> simp_all);simp only;generalize gE:(if R.hard.term<m.term/\m.kind≠1/\(m.kind≠2\/m.reject=true)then R.follows m.term else R)=R1;have h1:Ok K 0 R1:=by
   rw[<-gE];split
   ·exact h.follows (by have:=iL.term;omega) (by have:=iL.term;omega)
   ·exact h
  have EL:R1.n=R.n:=by rw[<-gE];split <;> rfl
  have BN:vC R1 m:=⟨iL.kind,by rw[EL];exact iL.frm,iL.term,iL.idx,iL.lgt,iL.cmt,iL.rnd,iL.off,iL.tot,iL.el,iL.dl⟩;split
  ·have:=(h1.late m).ms;show(R1.late m).out.msgs.length<=_;omega
  ·have h2:=h1.does hK BN;split
   ·have:=h2.reads.ms;show(R1.does m).reads.out.msgs.length<=_;omega
   ·have:=h2.ms;show(R1.does m).out.msgs.length<=_;omega
theorem uE(h:Ok K 0 R)(x:En):(R.propose x).1.2.2.msgs.length<=K+100:=by
 have hp:=h.put R.hard.term x;unfold Rf.propose;split
 ·exact Nat.zero_le _
 ·simp only;split
  ·exact Nat.zero_le _
  ·have:=(((hp.save [(R.track.putF R.hard.term x).1.1]).all).agrees).ms;show(Rf.agrees _).out.msgs.length<=_;have e:([(R.track.putF R.hard.term x).1.1]:List En).length=1:=rfl;omega
theorem Cs(h:Ok K 0 R)(ctx:Int):(R.read ctx).1.2.msgs.length<=K+100:=by
 unfold Rf.read;split
 ·exact Nat.zero_le _
 ·split
  ·exact Nat.zero_le _
  ·split
   ·exact Nat.zero_le _
   ·have:=(((h.rounded' (R.waits++[Wt.mk ctx R.commit (R.round+1)]) (by rw[List.length_append];show R.waits.length+1<=16;omega)).all).reads).ms;refine Nat.le_trans this ?_;omega
theorem gX.flen(h:gX n gh i R F):F.length<=1099511627776:=by
 have h1:=h.len;have h2:=h.tr.room;omega
theorem iT.tkOk(h:iT K G gh Fs)(hs:s<G.n)(A:vu G.n gh (s+1) (G.srv s) (Fs s) G.log.length gh' F' o R')(cz:Ok (K+11) 0 R')(hx:∀x,o.snap=some x->x.idx≠0/\x.idx<=G.log.length)(hK:K<=800000000)(sW:o.msgs.length<=K+100):ni {G with l:=G.l.set s R'} s o:=by
 obtain⟨hI,AG,gf⟩:=h.sv s hs;have hm:=A.mid;have sv':=hm.sv;have iU:=hm.cc;have mZ:=hm.dk;have ab:R'.commit.toNat<=F'.length:=sv'.co.len;have qj:=h.coms hs A hx;have MF:=hI.sv.flen;have WT:=sv'.flen;have e0:({G with l:=G.l.set s R'}:Gp).srv s=R':=by
  show(G.l.set s R')[s]?.getD AV=R';rw[eH (by rw[h.ll];exact hs),if_pos rfl]
 obtain⟨j,hj,ua⟩:=hI.dk.en;have yH:=hI.sv.cm;have wG:=hI.sv.idx0;have QD:=cz.cm;refine⟨hs,h.n3.2,h.dl,h.pl,qj.of rfl rfl,h.lk,?_,⟨?_,?_⟩,?_,?_,h.lz,h.two,h.nl,by omega⟩
 ·show G.snapTo s o+o.commits.length<=1099511627776;unfold kJ at iU;unfold Gp.snapTo;simp only at iU;cases om:o.snap with
  | none=>
   rw[om]at iU;simp only at iU;obtain⟨c1,c2⟩:=iU;show G.up s+(o.commits.length:Int)<=_;rw[c2,List.length_take,List.length_drop,AG];omega
  | some x=>
   rw[om]at iU;simp only at iU;obtain⟨c1,c2,c3⟩:=iU;have:=hx x om;rw[c2];show max (G.up s) x.idx+((0:Nat):Int)<=_;omega
 ·show((G.dk s).told o).entries.length<=_;have hd:(G.dk s).entries.length<=1099511627776:=by rw[ua,List.length_drop];omega
  unfold gk.told;split
  ·exact hd
  ·show(if o.reset=true then[]else(G.dk s).entries).length<=_;split
   ·exact Nat.zero_le _
   ·exact hd
 ·unfold uP at mZ;simp only at mZ;cases om:o.snap with
  | none=>
   rw[om]at mZ;simp only at mZ;rcases mZ.2.2.2 with⟨e,_⟩|⟨_,_,j,_,_,e⟩
   ·rw[e];exact Nat.zero_le _
   ·have:=congrArg List.length e;rw[List.length_append]at this;omega
  | some x=>
   rw[om]at mZ;simp only at mZ;rw[mZ.2.1];exact Nat.zero_le _
 ·rw[e0];have:=cz.trk;omega
 ·rw[e0];exact cz.tm
theorem ik.crOk(h:ik K G)(hs:s<G.n)(hK:K<=800000000)(kj:G.rn<=1000000):IZ G s:=by
 obtain⟨Dl,_⟩:=h.crash hs;obtain⟨gh,Fs,h⟩:=h;obtain⟨hI,AG,gf⟩:=h.sv s hs;obtain⟨j,hj,ua⟩:=hI.dk.en;have MF:=hI.sv.flen;refine⟨hs,h.n3.2,h.ll,h.dl,h.pl,Dl,by rw[ua,List.length_drop];omega,?_,kj⟩;have fw:=hI.dk.sn;have OW:=hI.sv.sn;have wG:=hI.sv.idx0;have h1:=hI.sv.len;have h2:=hI.ok.trk;rw[ua,nX _ (j+1) (G.dk s).snap.idx (hI.sv.dropIdx j) (by rw[fw,OW.1];omega),List.length_drop,List.length_drop,fw,OW.1];omega
theorem ik.tickT(h:ik K G)(hs:s<G.n)(hK:K<=800000000)(d:Int):ik (K+11) (G.tick s d)/\ni {G with l:=G.l.set s ((G.srv s).tick d).2} s ((G.srv s).tick d).1/\Ok K 0 (G.srv s):=by
 obtain⟨gh,Fs,h⟩:=h;obtain⟨hI,_,_⟩:=h.sv s hs;obtain⟨gh',F',A⟩:=hI.sv.tick (N:=G.log.length) h.bs hI.out (by have:=h.n3;omega) d;have fw:=CR hI.out hI.vt d;have hx:∀x,((G.srv s).tick d).1.snap=some x->x.idx≠0/\x.idx<=G.log.length:=fun x hx=>by rw[fw.1]at hx;cases hx
 obtain⟨Fs',h'⟩:=h.step hs A (hI.ok.ticked d) fw.2 hx;exact⟨⟨gh',Fs',h'⟩,h.tkOk hs A (hI.ok.ticked d) hx hK (by have:=CQ hI.ok d;omega),hI.ok⟩
theorem iT.stepT(h:iT K G gh Fs)(cF:1<=K)(hs:s<G.n)(hK:K<=800000000)(JP:eF G.n gh G.log.length m):ik (K+11) (G.step s m)/\ni {G with l:=G.l.set s ((G.srv s).step m).2} s ((G.srv s).step m).1/\Ok K 0 (G.srv s):=by
 obtain⟨hI,_,_⟩:=h.sv s hs;obtain⟨gh',F',A⟩:=hI.sv.step (N:=G.log.length) h.bs hI.out (by have:=h.n3;omega) JP;have fw:=CI hI.out hI.vt m;have hx:∀x,((G.srv s).step m).1.snap=some x->x.idx≠0/\x.idx<=G.log.length:=fun x hx=>by
  obtain⟨a,b,c,d⟩:=fw.2 x hx;have h1:=(JP.pie a).c0;have h2:=(rb d).1;omega
 obtain⟨Fs',h'⟩:=h.step hs A (hI.ok.stepped cF m) fw.1 hx;exact⟨⟨gh',Fs',h'⟩,h.tkOk hs A (hI.ok.stepped cF m) hx hK (CH hI.ok cF m),hI.ok⟩
theorem ik.stepN(h:ik K G)(cF:1<=K)(hs:s<G.n)(hK:K<=800000000)(hm:m∈G.net){ms:List Mg}(Kd:∀x∈ms,x∈G.net)(hl:ms.length<=G.net.length):ik (K+11) (({G with net:=ms}:Gp).step s m)/\ni {G with net:=ms,l:=G.l.set s ((G.srv s).step m).2} s ((G.srv s).step m).1/\Ok K 0 (G.srv s):=by
 obtain⟨gh,Fs,h⟩:=h;exact iT.stepT (G:={G with net:=ms}) (h.fewer Kd hl) cF hs hK (h.ms m hm)
theorem ik.proposeT(h:ik K G)(hs:s<G.n)(hK:K<=800000000)(c:En):ik (K+11) (G.act s (((G.srv s).propose c).1.2.2,((G.srv s).propose c).2))/\ni {G with l:=G.l.set s ((G.srv s).propose c).2} s ((G.srv s).propose c).1.2.2/\Ok K 0 (G.srv s):=by
 obtain⟨gh,Fs,h⟩:=h;obtain⟨hI,_,_⟩:=h.sv s hs;obtain⟨gh',F',A⟩:=hI.sv.propose (N:=G.log.length) h.bs hI.out (by have:=h.n3;omega) c;have fw:=uF hI.out hI.vt c;have hx:∀x,((G.srv s).propose c).1.2.2.snap=some x->x.idx≠0/\x.idx<=G.log.length:=fun x hx=>by rw[fw.1]at hx;cases hx
 obtain⟨Fs',h'⟩:=h.step hs A (hI.ok.proposed c) fw.2 hx;exact⟨⟨gh',Fs',h'⟩,h.tkOk hs A (hI.ok.proposed c) hx hK (uE hI.ok c),hI.ok⟩
theorem ik.readT(h:ik K G)(hs:s<G.n)(hK:K<=800000000)(c:Int):ik (K+11) (G.act s (((G.srv s).read c).1.2,((G.srv s).read c).2))/\ni {G with l:=G.l.set s ((G.srv s).read c).2} s ((G.srv s).read c).1.2/\Ok K 0 (G.srv s):=by
 obtain⟨gh,Fs,h⟩:=h;obtain⟨hI,_,_⟩:=h.sv s hs;obtain⟨gh',F',A⟩:=hI.sv.read (N:=G.log.length) h.bs hI.out c;have fw:=Ct hI.out hI.vt c;have hx:∀x,((G.srv s).read c).1.2.snap=some x->x.idx≠0/\x.idx<=G.log.length:=fun x hx=>by rw[fw.1]at hx;cases hx
 obtain⟨Fs',h'⟩:=h.step hs A (hI.ok.readed c) fw.2 hx;exact⟨⟨gh',Fs',h'⟩,h.tkOk hs A (hI.ok.readed c) hx hK (Cs hI.ok c),hI.ok⟩
theorem ik.setRn(h:ik K G)(k:Nat):ik K {G with rn:=k}:=by
 obtain⟨gh,Fs,h⟩:=h;exact⟨gh,Fs,{h with}⟩
theorem ik.facts(h:ik K G):(3<=G.n/\G.n<=7)/\G.l.length=G.n/\G.disk.length=G.n/\G.pos.length=G.n/\G.net.length<=300/\G.two=false/\G.log.length<=1099511627776/\∀s,s<G.n->Ok K 0 (G.srv s)/\(G.srv s).track.index<=(G.srv s).commit:=by
 obtain⟨gh,Fs,h⟩:=h;exact⟨h.n3,h.ll,h.dl,h.pl,h.nl,h.two,h.lk,fun s hs=>⟨(h.sv s hs).1.ok,(h.sv s hs).1.sv.cm⟩⟩
end
end Go.Proofs.YtjcninheccmpoaaGreat
