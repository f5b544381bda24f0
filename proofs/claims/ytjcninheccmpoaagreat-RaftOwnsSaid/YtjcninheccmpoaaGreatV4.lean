import Derived.Test.YtjcninheccmpoaaGreatV3
import Derived.Maps.Keyed
import Derived.Maps.RangeRun
import Derived.ChangeMaps5
import Derived.DataShut
set_option maxRecDepth 100000
set_option maxHeartbeats 8000000
set_option linter.all false
namespace Go.Proofs.YtjcninheccmpoaaGreat
open Go.RowKit Go.Proofs.Tryz
def iQ:Int:=1099511627776
structure Hd where
 term:Int
 vote:Int
structure tU where
 idx:Int
 term:Int
 data:List UInt8
structure Mg where
 kind:Int
 frm:Int
 tgt:Int
 term:Int
 idx:Int
 logTerm:Int
 commit:Int
 round:Int
 reject:Bool
 offset:Int
 total:Int
 entries:List En
 data:List UInt8
structure Ot where
 save:Bool
 reset:Bool
 hard:Hd
 entries:List En
 commits:List En
 snap:Option tU
 reads:List (Int×Int)
 msgs:List Mg
structure Pr where
 next:Int
 mat:Int
 offset:Int
 round:Int
structure Wt where
 ctx:Int
 idx:Int
 round:Int
structure Gt where
 frm:Int
 idx:Int
 term:Int
 total:Int
 data:List UInt8
structure Rf where
 id:Nat
 n:Nat
 hard:Hd
 track:bD
 snap:tU
 commit:Int
 role:Int
 leader:Int
 clock:Int
 wait:Int
 yes:List Int
 peers:List Pr
 round:Int
 waits:List Wt
 gath:Gt
 out:Ot
def LX:tU:=⟨0,0,[]⟩
def dh:Mg:=⟨0,0,0,0,0,0,0,0,false,0,0,[],[]⟩
def gk:Ot:=⟨false,false,⟨0,0⟩,[],[],none,[],[]⟩
def KF:Pr:=⟨0,0,0,0⟩
def Fq:Gt:=⟨0,0,0,0,[]⟩
namespace Rf
variable (R:Rf)
def tell:Ot×Rf:=({R.out with hard:=if R.out.save then R.hard else R.out.hard},{R with out:=gk})
def send(m:Mg):Rf:={R with out:={R.out with msgs:=R.out.msgs++[{m with frm:=R.id,term:=if m.term=0 then R.hard.term else m.term}]}}
def save(l:List En):Rf:={R with out:={R.out with save:=true,entries:=R.out.entries++l}}
def peer(s:Nat):Pr:=R.peers[s]?.getD KF
def setPeer(s:Nat)(p:Pr):Rf:={R with peers:=R.peers.set s p}
def others:List Nat:=(List.range' 1 R.n).filter fun s=>decide (s≠R.id)
def lacks(s:Nat):Rf:=
 if(R.peer s).next-1<R.track.index then
  R.send {dh with kind:=7,tgt:=s,idx:=R.snap.idx,logTerm:=R.snap.term,offset:=(R.peer s).offset,total:=R.snap.data.length,data:=(R.snap.data.drop (R.peer s).offset.toNat).take 160,round:=R.round}
 else R.send {dh with kind:=5,tgt:=s,idx:=(R.peer s).next-1,logTerm:=(R.track.termF ((R.peer s).next-1)).1,entries:=R.track.sliceF (R.peer s).next 6,commit:=R.commit,round:=R.round}
def all:Rf:=R.others.foldl lacks R
def commits(k:Int):Rf:=if R.commit<k then {R with commit:=k,out:={R.out with commits:=R.out.commits++R.track.sliceF (R.commit+1) (k-R.commit)}}else R
def matchL(own:Int)(f:Pr->Int):List Int:=(List.range' 1 R.n).map fun s=>if s=R.id then own else f (R.peer s)
def agreesTo:Int:=eL R.n (R.matchL R.track.lastF.1 Pr.mat)
def agrees:Rf:=if R.commit<R.agreesTo/\R.track.termF R.agreesTo=(R.hard.term,0)then R.commits R.agreesTo else R
def crown:Rf:={R with role:=3,leader:=R.id,clock:=0,peers:=List.replicate (R.n+1) ⟨R.track.lastF.1+1,0,0,0⟩,round:=1,waits:=[]}
def leads1:Rf:=let p:=R.crown.track.putF R.crown.hard.term gc;if p.1.2=0 then {R.crown with track:=p.2}.save [p.1.1]else {R.crown with track:=p.2}
def leads:Rf:=R.leads1.all.agrees
def stands1:Rf:={R with hard:=⟨R.hard.term+1,R.id⟩,role:=2,leader:=0,yes:=[],out:={R.out with save:=true}}
def stands2:Rf:=R.stands1.others.foldl (fun R' (s:Nat)=>R'.send {dh with kind:=3,tgt:=(s:Int),idx:=R.track.lastF.1,logTerm:=R.track.lastF.2}) R.stands1
def says(s:Int):Rf:={R with yes:=R.yes++[s]}
def won:Bool:=lv R.n R.yes
def stands:Rf:=if(R.stands2.says R.id).won then(R.stands2.says R.id).leads else R.stands2.says R.id
def asks1:Rf:={R with role:=1,leader:=0,yes:=[]}
def asks2:Rf:=R.asks1.others.foldl (fun R' (s:Nat)=>R'.send {dh with kind:=1,tgt:=(s:Int),term:=R.hard.term+1,idx:=R.track.lastF.1,logTerm:=R.track.lastF.2}) R.asks1
def asks:Rf:=if(R.asks2.says R.id).won then(R.asks2.says R.id).stands else R.asks2.says R.id
def rest:Rf:={R with clock:=0,wait:=0}
def beats(draw:Int):Rf:=
 let R:={R with clock:=R.clock+1}
 if R.role=3 then
  if 2<=R.clock then {R with clock:=0,round:=R.round+1}.all else R
 else
  let R:=if R.wait=0 then {R with wait:=gF draw}else R
  if R.wait<=R.clock then
   if R.hard.term<iQ then R.rest.asks else R.rest
  else R
def tick(draw:Int):Ot×Rf:=(R.beats draw).tell
def numOk(k:Int):Bool:=decide (0<=k)&&decide (k<=iQ)
def right(m:Mg):Bool:=(numOk m.idx&&numOk m.logTerm&&numOk m.commit&&numOk m.round&&numOk m.offset&&numOk m.total) &&
 decide ((1<=m.kind/\m.kind<=8)/\m.tgt=R.id/\(1<=m.frm/\m.frm<=R.n)/\m.frm≠R.id/\(1<=m.term/\m.term<=iQ)/\m.entries.length<=6/\m.data.length<=160)
def follows(t:Int):Rf:={R with hard:=⟨t,0⟩,role:=0,leader:=0,waits:=[],out:={R.out with save:=true}}
def newer(m:Mg):Bool:=fY m.idx m.logTerm R.track.lastF.1 R.track.lastF.2
def asked(m:Mg):Rf:=
 if(R.role≠3/\(R.leader=0\/10<=R.clock))/\R.hard.term<m.term/\R.newer m=true then R.send {dh with kind:=2,tgt:=m.frm,term:=m.term}
 else R.send {dh with kind:=2,tgt:=m.frm,reject:=true}
def votes(m:Mg):Rf:=
 if(R.hard.vote=0\/R.hard.vote=m.frm)/\R.newer m=true then
  {R.rest with hard:=⟨R.hard.term,m.frm⟩,out:={R.out with save:=true}}.send {dh with kind:=4,tgt:=m.frm,reject:=false}
 else R.send {dh with kind:=4,tgt:=m.frm,reject:=true}
def hears(m:Mg):Rf:={R.rest with role:=0,leader:=m.frm}
def appends(m:Mg):Rf:=
 if m.idx<R.commit then R.send {dh with kind:=6,tgt:=m.frm,idx:=R.commit,round:=m.round}
 else
  let p:=R.track.takeF m.idx m.logTerm m.entries
  if p.1.2=false then R.send {dh with kind:=6,tgt:=m.frm,reject:=true,idx:=R.track.hintF m.idx m.logTerm,round:=m.round}
  else
   let R1:Rf:=if 0<p.1.1 then {R with track:=p.2}.save (p.2.sliceF p.1.1 m.entries.length)else {R with track:=p.2}
   (R1.commits (min m.commit (m.idx+m.entries.length))).send {dh with kind:=6,tgt:=m.frm,idx:=m.idx+m.entries.length,round:=m.round}
def install(x:tU):Rf:=
 let R1:Rf:=if R.track.termF x.idx=(x.term,0)then {R with track:=(R.track.dropF x.idx).2}else {R with track:=⟨x.idx,x.term,[]⟩,out:={R.out with reset:=true}}
 {R1 with snap:=x,commit:=x.idx,gath:=Fq,out:={R1.out with snap:=some x,save:=true}}
def gath1(m:Mg):Gt:=
 let g:=if R.gath.frm=m.frm/\R.gath.idx=m.idx/\R.gath.term=m.logTerm/\R.gath.total=m.total/\m.offset≠0 then R.gath else⟨m.frm,m.idx,m.logTerm,m.total,[]⟩
 if m.offset=g.data.length/\g.data.length+m.data.length<=m.total then {g with data:=g.data++m.data}else g
def piece(m:Mg):Rf:=
 if m.idx=0\/m.logTerm=0\/¬(1<=m.total/\m.total<=65536)then R
 else if m.idx<=R.commit then R.send {dh with kind:=8,tgt:=m.frm,idx:=R.commit,round:=m.round}
 else
  let g:=R.gath1 m
  let R1:Rf:={R with gath:=g}
  if g.data.length<m.total then R1.send {dh with kind:=8,tgt:=m.frm,idx:=m.idx,round:=m.round,offset:=g.data.length,total:=m.total}
  else(R1.install ⟨m.idx,m.logTerm,g.data⟩).send {dh with kind:=8,tgt:=m.frm,idx:=m.idx,round:=m.round}
def has(s:Nat)(index:Int):Rf:=
 let p:=R.peer s
 let last:=R.track.lastF.1
 let mat:=max p.mat (min index last)
 let next:=max p.next (mat+1)
 let R1:=(R.setPeer s ⟨next,mat,if R.track.index<=mat then 0 else p.offset,p.round⟩).agrees
 if next<=last then R1.lacks s else R1
def answered(m:Mg):Rf:=
 let s:=m.frm.toNat
 let p:=R.peer s
 let R1:=R.setPeer s {p with round:=max p.round (min m.round R.round)}
 let p:=R1.peer s
 if m.kind=8/\0<m.total then
  if m.idx=R.snap.idx/\p.next-1<R.snap.idx then(R1.setPeer s {p with offset:=min m.offset R.snap.data.length}).lacks s else R1
 else if m.kind=6/\m.reject=true then(R1.setPeer s {p with next:=max (p.mat+1) (min (p.next-1) (m.idx+1))}).lacks s
 else R1.has s m.idx
def does(m:Mg):Rf:=
 if m.kind=1 then R.asked m
 else if m.kind=2 then
  if m.reject=false/\m.term=R.hard.term+1/\R.role=1 then(if(R.says m.frm).won then(R.says m.frm).stands else R.says m.frm)else R
 else if m.kind=3 then R.votes m
 else if m.kind=4 then
  if m.reject=false/\R.role=2 then(if(R.says m.frm).won then(R.says m.frm).leads else R.says m.frm)else R
 else if m.kind=5 then(if R.role≠3 then(R.hears m).appends m else R)
 else if m.kind=7 then(if R.role≠3 then(R.hears m).piece m else R)
 else if m.kind=8/\m.reject=true then R
 else if R.role=3 then R.answered m else R
def readsTo:Int:=eL R.n (R.matchL R.round Pr.round)
def reads:Rf:={R with waits:=R.waits.filter (fun x=>decide (R.readsTo<x.round)),out:={R.out with reads:=R.out.reads++(R.waits.filter (fun x=>decide (x.round<=R.readsTo))).map fun x=>(x.ctx,x.idx)}}
def late(m:Mg):Rf:=if m.kind=3\/m.kind=5\/m.kind=7 then R.send {dh with kind:=m.kind+1,tgt:=m.frm,reject:=true,round:=m.round}else R
def step(m:Mg):Ot×Rf:=
 if R.right m=false then(gk,R)
 else
  let R1:=if R.hard.term<m.term/\m.kind≠1/\(m.kind≠2\/m.reject=true)then R.follows m.term else R
  if m.term<R1.hard.term/\m.kind≠1 then(R1.late m).tell
  else
   let R2:=R1.does m
   (if R2.role=3 then R2.reads else R2).tell
def propose(c:En):(En×Int×Ot)×Rf:=
 if R.role≠3 then((gc,40,gk),R)
 else
  let p:=R.track.putF R.hard.term c
  if p.1.2≠0 then((gc,p.1.2,gk),{R with track:=p.2})
  else
   let o:=({R with track:=p.2}.save [p.1.1]).all.agrees.tell
   ((p.1.1,0,o.1),o.2)
end Rf
structure pZ where
 hard:Hd
 snap:tU
 entries:List En
def eU(x:tU):Bool:=if x.idx=0/\x.term=0 then decide (x.data.length=0)else decide ((1<=x.idx/\x.idx<=iQ)/\(1<=x.term/\x.term<=iQ)/\1<=x.data.length/\x.data.length<=65536)
def Rf.new(id n:Int)(s:pZ):Option Rf:=
 if ¬((1<=n/\n<=7)/\(1<=id/\id<=n)/\(0<=s.hard.term/\s.hard.term<=iQ)/\(0<=s.hard.vote/\s.hard.vote<=n)/\eU s.snap=true)then none
 else
  let p:=bD.takeF (bD.mk s.snap.idx s.snap.term []) s.snap.idx s.snap.term (s.entries.filter fun x=>decide (s.snap.idx<x.idx))
  if p.1.2=false\/s.hard.term<p.2.lastF.2 then none
  else some (Rf.mk id.toNat n.toNat s.hard p.2 s.snap s.snap.idx 0 0 0 0 [] [] 0 [] Fq gk)
def aM(aa:Nat->Nat)(i:Nat)(j:Nat):Prop:=aa j=i
def aj(aa:Nat->Nat)(B i:Nat):Nat->Nat:=fun j=>if B<=j then i else aa j
theorem ac{aa:Nat->Nat}{B i j:Nat}(h:j<B):aj aa B i j=aa j:=if_neg (by omega)
theorem az{aa:Nat->Nat}{B i j:Nat}(h:B<=j):aj aa B i j=i:=if_pos h
section
variable {aa ak:Nat->Nat}{i k:Nat}{w w':World}
theorem Fr.other(h:Fr (aM aa i) w w')(hk:k≠i):∀j,aa j=k->j<w.heap.size->w'.heap[j]?=w.heap[j]?:=fun j hj hl=>h.block j hl fun(e:aa j=i)=>hk (hj.symm.trans e)
def bR(aa:Nat->Nat)(i:Nat)(w:World)(T:TypeId)(size:Nat)(v:Value)(n:Nat)(xs:List Value):Prop:=
 ∃A c,v=.slice A n c/\w.ownsRow 0 T size (.slice A n c) n xs/\∀j,aA A j->aa j=i
theorem bR.keep{T:TypeId}{size n:Nat}{v:Value}{xs:List Value}(h:bR aa i w T size v n xs)(hk:∀j,aa j=i->j<w.heap.size->w'.heap[j]?=w.heap[j]?):bR aa i w' T size v n xs:=by
 obtain⟨A,c,e,h1,h2⟩:=h;exact⟨A,c,e,cN h1 fun j hj hl=>hk j (h2 j hj) hl,h2⟩
theorem bR.relabel{T:TypeId}{size n:Nat}{v:Value}{xs:List Value}(h:bR aa i w T size v n xs)(hl:∀j,j<w.heap.size->aa j=i->ak j=k):bR ak k w T size v n xs:=by
 obtain⟨A,c,e,h1,h2⟩:=h;exact⟨A,c,e,h1,fun j hj=>hl j (aw h1 A c rfl j hj).1 (h2 j hj)⟩
theorem bR.nil(aa:Nat->Nat)(i:Nat)(w:World)(T:TypeId)(size:Nat):bR aa i w T size (.slice none 0 0) 0 []:=⟨none,0,rfl,bX _ _,fun j h=>by obtain⟨_,h,_⟩:=h;cases h⟩
def bP(aa:Nat->Nat)(i:Nat)(w:World)(v:Value)(l:List UInt8):Prop:=Sl (aM aa i) w 1 v l.length (l.map vb)
theorem bP.keep{v:Value}{l:List UInt8}(h:bP aa i w v l)(hk:∀j,aa j=i->j<w.heap.size->w'.heap[j]?=w.heap[j]?):bP aa i w' v l:=Sl.keep h hk
theorem bP.relabel{v:Value}{l:List UInt8}(h:bP aa i w v l)(hl:∀j,j<w.heap.size->aa j=i->ak j=k):bP ak k w v l:=Sl.mono h (by omega) hl
theorem bP.nil(aa:Nat->Nat)(i:Nat)(w:World):bP aa i w (.slice none 0 0) []:=Sl.nil _ _ _
def cP(aa:Nat->Nat)(i:Nat)(w:World)(v:Value)(L:List En):Prop:=
 ∃(A:Option Addr) (n c:Nat) (zs:List (Value×En)),v=.slice A n c/\ff w A n zs/\bo (aM aa i) w zs/\zs.map (·.2)=L/\n<=c/\c<=maxLen/\(0<n->∀j,aA A j->aa j=i)
theorem cP.keep{v:Value}{L:List En}(h:cP aa i w v L)(hk:∀j,aa j=i->j<w.heap.size->w'.heap[j]?=w.heap[j]?):cP aa i w' v L:=by
 obtain⟨A,n,c,zs,h1,h2,h3,h4,h5,h6,h7⟩:=h;exact⟨A,n,c,zs,h1,cn.stay (S:=aM aa i) h2 (fun h0 ad e=>h7 h0 _ ⟨ad,e,rfl⟩) hk,h3.keep hk,h4,h5,h6,h7⟩
theorem cP.relabel{v:Value}{L:List En}(h:cP aa i w v L)(hl:∀j,j<w.heap.size->aa j=i->ak j=k):cP ak k w v L:=by
 obtain⟨A,n,c,zs,h1,h2,h3,h4,h5,h6,h7⟩:=h;refine⟨A,n,c,zs,h1,h2,h3.mono hl,h4,h5,h6,fun h0 j hj=>?_⟩;obtain⟨ad,e,rfl⟩:=hj;exact hl _ (cn.lt h2 h0 (by omega) e) (h7 h0 _ ⟨ad,e,rfl⟩)
theorem cP.nil(aa:Nat->Nat)(i:Nat)(w:World):cP aa i w (.slice none 0 0) []:=⟨none,0,0,[],rfl,cn.none_,fun z hz=>(by cases hz),rfl,Nat.le_refl _,Nat.zero_le _,fun h=>absurd h (by omega)⟩
theorem cP.of_new{B n c:Nat}{A:Option Addr}{zs:List (Value×En)}{L:List En}(h:ge B w A n c zs L)(hl:∀j,B<=j->j<w.heap.size->aa j=i):cP aa i w (.slice A n c) L:=by
 have hb:=bB h.1;refine⟨A,n,c,zs,rfl,cn.of_own h.1,h.2.1.mono fun j hj hn=>hl j hn.1 hj,h.2.2,hb.1,hb.2,fun _ j hj=>?_⟩;have:=aw h.1 A c rfl j hj;exact hl j this.2.1 this.1
def dQ(aa:Nat->Nat)(i q:Nat)(w:World)(v:Value)(L:List En):Prop:=
 ∃zs:List (Value×En),bR aa i w 59 6 v L.length (zs.flatMap cl)/\bo (aM aa q) w zs/\zs.map (·.2)=L
theorem dQ.keep{q:Nat}{v:Value}{L:List En}(h:dQ aa i q w v L)(hk:∀j,aa j=i->j<w.heap.size->w'.heap[j]?=w.heap[j]?)(hq:∀j,aa j=q->j<w.heap.size->w'.heap[j]?=w.heap[j]?):dQ aa i q w' v L:=by
 obtain⟨zs,h1,h2,h3⟩:=h;exact⟨zs,h1.keep hk,h2.keep hq,h3⟩
theorem dQ.relabel{q r:Nat}{v:Value}{L:List En}(h:dQ aa i q w v L)(hl:∀j,j<w.heap.size->aa j=i->ak j=k)(hq:∀j,j<w.heap.size->aa j=q->ak j=r):dQ ak k r w v L:=by
 obtain⟨zs,h1,h2,h3⟩:=h;exact⟨zs,h1.relabel hl,h2.mono hq,h3⟩
theorem dQ.nil(aa:Nat->Nat)(i q:Nat)(w:World):dQ aa i q w (.slice none 0 0) []:=⟨[],bR.nil _ _ _ _ _,fun z hz=>(by cases hz),rfl⟩
def zj(z:(Value×Value)×Mg):List Value:=
 [vi z.2.kind,vi z.2.frm,vi z.2.tgt,vi z.2.term,vi z.2.idx,vi z.2.logTerm,vi z.2.commit,vi z.2.round,.bool z.2.reject,vi z.2.offset,vi z.2.total,z.1.1,z.1.2]
theorem ov(z:(Value×Value)×Mg):(zj z).length=13:=rfl
def eI(m:Mg)(ve vd:Value):Value:=.agg #[vi m.kind,vi m.frm,vi m.tgt,vi m.term,vi m.idx,vi m.logTerm,vi m.commit,vi m.round,.bool m.reject,vi m.offset,vi m.total,ve,vd]
def Av(T:TypeId)(w:World)(v:Value):Prop:=∀A n c,v=.slice A n c->0<n->∀j,aA A j->∃cs,w.heap[j]?=some (.cells cs T (0,0))
theorem Av.nil(T:TypeId)(w:World):Av T w (.slice none 0 0):=fun _ _ _ e hn=>by
 injection e with _ e _;omega
theorem Av.of_own{base size n c:Nat}{T:TypeId}{A:Option Addr}{xs:List Value}(h:w.ownsRow base T size (.slice A n c) n xs):Av T w (.slice A n c):=fun A' n' c' e _ j hj=>by
 injection e with e1 e2 e3;subst e1;obtain⟨_,_,cs,h⟩:=aw h A c rfl j hj;exact⟨cs,h⟩
theorem Av.keep{T:TypeId}{v:Value}(h:Av T w v)(hl:∀A n c,v=.slice A n c->0<n->∀j,aA A j->aa j=i)(hk:∀j,aa j=i->j<w.heap.size->w'.heap[j]?=w.heap[j]?):Av T w' v:=fun A n c e hn j hj=>by
 obtain⟨cs,h1⟩:=h A n c e hn j hj;exact⟨cs,(hk j (hl A n c e hn j hj) (aV h1)).trans h1⟩
theorem cP.labs{v:Value}{L:List En}(h:cP aa i w v L):∀A n c,v=.slice A n c->0<n->∀j,aA A j->aa j=i:=fun A n c e hn j hj=>by
 obtain⟨A0,n0,c0,zs,e0,_,_,_,_,_,h7⟩:=h;rw[e0]at e;injection e with e1 e2 e3;subst e1 e2;exact h7 hn j hj
theorem bP.labs{v:Value}{l:List UInt8}(h:bP aa i w v l):∀A n c,v=.slice A n c->0<n->∀j,aA A j->aa j=i:=fun A n c e hn j hj=>by
 obtain⟨A0,c0,e0,_,_,_,h7⟩:=h;rw[e0]at e;injection e with e1 e2 e3;subst e1 e2;obtain⟨ad,rfl,rfl⟩:=hj;exact h7 hn ad rfl
def nR(aa:Nat->Nat)(i:Nat)(w:World)(v:Value)(L:List En):Prop:=cP aa i w v L/\Av 59 w v
theorem nR.keep{v:Value}{L:List En}(h:nR aa i w v L)(hk:∀j,aa j=i->j<w.heap.size->w'.heap[j]?=w.heap[j]?):nR aa i w' v L:=⟨h.1.keep hk,h.2.keep h.1.labs hk⟩
theorem nR.relabel{v:Value}{L:List En}(h:nR aa i w v L)(hl:∀j,j<w.heap.size->aa j=i->ak j=k):nR ak k w v L:=⟨h.1.relabel hl,h.2⟩
theorem nR.nil(aa:Nat->Nat)(i:Nat)(w:World):nR aa i w (.slice none 0 0) []:=⟨cP.nil _ _ _,Av.nil _ _⟩
def np(aa:Nat->Nat)(i:Nat)(w:World)(v:Value)(l:List UInt8):Prop:=bP aa i w v l/\Av 5 w v
theorem np.keep{v:Value}{l:List UInt8}(h:np aa i w v l)(hk:∀j,aa j=i->j<w.heap.size->w'.heap[j]?=w.heap[j]?):np aa i w' v l:=⟨h.1.keep hk,h.2.keep h.1.labs hk⟩
theorem np.relabel{v:Value}{l:List UInt8}(h:np aa i w v l)(hl:∀j,j<w.heap.size->aa j=i->ak j=k):np ak k w v l:=⟨h.1.relabel hl,h.2⟩
theorem np.nil(aa:Nat->Nat)(i:Nat)(w:World):np aa i w (.slice none 0 0) []:=⟨bP.nil _ _ _,Av.nil _ _⟩
def jV(aa:Nat->Nat)(i:Nat)(w:World)(z:(Value×Value)×Mg):Prop:=nR aa i w z.1.1 z.2.entries/\np aa i w z.1.2 z.2.data
theorem jV.keep{z:(Value×Value)×Mg}(h:jV aa i w z)(hk:∀j,aa j=i->j<w.heap.size->w'.heap[j]?=w.heap[j]?):jV aa i w' z:=⟨h.1.keep hk,h.2.keep hk⟩
theorem jV.relabel{z:(Value×Value)×Mg}(h:jV aa i w z)(hl:∀j,j<w.heap.size->aa j=i->ak j=k):jV ak k w z:=⟨h.1.relabel hl,h.2.relabel hl⟩
def gI(aa:Nat->Nat)(i q:Nat)(w:World)(v:Value)(ms:List Mg):Prop:=
 ∃zs:List ((Value×Value)×Mg),bR aa i w 39 13 v ms.length (zs.flatMap zj)/\(∀z∈zs,jV aa q w z)/\zs.map (·.2)=ms
theorem gI.keep{q:Nat}{v:Value}{ms:List Mg}(h:gI aa i q w v ms)(hk:∀j,aa j=i->j<w.heap.size->w'.heap[j]?=w.heap[j]?)(hq:∀j,aa j=q->j<w.heap.size->w'.heap[j]?=w.heap[j]?):gI aa i q w' v ms:=by
 obtain⟨zs,h1,h2,h3⟩:=h;exact⟨zs,h1.keep hk,fun z hz=>(h2 z hz).keep hq,h3⟩
theorem gI.relabel{q r:Nat}{v:Value}{ms:List Mg}(h:gI aa i q w v ms)(hl:∀j,j<w.heap.size->aa j=i->ak j=k)(hq:∀j,j<w.heap.size->aa j=q->ak j=r):gI ak k r w v ms:=by
 obtain⟨zs,h1,h2,h3⟩:=h;exact⟨zs,h1.relabel hl,fun z hz=>(h2 z hz).relabel hq,h3⟩
theorem gI.nil(aa:Nat->Nat)(i q:Nat)(w:World):gI aa i q w (.slice none 0 0) []:=⟨[],bR.nil _ _ _ _ _,fun z hz=>(by cases hz),rfl⟩
def tb(aa:Nat->Nat)(i:Nat)(w:World)(v:Value)(t:bD):Prop:=
 ∃(g:Nat) (S:Nat->Prop) (A:Option Addr) (n c:Nat) (zs:List (Value×En)),v=.pointer (some ⟨g,0,none⟩)/\cX 0 S w g t A n c zs/\∀j,(j=g\/aA A j\/S j)->aa j=i
theorem tb.keep{v:Value}{t:bD}(h:tb aa i w v t)(hk:∀j,aa j=i->j<w.heap.size->w'.heap[j]?=w.heap[j]?):tb aa i w' v t:=by
 obtain⟨g,S,A,n,c,zs,h1,h2,h3⟩:=h;exact⟨g,S,A,n,c,zs,h1,h2.keep fun j hj hl=>hk j (h3 j hj) hl,h3⟩
def qS(aa:Nat->Nat)(i:Nat)(w:World)(v:Value)(x:Option tU):Prop:=
 match x with
 | none=>v=.pointer none
 | some s=>∃(g:Nat) (vd:Value),v=.pointer (some ⟨g,0,none⟩)/\aa g=i/\ao w g 26 #[vi s.idx,vi s.term,vd]/\np aa i w vd s.data
theorem qS.keep{v:Value}{x:Option tU}(h:qS aa i w v x)(hk:∀j,aa j=i->j<w.heap.size->w'.heap[j]?=w.heap[j]?):qS aa i w' v x:=by
 cases x with
 | none=>exact h
 | some s=>
  obtain⟨g,vd,h1,h2,h3,h4⟩:=h;exact⟨g,vd,h1,h2,(hk g h2 h3.lt).trans h3,h4.keep hk⟩
end
def tc(l:List Int)(k:Nat):Int:=max 0 (l[k]?.getD 0)
theorem FA(k:Nat)(A:Option Addr)(m c:Nat)(l:List Int)(w:World)(hl:fv w A m l)(hk:k<7) :
  Calls prog 143 #[.slice A m c,.int .i64 (k+1:Nat)] w fun e w'=>e=.returned (.int .i64 (tc l k))/\w=w':=by
 have af:=hl.len;have cA:((k+1:Nat):Int)-1=(k:Nat):=by omega
 by_cases SV:k<m
 ·obtain⟨ad,rfl,hc⟩:=hl.at_ SV;have Hv:=zH (show tc l k=max 0 (l[k]?.getD 0)from rfl);generalize l[k]?.getD 0=x at *;have hw:wrap64 (((k+1:Nat):Int)-1)=(k:Nat):=by unfold wrap64;omega
  generalize hs:((k+1:Nat):Int)=s at *;have pK:1<=s:=by omega
  have Tc:s<=7:=by omega
  clear hs;by_cases hx:x<0
  ·go_enter func143,ntmps143;go_wp2_with fail;go_ret;exact⟨by rw[Hv.out,Int.max_eq_left (by omega)];rfl,rfl⟩
  ·go_enter func143,ntmps143;go_wp2_with fail;go_ret;exact⟨by rw[Hv.out,Int.max_eq_right (by omega)];rfl,rfl⟩
 ·have Hv:=zH (show tc l k=0 by unfold tc;rw[List.getElem?_eq_none (by omega)];rfl);go_enter func143,ntmps143;go_wp2_with fail;go_ret;exact⟨by rw[Hv.out];rfl,rfl⟩
def ky(l:List Int)(v:Int)(k:Nat):List Int:=((List.range k).filter fun i=>decide (v<=tc l i)).map fun i=>((i+1:Nat):Int)
theorem Gc{l:List Int}{v:Int}{k:Nat}(h:v<=tc l k):ky l v (k+1)=ky l v k++[((k+1:Nat):Int)]:=by
 unfold ky;rw[List.range_succ,List.filter_append,List.filter_cons_of_pos (by exact decide_eq_true h),List.filter_nil,List.map_append];rfl
theorem Jj{l:List Int}{v:Int}{k:Nat}(h:¬v<=tc l k):ky l v (k+1)=ky l v k:=by
 unfold ky;rw[List.range_succ,List.filter_append,List.filter_cons_of_neg (by simpa using h),List.filter_nil,List.append_nil]
theorem Gb(l:List Int)(v:Int)(k:Nat):(ky l v k).length<=k:=by
 unfold ky;rw[List.length_map];exact Nat.le_trans (List.length_filter_le _ _) (by simp)
def Km(N:Nat)(l:List Int)(v:Int):Bool:=lv N (ky l v N)
def pV(N:Nat)(l:List Int)(k:Nat)(b:Int):Prop:=(b=0\/∃i,i<k/\Km N l (tc l i)=true/\b=tc l i)/\0<=b/\∀i,i<k->Km N l (tc l i)=true->tc l i<=b
theorem pV.start(N:Nat)(l:List Int):pV N l 0 0:=⟨.inl rfl,Int.le_refl _,fun _ h=>absurd h (Nat.not_lt_zero _)⟩
theorem pV.up{N:Nat}{l:List Int}{k:Nat}{b:Int}(h:pV N l k b)(h1:Km N l (tc l k)=true)(h2:b<tc l k):pV N l (k+1) (tc l k):=by
 refine⟨.inr ⟨k,Nat.lt_succ_self _,h1,rfl⟩,by have:=h.2.1;omega,fun i hi ho=>?_⟩;rcases Nat.lt_succ_iff_lt_or_eq.1 hi with hi|rfl
 ·exact Int.le_of_lt (Int.lt_of_le_of_lt (h.2.2 i hi ho) h2)
 ·exact Int.le_refl _
theorem pV.on{N:Nat}{l:List Int}{k:Nat}{b:Int}(h:pV N l k b)(h1:Km N l (tc l k)=true->tc l k<=b):pV N l (k+1) b:=by
 refine⟨?_,h.2.1,fun i hi ho=>?_⟩
 ·rcases h.1 with h0|⟨i,hi,ho,hb⟩
  ·exact .inl h0
  ·exact .inr ⟨i,by omega,ho,hb⟩
 ·rcases Nat.lt_succ_iff_lt_or_eq.1 hi with hi|rfl
  ·exact h.2.2 i hi ho
  ·exact h1 ho
theorem Ej(l:List Int):(sg l).Perm l:=List.mergeSort_perm l _
theorem zv(l:List Int):(sg l).Pairwise fun x y=>decide (x<=y)=true:=
 List.pairwise_mergeSort (le:=fun(x y:Int)=>decide (x<=y)) (fun a b c h1 h2=>decide_eq_true (Int.le_trans (of_decide_eq_true h1) (of_decide_eq_true h2))) (fun a b=>by rcases Int.le_total a b with h|h <;> simp[h]) l
theorem L2(N:Nat)(l:List Int)(hN:1<=N):∃S:List Int,S.length=N/\S.Perm (oC N l)/\(∀i j (hi:i<S.length) (hj:j<S.length),i<j->S[i]<=S[j])/\∃h:N-(N/2+1)<S.length,Ft N l=S[N-(N/2+1)]:=by
 have hl:(sg (oC N l)).length=N:=by rw[oy];simp[oC]
 refine⟨sg (oC N l),hl,Ej _,fun i j hi hj JI=>of_decide_eq_true ((List.pairwise_iff_getElem.1 (zv (oC N l))) i j hi hj JI),by omega,?_⟩;unfold Ft;rw[List.getElem?_eq_getElem (by omega)];rfl
theorem Dp(N:Nat)(l:List Int)(v:Int):lk N (ky l v N)=(oC N l).countP fun x=>decide (v<=x):=by
 unfold lk oC;rw[List.countP_map,List.countP_eq_length_filter];refine congrArg List.length (List.filter_congr fun i hi=>?_);have hi:=List.mem_range.1 hi;rw[Bool.eq_iff_iff,decide_eq_true_eq];show _↔decide (v<=tc l i)=true;rw[decide_eq_true_eq];unfold ky;rw[List.mem_map];constructor
 ·rintro⟨j,hj,e⟩;obtain rfl:j=i:=by omega
  exact of_decide_eq_true (List.mem_filter.1 hj).2
 ·intro h;exact⟨i,List.mem_filter.2 ⟨List.mem_range.2 hi,decide_eq_true h⟩,rfl⟩
theorem CY{N:Nat}(h:1<=N/\N<=7)(l:List Int)(v:Int):Km N l v=true↔N/2+1<=(oC N l).countP fun x=>decide (v<=x):=by
 unfold Km lv;rw[decide_eq_true_eq,Int.toNat_natCast,Dp];omega
theorem FK(S:List Int)(hS:∀i j (hi:i<S.length) (hj:j<S.length),i<j->S[i]<=S[j])(j:Nat)(hj:j<S.length):S.length-j<=S.countP fun x=>decide (S[j]<=x):=by
 have e:S.countP (fun x=>decide (S[j]<=x))=(S.take j).countP (fun x=>decide (S[j]<=x))+(S.drop j).countP (fun x=>decide (S[j]<=x)):=by
  rw[<-List.countP_append,List.take_append_drop]
 have h2:(S.drop j).countP (fun x=>decide (S[j]<=x))=(S.drop j).length:=by
  rw[List.countP_eq_length];intro x hx;obtain⟨i,hi,rfl⟩:=List.getElem_of_mem hx;rw[List.getElem_drop];refine decide_eq_true ?_;rcases Nat.eq_zero_or_pos i with h0|h0
  ·subst h0;exact Int.le_refl _
  ·exact hS j (j+i) hj (by rw[List.length_drop]at hi;omega) (by omega)
 rw[e,h2,List.length_drop];omega
theorem FL(S:List Int)(hS:∀i j (hi:i<S.length) (hj:j<S.length),i<j->S[i]<=S[j])(j:Nat)(hj:j<S.length)(v:Int)(hv:S[j]<v):(S.countP fun x=>decide (v<=x))<=S.length-j-1:=by
 have e:S.countP (fun x=>decide (v<=x))=(S.take (j+1)).countP (fun x=>decide (v<=x))+(S.drop (j+1)).countP (fun x=>decide (v<=x)):=by
  rw[<-List.countP_append,List.take_append_drop]
 have h1:(S.take (j+1)).countP (fun x=>decide (v<=x))=0:=by
  rw[List.countP_eq_zero];intro x hx;obtain⟨i,hi,rfl⟩:=List.getElem_of_mem hx;rw[List.getElem_take];have JI:i<j+1:=by rw[List.length_take]at hi;omega
  have:S[i]'(by omega)<=S[j]:=by
   rcases Nat.lt_succ_iff_lt_or_eq.1 JI with h|rfl
   ·exact hS i j (by omega) hj h
   ·exact Int.le_refl _
  simp only[decide_eq_true_eq];omega
 have h2:(S.drop (j+1)).countP (fun x=>decide (v<=x))<=(S.drop (j+1)).length:=List.countP_le_length;rw[List.length_drop]at h2;omega
theorem re{N:Nat}(h:1<=N/\N<=7){l:List Int}{b:Int}(hb:pV N l N b):b=Ft N l:=by
 obtain⟨S,hSl,hp,hS,hj,ha⟩:=L2 N l h.1;have cnt:∀v,((oC N l).countP fun x=>decide (v<=x))=S.countP fun x=>decide (v<=x):=fun v=>(hp.countP_eq _).symm
 obtain⟨i,hi,e⟩:∃i,i<N/\tc l i=S[N-(N/2+1)]:=by
  have:S[N-(N/2+1)]∈oC N l:=hp.mem_iff.1 (List.getElem_mem _);obtain⟨i,hi,e⟩:=List.mem_map.1 this;exact⟨i,List.mem_range.1 hi,e⟩
 have hx:Km N l (tc l i)=true:=by
  rw[CY h,cnt,e];have:=FK S hS _ hj;omega
 have h1:=hb.2.2 i hi hx;have h0:0<=tc l i:=Int.le_max_left _ _;rw[ha];refine Int.le_antisymm ?_ (by omega);rcases hb.1 with hz|⟨k,hk,ho,rfl⟩
 ·omega
 ·rw[CY h,cnt]at ho;refine Int.not_lt.1 fun aU=>?_
  have:=FL S hS _ hj _ aU;omega
theorem ni(n:Int)(A:Option Addr)(m c:Nat)(l:List Int)(w:World)(hl:fv w A m l) :
  Calls prog 120 #[.int .i64 n,.slice A m c] w fun e w'=>e=.returned (.int .i64 (eL n l))/\Below w.heap.size w w':=by
 have af:=hl.len;by_cases h:1<=n/\n<=7
 ·obtain⟨N,rfl⟩:∃N:Nat,n=N:=⟨n.toNat,by omega⟩;have Hw:=zH (ju h l);have Hb:=zH (fun b (hb:pV N l N b)=>re (by omega) hb);have YE:1<=N:=by omega
  have WW:N<=7:=by omega
  have pI:=h.2;clear h;go_enter func120,ntmps120;go_wp2_with fail
  go_loopw [5,6] (fun b s wr=>∃(k:Nat) (x:Int),k<=N/\s=.int .i64 (k+1:Nat)/\b=.int .i64 x/\pV N l k x/\Below w.heap.size w wr) (fun _ s _=>(N+1-intOf s).toNat)
  case atStart=>exact⟨0,0,Nat.zero_le _,rfl,rfl,pV.start N l,Below.refl _ _⟩
  case round=>
   obtain⟨k,x,hk,rfl,rfl,mZ,hb⟩:=hrel;by_cases aU:k<N
   ·have Hm:=zH (Ho aU rfl);have hs:=zH (show((k+1:Nat):Int)<=N by omega);have DE:=FA k A m c l wr (hl.below hb) (by omega);have wk:=zH (Cs rfl (show k<7 by omega));have wp:=zH (show((k+1:Nat):Int)+1=((k+1+1:Nat):Int) by omega);generalize((k+1:Nat):Int)=s at *;have hsN:s<=N:=hs.out;clear hs;go_wp2_with fail;refine DE.mono ?_;rintro e w' ⟨rfl,rfl⟩;clear DE;have Hup:=zH (fun h1 h2=>mZ.up h1 h2);have Hon:=zH (fun h1=>mZ.on h1);clear mZ;generalize hv:tc l k=v at *;clear hv;go_wp2_with fail
    go_loopw [8,9] (fun h p wr'=>∃(j:Nat) (A':Option Addr) (c':Nat),j<=N/\p=.int .i64 (j+1:Nat)/\h=.slice A' (ky l v j).length c'/\
     wr'.ownsRow w.heap.size 3 1 (.slice A' (ky l v j).length c') (ky l v j).length ((ky l v j).map vi)/\Below w.heap.size w wr') (fun _ p _=>(N+1-intOf p).toNat)
    case atStart=>exact⟨0,none,0,Nat.zero_le _,rfl,rfl,bX _ _,hb⟩
    case round=>
     obtain⟨j,A',c',hj,rfl,rfl,aB,MH⟩:=hrel;clear hb
     rename World=>wj
     by_cases ny:j<N
     ·have Hmj:=zH (Ho ny rfl);have Xu:=zH (show((j+1:Nat):Int)<=N by omega);have DE:=FA j A m c l wj (hl.below MH) (by omega);have wkj:=zH (Cs rfl (show j<7 by omega));have wpj:=zH (show((j+1:Nat):Int)+1=((j+1+1:Nat):Int) by omega);have Hyes:=zH (fun h=>Gc (l:=l) (v:=v) (k:=j) h);have Hno:=zH (fun h=>Jj (l:=l) (v:=v) (k:=j) h);have U1:=Gb l v j;have fU:=MH.size;generalize hp:((j+1:Nat):Int)=p at *;have hpN:p<=N:=Xu.out;clear Xu;go_wp2_with fail;refine DE.mono ?_;rintro e w' ⟨rfl,rfl⟩;clear DE;generalize tc l j=u at *;by_cases XY:v<=u
      ·have hh:=Hyes.out XY;clear Hyes Hno;generalize ky l v j=hs at *;have pJ:=bf aB ((Below.refl wj.heap.size wj).alloc zl (.cells #[.int .i64 p] 3));have ZY:=fv.lit wj 3 (0,0) [p] #[.int .i64 p] 1 wj.heap.size rfl rfl rfl;have VI:w.heap.size<=(wj.alloc (.cells #[.int .i64 p] 3)).heap.size:=by simp only[World.alloc,Array.size_push];omega
       have dX:=MH.alloc fU (.cells #[.int .i64 p] 3);go_wp2_with (at_builtin;refine bh rfl (.tmp 33) (.tmp 35) rfl w.heap.size rfl pJ rfl ZY (by omega) VI ?_;intro A3 c3 w3 bY iy bN)
       first|rw[wkj.out] | rw[wpj.out]
       refine⟨⟨j+1,A3,c3,ny,rfl,?_,?_,dX.trans bN⟩,Hmj.out⟩
       ·rw[hh,List.length_append];rfl
       ·rw[hh,List.length_append];exact bY
      ·have hh:=Hno.out (Int.not_le.1 XY);clear Hyes Hno;go_wp2_with fail
       first|rw[wkj.out] | rw[wpj.out]
       exact⟨⟨j+1,A',c',ny,rfl,by rw[hh],by rw[hh];exact aB,MH⟩,Hmj.out⟩
     ·obtain rfl:j=N:=by omega
      have DH:=bB aB;have nD:=sr j A' (ky l v j).length c' (ky l v j) wj (fv.of_own aB) DH.2 DH.1;have Hok:=zH (show lv j (ky l v j)=Km j l v from rfl);rw[Hok.out]at nD;go_wp2_with fail;refine nD.mono ?_;rintro e w' ⟨rfl,rfl⟩;clear nD aB;generalize Km j l v=ok at *;cases ok
      ·have mZ:=Hon.out (fun h=>by cases h);go_wp2_with fail
       first|rw[wk.out] | rw[wp.out]
       exact⟨⟨k+1,x,aU,rfl,rfl,mZ,MH⟩,Hm.out⟩
      ·by_cases hxv:x<v
       ·have mZ:=Hup.out rfl hxv;go_wp2_with fail
        first|rw[wk.out] | rw[wp.out]
        exact⟨⟨k+1,v,aU,rfl,rfl,mZ,MH⟩,Hm.out⟩
       ·have mZ:=Hon.out (fun _=>by omega);go_wp2_with fail
        first|rw[wk.out] | rw[wp.out]
        exact⟨⟨k+1,x,aU,rfl,rfl,mZ,MH⟩,Hm.out⟩
   ·obtain rfl:k=N:=by omega
    go_wp2_with fail;go_ret;exact⟨by rw[Hw.out,<-Hb.out _ mZ];rfl,hb⟩
 ·have Hw:=zH (qX h l);rcases(show n<1\/(1<=n/\7<n) by omega)with h1|⟨h1,h2⟩
  all_goals
   clear h;go_enter func120,ntmps120;go_wp2_with fail
   go_loopw [5,6] (fun b s wr=>s=.int .i64 1/\b=.int .i64 0/\wr=w) (fun _ _ _=>0)
   case atStart=>exact⟨rfl,rfl,rfl⟩
   case round=>
    obtain⟨rfl,rfl,rfl⟩:=hrel;go_wp2_with fail;go_ret;exact⟨by rw[Hw.out];rfl,Below.refl _ _⟩
section
open Go.MapKept
theorem am{P:Program}{fn:Func}{R:Ending->World->Prop}{a:Act}{w:World}(hr:fn.results=#[])(hd:a.defers=[])(hR:R (.returned (.tuple #[])) w):bodyPost P fn R .normal a w:=
 bodyPost_end (by simp[results,hr]) hd hR
structure Rw where
 peers:Value
 waits:Value
 yes:Value
 trk:Value
 dat:Value
 gat:Value
 ent:Value
 com:Value
 snp:Value
 rds:Value
 mgs:Value
def bV(R:Rf)(v:Rw):Array Value:=
 #[v.peers,vi R.round,v.waits,v.yes,vi R.id,vi R.n,vi R.hard.term,vi R.hard.vote,v.trk,vi R.snap.idx,vi R.snap.term,v.dat,vi R.commit,vi R.role,vi R.leader,vi R.clock,vi R.wait,
  vi R.gath.frm,vi R.gath.idx,vi R.gath.term,vi R.gath.total,v.gat,.bool R.out.save,.bool R.out.reset,vi R.out.hard.term,vi R.out.hard.vote,v.ent,v.com,v.snp,v.rds,v.mgs]
def mW(p:Pr):List Value:=[vi p.next,vi p.mat,vi p.offset,vi p.round]
def sZ(x:Wt):List Value:=[vi x.ctx,vi x.idx,vi x.round]
def qM(x:Int×Int):List Value:=[vi x.1,vi x.2]
def ts(aa:Nat->Nat)(i:Nat)(w:World)(v:Value)(l:List Int):Prop:=
 (v=.map none/\l=[])\/∃(b:Nat) (es:Array MapEntry) (clock:Nat),v=.map (some b)/\aa b=i/\w.heap[b]?=some (.map es clock)/\Stamped es clock/\
  (∀x∈es.toList,∃k:Int,x.key=.int .i64 k/\0<=k/\k<=1000)/\∀k:Int,k∈l↔∃x∈es.toList,x.key=.int .i64 k
theorem ts.keep{aa:Nat->Nat}{i:Nat}{w w':World}{v:Value}{l:List Int}(h:ts aa i w v l)(hk:∀j,aa j=i->j<w.heap.size->w'.heap[j]?=w.heap[j]?):ts aa i w' v l:=by
 rcases h with h|⟨b,es,clock,h1,h2,h3,h4⟩
 ·exact .inl h
 ·exact .inr ⟨b,es,clock,h1,h2,(hk b h2 (aV h3)).trans h3,h4⟩
structure ax(aa:Nat->Nat)(b:Nat)(w:World)(g:Nat)(R:Rf)(v:Rw):Prop where
 s:ao w g 107 (bV R v)
 sl:aa g=b+1
 t:tb aa (b+2) w v.trk R.track
 p:bR aa (b+3) w 163 4 v.peers R.peers.length (R.peers.flatMap mW)
 q:bR aa (b+4) w 167 3 v.waits R.waits.length (R.waits.flatMap sZ)
 y:ts aa (b+5) w v.yes R.yes
 d:bP aa (b+6) w v.dat R.snap.data
 gd:bR aa (b+7) w 5 1 v.gat R.gath.data.length (R.gath.data.map vb)
 e:dQ aa (b+8) (b+13) w v.ent R.out.entries
 c:dQ aa (b+9) (b+13) w v.com R.out.commits
 n:qS aa (b+13) w v.snp R.out.snap
 r:bR aa (b+11) w 134 2 v.rds R.out.reads.length (R.out.reads.flatMap qM)
 m:gI aa (b+12) (b+13) w v.mgs R.out.msgs
def aS(aa:Nat->Nat)(b:Nat)(j:Nat):Prop:=b<aa j/\aa j<=b+12
def bw(aa:Nat->Nat)(b:Nat)(j:Nat):Prop:=b<aa j/\aa j<=b+13
section
variable {aa ak:Nat->Nat}{b g:Nat}{w w':World}{R R':Rf}{v:Rw}
theorem ax.keep(h:ax aa b w g R v)(hk:∀j,bw aa b j->j<w.heap.size->w'.heap[j]?=w.heap[j]?):ax aa b w' g R v:=by
 have k:∀i,0<i->i<=13->∀j,aa j=b+i->j<w.heap.size->w'.heap[j]?=w.heap[j]?:=fun i h0 h1 j hj hl=>hk j ⟨by omega,by omega⟩ hl
 exact⟨(k 1 (by omega) (by omega) g h.sl h.s.lt).trans h.s,h.sl,h.t.keep (k 2 (by omega) (by omega)),h.p.keep (k 3 (by omega) (by omega)),h.q.keep (k 4 (by omega) (by omega)),h.y.keep (k 5 (by omega) (by omega)),
  h.d.keep (k 6 (by omega) (by omega)),h.gd.keep (k 7 (by omega) (by omega)),h.e.keep (k 8 (by omega) (by omega)) (k 13 (by omega) (by omega)),h.c.keep (k 9 (by omega) (by omega)) (k 13 (by omega) (by omega)),h.n.keep (k 13 (by omega) (by omega)),h.r.keep (k 11 (by omega) (by omega)),h.m.keep (k 12 (by omega) (by omega)) (k 13 (by omega) (by omega))⟩
theorem ax.below(h:ax aa b w g R v)(hb:Below w.heap.size w w'):ax aa b w' g R v:=h.keep fun j _ hl=>hb.block j hl
theorem ax.nums(h:ax aa b w g R v)(hs:ao w' g 107 (bV R' v))(hF:Fr (fun j=>j=g) w w')(e1:R'.track=R.track)(e2:R'.peers=R.peers)(e3:R'.waits=R.waits)(e4:R'.yes=R.yes)(e5:R'.snap.data=R.snap.data)(e6:R'.gath.data=R.gath.data)
  (e7:R'.out.entries=R.out.entries) (e8:R'.out.commits=R.out.commits) (e9:R'.out.snap=R.out.snap) (e10:R'.out.reads=R.out.reads) (e11:R'.out.msgs=R.out.msgs):ax aa b w' g R' v:=by
 have k:∀i,1<i->∀j,aa j=b+i->j<w.heap.size->w'.heap[j]?=w.heap[j]?:=fun i h0 j hj hl=>hF.block j hl fun e=>by
  have:=h.sl;rw[e]at hj;omega
 exact⟨hs,h.sl,by rw[e1];exact h.t.keep (k 2 (by omega)),by rw[e2];exact h.p.keep (k 3 (by omega)),by rw[e3];exact h.q.keep (k 4 (by omega)),by rw[e4];exact h.y.keep (k 5 (by omega)),by rw[e5];exact h.d.keep (k 6 (by omega)),
  by rw[e6];exact h.gd.keep (k 7 (by omega)),by rw[e7];exact h.e.keep (k 8 (by omega)) (k 13 (by omega)),by rw[e8];exact h.c.keep (k 9 (by omega)) (k 13 (by omega)),by rw[e9];exact h.n.keep (k 13 (by omega)),by rw[e10];exact h.r.keep (k 11 (by omega)),by rw[e11];exact h.m.keep (k 12 (by omega)) (k 13 (by omega))⟩
def ap(aa:Nat->Nat)(b:Nat)(w:World)(g:Nat)(R':Rf)(w':World):Prop:=
 ∃(ak:Nat->Nat) (v':Rw),ax ak b w' g R' v'/\(∀j,j<w.heap.size->¬aS aa b j->ak j=aa j)/\(∀j,j<w.heap.size->aS aa b j->aS ak b j)/\Fr (aS aa b) w w'
theorem ap.nums(h:ax aa b w g R v)(hs:ao w' g 107 (bV R' v))(hF:Fr (fun j=>j=g) w w')(e1:R'.track=R.track)(e2:R'.peers=R.peers)(e3:R'.waits=R.waits)(e4:R'.yes=R.yes)(e5:R'.snap.data=R.snap.data)(e6:R'.gath.data=R.gath.data)
  (e7:R'.out.entries=R.out.entries) (e8:R'.out.commits=R.out.commits) (e9:R'.out.snap=R.out.snap) (e10:R'.out.reads=R.out.reads) (e11:R'.out.msgs=R.out.msgs):ap aa b w g R' w':=
 ⟨aa,v,h.nums hs hF e1 e2 e3 e4 e5 e6 e7 e8 e9 e10 e11,fun _ _ _=>rfl,fun _ _ h=>h,hF.mono fun j e=>by rw[e];exact⟨by have:=h.sl;omega,by have:=h.sl;omega⟩⟩
theorem st(h:ax aa b w g R v):Calls prog 50 #[.pointer (some ⟨g,0,none⟩)] w fun e w'=>e=.returned (.tuple #[])/\ap aa b w g R.rest w':=by
 obtain⟨f15,f16,-⟩:=h.s.fs [15,16];obtain⟨c15,c16,-⟩:=h.s.cs [15,16];simp only[bV,Zx]at c15 c16;have hS:ao ((w.setCell ⟨g,15,none⟩ (.int .i64 0)).setCell ⟨g,16,none⟩ (.int .i64 0)) g 107 (bV R.rest v):=(h.s.set_ 15 (.int .i64 0)).set_ 16 (.int .i64 0);have hP:=zH (ap.nums h hS ((Fr.set g 15 _).trans (Fr.set g 16 _) fun _ h=>.inl h) rfl rfl rfl rfl rfl rfl rfl rfl rfl rfl rfl);clear hS h;go_enter func50,ntmps50;go_wp2_with fail;exact am rfl rfl ⟨rfl,hP.out⟩
end
end
section
open Go.MapKept
theorem Hx:(prog.info? 39).map (fun i=>(i.zero,i.size,i.bytes))=some (some (.agg #[vi 0,vi 0,vi 0,vi 0,vi 0,vi 0,vi 0,vi 0,.bool false,vi 0,vi 0,.slice none 0 0,.slice none 0 0]),13,136):=by kernel_rfl
theorem kh{w:World}{ops:Array Oper}{rest:List Oper}{o:Oper}{a:Act}{Q:Exit->Act->World->Prop}(lq:o.guard=none)(s x:Operand)
  (ho:o.op=.call {callee:=.builtin .append,args:=#[s,x],argTypes:=#[47,47]}) {aa:Nat->Nat} {i n:Nat} {v:Value} {zs:List ((Value×Value)×Mg)} (hs:a.eval s=v) (aB:bR aa i w 39 13 v n (zs.flatMap zj))
  {gb d:Nat} {z:(Value×Value)×Mg} (hx:a.eval x=.slice (some ⟨gb,0,none⟩) 1 d) (hb:ao w gb 39 (zj z).toArray) (h1:z.1.1.oneCell'=true/\z.1.2.oneCell'=true) (hn:n<=1000000)
  (h:∀A' c' w' ak,bR ak i w' 39 13 (.slice A' (n+1) c') (n+1) ((zs++[z]).flatMap zj)->Fr (aM aa i) w w'->(ak=aj aa w.heap.size i)->wpList prog ops Q rest (a.put o.dst (.slice A' (n+1) c')) w'):wpList prog ops Q (o::rest) a w:=by
 obtain⟨i0,iF,jT,iW,gC⟩:=info_parts Hx;obtain⟨A,c,rfl,bS,hl⟩:=aB;have fo:∀u∈zj z,u.oneCell'=true:=fun u hu=>by
  simp only[zj,List.mem_cons,List.not_mem_nil,or_false]at hu;rcases hu with rfl|rfl|rfl|rfl|rfl|rfl|rfl|rfl|rfl|rfl|rfl|rfl|rfl <;> first|rfl|exact h1.1|exact h1.2
 have hr:cn w 13 (some ⟨gb,0,none⟩) 1 (zj z):=⟨rfl,fun _=>⟨_,rfl,fun j y hy=>by
  have e:(⟨gb,0,none⟩:Addr).add j=⟨gb,j,none⟩:=by unfold Addr.add;split <;> simp[*]
  rw[e,hb.cell j,<-hy];simp⟩⟩
 refine bg w lq s x 47 ho 0 39 i0 _ 13 136 underlying47 iF jT iW gC rfl (by omega) (.slice A n c) n _ hs bS (some ⟨gb,0,none⟩) 1 d _ hx hr fo (by unfold maxLen;omega) (by omega) zz fun A' c' w' h3 h4 h5=>?_
 refine h _ _ _ _ ⟨A',c',rfl,by rw[List.flatMap_append,List.flatMap_cons,List.flatMap_nil,List.append_nil];exact h3,fun j hj=>?_⟩ ((Fr.grown h4).mono fun j hj=>hl j hj) rfl;rcases iA h5 j hj with h6|h6
 ·unfold aj;split
  ·rfl
  ·exact hl j h6
 ·exact az h6
section
variable {aa:Nat->Nat}{b g:Nat}{w:World}{R:Rf}{v:Rw}
theorem tb.relabel{ak:Nat->Nat}{i k:Nat}{x:Value}{t:bD}(h:tb aa i w x t)(hl:∀j,j<w.heap.size->aa j=i->ak j=k):tb ak k w x t:=by
 obtain⟨g,S,A,n,c,zs,h1,h2,h3⟩:=h;refine⟨g,S,A,n,c,zs,h1,h2,fun j hj=>hl j ?_ (h3 j hj)⟩;rcases hj with rfl|hj|hj
 ·exact h2.b.lt
 ·exact(aw h2.o A c rfl j hj).1
 ·obtain⟨cs,fz,ty,e,_⟩:=h2.s j hj;exact aV e
theorem ts.relabel{ak:Nat->Nat}{i k:Nat}{x:Value}{l:List Int}(h:ts aa i w x l)(hl:∀j,j<w.heap.size->aa j=i->ak j=k):ts ak k w x l:=by
 rcases h with h|⟨q,es,clock,h1,h2,h3,h4⟩
 ·exact .inl h
 ·exact .inr ⟨q,es,clock,h1,hl q (aV h3) h2,h3,h4⟩
theorem qS.relabel{ak:Nat->Nat}{i k:Nat}{x:Value}{s:Option tU}(h:qS aa i w x s)(hl:∀j,j<w.heap.size->aa j=i->ak j=k):qS ak k w x s:=by
 cases s with
 | none=>exact h
 | some s=>
  obtain⟨q,vd,h1,h2,h3,h4⟩:=h;exact⟨q,vd,h1,hl q h3.lt h2,h3,h4.relabel hl⟩
theorem ax.relabel{ak:Nat->Nat}(h:ax aa b w g R v)(hl:∀j,j<w.heap.size->bw aa b j->ak j=aa j):ax ak b w g R v:=by
 have k:∀i,0<i->i<=13->∀j,j<w.heap.size->aa j=b+i->ak j=b+i:=fun i h0 h1 j hj e=>(hl j hj ⟨by omega,by omega⟩).trans e
 exact⟨h.s,k 1 (by omega) (by omega) g h.s.lt h.sl,h.t.relabel (k 2 (by omega) (by omega)),h.p.relabel (k 3 (by omega) (by omega)),h.q.relabel (k 4 (by omega) (by omega)),h.y.relabel (k 5 (by omega) (by omega)),
  h.d.relabel (k 6 (by omega) (by omega)),h.gd.relabel (k 7 (by omega) (by omega)),h.e.relabel (k 8 (by omega) (by omega)) (k 13 (by omega) (by omega)),h.c.relabel (k 9 (by omega) (by omega)) (k 13 (by omega) (by omega)),h.n.relabel (k 13 (by omega) (by omega)),h.r.relabel (k 11 (by omega) (by omega)),h.m.relabel (k 12 (by omega) (by omega)) (k 13 (by omega) (by omega))⟩
theorem ax.setMsgs{w3:World}{v':Value}{ms:List Mg}(h:ax aa b w g R v)(hF:Fr (aM aa (b+12)) w w3)(hm:gI (aj aa w.heap.size (b+12)) (b+12) (b+13) w3 v' ms) :
  ax (aj aa w.heap.size (b+12)) b (w3.setCell ⟨g,30,none⟩ v') g {R with out:={R.out with msgs:=ms}} {v with mgs:=v'}/\Fr (aS aa b) w (w3.setCell ⟨g,30,none⟩ v'):=by
 have h':=h.relabel (ak:=aj aa w.heap.size (b+12)) fun j hj _=>ac hj
 have fh:=Fr.set (w:=w3) g 30 v';have cW:=h.s.lt;have mU:ao w3 g 107 (bV R v):=(hF.other (k:=b+1) (by omega) g h.sl cW).trans h.s;have k:∀i,1<i->i≠12->∀j,aj aa w.heap.size (b+12) j=b+i->j<w.heap.size->(w3.setCell ⟨g,30,none⟩ v').heap[j]?=w.heap[j]?:=fun i h0 h1 j hj hl=>by
  rw[ac hl]at hj;exact(fh.block j (Nat.lt_of_lt_of_le hl hF.size) fun e=>by have:=h.sl;rw[e]at hj;omega).trans (hF.other (k:=b+i) (by omega) j hj hl)
 have BA:aj aa w.heap.size (b+12) g=b+1:=(ac cW).trans h.sl;refine⟨⟨mU.set_ 30 v',BA,h'.t.keep (k 2 (by omega) (by omega)),h'.p.keep (k 3 (by omega) (by omega)),h'.q.keep (k 4 (by omega) (by omega)),h'.y.keep (k 5 (by omega) (by omega)),h'.d.keep (k 6 (by omega) (by omega)),h'.gd.keep (k 7 (by omega) (by omega)),
  h'.e.keep (k 8 (by omega) (by omega)) (k 13 (by omega) (by omega)),h'.c.keep (k 9 (by omega) (by omega)) (k 13 (by omega) (by omega)),h'.n.keep (k 13 (by omega) (by omega)),h'.r.keep (k 11 (by omega) (by omega)),hm.keep (fun j hj hl=>fh.block j hl fun e=>?_) (fun j hj hl=>fh.block j hl fun e=>?_)⟩,?_⟩
 ·rw[e,BA]at hj;omega
 ·rw[e,BA]at hj;omega
 ·refine(hF.mono (X':=aS aa b) fun j hj=>?_).trans (fh.mono (X':=aS aa b) fun j hj=>?_) fun j hj=>.inl hj
  ·have:aa j=b+12:=hj;exact⟨by omega,by omega⟩
  ·rw[hj];have:=h.sl;exact⟨by omega,by omega⟩
theorem sE(m:Mg)(ve vd:Value)(h:ax aa b w g R v)(hm:jV aa (b+13) w ((ve,vd),m))(h1:ve.oneCell'=true/\vd.oneCell'=true)(hn:R.out.msgs.length<=100000) :
  Calls prog 97 #[.pointer (some ⟨g,0,none⟩),eI m ve vd] w fun e w'=>e=.returned (.tuple #[])/\ap aa b w g (R.send m) w':=by
 obtain⟨c4,c6,c30,-⟩:=h.s.cs [4,6,30];simp only[bV,vi,Zx]at c4 c6 c30;have cW:=h.s.lt;obtain⟨T,hT⟩:=zN ((if m.term=0 then R.hard.term else m.term));have dZ:=zH (show R.send m={R with out:={R.out with msgs:=R.out.msgs++[{m with frm:=R.id,term:=T}]}} by unfold Rf.send;rw[hT]);have aI:Below w.heap.size w (w.alloc (.cells #[.int .i64 m.kind,.int .i64 R.id,.int .i64 m.tgt,.int .i64 T,.int .i64 m.idx,.int .i64 m.logTerm,.int .i64 m.commit,.int .i64 m.round,.bool m.reject,.int .i64 m.offset,.int .i64 m.total,ve,vd] 39)):=zb.alloc zl _;have bM:=ao.new w 39 #[.int .i64 m.kind,.int .i64 R.id,.int .i64 m.tgt,.int .i64 T,.int .i64 m.idx,.int .i64 m.logTerm,.int .i64 m.commit,.int .i64 m.round,.bool m.reject,.int .i64 m.offset,.int .i64 m.total,ve,vd];obtain⟨w1,ct⟩:=zN (w.alloc (.cells #[.int .i64 m.kind,.int .i64 R.id,.int .i64 m.tgt,.int .i64 T,.int .i64 m.idx,.int .i64 m.logTerm,.int .i64 m.commit,.int .i64 m.round,.bool m.reject,.int .i64 m.offset,.int .i64 m.total,ve,vd] 39));rw[ct]at aI bM;have h0:=(h.relabel (ak:=aj aa w.heap.size b) fun j hj _=>ac hj);have dX:Below w1.drew.heap.size w1.drew (w1.drew.alloc (.cells #[.int .i64 m.kind,.int .i64 R.id,.int .i64 m.tgt,.int .i64 T,.int .i64 m.idx,.int .i64 m.logTerm,.int .i64 m.commit,.int .i64 m.round,.bool m.reject,.int .i64 m.offset,.int .i64 m.total,ve,vd] 39)):=zb.alloc zl _;have IE:=ao.new w1.drew 39 (zj ((ve,vd),{m with frm:=R.id,term:=T})).toArray;have dF:Below w.heap.size w (w1.drew.alloc (.cells #[.int .i64 m.kind,.int .i64 R.id,.int .i64 m.tgt,.int .i64 T,.int .i64 m.idx,.int .i64 m.logTerm,.int .i64 m.commit,.int .i64 m.round,.bool m.reject,.int .i64 m.offset,.int .i64 m.total,ve,vd] 39)):=ab (ay aI 1) dX zl;have h2:=h0.below dF;have tG:jV (aj aa w.heap.size b) (b+13) _ ((ve,vd),{m with frm:=R.id,term:=T}):=(hm.relabel (ak:=aj aa w.heap.size b) (k:=b+13) fun j hj e=>(ac hj).trans e).keep fun j _ hl=>dF.block j hl
 obtain⟨zs,bS,cR,tn⟩:=id h2.m;obtain⟨y0,y1,y2,y3,y4,y5,y6,y7,y8,y9,yA,yB,yC,-⟩:=bM.cs [0,1,2,3,4,5,6,7,8,9,10,11,12];simp only[Zx]at y0 y1 y2 y3 y4 y5 y6 y7 y8 y9 yA yB yC;have c30':=(aI.cell (ar c30)).trans c30;obtain⟨k0,k1,k2,k3,k4,k5,k6,k7,k8,k9,kA,kB,kC⟩:=Ap [g,w.heap.size] y0 y1 y2 y3 y4 y5 y6 y7 y8 y9 yA yB yC;have kD:=EY [g,w.heap.size] c30';have dA:∀q∈[g,w.heap.size],q<w1.heap.size:=by simp;exact⟨by have:=aI.size;omega,bM.lt⟩
 unfold eI;simp only[vi];rcases(show(m.term=0/\R.hard.term=T)\/(m.term≠0/\m.term=T) by
  by_cases h0:m.term=0
  ·rw[if_pos h0]at hT;exact .inl ⟨h0,hT⟩
  ·rw[if_neg h0]at hT;exact .inr ⟨h0,hT⟩)with⟨ht,tf⟩|⟨ht,tf⟩
 all_goals
  clear hT;go_enter func97,ntmps97;go_wp2_with fail;try simp only[tf]
  try rw[ct]
  refine nj [g,w.heap.size] w1 [([0,1,2,3,4,5,6],7),([],8)] ([9,10,11],12) ?_;refine aq fun K1 cQ=>?_
  simp only[ah,Zx];repeat go_big_quiet_step(fail)
  apply wpQuiet_nil;go_wp2_with fail;refine⟨av dA (zb.drew.trans dX),cQ _ _ ?_⟩;refine aq fun K2 iu=>?_
  simp only[ah,Zx];repeat go_big_quiet_step(fail)
  apply wpQuiet_nil;go_wp2_with (at_builtin;refine kh rfl (.tmp 23) (.tmp 25) rfl rfl bS rfl IE h1 (Nat.le_trans hn (by omega)) ?_;intro A3 c3 w3 cJ cH dk uo);have iM:aj aa w.heap.size b g=b+1:=(ac cW).trans h.sl;have K9:aj aa w.heap.size b w.heap.size=b:=az zl;have iy:w3.heap[g]?=w1.heap[g]?:=(dk.other (k:=b+1) (by omega) g iM h2.s.lt).trans ((zb.drew.trans dX).block g (dA g (by simp)));have MX:w3.heap[w.heap.size]?=w1.heap[w.heap.size]?:=(dk.other (k:=b) (by omega) w.heap.size K9 (by have:=bM.lt;have:=dX.size;exact Nat.lt_of_lt_of_le bM.lt this)).trans ((zb.drew.trans dX).block _ bM.lt);refine⟨bO iy MX,iu _ _ ?_⟩;subst uo;obtain⟨w2,cZ⟩:=zN ((w1.drew.alloc (.cells #[.int .i64 m.kind,.int .i64 R.id,.int .i64 m.tgt,.int .i64 T,.int .i64 m.idx,.int .i64 m.logTerm,.int .i64 m.commit,.int .i64 m.round,.bool m.reject,.int .i64 m.offset,.int .i64 m.total,ve,vd] 39)));have cH:bR (aj (aj aa w.heap.size b) w2.heap.size (b+12)) (b+12) w3 39 13 (.slice A3 (R.out.msgs.length+1) c3) (R.out.msgs.length+1) ((zs++[((ve,vd),{m with frm:=R.id,term:=T})]).flatMap zj):=by rw[<-cZ];exact cH
  rw[cZ]at dF h2 tG cR;have dk:Fr (aM (aj aa w.heap.size b) (b+12)) w2 w3:=by rw[<-cZ];exact dk
  have lx:∀j,j<w3.heap.size->aj aa w.heap.size b j=b+13->aj (aj aa w.heap.size b) w2.heap.size (b+12) j=b+13:=fun j _ e=>by
   have hs:=dF.size;rcases Nat.lt_or_ge j w2.heap.size with hj|hj
   ·exact(ac hj).trans e
   ·rw[az (by omega)]at e;omega
  have GS:∀z∈zs++[((ve,vd),{m with frm:=R.id,term:=T})],jV (aj (aj aa w.heap.size b) w2.heap.size (b+12)) (b+13) w3 z:=fun z hz=>by
   rcases List.mem_append.1 hz with hz|hz
   ·exact((cR z hz).keep (dk.other (k:=b+13) (by omega))).relabel lx
   ·rw[List.mem_singleton.1 hz];exact(tG.keep (dk.other (k:=b+13) (by omega))).relabel lx
  have oZ:gI (aj (aj aa w.heap.size b) w2.heap.size (b+12)) (b+12) (b+13) w3 (.slice A3 (R.out.msgs.length+1) c3) (R.out.msgs++[{m with frm:=R.id,term:=T}]):=⟨_,by rw[List.length_append];exact cH,GS,by rw[List.map_append,tn];rfl⟩;obtain⟨PK,mz⟩:=h2.setMsgs dk oZ;have hold:∀j,j<w.heap.size->aj (aj aa w.heap.size b) w2.heap.size (b+12) j=aa j:=fun j hj=>(ac (by have:=dF.size;omega)).trans (ac hj)
  have hP:=zH (show ap aa b w g (R.send m) (w3.setCell ⟨g,30,none⟩ (.slice A3 (R.out.msgs.length+1) c3))from⟨aj (aj aa w.heap.size b) w2.heap.size (b+12),_,(by rw[dZ.out];exact PK),fun j hj _=>hold j hj,fun j hj h=>by
   unfold aS at h ⊢;rw[hold j hj];exact h,(Fr.of_below (X:=aS aa b) dF).trans mz fun j hj=>by
    unfold aS at hj ⊢;rcases Nat.lt_or_ge j w.heap.size with JJ|JJ
    ·rw[ac JJ]at hj;exact .inl hj
    ·exact .inr JJ⟩)
  have Qw:ao w3 g 107 (bV R v):=(dk.other (k:=b+1) (by omega) g iM h2.s.lt).trans h2.s;have cg:=Qw.cell 30;have fg:=Qw.free 30;simp only[bV,vi,Zx]at cg;clear PK mz oZ GS cH dk;refine aC ?_;simp only[ah,Zx];repeat go_big_quiet_step(fail)
  apply wpQuiet_nil;go_wp2_with fail;exact am rfl rfl ⟨rfl,hP.out⟩
end
end
section
open Go.MapKept
section
variable {aa:Nat->Nat}{b g:Nat}{w:World}{R:Rf}{v:Rw}
theorem ax.setEnts{w3:World}{v':Value}{es:List En}(h:ax aa b w g R v)(hF:Fr (aM aa (b+8)) w w3)(hm:dQ (aj aa w.heap.size (b+8)) (b+8) (b+13) w3 v' es) :
  ax (aj aa w.heap.size (b+8)) b (w3.setCell ⟨g,26,none⟩ v') g {R with out:={R.out with entries:=es}} {v with ent:=v'}/\Fr (aS aa b) w (w3.setCell ⟨g,26,none⟩ v'):=by
 have h':=h.relabel (ak:=aj aa w.heap.size (b+8)) fun j hj _=>ac hj
 have fh:=Fr.set (w:=w3) g 26 v';have cW:=h.s.lt;have mU:ao w3 g 107 (bV R v):=(hF.other (k:=b+1) (by omega) g h.sl cW).trans h.s;have k:∀i,1<i->i≠8->∀j,aj aa w.heap.size (b+8) j=b+i->j<w.heap.size->(w3.setCell ⟨g,26,none⟩ v').heap[j]?=w.heap[j]?:=fun i h0 h1 j hj hl=>by
  rw[ac hl]at hj;exact(fh.block j (Nat.lt_of_lt_of_le hl hF.size) fun e=>by have:=h.sl;rw[e]at hj;omega).trans (hF.other (k:=b+i) (by omega) j hj hl)
 have BA:aj aa w.heap.size (b+8) g=b+1:=(ac cW).trans h.sl;refine⟨⟨mU.set_ 26 v',BA,h'.t.keep (k 2 (by omega) (by omega)),h'.p.keep (k 3 (by omega) (by omega)),h'.q.keep (k 4 (by omega) (by omega)),h'.y.keep (k 5 (by omega) (by omega)),h'.d.keep (k 6 (by omega) (by omega)),h'.gd.keep (k 7 (by omega) (by omega)),
  hm.keep (fun j hj hl=>fh.block j hl fun e=>?_) (fun j hj hl=>fh.block j hl fun e=>?_),h'.c.keep (k 9 (by omega) (by omega)) (k 13 (by omega) (by omega)),h'.n.keep (k 13 (by omega) (by omega)),h'.r.keep (k 11 (by omega) (by omega)),h'.m.keep (k 12 (by omega) (by omega)) (k 13 (by omega) (by omega))⟩,?_⟩
 ·rw[e,BA]at hj;omega
 ·rw[e,BA]at hj;omega
 ·refine(hF.mono (X':=aS aa b) fun j hj=>?_).trans (fh.mono (X':=aS aa b) fun j hj=>?_) fun j hj=>.inl hj
  ·have:aa j=b+8:=hj;exact⟨by omega,by omega⟩
  ·rw[hj];have:=h.sl;exact⟨by omega,by omega⟩
theorem pk(A:Option Addr)(n c:Nat)(ys:List (Value×En))(h:ax aa b w g R v)(hr:ff w A n ys)(hd:bo (aM aa (b+13)) w ys)(hA:0<n->∀j,aA A j->j≠g)(hn:n<=100000)(hN:R.out.entries.length<=100000) :
  Calls prog 67 #[.pointer (some ⟨g,0,none⟩),.slice A n c] w fun e w'=>e=.returned (.tuple #[])/\ap aa b w g (R.save (ys.map (·.2))) w':=by
 obtain⟨f22,f26,-⟩:=h.s.fs [22,26];obtain⟨c22,c26,-⟩:=h.s.cs [22,26];simp only[bV,vi,Zx]at c22 c26;have cW:=h.s.lt;have hS:ao (w.setCell ⟨g,22,none⟩ (.bool true)) g 107 (bV {R with out:={R.out with save:=true}} v):=h.s.set_ 22 (.bool true);have h1:=h.nums (R':={R with out:={R.out with save:=true}}) hS (Fr.set g 22 _) rfl rfl rfl rfl rfl rfl rfl rfl rfl rfl rfl;have ir:Fr (fun j=>j=g) w (w.setCell ⟨g,22,none⟩ (.bool true)):=Fr.set g 22 _;have lA:ff (w.setCell ⟨g,22,none⟩ (.bool true)) A n ys:=cn.stay (S:=fun j=>j≠g) hr (fun h0 ad e=>hA h0 _ ⟨ad,e,rfl⟩) (ir.stay fun j hj _=>hj);have yq:bo (aM aa (b+13)) (w.setCell ⟨g,22,none⟩ (.bool true)) ys:=hd.keep (ir.stay fun j hj _ e=>by
  have hj:aa j=b+13:=hj;have:=h.sl;rw[e]at hj;omega)
 have fo:=hd.one;have c26':=hS.cell 26;have f26':=hS.free 26;simp only[bV,vi,Zx]at c26';have he:dQ aa (b+8) (b+13) (w.setCell ⟨g,22,none⟩ (.bool true)) v.ent R.out.entries:=h1.e;obtain⟨zs,⟨Ae,ce,pL,bS,fR⟩,xl,tn⟩:=he;rw[pL]at c26' c26;have fw:R.out.entries.length+n<=1000000000:=by omega
 have wu:=hr.len;have fU:(w.setCell ⟨g,22,none⟩ (.bool true)).heap.size=w.heap.size:=by simp[World.setCell]
 have Ym:=h1.s.lt;have aE:∀(A3:Option Addr) (c3:Nat) (w3:World),w3.ownsRow 0 59 6 (.slice A3 (R.out.entries.length+n) c3) (R.out.entries.length+n) ((zs++ys).flatMap cl)->Fr (aA Ae) (w.setCell ⟨g,22,none⟩ (.bool true)) w3->(∀j,aA A3 j->aA Ae j\/(w.setCell ⟨g,22,none⟩ (.bool true)).heap.size<=j)->
   ao w3 g 107 (bV {R with out:={R.out with save:=true}} v)/\ap aa b w g (R.save (ys.map (·.2))) (w3.setCell ⟨g,26,none⟩ (.slice A3 (R.out.entries.length+n) c3)):=fun A3 c3 w3 cH dk Lu=>by
  have mz:Fr (aM aa (b+8)) (w.setCell ⟨g,22,none⟩ (.bool true)) w3:=dk.mono fun j hj=>fR j hj
  have JL:∀j,aM aa (b+13) j->j<(w.setCell ⟨g,22,none⟩ (.bool true)).heap.size->w3.heap[j]?=(w.setCell ⟨g,22,none⟩ (.bool true)).heap[j]?:=mz.other (k:=b+13) (by omega);have jy:∀j,j<(w.setCell ⟨g,22,none⟩ (.bool true)).heap.size->aM aa (b+13) j->aM (aj aa (w.setCell ⟨g,22,none⟩ (.bool true)).heap.size (b+8)) (b+13) j:=fun j hj e=>(ac hj).trans e
  have QS:bA (aM (aj aa (w.setCell ⟨g,22,none⟩ (.bool true)).heap.size (b+8)) (b+13)) (w.setCell ⟨g,22,none⟩ (.bool true)) w3:=fun j e hj=>JL j ((ac hj).symm.trans e) hj
  have Qm:bo (aM (aj aa (w.setCell ⟨g,22,none⟩ (.bool true)).heap.size (b+8)) (b+13)) w3 (zs++ys):=((xl.mono jy).append (yq.mono jy)).keep QS;have hm:dQ (aj aa (w.setCell ⟨g,22,none⟩ (.bool true)).heap.size (b+8)) (b+8) (b+13) w3 (.slice A3 (R.out.entries.length+n) c3) (R.out.entries++ys.map (·.2)):=by
   refine⟨zs++ys,?_,Qm,by rw[List.map_append,tn]⟩;rw[List.length_append,List.length_map,wu];refine⟨A3,c3,rfl,cH,fun j hj=>?_⟩;rcases Lu j hj with h6|h6
   ·unfold aj;split
    ·rfl
    ·exact fR j h6
   ·exact az h6
  obtain⟨hR,hF⟩:=h1.setEnts mz hm;refine⟨(mz.other (k:=b+1) (by omega) g h.sl Ym).trans hS,aj aa (w.setCell ⟨g,22,none⟩ (.bool true)).heap.size (b+8),_,hR,fun j hj _=>ac (by rw[fU];exact hj),fun j hj hm=>?_,?_⟩
  ·unfold aS at hm ⊢;rw[ac (by rw[fU];exact hj)];exact hm
  ·exact(ir.mono (X':=aS aa b) fun j e=>by rw[e];exact⟨by have:=h.sl;omega,by have:=h.sl;omega⟩).trans hF fun j hj=>.inl hj
 have bS:(w.setCell ⟨g,22,none⟩ (.bool true)).ownsRow 0 59 6 (.slice Ae R.out.entries.length ce) R.out.entries.length (zs.flatMap cl):=bS;clear h h1 hS hr hd yq ir xl tn fR;go_enter func67,ntmps67;go_wp2_with (at_builtin;refine aW rfl (.tmp 13) (.tmp 14) rfl 0 rfl bS rfl lA fo fw zz ?_;intro A3 c3 w3 cH dk bN hrw3;obtain⟨iy,hP⟩:=aE A3 c3 w3 cH dk hrw3;replace hP:=zH hP;have f3:=iy.free 26;have e3:=iy.cell 26;simp only[bV,vi,Zx]at e3;clear aE cH dk bN hrw3 bS);exact am rfl rfl ⟨rfl,hP.out⟩
end
end
section
open Go.MapKept
def bz(id k:Nat):List Nat:=(List.range' 1 k).filter fun s=>decide (s≠id)
theorem ik(id k:Nat):bz id (k+1)=bz id k++if k+1=id then[]else[k+1]:=by
 unfold bz;rw[List.range'_concat,List.filter_append];simp only[Nat.one_mul,Nat.add_comm 1 k];by_cases h:k+1=id
 ·rw[if_pos h,List.filter_cons,if_neg (by simp[h])];rfl
 ·rw[if_neg h,List.filter_cons,if_pos (by simp[h])];rfl
theorem iZ(id k:Nat):(bz id k).length<=k:=by
 unfold bz;refine Nat.le_trans (List.length_filter_le _ _) ?_;rw[List.length_range'];exact Nat.le_refl _
def yT(l:List Nat):List Int:=l.map fun(s:Nat)=>(s:Int)
section
variable {aa:Nat->Nat}{b g:Nat}{w:World}{R:Rf}{v:Rw}
theorem nH(h:ax aa b w g R v)(hn:R.n<=7) :
  Calls prog 94 #[.pointer (some ⟨g,0,none⟩)] w fun e w'=>∃A c,e=.returned (.slice A R.others.length c)/\w'.ownsRow w.heap.size 3 1 (.slice A R.others.length c) R.others.length ((yT R.others).map vi)/\Below w.heap.size w w':=by
 have cW:=h.s.lt;go_enter func94,ntmps94;go_wp2_with fail
 go_loopw [3,4] (fun o s' wr=>∃(k:Nat) (A:Option Addr) (c:Nat),k<=R.n/\s'=.int .i64 ((k:Int)+1)/\o=.slice A (bz R.id k).length c/\wr.ownsRow w.heap.size 3 1 (.slice A (bz R.id k).length c) (bz R.id k).length ((yT (bz R.id k)).map vi)/\Below w.heap.size w wr) (fun _ s' _=>R.n+1-(intOf s').toNat)
 case atStart=>exact⟨0,none,0,Nat.zero_le _,rfl,rfl,(bX _ _:w.ownsRow w.heap.size 3 1 (.slice none 0 0) 0 []),Below.refl _ _⟩
 case round=>
  obtain⟨k,A,c,hk,rfl,rfl,aB,hb⟩:=hrel;have h':=h.below hb;obtain⟨c4,c5,-⟩:=h'.s.cs [4,5];simp only[bV,vi,Zx]at c4 c5;by_cases aU:k<R.n
  ·have aO:=zH (show R.n+1-(k+1+1)<R.n+1-(k+1) by omega);have fd:(k:Int)+1<=R.n:=by omega
   have cu:=ik R.id k;by_cases jb:k+1=R.id
   ·rw[if_pos jb,List.append_nil]at cu;replace cu:=zH cu;have jg:(R.id:Int)=(k:Int)+1:=by omega
    rw[jg]at c4;clear jg jb h';go_wp2_with fail;exact⟨⟨k+1,A,c,aU,by go_num,by rw[cu.out],by rw[cu.out];exact aB,hb⟩,by simp[intOf];have:=aO.out;omega⟩
   ·rw[if_neg jb]at cu;have af:(bz R.id (k+1)).length=(bz R.id k).length+1:=by rw[cu];simp
    have og:yT (bz R.id (k+1))=yT (bz R.id k)++[(k:Int)+1]:=by rw[cu];simp[yT]
    have AH:=iZ R.id k;replace cu:=zH cu;replace af:=zH af;replace og:=zH og;have i1:(((k:Int)+1)==(R.id:Int))=false:=beq_eq_false_iff_ne.2 (by omega);have i2:(((k:Int)+1) !=(R.id:Int))=true:=by rw[bne,i1];rfl
    have lA:=fv.one wr ((k:Int)+1);have aI:Below wr.heap.size wr (wr.alloc (.cells #[.int .i64 ((k:Int)+1)] 3)):=zb.alloc zl _;have cw:=bf aB aI;have bQ:=ab hb aI zl;have fw:(bz R.id k).length+1<=1000000000:=by omega
    clear jb h' aB;go_wp2_with (at_builtin;refine bh rfl (.tmp 19) (.tmp 21) rfl w.heap.size rfl cw rfl lA fw bQ.size ?_;intro A3 c3 w3 bY iy bN);exact⟨⟨k+1,A3,c3,aU,by go_num,by rw[af.out],by rw[af.out,og.out];exact bY,bQ.trans bN⟩,by simp[intOf];have:=aO.out;omega⟩
  ·obtain rfl:k=R.n:=by omega
   have kI:¬((R.n:Int)+1<=R.n):=by omega
   clear h';go_wp2_with fail;go_ret;exact⟨A,c,rfl,aB,hb⟩
end
end
section
open Go.MapKept
def Wn(O:Ot)(ve vc vs vr vm:Value):Value:=.agg #[.bool O.save,.bool O.reset,vi O.hard.term,vi O.hard.vote,ve,vc,vs,vr,vm]
structure IU(aa:Nat->Nat)(i:Nat)(w:World)(O:Ot)(ve vc vs vr vm:Value):Prop where
 e:dQ aa i i w ve O.entries
 c:dQ aa i i w vc O.commits
 s:qS aa i w vs O.snap
 r:bR aa i w 134 2 vr O.reads.length (O.reads.flatMap qM)
 m:gI aa i i w vm O.msgs
def dg(aa:Nat->Nat)(b i:Nat):Nat->Nat:=fun j=>if aa j=b+8\/aa j=b+9\/aa j=b+11\/aa j=b+12\/aa j=b+13 then i else aa j
section
variable {aa:Nat->Nat}{b g:Nat}{w:World}{R:Rf}{v:Rw}
theorem ml{i j q:Nat}(h:aa j=b+q)(hq:q=8\/q=9\/q=11\/q=12\/q=13):dg aa b i j=i:=if_pos (by omega)
theorem sM{i j q:Nat}(h:aa j=b+q)(hq:q<=7):dg aa b i j=b+q:=(if_neg (by omega)).trans h
theorem ax.tell{i:Nat}{w':World}(h:ax aa b w g R v)(hs:ao w' g 107 (bV R.tell.2 {v with ent:=.slice none 0 0,com:=.slice none 0 0,snp:=.pointer none,rds:=.slice none 0 0,mgs:=.slice none 0 0}))(hF:Fr (fun j=>j=g) w w') :
  ax (dg aa b i) b w' g R.tell.2 {v with ent:=.slice none 0 0,com:=.slice none 0 0,snp:=.pointer none,rds:=.slice none 0 0,mgs:=.slice none 0 0}/\IU (dg aa b i) i w' R.tell.1 v.ent v.com v.snp v.rds v.mgs:=by
 have k:∀q,1<q->∀j,aa j=b+q->j<w.heap.size->w'.heap[j]?=w.heap[j]?:=fun q h0 j hj hl=>hF.block j hl fun e=>by
  have:=h.sl;rw[e]at hj;omega
 have hy:∀q,(q=8\/q=9\/q=11\/q=12\/q=13)->∀j,j<w'.heap.size->aa j=b+q->dg aa b i j=i:=fun q hq j _ e=>ml e hq
 have hn:∀q,q<=7->∀j,j<w'.heap.size->aa j=b+q->dg aa b i j=b+q:=fun q hq j _ e=>sM e hq
 refine⟨⟨hs,sM h.sl (by omega),(h.t.keep (k 2 (by omega))).relabel (hn 2 (by omega)),(h.p.keep (k 3 (by omega))).relabel (hn 3 (by omega)),(h.q.keep (k 4 (by omega))).relabel (hn 4 (by omega)),(h.y.keep (k 5 (by omega))).relabel (hn 5 (by omega)),
  (h.d.keep (k 6 (by omega))).relabel (hn 6 (by omega)),(h.gd.keep (k 7 (by omega))).relabel (hn 7 (by omega)),dQ.nil _ _ _ _,dQ.nil _ _ _ _,rfl,bR.nil _ _ _ _ _,gI.nil _ _ _ _⟩,
  (h.e.keep (k 8 (by omega)) (k 13 (by omega))).relabel (hy 8 (by omega)) (hy 13 (by omega)),(h.c.keep (k 9 (by omega)) (k 13 (by omega))).relabel (hy 9 (by omega)) (hy 13 (by omega)),(h.n.keep (k 13 (by omega))).relabel (hy 13 (by omega)),(h.r.keep (k 11 (by omega))).relabel (hy 11 (by omega)),
  (h.m.keep (k 12 (by omega)) (k 13 (by omega))).relabel (hy 12 (by omega)) (hy 13 (by omega))⟩
def Rw.told(v:Rw):Rw:={v with ent:=.slice none 0 0,com:=.slice none 0 0,snp:=.pointer none,rds:=.slice none 0 0,mgs:=.slice none 0 0}
def gN(w:World)(g:Nat):World:=((((((((w.setCell ⟨g,22,none⟩ (.bool false)).setCell ⟨g,23,none⟩ (.bool false)).setCell ⟨g,24,none⟩ (.int .i64 0)).setCell ⟨g,25,none⟩ (.int .i64 0)).setCell ⟨g,26,none⟩ (.slice none 0 0)).setCell ⟨g,27,none⟩ (.slice none 0 0)).setCell ⟨g,28,none⟩ (.pointer none)).setCell ⟨g,29,none⟩ (.slice none 0 0)).setCell ⟨g,30,none⟩ (.slice none 0 0)
theorem HS(w:World)(g:Nat):Fr (fun j=>j=g) w (gN w g):=
 have e:∀{a b:World},Fr (fun j=>j=g) w a->Fr (fun j=>j=g) a b->Fr (fun j=>j=g) w b:=fun h h'=>h.trans h' fun _ h=>.inl h
 e (e (e (e (e (e (e (e (Fr.set g _ _) (Fr.set g _ _)) (Fr.set g _ _)) (Fr.set g _ _)) (Fr.set g _ _)) (Fr.set g _ _)) (Fr.set g _ _)) (Fr.set g _ _)) (Fr.set g _ _)
theorem zZ(i:Nat)(h:ax aa b w g R v)(X:Array Value) :
  ao (((gN w g).alloc (.cells X 49)).alloc (.cells X 49)) w.heap.size 49 X/\ax (dg aa b i) b (((gN w g).alloc (.cells X 49)).alloc (.cells X 49)) g R.tell.2 v.told/\
   IU (dg aa b i) i (((gN w g).alloc (.cells X 49)).alloc (.cells X 49)) R.tell.1 v.ent v.com v.snp v.rds v.mgs/\Fr (aS aa b) w (((gN w g).alloc (.cells X 49)).alloc (.cells X 49)):=by
 have hS:ao (gN w g) g 107 (bV R.tell.2 v.told):=by
  have s:=((((((((h.s.set_ 22 (.bool false)).set_ 23 (.bool false)).set_ 24 (.int .i64 0)).set_ 25 (.int .i64 0)).set_ 26 (.slice none 0 0)).set_ 27 (.slice none 0 0)).set_ 28 (.pointer none)).set_ 29 (.slice none 0 0)).set_ 30 (.slice none 0 0);simp only[bV,Zy]at s;exact s
 have hF:=HS w g;have fU:(gN w g).heap.size=w.heap.size:=by simp[gN,World.setCell]
 have bQ:Below (gN w g).heap.size (gN w g) (((gN w g).alloc (.cells X 49)).alloc (.cells X 49)):=(zb.alloc zl _).alloc (by simp) _;have hB:ao (((gN w g).alloc (.cells X 49)).alloc (.cells X 49)) w.heap.size 49 X:=by
  have:=(ao.new (gN w g) 49 X).alloc (.cells X 49);rw[fU]at this;exact this
 have dC:Fr (fun j=>j=g) w (((gN w g).alloc (.cells X 49)).alloc (.cells X 49)):=hF.trans (Fr.of_below (X:=fun j=>j=g) bQ) fun _ h=>.inl h
 obtain⟨h1,h2⟩:=h.tell (i:=i) (hS.kept bQ) dC;exact⟨hB,h1,h2,dC.mono fun j e=>by rw[e];exact⟨by have:=h.sl;omega,by have:=h.sl;omega⟩⟩
theorem zY(i:Nat)(h:ax aa b w g R v) :
  Calls prog 52 #[.pointer (some ⟨g,0,none⟩)] w fun e w'=>e=.returned (Wn R.tell.1 v.ent v.com v.snp v.rds v.mgs)/\ax (dg aa b i) b w' g R.tell.2 v.told/\IU (dg aa b i) i w' R.tell.1 v.ent v.com v.snp v.rds v.mgs/\Fr (aS aa b) w w':=by
 obtain⟨c6,c7,c22,c23,c24,c25,c26,c27,c28,c29,c30,-⟩:=h.s.cs [6,7,22,23,24,25,26,27,28,29,30];obtain⟨f22,f23,f24,f25,f26,f27,f28,f29,f30,-⟩:=h.s.fs [22,23,24,25,26,27,28,29,30];simp only[bV,vi,Zx]at c6 c7 c22 c23 c24 c25 c26 c27 c28 c29 c30;have cW:=h.s.lt;obtain⟨_,⟨A1,d1,E7,_⟩,_⟩:=id h.e;obtain⟨_,⟨A2,d2,E8,_⟩,_⟩:=id h.c;obtain⟨A3,Ja⟩:∃p,v.snp=.pointer p:=by
  have hn:=h.n;cases hx:R.out.snap with
  | none=>rw[hx]at hn;exact⟨_,hn⟩
  | some s=>rw[hx]at hn;obtain⟨q,vd,e,_⟩:=hn;exact⟨_,e⟩
 obtain⟨A4,d4,Jb,_⟩:=id h.r;obtain⟨_,⟨A5,d5,Jc,_⟩,_⟩:=id h.m;rw[E7]at c26;rw[E8]at c27;rw[Ja]at c28;rw[Jb]at c29;rw[Jc]at c30;generalize R.out.entries.length=n1 at *;generalize R.out.commits.length=n2 at *;generalize R.out.reads.length=n4 at *;generalize R.out.msgs.length=n5 at *;cases pc:R.out.save with
 | false=>
  rw[pc]at c22;replace h:=zH h;go_enter func52,ntmps52;go_wp2_with fail;have hT:R.tell.1=R.out:=by
   unfold Rf.tell;rw[pc];rfl
  obtain⟨hB,q1,q2,q3⟩:=zZ i h.out #[.bool false,.bool R.out.reset,.int .i64 R.out.hard.term,.int .i64 R.out.hard.vote,.slice A1 n1 d1,.slice A2 n2 d2,.pointer A3,.slice A4 n4 d4,.slice A5 n5 d5];show bodyPost _ _ _ _ _ (((gN w g).alloc (.cells #[.bool false,.bool R.out.reset,.int .i64 R.out.hard.term,.int .i64 R.out.hard.vote,.slice A1 n1 d1,.slice A2 n2 d2,.pointer A3,.slice A4 n4 d4,.slice A5 n5 d5] 49)).alloc (.cells #[.bool false,.bool R.out.reset,.int .i64 R.out.hard.term,.int .i64 R.out.hard.vote,.slice A1 n1 d1,.slice A2 n2 d2,.pointer A3,.slice A4 n4 d4,.slice A5 n5 d5] 49));generalize((gN w g).alloc (.cells #[.bool false,.bool R.out.reset,.int .i64 R.out.hard.term,.int .i64 R.out.hard.vote,.slice A1 n1 d1,.slice A2 n2 d2,.pointer A3,.slice A4 n4 d4,.slice A5 n5 d5] 49)).alloc (.cells #[.bool false,.bool R.out.reset,.int .i64 R.out.hard.term,.int .i64 R.out.hard.vote,.slice A1 n1 d1,.slice A2 n2 d2,.pointer A3,.slice A4 n4 d4,.slice A5 n5 d5] 49)=wF at *;obtain⟨r0,r1,r2,r3,r4,r5,r6,r7,r8,-⟩:=hB.cs [0,1,2,3,4,5,6,7,8];simp only[Zx]at r0 r1 r2 r3 r4 r5 r6 r7 r8;exact bodyPost_ret (v:=.agg #[.bool false,.bool R.out.reset,.int .i64 R.out.hard.term,.int .i64 R.out.hard.vote,.slice A1 n1 d1,.slice A2 n2 d2,.pointer A3,.slice A4 n4 d4,.slice A5 n5 d5]) (by simp[results,results52,go_sem,r0,r1,r2,r3,r4,r5,r6,r7,r8]) rfl ⟨by rw[hT,E7,E8,Ja,Jb,Jc];unfold Wn;rw[pc];rfl,q1,q2,q3⟩
 | true=>
  rw[pc]at c22;replace h:=zH h;go_enter func52,ntmps52;go_wp2_with fail;have hT:R.tell.1={R.out with hard:=R.hard}:=by
   unfold Rf.tell;rw[pc];rfl
  obtain⟨hB,q1,q2,q3⟩:=zZ i h.out #[.bool true,.bool R.out.reset,.int .i64 R.hard.term,.int .i64 R.hard.vote,.slice A1 n1 d1,.slice A2 n2 d2,.pointer A3,.slice A4 n4 d4,.slice A5 n5 d5];show bodyPost _ _ _ _ _ (((gN w g).alloc (.cells #[.bool true,.bool R.out.reset,.int .i64 R.hard.term,.int .i64 R.hard.vote,.slice A1 n1 d1,.slice A2 n2 d2,.pointer A3,.slice A4 n4 d4,.slice A5 n5 d5] 49)).alloc (.cells #[.bool true,.bool R.out.reset,.int .i64 R.hard.term,.int .i64 R.hard.vote,.slice A1 n1 d1,.slice A2 n2 d2,.pointer A3,.slice A4 n4 d4,.slice A5 n5 d5] 49));generalize((gN w g).alloc (.cells #[.bool true,.bool R.out.reset,.int .i64 R.hard.term,.int .i64 R.hard.vote,.slice A1 n1 d1,.slice A2 n2 d2,.pointer A3,.slice A4 n4 d4,.slice A5 n5 d5] 49)).alloc (.cells #[.bool true,.bool R.out.reset,.int .i64 R.hard.term,.int .i64 R.hard.vote,.slice A1 n1 d1,.slice A2 n2 d2,.pointer A3,.slice A4 n4 d4,.slice A5 n5 d5] 49)=wF at *;obtain⟨r0,r1,r2,r3,r4,r5,r6,r7,r8,-⟩:=hB.cs [0,1,2,3,4,5,6,7,8];simp only[Zx]at r0 r1 r2 r3 r4 r5 r6 r7 r8;exact bodyPost_ret (v:=.agg #[.bool true,.bool R.out.reset,.int .i64 R.hard.term,.int .i64 R.hard.vote,.slice A1 n1 d1,.slice A2 n2 d2,.pointer A3,.slice A4 n4 d4,.slice A5 n5 d5]) (by simp[results,results52,go_sem,r0,r1,r2,r3,r4,r5,r6,r7,r8]) rfl ⟨by rw[hT,E7,E8,Ja,Jb,Jc];unfold Wn;dsimp only;rw[pc];rfl,q1,q2,q3⟩
end
end
section
open Go.MapKept
section
variable {aa:Nat->Nat}{b g:Nat}{w w':World}{R R':Rf}{v:Rw}
theorem ax.numsW(h:ax aa b w g R v)(hs:ao w' g 107 (bV R' {v with waits:=.slice none 0 0}))(hF:Fr (fun j=>j=g) w w')(e1:R'.track=R.track)(e2:R'.peers=R.peers)(e3:R'.waits=[])(e4:R'.yes=R.yes)(e5:R'.snap.data=R.snap.data)(e6:R'.gath.data=R.gath.data)
  (e7:R'.out.entries=R.out.entries) (e8:R'.out.commits=R.out.commits) (e9:R'.out.snap=R.out.snap) (e10:R'.out.reads=R.out.reads) (e11:R'.out.msgs=R.out.msgs):ax aa b w' g R' {v with waits:=.slice none 0 0}:=by
 have k:∀i,1<i->∀j,aa j=b+i->j<w.heap.size->w'.heap[j]?=w.heap[j]?:=fun i h0 j hj hl=>hF.block j hl fun e=>by
  have:=h.sl;rw[e]at hj;omega
 exact⟨hs,h.sl,by rw[e1];exact h.t.keep (k 2 (by omega)),by rw[e2];exact h.p.keep (k 3 (by omega)),by rw[e3];exact bR.nil _ _ _ _ _,by rw[e4];exact h.y.keep (k 5 (by omega)),by rw[e5];exact h.d.keep (k 6 (by omega)),
  by rw[e6];exact h.gd.keep (k 7 (by omega)),by rw[e7];exact h.e.keep (k 8 (by omega)) (k 13 (by omega)),by rw[e8];exact h.c.keep (k 9 (by omega)) (k 13 (by omega)),by rw[e9];exact h.n.keep (k 13 (by omega)),by rw[e10];exact h.r.keep (k 11 (by omega)),by rw[e11];exact h.m.keep (k 12 (by omega)) (k 13 (by omega))⟩
theorem ya(t:Int)(h:ax aa b w g R v):Calls prog 58 #[.pointer (some ⟨g,0,none⟩),.int .i64 t] w fun e w'=>e=.returned (.tuple #[])/\ap aa b w g (R.follows t) w':=by
 obtain⟨c2,c6,c7,c13,c14,c22,-⟩:=h.s.cs [2,6,7,13,14,22];obtain⟨f2,f6,f7,f13,f14,f22,-⟩:=h.s.fs [2,6,7,13,14,22];simp only[bV,vi,Zx]at c2 c6 c7 c13 c14 c22;have cW:=h.s.lt;have hS:ao ((((((w.setCell ⟨g,6,none⟩ (.int .i64 t)).setCell ⟨g,7,none⟩ (.int .i64 0)).setCell ⟨g,22,none⟩ (.bool true)).setCell ⟨g,13,none⟩ (.int .i64 0)).setCell ⟨g,14,none⟩ (.int .i64 0)).setCell ⟨g,2,none⟩ (.slice none 0 0)) g 107 (bV (R.follows t) {v with waits:=.slice none 0 0}):=by
  have s:=(((((h.s.set_ 6 (.int .i64 t)).set_ 7 (.int .i64 0)).set_ 22 (.bool true)).set_ 13 (.int .i64 0)).set_ 14 (.int .i64 0)).set_ 2 (.slice none 0 0);simp only[bV,Zy]at s;exact s
 have e:∀{a b:World},Fr (fun j=>j=g) w a->Fr (fun j=>j=g) a b->Fr (fun j=>j=g) w b:=fun h h'=>h.trans h' fun _ h=>.inl h
 have hF:=e (e (e (e (e (Fr.set (w:=w) g 6 (.int .i64 t)) (Fr.set g 7 (.int .i64 0))) (Fr.set g 22 (.bool true))) (Fr.set g 13 (.int .i64 0))) (Fr.set g 14 (.int .i64 0))) (Fr.set g 2 (.slice none 0 0));have hP:=zH (show ap aa b w g (R.follows t) _ from⟨aa,_,h.numsW hS hF rfl rfl rfl rfl rfl rfl rfl rfl rfl rfl rfl,fun _ _ _=>rfl,fun _ _ h=>h,hF.mono fun j e=>by rw[e];exact⟨by have:=h.sl;omega,by have:=h.sl;omega⟩⟩);clear e hF hS h;go_enter func58,ntmps58;go_wp2_with fail;exact am rfl rfl ⟨rfl,hP.out⟩
end
end
section
open Go.MapKept
section
variable {aa:Nat->Nat}{b g:Nat}{w w':World}{R:Rf}{v:Rw}
theorem i7{i:Nat}{x:Value}{t:bD}(h:tb aa i w x t)(hN:t.L.length<=1000000):Calls prog 44 #[x] w fun e w'=>e=.returned (.tuple #[.int .i64 t.lastF.1,.int .i64 t.lastF.2])/\Below w.heap.size w w':=by
 obtain⟨gt,S,A,n,c,zs,rfl,h1,_⟩:=h;exact nL h1 (by have:=h1.len.1;omega)
theorem sU{i:Nat}{x:Value}{t:bD}(k:Int)(h:tb aa i w x t)(hN:t.L.length<=1000000):Calls prog 89 #[x,.int .i64 k] w fun e w'=>e=.returned (.tuple #[.int .i64 (t.termF k).1,.int .i64 (t.termF k).2])/\Below w.heap.size w w':=by
 obtain⟨gt,S,A,n,c,zs,rfl,h1,_⟩:=h;exact jG k h1 (by have:=h1.len.1;omega)
theorem pp{i:Nat}{x:Value}{t:bD}(k m:Int)(h:tb aa i w x t)(hN:t.L.length<=1000000):Calls prog 131 #[x,.int .i64 k,.int .i64 m] w fun e w'=>∃A' n' c' zs',e=.returned (.slice A' n' c')/\ge w.heap.size w' A' n' c' zs' (t.sliceF k m)/\Below w.heap.size w w':=by
 obtain⟨gt,S,A,n,c,zs,rfl,h1,_⟩:=h;exact Cq k m h1 (by have:=h1.len.1;omega)
theorem Iu{i:Nat}{x:Value}{t:bD}(k m:Int)(h:tb aa i w x t)(hN:t.L.length<=1000000):Calls prog 136 #[x,.int .i64 k,.int .i64 m] w fun e w'=>e=.returned (.int .i64 (t.hintF k m))/\Below w.heap.size w w':=by
 obtain⟨gt,S,A,n,c,zs,rfl,h1,_⟩:=h;exact EN k m h1 (by have:=h1.len.1;omega)
theorem sS{i:Nat}{x:Value}{t:bD}(h:tb aa i w x t):Calls prog 80 #[x] w fun e w'=>e=.returned (.tuple #[.int .i64 t.index,.int .i64 t.term])/\Below w.heap.size w w':=by
 obtain⟨gt,S,A,n,c,zs,rfl,h1,_⟩:=h;refine(EK h1).mono ?_;rintro e w' ⟨rfl,q,rfl⟩;exact⟨rfl,ay zb q⟩
theorem sy(m:Mg)(ve vd:Value)(h:ax aa b w g R v)(hN:R.track.L.length<=1000000) :
  Calls prog 135 #[.pointer (some ⟨g,0,none⟩),eI m ve vd] w fun e w'=>e=.returned (.bool (R.newer m))/\Below w.heap.size w w':=by
 have aI:Below w.heap.size w (w.alloc (.cells #[.int .i64 m.kind,.int .i64 m.frm,.int .i64 m.tgt,.int .i64 m.term,.int .i64 m.idx,.int .i64 m.logTerm,.int .i64 m.commit,.int .i64 m.round,.bool m.reject,.int .i64 m.offset,.int .i64 m.total,ve,vd] 39)):=zb.alloc zl _;have bM:=ao.new w 39 #[.int .i64 m.kind,.int .i64 m.frm,.int .i64 m.tgt,.int .i64 m.term,.int .i64 m.idx,.int .i64 m.logTerm,.int .i64 m.commit,.int .i64 m.round,.bool m.reject,.int .i64 m.offset,.int .i64 m.total,ve,vd];have c8:=h.s.cell 8;simp only[bV,vi,Zx]at c8;have cW:=h.s.lt;have h0:=(h.relabel (ak:=aj aa w.heap.size b) fun j hj _=>ac hj);have bH:=i7 (h0.below aI).t hN;obtain⟨l1,cD⟩:∃l,R.track.lastF.1=l:=⟨_,rfl⟩;obtain⟨l2,dG⟩:∃l,R.track.lastF.2=l:=⟨_,rfl⟩;have oh:=zH (show R.newer m=fY m.idx m.logTerm l1 l2 by unfold Rf.newer;rw[cD,dG]);rw[cD,dG]at bH;clear h h0 cD dG;unfold eI;simp only[vi];go_enter func135,ntmps135;go_wp2_with fail;generalize w.alloc (.cells #[.int .i64 m.kind,.int .i64 m.frm,.int .i64 m.tgt,.int .i64 m.term,.int .i64 m.idx,.int .i64 m.logTerm,.int .i64 m.commit,.int .i64 m.round,.bool m.reject,.int .i64 m.offset,.int .i64 m.total,ve,vd] 39)=w1 at *;refine bH.mono ?_;rintro e w2 ⟨rfl,bQ⟩;have mQ:=bM.kept bQ;obtain⟨a4,a5,-⟩:=mQ.cs [4,5];simp only[Zx]at a4 a5;have aH:=Ed m.idx m.logTerm l1 l2 w2;clear bH;go_wp2_with fail;refine aH.mono ?_;rintro e w3 ⟨rfl,rfl⟩;go_wp2_with fail;go_ret;exact⟨by rw[oh.out];rfl,ab aI bQ zl⟩
end
end
section
open Go.MapKept
section
variable {aa:Nat->Nat}{b g:Nat}{w w' w'':World}{R R' R'':Rf}{v:Rw}
theorem gi(m:Mg)(he:m.entries=[])(hd:m.data=[])(h:ax aa b w g R v)(hn:R.out.msgs.length<=100000) :
  Calls prog 97 #[.pointer (some ⟨g,0,none⟩),eI m (.slice none 0 0) (.slice none 0 0)] w fun e w'=>e=.returned (.tuple #[])/\ap aa b w g (R.send m) w':=
 sE m _ _ h ⟨by rw[he];exact nR.nil _ _ _,by rw[hd];exact np.nil _ _ _⟩ ⟨rfl,rfl⟩ hn
theorem ap.behind(h:ap aa b w' g R' w'')(hb:Below w.heap.size w w'):ap aa b w g R' w'':=by
 obtain⟨ak,v',h1,h2,h3,h4⟩:=h;have hs:=hb.size;exact⟨ak,v',h1,fun j hj hm=>h2 j (by omega) hm,fun j hj hm=>h3 j (by omega) hm,(Fr.of_below hb).trans h4 fun j hj=>.inl hj⟩
theorem ap.next{ag:Nat->Nat}(h:ap ag b w' g R'' w'')(h1:∀j,j<w.heap.size->¬aS aa b j->ag j=aa j)(h2:∀j,j<w.heap.size->aS aa b j->aS ag b j)(hF:Fr (aS aa b) w w'):ap aa b w g R'' w'':=by
 obtain⟨ak,v',q1,q2,q3,q4⟩:=h;have hs:=hF.size;have cY:∀j,j<w.heap.size->aS ag b j->aS aa b j:=fun j hj hm=>by
  rcases Classical.em (aS aa b j)with h|h
  ·exact h
  ·unfold aS at hm h;rw[h1 j hj h]at hm;exact absurd hm h
 refine⟨ak,v',q1,fun j hj hm=>?_,fun j hj hm=>q3 j (by omega) (h2 j hj hm),hF.trans q4 fun j hj=>?_⟩
 ·rw[q2 j (by omega) fun h=>hm (cY j hj h)];exact h1 j hj hm
 ·rcases Nat.lt_or_ge j w.heap.size with hl|hl
  ·exact .inl (cY j hl hj)
  ·exact .inr hl
theorem uh(m:Mg)(ve vd:Value)(h:ax aa b w g R v) :
  Calls prog 106 #[.pointer (some ⟨g,0,none⟩),eI m ve vd] w fun e w'=>e=.returned (.tuple #[])/\ap aa b w g (R.hears m) w':=by
 have aI:Below w.heap.size w (w.alloc (.cells #[.int .i64 m.kind,.int .i64 m.frm,.int .i64 m.tgt,.int .i64 m.term,.int .i64 m.idx,.int .i64 m.logTerm,.int .i64 m.commit,.int .i64 m.round,.bool m.reject,.int .i64 m.offset,.int .i64 m.total,ve,vd] 39)):=zb.alloc zl _;have bM:=ao.new w 39 #[.int .i64 m.kind,.int .i64 m.frm,.int .i64 m.tgt,.int .i64 m.term,.int .i64 m.idx,.int .i64 m.logTerm,.int .i64 m.commit,.int .i64 m.round,.bool m.reject,.int .i64 m.offset,.int .i64 m.total,ve,vd];obtain⟨w1,ct⟩:=zN (w.alloc (.cells #[.int .i64 m.kind,.int .i64 m.frm,.int .i64 m.tgt,.int .i64 m.term,.int .i64 m.idx,.int .i64 m.logTerm,.int .i64 m.commit,.int .i64 m.round,.bool m.reject,.int .i64 m.offset,.int .i64 m.total,ve,vd] 39));rw[ct]at aI bM;have cW:=h.s.lt;have h1:=(h.below aI).below (w':=w1.drew) (zb.drew);have hS:ao ((w1.drew.setCell ⟨g,13,none⟩ (.int .i64 0)).setCell ⟨g,14,none⟩ (.int .i64 m.frm)) g 107 (bV {R with role:=0,leader:=m.frm} v):=by
  have s:=(h1.s.set_ 13 (.int .i64 0)).set_ 14 (.int .i64 m.frm);simp only[bV,Zy]at s;exact s
 have hF:Fr (fun j=>j=g) w1.drew ((w1.drew.setCell ⟨g,13,none⟩ (.int .i64 0)).setCell ⟨g,14,none⟩ (.int .i64 m.frm)):=(Fr.set g 13 _).trans (Fr.set g 14 _) fun _ h=>.inl h
 have h2:=h1.nums (R':={R with role:=0,leader:=m.frm}) hS hF rfl rfl rfl rfl rfl rfl rfl rfl rfl rfl rfl;have CN:=st h2;have Me:Fr (aS aa b) w ((w1.drew.setCell ⟨g,13,none⟩ (.int .i64 0)).setCell ⟨g,14,none⟩ (.int .i64 m.frm)):=((Fr.of_below aI).trans (Fr.of_below (w:=w1) (X:=aS aa b) (zb.drew)) fun j hj=>.inl hj).trans (hF.mono (X':=aS aa b) fun j e=>by rw[e];exact⟨by have:=h.sl;omega,by have:=h.sl;omega⟩) fun j hj=>.inl hj
 obtain⟨c13,c14,-⟩:=h1.s.cs [13,14];obtain⟨f13,f14,-⟩:=h1.s.fs [13,14];simp only[bV,vi,Zx]at c13 c14;have c14':w1.cell? ⟨g,14,none⟩=some (.int .i64 R.leader):=c14;have f14':w1.frozen? ⟨g,14,none⟩=false:=f14;have a1:=bM.cell 1;simp only[Zx]at a1;have k1:=EY [w.heap.size] a1;have fe:w.heap.size≠g:=by omega
 clear h1 hS hF h2 h;unfold eI;simp only[vi];go_enter func106,ntmps106;go_wp2_with fail;try rw[ct]
 refine eE [w.heap.size] w1 [([0,1,2,3,4,5],6),([7,8],9)] [] ?_;refine aF fun K1 cQ=>?_
 simp only[ah,Zx];repeat go_big_quiet_step(fail)
 apply wpQuiet_nil;go_wp2_with fail;refine⟨dT (by simp;exact(Fr.set g 13 _).block _ bM.lt fe),cQ _ _ ?_⟩;refine aF fun K2 iu=>?_
 simp only[ah,Zx];repeat go_big_quiet_step(fail)
 apply wpQuiet_nil;go_wp2_with fail;refine⟨dT (by simp;exact((Fr.set g 14 _).block _ (by simp[World.setCell];exact bM.lt) fe).trans ((Fr.set g 13 _).block _ bM.lt fe)),iu _ _ ?_⟩;refine al ?_;simp only[ah];apply wpQuiet_nil;go_wp2_with fail;refine Calls.mono CN ?_;rintro e w3 ⟨rfl,hP⟩;have hQ:=zH (show ap aa b w g (R.hears m) w3 from hP.next (fun _ _ _=>rfl) (fun _ _ h=>h) Me);go_wp2_with fail;exact am rfl rfl ⟨rfl,hQ.out⟩
end
end
section
open Go.MapKept
section
variable {aa:Nat->Nat}{b g:Nat}{w:World}{R:Rf}{v:Rw}
theorem Hc(m:Mg)(ve vd:Value)(h:ax aa b w g R v)(hn:R.out.msgs.length<=100000) :
  Calls prog 59 #[.pointer (some ⟨g,0,none⟩),eI m ve vd] w fun e w'=>e=.returned (.tuple #[])/\ap aa b w g (R.late m) w':=by
 have aI:Below w.heap.size w (w.alloc (.cells #[.int .i64 m.kind,.int .i64 m.frm,.int .i64 m.tgt,.int .i64 m.term,.int .i64 m.idx,.int .i64 m.logTerm,.int .i64 m.commit,.int .i64 m.round,.bool m.reject,.int .i64 m.offset,.int .i64 m.total,ve,vd] 39)):=zb.alloc zl _;have Me:Fr (aS aa b) w (w.alloc (.cells #[.int .i64 m.kind,.int .i64 m.frm,.int .i64 m.tgt,.int .i64 m.term,.int .i64 m.idx,.int .i64 m.logTerm,.int .i64 m.commit,.int .i64 m.round,.bool m.reject,.int .i64 m.offset,.int .i64 m.total,ve,vd] 39)):=Fr.of_below aI;have h1:=h.below aI;have dZ:=gi {dh with kind:=m.kind+1,tgt:=m.frm,reject:=true,round:=m.round} rfl rfl h1 hn;have gh:ap aa b w g R (w.alloc (.cells #[.int .i64 m.kind,.int .i64 m.frm,.int .i64 m.tgt,.int .i64 m.term,.int .i64 m.idx,.int .i64 m.logTerm,.int .i64 m.commit,.int .i64 m.round,.bool m.reject,.int .i64 m.offset,.int .i64 m.total,ve,vd] 39)):=⟨aa,v,h1,fun _ _ _=>rfl,fun _ _ h=>h,Me⟩;have cW:=h.s.lt;unfold eI at dZ ⊢;simp only[vi,dh]at dZ ⊢;clear h h1;by_cases hc:m.kind=3\/m.kind=5\/m.kind=7
 ·have hl:=zH (show R.late m=R.send {dh with kind:=m.kind+1,tgt:=m.frm,reject:=true,round:=m.round}from if_pos hc);rcases hc with hc|hc|hc
  all_goals
   go_enter func59,ntmps59;go_wp2_with fail;rw[hc]at dZ aI;refine Calls.mono dZ ?_;rintro e w3 ⟨rfl,hP⟩;have hQ:=zH (show ap aa b w g (R.late m) w3 by rw[hl];rw[hc];exact hP.behind aI);go_wp2_with fail;exact am rfl rfl ⟨rfl,hQ.out⟩
 ·have h3:(m.kind==3)=false:=by simp;omega
  have h5:(m.kind==5)=false:=by simp;omega
  have h7:(m.kind==7)=false:=by simp;omega
  have hl:=zH (show R.late m=R from if_neg hc);replace gh:=zH gh;clear dZ hc;go_enter func59,ntmps59;go_wp2_with fail;refine am rfl rfl ⟨rfl,?_⟩;rw[hl.out];exact gh.out
end
end
section
open Go.MapKept
theorem aP{P:Program}{fn:Func}{R:Ending->World->Prop}{a:Act}{w:World}(hr:fn.results=#[])(hd:a.defers=[])(hR:R (.returned (.tuple #[])) w):bodyPost P fn R .ret a w:=
 bodyPost_ret (by simp[results,hr]) hd hR
section
variable {aa:Nat->Nat}{b g:Nat}{w:World}{R:Rf}{v:Rw}
theorem Dl(m:Mg)(ve vd:Value)(h:ax aa b w g R v)(hn:R.out.msgs.length<=100000)(hN:R.track.L.length<=1000000) :
  Calls prog 103 #[.pointer (some ⟨g,0,none⟩),eI m ve vd] w fun e w'=>e=.returned (.tuple #[])/\ap aa b w g (R.asked m) w':=by
 have cW:=h.s.lt;obtain⟨c8,c9,c10,c4,-⟩:=h.s.cs [13,14,15,6];simp only[bV,vi,Zx]at c8 c9 c10 c4;have aI:Below w.heap.size w (w.alloc (.cells #[.int .i64 m.kind,.int .i64 m.frm,.int .i64 m.tgt,.int .i64 m.term,.int .i64 m.idx,.int .i64 m.logTerm,.int .i64 m.commit,.int .i64 m.round,.bool m.reject,.int .i64 m.offset,.int .i64 m.total,ve,vd] 39)):=zb.alloc zl _;have bM:=ao.new w 39 #[.int .i64 m.kind,.int .i64 m.frm,.int .i64 m.tgt,.int .i64 m.term,.int .i64 m.idx,.int .i64 m.logTerm,.int .i64 m.commit,.int .i64 m.round,.bool m.reject,.int .i64 m.offset,.int .i64 m.total,ve,vd];obtain⟨w1,ct⟩:=zN (w.alloc (.cells #[.int .i64 m.kind,.int .i64 m.frm,.int .i64 m.tgt,.int .i64 m.term,.int .i64 m.idx,.int .i64 m.logTerm,.int .i64 m.commit,.int .i64 m.round,.bool m.reject,.int .i64 m.offset,.int .i64 m.total,ve,vd] 39));rw[ct]at aI bM;obtain⟨y0,y1,y2,y3,y4,y5,y6,y7,y8,y9,yA,yB,yC,-⟩:=bM.cs [0,1,2,3,4,5,6,7,8,9,10,11,12];simp only[Zx]at y0 y1 y2 y3 y4 y5 y6 y7 y8 y9 yA yB yC;obtain⟨k0,k1,k2,k3,k4,k5,k6,k7,k8,k9,kA,kB,kC⟩:=Ap [g,w.heap.size] y0 y1 y2 y3 y4 y5 y6 y7 y8 y9 yA yB yC;have c4':=(aI.cell (ar c4)).trans c4;have c8':=(aI.cell (ar c8)).trans c8;have c9':=(aI.cell (ar c9)).trans c9;have c10':=(aI.cell (ar c10)).trans c10;have kD:=EY [g,w.heap.size] c4';have dA:∀q∈[g,w.heap.size],q<w1.heap.size:=by simp;exact⟨by have:=aI.size;omega,bM.lt⟩
 have gm:=sy m ve vd ((h.below aI).below (w':=w1.drew) (zb.drew)) hN;obtain⟨x,hx⟩:=zN (R.newer m);rw[hx]at gm;have gB:=zH (show(R.role≠3/\(R.leader=0\/10<=R.clock))->R.hard.term<m.term->x=true->R.asked m=R.send {dh with kind:=2,tgt:=m.frm,term:=m.term}from fun h1 h2 h3=>if_pos ⟨h1,h2,hx.trans h3⟩);have dO:=zH (show ¬((R.role≠3/\(R.leader=0\/10<=R.clock))/\R.hard.term<m.term/\x=true)->R.asked m=R.send {dh with kind:=2,tgt:=m.frm,reject:=true}from fun h1=>if_neg (by rw[hx];exact h1));have NE:=zH (show ∀w3,Below w.heap.size w w3->Calls prog 97 #[.pointer (some ⟨g,0,none⟩),eI {dh with kind:=2,tgt:=m.frm,term:=m.term} (.slice none 0 0) (.slice none 0 0)] w3 (fun e w'=>e=.returned (.tuple #[])/\ap aa b w g (R.send {dh with kind:=2,tgt:=m.frm,term:=m.term}) w')from fun w3 hb=>(gi {dh with kind:=2,tgt:=m.frm,term:=m.term} rfl rfl (h.below hb) hn).mono fun e w' q=>⟨q.1,q.2.behind hb⟩);have rH:=zH (show ∀w3,Below w.heap.size w w3->Calls prog 97 #[.pointer (some ⟨g,0,none⟩),eI {dh with kind:=2,tgt:=m.frm,reject:=true} (.slice none 0 0) (.slice none 0 0)] w3 (fun e w'=>e=.returned (.tuple #[])/\ap aa b w g (R.send {dh with kind:=2,tgt:=m.frm,reject:=true}) w')from fun w3 hb=>(gi {dh with kind:=2,tgt:=m.frm,reject:=true} rfl rfl (h.below hb) hn).mono fun e w' q=>⟨q.1,q.2.behind hb⟩);unfold eI at gm ⊢;simp only[vi]at gm ⊢;clear h;by_cases hF:(R.role≠3/\(R.leader=0\/10<=R.clock))/\R.hard.term<m.term
 ·have hY:=zH (show x=true->R.asked m=R.send {dh with kind:=2,tgt:=m.frm,term:=m.term}from gB.out hF.1 hF.2);have Mf:=zH (show x=false->R.asked m=R.send {dh with kind:=2,tgt:=m.frm,reject:=true}from fun hx=>dO.out (by rw[hx];simp));have cB:((R.role !=3)=true/\decide (m.term>R.hard.term)=true)/\((R.leader==0)=true\/((R.leader==0)=false/\decide (10<=R.clock)=true)):=by
   simp;omega
  obtain⟨⟨e1,e4⟩,e2⟩:=cB;replace hF:=zH hF;clear gB dO;rcases e2 with e2|⟨e2,e3⟩
  all_goals
   go_enter func103,ntmps103;go_wp2_with fail;try rw[ct]
   refine eE [g,w.heap.size] w1 [([0,1,2,3,4,5,6,7,8,9,10,11,12,13],14)] [15] ?_;refine aF fun K1 cQ=>?_
   simp only[ah,Zx];repeat go_big_quiet_step(fail)
   apply wpQuiet_nil;go_wp2_with fail;refine gm.mono ?_;rintro e w3 ⟨rfl,bN⟩;go_wp2_with fail;have jo:Below w.heap.size w w3:=ab (ay aI 1) bN zl;have y1w:=(Below.cell ((zb.drew).trans bN) (ar y1)).trans y1;have y3w:=(Below.cell ((zb.drew).trans bN) (ar y3)).trans y3;refine⟨av dA ((zb.drew).trans bN),cQ _ _ ?_⟩;refine al ?_;simp only[ah,Zx];repeat go_big_quiet_step(fail)
   apply wpQuiet_nil;cases x
   ·go_wp2_with fail;refine Calls.mono (rH.out _ jo) ?_;rintro e w4 ⟨rfl,hP⟩;have hQ:=zH (show ap aa b w g (R.asked m) w4 by rw[Mf.out trivial];exact hP);go_wp2_with fail;exact am rfl rfl ⟨rfl,hQ.out⟩
   ·go_wp2_with fail;refine Calls.mono (NE.out _ jo) ?_;rintro e w4 ⟨rfl,hP⟩;have hQ:=zH (show ap aa b w g (R.asked m) w4 by rw[hY.out trivial];exact hP);go_wp2_with fail;exact aP rfl rfl ⟨rfl,hQ.out⟩
 ·have Mf:=zH (show R.asked m=R.send {dh with kind:=2,tgt:=m.frm,reject:=true}from dO.out fun h=>hF ⟨h.1,h.2.1⟩);have cB:((R.role !=3)=false/\decide (m.term>R.hard.term)=true)\/((R.role !=3)=false/\decide (m.term>R.hard.term)=false)\/((R.role !=3)=true/\(R.leader==0)=true/\decide (m.term>R.hard.term)=false)\/((R.role !=3)=true/\(R.leader==0)=false/\decide (10<=R.clock)=true/\decide (m.term>R.hard.term)=false)\/((R.role !=3)=true/\(R.leader==0)=false/\decide (10<=R.clock)=false/\decide (m.term>R.hard.term)=true)\/((R.role !=3)=true/\(R.leader==0)=false/\decide (10<=R.clock)=false/\decide (m.term>R.hard.term)=false):=by
   simp;omega
  have jo:Below w.heap.size w w1.drew:=ay aI 1;replace hF:=zH hF;clear gB dO gm hx;rcases cB with⟨e1,e4⟩|⟨e1,e4⟩|⟨e1,e2,e4⟩|⟨e1,e2,e3,e4⟩|⟨e1,e2,e3,e4⟩|⟨e1,e2,e3,e4⟩
  all_goals
   go_enter func103,ntmps103;go_wp2_with fail;try rw[ct]
   refine eE [g,w.heap.size] w1 [([0,1,2,3,4,5,6,7,8,9,10,11,12,13],14)] [15] ?_;refine aF fun K1 cQ=>?_
   simp only[ah,Zx];repeat go_big_quiet_step(fail)
   apply wpQuiet_nil;go_wp2_with fail;refine⟨aQ,cQ _ _ ?_⟩;refine al ?_;simp only[ah,Zx];repeat go_big_quiet_step(fail)
   apply wpQuiet_nil;go_wp2_with fail;refine Calls.mono (rH.out _ jo) ?_;rintro e w4 ⟨rfl,hP⟩;have hQ:=zH (show ap aa b w g (R.asked m) w4 by rw[Mf.out];exact hP);go_wp2_with fail;exact am rfl rfl ⟨rfl,hQ.out⟩
end
end
section
open Go.MapKept
section
variable {aa:Nat->Nat}{b g:Nat}{w w1 w2:World}{R R1 R2:Rf}{v:Rw}
theorem ap.call{f:Nat}{args:Array Value}{E:Ending}(h:ap aa b w g R1 w1)(hc:∀ag v1,ax ag b w1 g R1 v1->Calls prog f args w1 fun e w'=>e=E/\ap ag b w1 g R2 w') :
  Calls prog f args w1 fun e w'=>e=E/\ap aa b w g R2 w':=by
 obtain⟨ag,v1,h1,h2,h3,h4⟩:=h;exact(hc ag v1 h1).mono fun e w' q=>⟨q.1,q.2.next h2 h3 h4⟩
theorem ap.fr(h:ap aa b w g R1 w1):Fr (aS aa b) w w1:=by
 obtain⟨ag,v1,h1,h2,h3,h4⟩:=h;exact h4
theorem ap.fresh(h:ap (aj aa w.heap.size b) b w1 g R1 w2)(hb:Below w.heap.size w w1):ap aa b w g R1 w2:=by
 obtain⟨ak,v',h1,h2,h3,h4⟩:=h;have hs:=hb.size;have hm:∀j,j<w.heap.size->(aS (aj aa w.heap.size b) b j↔aS aa b j):=fun j hj=>by
  unfold aS;rw[ac hj]
 refine⟨ak,v',h1,fun j hj hn=>?_,fun j hj hn=>h3 j (by omega) ((hm j hj).2 hn),(Fr.of_below (X:=aS aa b) hb).trans h4 fun j hj=>?_⟩
 ·rw[h2 j (by omega) fun h=>hn ((hm j hj).1 h)];exact ac hj
 ·rcases Nat.lt_or_ge j w.heap.size with hl|hl
  ·exact .inl ((hm j hl).1 hj)
  ·exact .inr hl
theorem ax.fresh(h:ax aa b w g R v)(hb:Below w.heap.size w w1):ax (aj aa w.heap.size b) b w1 g R v:=
 (h.relabel (ak:=aj aa w.heap.size b) fun _ hj _=>ac hj).below hb
theorem ap.new(h:ap (aj aa w.heap.size b) b w1 g R1 w2){j:Nat}(hj:w.heap.size<=j)(hl:j<w1.heap.size):w2.heap[j]?=w1.heap[j]?:=
 h.fr.block j hl fun hm=>by
  unfold aS at hm;rw[az hj]at hm;omega
theorem EV(m:Mg)(ve vd:Value)(h:ax aa b w g R v)(hn:R.out.msgs.length<=100000)(hN:R.track.L.length<=1000000) :
  Calls prog 104 #[.pointer (some ⟨g,0,none⟩),eI m ve vd] w fun e w'=>e=.returned (.tuple #[])/\ap aa b w g (R.votes m) w':=by
 have cW:=h.s.lt;have c7:=h.s.cell 7;simp only[bV,vi,Zx]at c7;have aI:Below w.heap.size w (w.alloc (.cells #[.int .i64 m.kind,.int .i64 m.frm,.int .i64 m.tgt,.int .i64 m.term,.int .i64 m.idx,.int .i64 m.logTerm,.int .i64 m.commit,.int .i64 m.round,.bool m.reject,.int .i64 m.offset,.int .i64 m.total,ve,vd] 39)):=zb.alloc zl _;have bM:=ao.new w 39 #[.int .i64 m.kind,.int .i64 m.frm,.int .i64 m.tgt,.int .i64 m.term,.int .i64 m.idx,.int .i64 m.logTerm,.int .i64 m.commit,.int .i64 m.round,.bool m.reject,.int .i64 m.offset,.int .i64 m.total,ve,vd];obtain⟨w1,ct⟩:=zN (w.alloc (.cells #[.int .i64 m.kind,.int .i64 m.frm,.int .i64 m.tgt,.int .i64 m.term,.int .i64 m.idx,.int .i64 m.logTerm,.int .i64 m.commit,.int .i64 m.round,.bool m.reject,.int .i64 m.offset,.int .i64 m.total,ve,vd] 39));rw[ct]at aI bM;obtain⟨y0,y1,y2,y3,y4,y5,y6,y7,y8,y9,yA,yB,yC,-⟩:=bM.cs [0,1,2,3,4,5,6,7,8,9,10,11,12];simp only[Zx]at y0 y1 y2 y3 y4 y5 y6 y7 y8 y9 yA yB yC;obtain⟨k0,k1,k2,k3,k4,k5,k6,k7,k8,k9,kA,kB,kC⟩:=Ap [g,w.heap.size] y0 y1 y2 y3 y4 y5 y6 y7 y8 y9 yA yB yC;have c7':=(aI.cell (ar c7)).trans c7;have kD:=EY [g,w.heap.size] c7';have dA:∀q∈[g,w.heap.size],q<w1.heap.size:=by simp;exact⟨by have:=aI.size;omega,bM.lt⟩
 have gm:=sy m ve vd ((h.below aI).below (w':=w1.drew) (zb.drew)) hN;obtain⟨x,hx⟩:=zN (R.newer m);rw[hx]at gm;have dO:=zH (show ¬((R.hard.vote=0\/R.hard.vote=m.frm)/\x=true)->R.votes m=R.send {dh with kind:=4,tgt:=m.frm,reject:=true}from fun h1=>if_neg (by rw[hx];exact h1));have gB:=zH (show(R.hard.vote=0\/R.hard.vote=m.frm)->x=true->R.votes m=({R with hard:=⟨R.hard.term,m.frm⟩,out:={R.out with save:=true}}:Rf).rest.send {dh with kind:=4,tgt:=m.frm,reject:=false}from fun h1 h2=>if_pos ⟨h1,by rw[hx];exact h2⟩);have rH:=zH (show ∀w3,Below w.heap.size w w3->Calls prog 97 #[.pointer (some ⟨g,0,none⟩),eI {dh with kind:=4,tgt:=m.frm,reject:=true} (.slice none 0 0) (.slice none 0 0)] w3 (fun e w'=>e=.returned (.tuple #[])/\ap aa b w g (R.send {dh with kind:=4,tgt:=m.frm,reject:=true}) w')from fun w3 hb=>(gi {dh with kind:=4,tgt:=m.frm,reject:=true} rfl rfl (h.below hb) hn).mono fun e w' q=>⟨q.1,q.2.behind hb⟩);have hH:=zH h;unfold eI at gm ⊢;simp only[vi]at gm ⊢;clear h;by_cases hF:R.hard.vote=0\/R.hard.vote=m.frm
 ·have cB:(R.hard.vote==0)=true\/((R.hard.vote==0)=false/\(R.hard.vote==m.frm)=true):=by
   simp;omega
  replace hF:=zH hF;rcases cB with e1|⟨e1,e2⟩
  all_goals
   go_enter func104,ntmps104;go_wp2_with fail;try rw[ct]
   refine eE [g,w.heap.size] w1 [([0,1,2,3,4,5,6,7,8,9,10,11,12,13,14,15,16,17,18],19)] [20,21] ?_;refine aF fun K1 cQ=>?_
   simp only[ah,Zx];repeat go_big_quiet_step(fail)
   apply wpQuiet_nil;go_wp2_with fail;refine gm.mono ?_;rintro e w3 ⟨rfl,bN⟩;go_wp2_with fail;have jo:Below w.heap.size w w3:=ab (ay aI 1) bN zl;have y1w:=(Below.cell ((zb.drew).trans bN) (ar y1)).trans y1;have fu:w.heap.size<w3.heap.size:=ar y1w;refine⟨av dA ((zb.drew).trans bN),cQ _ _ ?_⟩;refine al ?_;simp only[ah,Zx];repeat go_big_quiet_step(fail)
   apply wpQuiet_nil;cases x
   ·clear hH;go_wp2_with fail;refine Calls.mono (rH.out _ jo) ?_;rintro e w4 ⟨rfl,hP⟩;have hQ:=zH (show ap aa b w g (R.votes m) w4 by rw[dO.out (by simp)];exact hP);go_wp2_with fail;exact am rfl rfl ⟨rfl,hQ.out⟩
   ·have h3:=hH.out.fresh jo;have hS:ao ((w3.setCell ⟨g,7,none⟩ (.int .i64 m.frm)).setCell ⟨g,22,none⟩ (.bool true)) g 107 (bV {R with hard:=⟨R.hard.term,m.frm⟩,out:={R.out with save:=true}} v):=by
     have s:=(h3.s.set_ 7 (.int .i64 m.frm)).set_ 22 (.bool true);simp only[bV,Zy]at s;exact s
    have KG:Fr (fun j=>j=g) w3 ((w3.setCell ⟨g,7,none⟩ (.int .i64 m.frm)).setCell ⟨g,22,none⟩ (.bool true)):=(Fr.set g 7 _).trans (Fr.set g 22 _) fun _ h=>.inl h
    have qe:ap (aj aa w.heap.size b) b w3 g {R with hard:=⟨R.hard.term,m.frm⟩,out:={R.out with save:=true}} _:=ap.nums h3 hS KG rfl rfl rfl rfl rfl rfl rfl rfl rfl rfl rfl;obtain⟨c7w,c22w,-⟩:=h3.s.cs [7,22];obtain⟨f7w,f22w,-⟩:=h3.s.fs [7,22];simp only[bV,vi,Zx]at c7w c22w;have CN:=qe.call (fun ag v1 h=>st h);replace qe:=zH qe;clear h3 hS KG hH;go_wp2_with fail;refine Calls.mono CN ?_;rintro e w4 ⟨rfl,hP⟩;have y1z:=(World.cell?_of_block (a:=⟨w.heap.size,1,none⟩) (hP.new zl fu)).trans y1w;have dZ:=hP.call (fun ag v1 h=>gi {dh with kind:=4,tgt:=m.frm,reject:=false} rfl rfl h hn);unfold eI at dZ;simp only[vi]at dZ;clear CN hP;go_wp2_with fail;refine Calls.mono dZ ?_;rintro e w5 ⟨rfl,hP⟩;have hQ:=zH (show ap aa b w g (R.votes m) w5 by rw[gB.out hF.out trivial];exact hP.fresh jo);go_wp2_with fail;exact am rfl rfl ⟨rfl,hQ.out⟩
 ·have Mf:=zH (show R.votes m=R.send {dh with kind:=4,tgt:=m.frm,reject:=true}from dO.out fun h=>hF h.1);have e1:(R.hard.vote==0)=false:=by simp;omega
  have e2:(R.hard.vote==m.frm)=false:=by simp;omega
  have jo:Below w.heap.size w w1.drew:=ay aI 1;replace hF:=zH hF;clear gB dO gm hx hH;go_enter func104,ntmps104;go_wp2_with fail;try rw[ct]
  refine eE [g,w.heap.size] w1 [([0,1,2,3,4,5,6,7,8,9,10,11,12,13,14,15,16,17,18],19)] [20,21] ?_;refine aF fun K1 cQ=>?_
  simp only[ah,Zx];repeat go_big_quiet_step(fail)
  apply wpQuiet_nil;go_wp2_with fail;refine⟨aQ,cQ _ _ ?_⟩;refine al ?_;simp only[ah,Zx];repeat go_big_quiet_step(fail)
  apply wpQuiet_nil;go_wp2_with fail;refine Calls.mono (rH.out _ jo) ?_;rintro e w4 ⟨rfl,hP⟩;have hQ:=zH (show ap aa b w g (R.votes m) w4 by rw[Mf.out];exact hP);go_wp2_with fail;exact am rfl rfl ⟨rfl,hQ.out⟩
end
end
section
open Go.MapKept
open Rf (numOk)
theorem L8{a b c d e f g:Prop}[Decidable a][Decidable b][Decidable c][Decidable d][Decidable e][Decidable f][Decidable g]{r:Bool}(hr:r=decide (a/\b/\c/\d/\e/\f/\g)) :
  (decide a=false/\r=false)\/(decide a=true/\decide b=false/\r=false)\/(decide a=true/\decide b=true/\decide c=false/\r=false)\/(decide a=true/\decide b=true/\decide c=true/\decide d=false/\r=false)\/
  (decide a=true/\decide b=true/\decide c=true/\decide d=true/\decide e=false/\r=false)\/(decide a=true/\decide b=true/\decide c=true/\decide d=true/\decide e=true/\decide f=false/\r=false)\/
  (decide a=true/\decide b=true/\decide c=true/\decide d=true/\decide e=true/\decide f=true/\decide g=false/\r=false)\/(decide a=true/\decide b=true/\decide c=true/\decide d=true/\decide e=true/\decide f=true/\decide g=true/\r=true):=by
 subst hr;by_cases ha:a
 ·by_cases hb:b
  ·by_cases hc:c
   ·by_cases hd:d
    ·by_cases he:e
     ·by_cases hf:f
      ·by_cases hg:g <;> simp[ha,hb,hc,hd,he,hf,hg]
      ·simp[ha,hb,hc,hd,he,hf]
     ·simp[ha,hb,hc,hd,he]
    ·simp[ha,hb,hc,hd]
   ·simp[ha,hb,hc]
  ·simp[ha,hb]
 ·simp[ha]
theorem rM{a l m:Int}{x:Bool}(hx:decide (l<=a/\a<=m)=x)(w:World):Calls prog 36 #[.int .i64 a,.int .i64 l,.int .i64 m] w fun e w'=>e=.returned (.bool x)/\w'=w:=by
 by_cases h1:l<=a
 ·by_cases h2:a<=m
  ·have hd:=zH (show x=true by rw[<-hx];simp[h1,h2]);clear hx;go_enter func36,ntmps36;go_wp2_with fail;go_ret;exact⟨by rw[hd.out];rfl,rfl⟩
  ·have hd:=zH (show x=false by rw[<-hx];simp[h2]);clear hx;go_enter func36,ntmps36;go_wp2_with fail;go_ret;exact⟨by rw[hd.out];rfl,rfl⟩
 ·have hd:=zH (show x=false by rw[<-hx];simp[h1]);clear hx;go_enter func36,ntmps36;go_wp2_with fail;go_ret;exact⟨by rw[hd.out];rfl,rfl⟩
section
variable {aa:Nat->Nat}{b g:Nat}{w:World}{R:Rf}{v:Rw}
def fI(m:Mg):List Int:=[m.idx,m.logTerm,m.commit,m.round,m.offset,m.total]
theorem uK(m:Mg):(fI m).all numOk=(numOk m.idx&&numOk m.logTerm&&numOk m.commit&&numOk m.round&&numOk m.offset&&numOk m.total):=by
 simp[fI,List.all_cons,Bool.and_assoc]
theorem uT{m:Mg}{k:Nat}(hk:k<6)(hf:numOk ((fI m)[k]?.getD 0)=false):R.right m=false:=by
 unfold Rf.right;have:(fI m).all numOk=false:=by
  rw[Bool.eq_false_iff];intro h;have h2:=List.all_eq_true.1 h ((fI m)[k]?.getD 0) (by
   have hl:k<(fI m).length:=hk;rw[List.getElem?_eq_getElem hl];exact List.getElem_mem hl)
  rw[hf]at h2;cases h2
 rw[<-uK,this];rfl
theorem uU{m:Mg}(h:∀k,k<6->numOk ((fI m)[k]?.getD 0)=true):R.right m=decide ((1<=m.kind/\m.kind<=8)/\m.tgt=R.id/\(1<=m.frm/\m.frm<=R.n)/\m.frm≠R.id/\(1<=m.term/\m.term<=iQ)/\m.entries.length<=6/\m.data.length<=160):=by
 unfold Rf.right;have:(fI m).all numOk=true:=by
  rw[List.all_eq_true];intro x hx;obtain⟨k,hk,rfl⟩:=List.getElem_of_mem hx;have:=h k hk;rw[List.getElem?_eq_getElem hk]at this;exact this
 rw[<-uK,this];rfl
theorem zo(x:Int):decide (0<=x/\x<=1099511627776)=numOk x:=by
 unfold numOk iQ;by_cases h1:0<=x <;> by_cases h2:x<=1099511627776 <;> simp[h1,h2]
theorem Ev(m:Mg)(A1 A2:Option Addr)(n1 n2 c1 c2:Nat)(iU:n1=m.entries.length)(kJ:n2=m.data.length)(h:ax aa b w g R v) :
  Calls prog 57 #[.pointer (some ⟨g,0,none⟩),eI m (.slice A1 n1 c1) (.slice A2 n2 c2)] w fun e w'=>e=.returned (.bool (R.right m))/\Below w.heap.size w w':=by
 have cW:=h.s.lt;obtain⟨ve,pL⟩:=zN (Value.slice A1 n1 c1);obtain⟨vd,tK⟩:=zN (Value.slice A2 n2 c2);rw[pL,tK];obtain⟨d4,d5,-⟩:=h.s.cs [4,5];simp only[bV,vi,Zx]at d4 d5;have aI:Below w.heap.size w (w.alloc (.cells #[.int .i64 m.kind,.int .i64 m.frm,.int .i64 m.tgt,.int .i64 m.term,.int .i64 m.idx,.int .i64 m.logTerm,.int .i64 m.commit,.int .i64 m.round,.bool m.reject,.int .i64 m.offset,.int .i64 m.total,ve,vd] 39)):=zb.alloc zl _;have bM:=ao.new w 39 #[.int .i64 m.kind,.int .i64 m.frm,.int .i64 m.tgt,.int .i64 m.term,.int .i64 m.idx,.int .i64 m.logTerm,.int .i64 m.commit,.int .i64 m.round,.bool m.reject,.int .i64 m.offset,.int .i64 m.total,ve,vd];obtain⟨w1,ct⟩:=zN (w.alloc (.cells #[.int .i64 m.kind,.int .i64 m.frm,.int .i64 m.tgt,.int .i64 m.term,.int .i64 m.idx,.int .i64 m.logTerm,.int .i64 m.commit,.int .i64 m.round,.bool m.reject,.int .i64 m.offset,.int .i64 m.total,ve,vd] 39));rw[ct]at aI bM;obtain⟨y0,y1,y2,y3,y4,y5,y6,y7,y8,y9,yA,yB,yC,-⟩:=bM.cs [0,1,2,3,4,5,6,7,8,9,10,11,12];simp only[Zx]at y0 y1 y2 y3 y4 y5 y6 y7 y8 y9 yA yB yC;obtain⟨k0,k1,k2,k3,k4,k5,k6,k7,k8,k9,kA,kB,kC⟩:=Ap [g,w.heap.size] y0 y1 y2 y3 y4 y5 y6 y7 y8 y9 yA yB yC;have d4':=(aI.cell (ar d4)).trans d4;have d5':=(aI.cell (ar d5)).trans d5;have dO:=zH (fun k (hk:k<6) (hf:numOk ((fI m)[k]?.getD 0)=false)=>uT (R:=R) (m:=m) hk hf);have gB:=zH (fun h=>uU (R:=R) (m:=m) h);obtain⟨w2,cZ⟩:=zN (w1.alloc (.cells #[.int .i64 m.idx,.int .i64 m.logTerm,.int .i64 m.commit,.int .i64 m.round,.int .i64 m.offset,.int .i64 m.total] 3));have nd:ao w2 w1.heap.size 3 ((fI m).map vi).toArray:=by rw[<-cZ];exact ao.new w1 3 ((fI m).map vi).toArray
 have dX:Below w1.heap.size w1 w2:=by rw[<-cZ];exact zb.alloc zl _
 have z0:=(dX.cell (ar y0)).trans y0;have z1:=(dX.cell (ar y1)).trans y1;have z2:=(dX.cell (ar y2)).trans y2;have z3:=(dX.cell (ar y3)).trans y3;have zB:=(dX.cell (ar yB)).trans yB;have zC:=(dX.cell (ar yC)).trans yC;have zD:=(dX.cell (ar d4')).trans d4';have zE:=(dX.cell (ar d5')).trans d5';obtain⟨q0,q1,q2,q3,qB,qC,qD,qE⟩:=Ww [g,w.heap.size] z0 z1 z2 z3 zB zC zD zE;clear k0 k1 k2 k3 k4 k5 k6 k7 k8 k9 kA kB kC;have DG:Below w.heap.size w w2.drew:=ay (ab aI dX zl) 1;have dF:Below w.heap.size w w2:=ab aI dX zl;unfold eI;simp only[vi];clear h;go_enter func57,ntmps57;go_wp2_with fail;try rw[ct]
 go_wp2_with fail;try rw[cZ]
 go_loopw [21] (fun i wr=>∃k:Nat,k<=6/\i=.int .i64 k/\(∀j,j<k->numOk ((fI m)[j]?.getD 0)=true)/\wr=w2) (fun i _=>6-(intOf i).toNat)
 case atStart=>exact⟨0,Nat.zero_le _,rfl,fun j hj=>absurd hj (Nat.not_lt_zero _),rfl⟩
 case round=>
  obtain⟨k,hk,rfl,cR,rfl⟩:=hrel;replace cR:=zH cR;by_cases aU:k<6
  ·obtain⟨x,hx⟩:=zN ((fI m)[k]?.getD 0);have kH:k<(fI m).length:=aU;have c0:wr.cell? ⟨w1.heap.size,k,none⟩=some (.int .i64 x):=(nd.cell k).trans (by rw[List.getElem?_toArray,List.getElem?_map,List.getElem?_eq_getElem kH,<-hx,List.getElem?_eq_getElem kH];rfl);have aH:=rM (zo x) wr;replace hx:=zH hx;cases cu:numOk x with
   | false=>
    rw[cu]at aH;have hf:=zH (dO.out k aU (by rw[hx.out];exact cu));go_wp2_with fail;refine aH.mono ?_;rintro e w4 ⟨rfl,rfl⟩;go_wp2_with fail;go_ret;exact⟨by rw[hf.out];rfl,dF⟩
   | true=>
    rw[cu]at aH;have nz:=zH (show ∀j,j<k+1->numOk ((fI m)[j]?.getD 0)=true from fun j hj=>by
     rcases Nat.lt_or_ge j k with h1|h1
     ·exact cR.out j h1
     ·obtain rfl:j=k:=by omega
      rw[hx.out];exact cu)
    go_wp2_with fail;refine aH.mono ?_;rintro e w4 ⟨rfl,rfl⟩;go_wp2_with fail;exact⟨⟨k+1,aU,by go_num,nz.out,trivial⟩,by simp[intOf];omega⟩
  ·obtain rfl:k=6:=by omega
   have hR:=gB.out cR.out;unfold iQ at hR;clear nd dX;have e3:(iQ:Int)=1099511627776:=rfl;have br:∃x,decide (1<=m.kind/\m.kind<=8)=x:=⟨_,rfl⟩;have bQ:∃x,decide (1<=m.frm/\m.frm<=(R.n:Int))=x:=⟨_,rfl⟩;have bN:∃x,decide (1<=m.term/\m.term<=1099511627776)=x:=⟨_,rfl⟩;obtain⟨x1,br⟩:=br;obtain⟨x2,bQ⟩:=bQ;obtain⟨x3,bN⟩:=bN;have cB:=L8 hR;rw[br,bQ,bN,<-iU,<-kJ]at cB;have t1:decide (m.tgt=(R.id:Int))=(m.tgt==(R.id:Int)):=rfl;have t2:decide (m.frm≠(R.id:Int))=(m.frm !=(R.id:Int)):=by by_cases h:m.frm=R.id <;> simp[h]
   have t3:decide (n1<=6)=decide ((n1:Int)<=6):=by by_cases h:n1<=6 <;> simp <;> omega
   have t4:decide (n2<=160)=decide ((n2:Int)<=160):=by by_cases h:n2<=160 <;> simp <;> omega
   rw[t1,t2,t3,t4]at cB;have lw:=fun w=>rM br w
   have yp:=fun w=>rM bQ w
   have Bu:=fun w=>rM bN w
   replace lw:=zH lw;replace yp:=zH yp;replace Bu:=zH Bu;clear br bQ bN hR iU kJ e3 t1 t2 t3 t4;rcases cB with⟨rfl,hr⟩|⟨rfl,e2,hr⟩|⟨rfl,e2,rfl,hr⟩|⟨rfl,e2,rfl,e4,hr⟩|⟨rfl,e2,rfl,e4,rfl,hr⟩|⟨rfl,e2,rfl,e4,rfl,e6,hr⟩|⟨rfl,e2,rfl,e4,rfl,e6,e7,hr⟩|⟨rfl,e2,rfl,e4,rfl,e6,e7,hr⟩
   all_goals
    replace hr:=zH hr;rw[<-pL]at qB;rw[<-tK]at qC;clear pL tK;go_wp2_with fail;refine eE [g,w.heap.size] wr [([0,1],2),([3,4,5,6,7,8,9,10,11,12,13,14,15,16,17,18],19),([20,21,22,23,24,25,26,27,28,29,30,31,32],33)] [34,35,36,37,38,39,40,41,42,43,44,45,46,47] ?_;refine aF fun K1 cQ=>?_
    simp only[ah,Zx];repeat go_big_quiet_step(fail)
    apply wpQuiet_nil;go_wp2_with fail;refine(lw.out _).mono ?_;rintro e w4 ⟨rfl,rfl⟩;go_wp2_with fail;refine⟨aQ,cQ _ _ ?_⟩;refine aF fun K2 iu=>?_
    simp only[ah,Zx];repeat go_big_quiet_step(fail)
    apply wpQuiet_nil;go_wp2_with fail;try(refine(yp.out _).mono ?_;rintro e w4 ⟨rfl,rfl⟩;go_wp2_with fail)
    refine⟨aQ,iu _ _ ?_⟩;refine aF fun K3 jY=>?_
    simp only[ah,Zx];repeat go_big_quiet_step(fail)
    apply wpQuiet_nil;go_wp2_with fail;try(refine(Bu.out _).mono ?_;rintro e w4 ⟨rfl,rfl⟩;go_wp2_with fail)
    refine⟨aQ,jY _ _ ?_⟩;refine al ?_;simp only[ah,Zx];repeat go_big_quiet_step(fail)
    apply wpQuiet_nil;go_wp2_with fail;go_ret;exact⟨by rw[hr.out];rfl,DG⟩
end
end
section
open Go.Maps Go.MapKept Go.WideMaps
open Go.ChangeMaps (setBlock modify_eq_set heap_setBlock_same heap_setBlock_other)
theorem jB{L:List MapEntry}(hn:(L.map (·.key)).Nodup){j:Nat}{e0:MapEntry}(h:L[j]?=some e0)(y x:MapEntry):x∈L.set j y↔x=y\/(x∈L/\x.key≠e0.key):=by
 obtain⟨hj,ej⟩:=List.getElem?_eq_some_iff.1 h;have inj:∀i (hi:i<L.length),L[i].key=e0.key->i=j:=fun i hi e=>by
  have h1:i<(L.map (·.key)).length:=by simpa using hi
  have h2:j<(L.map (·.key)).length:=by simpa using hj
  refine(List.getElem_inj (h₀:=h1) (h₁:=h2) hn).1 ?_;simp only[List.getElem_map];rw[e,ej]
 constructor
 ·intro hx;obtain⟨i,hi,ex⟩:=List.getElem_of_mem hx;rw[List.getElem_set]at ex;split at ex
  ·exact .inl ex.symm
  ·rename_i fe;have OT:i<L.length:=by simpa using hi
   refine .inr ⟨ex▸List.getElem_mem OT,fun e=>fe ?_⟩;exact(inj i OT (by rw[ex];exact e)).symm
 ·rintro(rfl|⟨hx,fe⟩)
  ·exact List.mem_iff_getElem.2 ⟨j,by simpa using hj,by simp⟩
  ·obtain⟨i,hi,rfl⟩:=List.getElem_of_mem hx;have JI:j≠i:=fun e=>fe (by subst e;rw[ej])
   exact List.mem_iff_getElem.2 ⟨i,by simpa using hi,by rw[List.getElem_set_ne JI]⟩
def fj(w:World)(b:Nat)(l:List Int):Prop:=
 ∃es clock,w.heap[b]?=some (.map es clock)/\Stamped es clock/\(∀x∈es.toList,∃k:Int,x.key=.int .i64 k/\0<=k/\k<=1000)/\∀k:Int,k∈l↔∃x∈es.toList,x.key=.int .i64 k
theorem CU:prog.underlying 3=some (.int .i64):=underlying3
theorem kN:Keyed prog 3:=int_keyed CU
theorem pN{s:Int}(h0:0<=s)(h1:s<=1000):keyOf prog 3 (.int .i64 s)=some (.int .i64 s):=keyOf_int_mk CU (by rw[Lit.wf_int_iff];simp only[IntKind.min,IntKind.max,IntKind.signed,IntKind.bits];simp;omega)
section
variable {w w':World}{b:Nat}{l:List Int}
theorem fj.lt(h:fj w b l):b<w.heap.size:=by
 obtain⟨es,clock,hb,_⟩:=h;exact aV hb
theorem fj.keep(h:fj w b l)(hk:w'.heap[b]?=w.heap[b]?):fj w' b l:=by
 obtain⟨es,clock,hb,h'⟩:=h;exact⟨es,clock,hk.trans hb,h'⟩
theorem fj.made(w:World):fj (w.alloc (.map #[] 0)) w.heap.size []:=
 ⟨#[],0,heap_alloc_new w _,stamped_empty 0,fun x hx=>by simp at hx,fun k=>by simp⟩
theorem Ka{es:Array MapEntry}(h:∀x∈es.toList,∃k:Int,x.key=.int .i64 k/\0<=k/\k<=1000):∀x∈es.toList,∃l,keyOf prog 3 x.key=some l:=fun x hx=>by
 obtain⟨s,e,h0,h1⟩:=h x hx;exact⟨_,by rw[e];exact pN h0 h1⟩
theorem ue{es:Array MapEntry}{clock:Nat}(hb:w.heap[b]?=some (.map es clock))(o:Obj):w.grownBy (setBlock w b o) (some b):=
 ⟨rfl,rfl,rfl,by simp[setBlock],fun j _ fe=>heap_setBlock_other hb o (fun e=>fe (by rw[e]))⟩
theorem uJ{α:Type}[DecidableEq α]:∀{l l':List α},l.Nodup->l ⊆ l'->l.length<=l'.length
 | [],l',_,_=>Nat.zero_le _
 | x::l,l',hn,hs=>by
  have hx:x∈l':=hs (List.mem_cons_self ..);have h1:=List.nodup_cons.1 hn;have:=uJ h1.2 (l':=l'.erase x) fun y hy=>(List.mem_erase_of_ne fun(e:y=x)=>h1.1 (by rw[<-e];exact hy)).2 (hs (List.mem_cons_of_mem _ hy))
  have h3:=List.length_erase_of_mem hx;have h4:=List.length_pos_of_mem hx;simp only[List.length_cons];omega
theorem fj.size(h:fj w b l):∃es clock,w.heap[b]?=some (.map es clock)/\es.size<=l.length:=by
 obtain⟨es,clock,h1,h2,h3,h4⟩:=h;refine⟨es,clock,h1,?_⟩;have hn:(es.toList.map (·.key)).Nodup:=h2.2.2;obtain⟨ks,AG⟩:∃ks:List Int,es.toList.map (·.key)=ks.map (Value.int .i64):=by
  have:∀L:List MapEntry,(∀x∈L,∃k:Int,x.key=.int .i64 k/\0<=k/\k<=1000)->∃ks:List Int,L.map (·.key)=ks.map (Value.int .i64):=fun L=>by
   induction L with
   | nil=>exact fun _=>⟨[],rfl⟩
   | cons x L ih=>
    intro hL;obtain⟨k,e,_⟩:=hL x (List.mem_cons_self ..);obtain⟨ks,e2⟩:=ih fun y hy=>hL y (List.mem_cons_of_mem _ hy)
    exact⟨k::ks,by rw[List.map_cons,List.map_cons,e,e2]⟩
  exact this _ h3
 rw[AG]at hn;have af:es.size=ks.length:=by
  have:=congrArg List.length AG;simpa using this
 have ZE:ks.Nodup:=List.Pairwise.imp (fun {a b} h e=>h (by rw[e])) (List.pairwise_map.1 hn);rw[af];refine uJ ZE fun k hk=>(h4 k).2 ?_
 have:Value.int .i64 k∈es.toList.map (·.key):=by rw[AG];exact List.mem_map.2 ⟨k,hk,rfl⟩
 obtain⟨x,hx,e⟩:=List.mem_map.1 this;exact⟨x,hx,e⟩
theorem sC(h:fj w b l){t e:TypeId}(ht:prog.underlying t=some (.map 3 e)){s:Int}(h0:0<=s)(rm:s<=1000)(v:Value) :
  ∃w',(Instr.mapUpdate t (.map (some b)) (.int .i64 s) v).run prog w=.ok () w'/\fj w' b (l++[s])/\w.grownBy w' (some b):=by
 obtain⟨es,clock,hb,aD,AG,hF⟩:=h;have JN:=pN h0 rm;have Lj:∀e0:MapEntry,∀j,es.toList[j]?=some e0->(es.modify j (fun e'=>{e' with key:=.int .i64 s,val:=v})).toList=es.toList.set j {e0 with key:=.int .i64 s,val:=v}:=fun e0 j h2=>by rw[Array.toList_modify,modify_eq_set _ _ _ _ h2]
 rcases kN.find w JN es.toList (Ka AG)with⟨h1,h2⟩|⟨j,e0,h1,h2,h3⟩
 ·refine⟨setBlock w b (.map (es.push ⟨.int .i64 s,v,clock⟩) (clock+1)),?_,⟨_,_,heap_setBlock_same hb _,stamped_push aD h2,?_,?_⟩,ue hb _⟩
  ·simp[Instr.mapUpdate,run_underlying ht,MapKept.run_getObj_map hb,kN.check w false JN,h1,MapKept.run_setObj_map _ hb,Result.andThen,setBlock]
  ·intro x hx;simp only[Array.toList_push,List.mem_append,List.mem_singleton]at hx;rcases hx with hx|rfl
   ·exact AG x hx
   ·exact⟨s,rfl,h0,rm⟩
  ·intro t;simp only[Array.toList_push,List.mem_append,List.mem_singleton];constructor
   ·rintro(ht|rfl)
    ·obtain⟨x,hx,hk⟩:=(hF t).1 ht;exact⟨x,.inl hx,hk⟩
    ·exact⟨_,.inr rfl,rfl⟩
   ·rintro⟨x,hx|rfl,hk⟩
    ·exact .inl ((hF t).2 ⟨x,hx,hk⟩)
    ·injection hk with _ hk;exact .inr hk.symm
 ·have hj:es[j]?=some e0:=by simpa using h2
  have QV:∀e',es[j]?=some e'->({e' with key:=.int .i64 s,val:=v}:MapEntry).key=e'.key:=fun e' MO=>by rw[hj]at MO;cases MO;exact h3.symm
  refine⟨setBlock w b (.map (es.modify j (fun e'=>{e' with key:=.int .i64 s,val:=v})) clock),?_,⟨_,_,heap_setBlock_same hb _,stamped_modify aD _ _ (fun _ _=>rfl) (fun e' _ MO=>QV e' MO),?_,?_⟩,ue hb _⟩
  ·simp[Instr.mapUpdate,run_underlying ht,MapKept.run_getObj_map hb,kN.check w false JN,h1,hj,h3,kN.stays w JN,MapKept.run_setObj_map _ hb,Result.andThen,setBlock]
  ·intro x hx;rw[Lj e0 j h2,jB aD.2.2 h2]at hx;rcases hx with rfl|⟨hx,_⟩
   ·exact⟨s,rfl,h0,rm⟩
   ·exact AG x hx
  ·intro t;rw[Lj e0 j h2];simp only[List.mem_append,List.mem_singleton];have hs:s∈l:=(hF s).2 ⟨e0,List.mem_of_getElem? h2,h3⟩;constructor
   ·intro ht;have NH:t∈l:=by
     rcases ht with ht|rfl
     ·exact ht
     ·exact hs
    obtain⟨x,hx,hk⟩:=(hF t).1 NH;by_cases e:t=s
    ·exact⟨_,(jB aD.2.2 h2 _ _).2 (.inl rfl),by rw[e]⟩
    ·refine⟨x,(jB aD.2.2 h2 _ _).2 (.inr ⟨hx,fun e'=>e ?_⟩),hk⟩;have:=(hk.symm.trans e').trans h3;injection this
   ·rintro⟨x,hx,hk⟩;rcases(jB aD.2.2 h2 _ _).1 hx with rfl|⟨hx,_⟩
    ·injection hk with _ hk;exact .inr hk.symm
    ·exact .inl ((hF t).2 ⟨x,hx,hk⟩)
end
structure lB(w:World)(r b:Nat)(l:List Int)(left:Int->Prop)(n:Nat)(last:Option Int):Prop where
 m:fj w b l
 it:∃es clock since c0 seen,w.heap[r]?=some (.mapIter (some b) since seen c0)/\w.heap[b]?=some (.map es clock)/\Stamped es clock/\
  (∀x∈es.toList,x.born<since)/\since<=c0/\n=(leftOf es seen).size/\(∀s,left s↔∃x∈(leftOf es seen).toList,x.key=.int .i64 s)/\
  (∀x∈es.toList,∃s:Int,x.key=.int .i64 s/\0<=s/\s<=1000)/\since<=clock/\
  (∀s,last=some s->∃(e:MapEntry) (seen0:Array Nat),e∈es.toList/\e.key=.int .i64 s/\seen=seen0.push e.born/\c0=clock)
section
variable {w w':World}{r b n:Nat}{l:List Int}{left:Int->Prop}{last:Option Int}
theorem lB.keep(h:lB w r b l left n last)(hr:w'.heap[r]?=w.heap[r]?)(hb:w'.heap[b]?=w.heap[b]?):lB w' r b l left n last:=by
 obtain⟨es,clock,since,c0,seen,h1,h2,h3⟩:=h.it;exact⟨h.m.keep hb,es,clock,since,c0,seen,hr.trans h1,hb.trans h2,h3⟩
theorem zc(es:Array MapEntry):leftOf es #[]=es:=by
 unfold leftOf;exact Array.filter_eq_self.2 (fun x _=>by simp)
theorem zO(h:fj w b l){t e:TypeId}(ht:prog.underlying t=some (.map 3 e)) :
  ∃w' n,(Instr.range t (.map (some b))).run prog w=.ok (.pointer (some ⟨w.heap.size,0,none⟩)) w'/\n<=l.length/\lB w' w.heap.size b l (fun s=>s∈l) n none/\∃o,w'=w.alloc o:=by
 have aU:=h.lt;obtain⟨es,clock,hb,aD,AG,hF⟩:=id h;have fU:es.size<=l.length:=by
  obtain⟨es',clock',e1,e2⟩:=h.size;rw[hb]at e1;cases e1;exact e2
 have iv:(w.alloc (.mapIter (some b) clock #[] clock)).heap[b]?=some (.map es clock):=((MapKept.heap_alloc w _).2 b aU).trans hb;refine⟨_,es.size,run_range_map w t 3 e b es clock ht hb,fU,⟨h.keep (((MapKept.heap_alloc w _).2 b aU)),es,clock,clock,clock,#[],(MapKept.heap_alloc w _).1,iv,aD,aD.1,Nat.le_refl _,by rw[zc],?_,AG,Nat.le_refl _,fun s h=>by cases h⟩,_,rfl⟩;intro s;rw[zc];exact hF s
theorem nl(h:lB w r b l left n last)(Fj:r≠b)(ty:TypeId) :
  (n=0/\(∀s,¬left s)/\(Instr.next (.pointer (some ⟨r,0,none⟩)) false ty).run prog w=.ok (.tuple #[.bool false]) w)\/
  ∃s v w1 o n',n'<n/\left s/\(w1=w\/w1=w.drew)/\(Instr.next (.pointer (some ⟨r,0,none⟩)) false ty).run prog w=.ok (.tuple #[.bool true,.int .i64 s,v]) (setBlock w1 r o)/\
   lB (setBlock w1 r o) r b l (fun t=>left t/\t≠s) n' (some s):=by
 obtain⟨es,clock,since,c0,seen,h1,h2,aD,hold,VG,hn,yE,AG,ND,_⟩:=h.it;rcases run_next_at (P:=prog) w ty r b since c0 seen es clock h1 h2 hold VG with⟨h0,ls⟩|⟨e,he,w1,ct,ls⟩
 ·refine .inl ⟨hn.trans h0,fun s hs=>?_,ls⟩;obtain⟨x,hx,_⟩:=(yE s).1 hs;have:=Array.eq_empty_of_size_eq_zero h0;rw[this]at hx;simp at hx
 ·have MQ:e∈es.toList:=by
   unfold leftOf at he;simp at he ⊢;exact he.1
  obtain⟨s,hk,hs⟩:=AG e MQ;have RU:w1.heap=w.heap:=by rcases ct with rfl|rfl <;> rfl
  have Vx:r<w1.heap.size:=by
   rw[RU];rcases Nat.lt_or_ge r w.heap.size with aU|ry
   ·exact aU
   ·rw[Array.getElem?_eq_none ry]at h1;cases h1
  have O2:(setBlock w1 r (.mapIter (some b) since (seen.push e.born) clock)).heap[r]?=some (.mapIter (some b) since (seen.push e.born) clock):=by
   simp[setBlock,Vx]
  have iv:(setBlock w1 r (.mapIter (some b) since (seen.push e.born) clock)).heap[b]?=w.heap[b]?:=by
   simp only[setBlock];rw[Array.getElem?_setIfInBounds_ne Fj,RU]
  refine .inr ⟨s,e.val,w1,_,_,?_,(yE s).2 ⟨e,he,hk⟩,ct,by rw[<-hk];exact ls,⟨h.m.keep iv,es,clock,since,clock,seen.push e.born,O2,iv.trans h2,aD,hold,ND,rfl,?_,AG,ND,?_⟩⟩
  ·rw[hn];exact left_shrinks es seen e he
  ·intro t;have inj:∀x,x∈es.toList->(x.born=e.born↔x.key=e.key):=fun x hx=>by
    obtain⟨i,hi,rfl⟩:=List.getElem_of_mem hx;obtain⟨j,hj,rfl⟩:=List.getElem_of_mem MQ;constructor
    ·intro e1;have:=(List.getElem_inj (h₀:=by simpa using hi) (h₁:=by simpa using hj) aD.2.1).1 (by simpa using e1);subst this;rfl
    ·intro e1;have:=(List.getElem_inj (h₀:=by simpa using hi) (h₁:=by simpa using hj) aD.2.2).1 (by simpa using e1);subst this;rfl
   have memL:∀x,x∈(leftOf es (seen.push e.born)).toList↔x∈(leftOf es seen).toList/\x.born≠e.born:=fun x=>by
    unfold leftOf;simp[and_assoc]
   constructor
   ·rintro⟨hl,fe⟩;obtain⟨x,hx,RY⟩:=(yE t).1 hl;refine⟨x,(memL x).2 ⟨hx,fun e1=>fe ?_⟩,RY⟩;have:=(inj x (mem_left hx).1).1 e1;rw[RY,hk]at this;injection this
   ·rintro⟨x,hx,RY⟩;obtain⟨hx,fe⟩:=(memL x).1 hx;refine⟨(yE t).2 ⟨x,hx,RY⟩,fun e1=>fe ((inj x (mem_left hx).1).2 ?_)⟩;rw[RY,hk,e1]
  ·intro s' e1;injection e1 with e1;subst e1;exact⟨e,seen,MQ,hk,rfl,rfl⟩
theorem mh{s:Int}(h:lB w r b l left n (some s)):∃v,(Instr.entry (.pointer (some ⟨r,0,none⟩))).run prog w=.ok (.tuple #[.int .i64 s,v]) w:=by
 obtain⟨es,clock,since,c0,seen,h1,h2,aD,hold,VG,hn,yE,AG,ND,hl⟩:=h.it;obtain⟨e,seen0,he,hk,rfl,rfl⟩:=hl s rfl;have:=run_entry_at (P:=prog) w r b since seen0 es c0 e h1 h2 he aD.2.1;rw[hk]at this;exact⟨_,this⟩
end
end
end Go.Proofs.YtjcninheccmpoaaGreat
