import Derived.Test.YtjcninheccmpoaaGreatM3
import Derived.Maps.Keyed
import Derived.Maps.RangeRun
import Derived.ChangeMaps5
import Derived.DataShut
set_option maxRecDepth 100000
set_option maxHeartbeats 8000000
set_option linter.all false
namespace Go.Proofs.YtjcninheccmpoaaGreat
open Go.RowKit Go.Proofs.Tryz
def i9:Int:=1099511627776
structure Hd where
 term:Int
 vote:Int
structure uw where
 idx:Int
 term:Int
 data:List UInt8
structure Mg where
 kind:Int
 frm:Int
 tgt:Int
 term:Int
 idx:Int
 logTerm:Int
 commit:Int
 round:Int
 reject:Bool
 offset:Int
 total:Int
 entries:List En
 data:List UInt8
structure Ot where
 save:Bool
 reset:Bool
 hard:Hd
 entries:List En
 commits:List En
 snap:Option uw
 reads:List (Int×Int)
 msgs:List Mg
structure Pr where
 next:Int
 mat:Int
 offset:Int
 round:Int
structure Wt where
 ctx:Int
 idx:Int
 round:Int
structure Gt where
 frm:Int
 idx:Int
 term:Int
 total:Int
 data:List UInt8
structure Rf where
 id:Nat
 n:Nat
 hard:Hd
 track:bB
 snap:uw
 commit:Int
 role:Int
 leader:Int
 clock:Int
 wait:Int
 yes:List Int
 peers:List Pr
 round:Int
 waits:List Wt
 gath:Gt
 out:Ot
def LX:uw:=⟨0,0,[]⟩
def cZ:Mg:=⟨0,0,0,0,0,0,0,0,false,0,0,[],[]⟩
def dZ:Ot:=⟨false,false,⟨0,0⟩,[],[],none,[],[]⟩
def Is:Pr:=⟨0,0,0,0⟩
def F2:Gt:=⟨0,0,0,0,[]⟩
namespace Rf
variable (R:Rf)
def tell:Ot×Rf:=({R.out with hard:=if R.out.save then R.hard else R.out.hard},{R with out:=dZ})
def send(m:Mg):Rf:={R with out:={R.out with msgs:=R.out.msgs++[{m with frm:=R.id,term:=if m.term=0 then R.hard.term else m.term}]}}
def save(l:List En):Rf:={R with out:={R.out with save:=true,entries:=R.out.entries++l}}
def peer(s:Nat):Pr:=R.peers[s]?.getD Is
def setPeer(s:Nat)(p:Pr):Rf:={R with peers:=R.peers.set s p}
def others:List Nat:=(List.range' 1 R.n).filter fun s=>decide (s≠R.id)
def lacks(s:Nat):Rf:=
 if(R.peer s).next-1<R.track.index then
  R.send {cZ with kind:=7,tgt:=s,idx:=R.snap.idx,logTerm:=R.snap.term,offset:=(R.peer s).offset,total:=R.snap.data.length,data:=(R.snap.data.drop (R.peer s).offset.toNat).take 160,round:=R.round}
 else R.send {cZ with kind:=5,tgt:=s,idx:=(R.peer s).next-1,logTerm:=(R.track.termF ((R.peer s).next-1)).1,entries:=R.track.sliceF (R.peer s).next 6,commit:=R.commit,round:=R.round}
def all:Rf:=R.others.foldl lacks R
def commits(k:Int):Rf:=if R.commit<k then {R with commit:=k,out:={R.out with commits:=R.out.commits++R.track.sliceF (R.commit+1) (k-R.commit)}}else R
def matchL(own:Int)(f:Pr->Int):List Int:=(List.range' 1 R.n).map fun s=>if s=R.id then own else f (R.peer s)
def agreesTo:Int:=eO R.n (R.matchL R.track.lastF.1 Pr.mat)
def agrees:Rf:=if R.commit<R.agreesTo/\R.track.termF R.agreesTo=(R.hard.term,0)then R.commits R.agreesTo else R
def crown:Rf:={R with role:=3,leader:=R.id,clock:=0,peers:=List.replicate (R.n+1) ⟨R.track.lastF.1+1,0,0,0⟩,round:=1,waits:=[]}
def leads1:Rf:=let p:=R.crown.track.putF R.crown.hard.term gk;if p.1.2=0 then {R.crown with track:=p.2}.save [p.1.1]else {R.crown with track:=p.2}
def leads:Rf:=R.leads1.all.agrees
def stands1:Rf:={R with hard:=⟨R.hard.term+1,R.id⟩,role:=2,leader:=0,yes:=[],out:={R.out with save:=true}}
def stands2:Rf:=R.stands1.others.foldl (fun R' (s:Nat)=>R'.send {cZ with kind:=3,tgt:=(s:Int),idx:=R.track.lastF.1,logTerm:=R.track.lastF.2}) R.stands1
def says(s:Int):Rf:={R with yes:=R.yes++[s]}
def won:Bool:=lz R.n R.yes
def stands:Rf:=if(R.stands2.says R.id).won then(R.stands2.says R.id).leads else R.stands2.says R.id
def asks1:Rf:={R with role:=1,leader:=0,yes:=[]}
def asks2:Rf:=R.asks1.others.foldl (fun R' (s:Nat)=>R'.send {cZ with kind:=1,tgt:=(s:Int),term:=R.hard.term+1,idx:=R.track.lastF.1,logTerm:=R.track.lastF.2}) R.asks1
def asks:Rf:=if(R.asks2.says R.id).won then(R.asks2.says R.id).stands else R.asks2.says R.id
def rest:Rf:={R with clock:=0,wait:=0}
def beats(draw:Int):Rf:=
 let R:={R with clock:=R.clock+1}
 if R.role=3 then
  if 2<=R.clock then {R with clock:=0,round:=R.round+1}.all else R
 else
  let R:=if R.wait=0 then {R with wait:=gG draw}else R
  if R.wait<=R.clock then
   if R.hard.term<i9 then R.rest.asks else R.rest
  else R
def tick(draw:Int):Ot×Rf:=(R.beats draw).tell
def numOk(k:Int):Bool:=decide (0<=k)&&decide (k<=i9)
def right(m:Mg):Bool:=(numOk m.idx&&numOk m.logTerm&&numOk m.commit&&numOk m.round&&numOk m.offset&&numOk m.total) &&
 decide ((1<=m.kind/\m.kind<=8)/\m.tgt=R.id/\(1<=m.frm/\m.frm<=R.n)/\m.frm≠R.id/\(1<=m.term/\m.term<=i9)/\m.entries.length<=6/\m.data.length<=160)
def follows(t:Int):Rf:={R with hard:=⟨t,0⟩,role:=0,leader:=0,waits:=[],out:={R.out with save:=true}}
def newer(m:Mg):Bool:=gf m.idx m.logTerm R.track.lastF.1 R.track.lastF.2
def asked(m:Mg):Rf:=
 if(R.role≠3/\(R.leader=0\/10<=R.clock))/\R.hard.term<m.term/\R.newer m=true then R.send {cZ with kind:=2,tgt:=m.frm,term:=m.term}
 else R.send {cZ with kind:=2,tgt:=m.frm,reject:=true}
def votes(m:Mg):Rf:=
 if(R.hard.vote=0\/R.hard.vote=m.frm)/\R.newer m=true then
  {R.rest with hard:=⟨R.hard.term,m.frm⟩,out:={R.out with save:=true}}.send {cZ with kind:=4,tgt:=m.frm,reject:=false}
 else R.send {cZ with kind:=4,tgt:=m.frm,reject:=true}
def hears(m:Mg):Rf:={R.rest with role:=0,leader:=m.frm}
def appends(m:Mg):Rf:=
 if m.idx<R.commit then R.send {cZ with kind:=6,tgt:=m.frm,idx:=R.commit,round:=m.round}
 else
  let p:=R.track.takeF m.idx m.logTerm m.entries
  if p.1.2=false then R.send {cZ with kind:=6,tgt:=m.frm,reject:=true,idx:=R.track.hintF m.idx m.logTerm,round:=m.round}
  else
   let R1:Rf:=if 0<p.1.1 then {R with track:=p.2}.save (p.2.sliceF p.1.1 m.entries.length)else {R with track:=p.2}
   (R1.commits (min m.commit (m.idx+m.entries.length))).send {cZ with kind:=6,tgt:=m.frm,idx:=m.idx+m.entries.length,round:=m.round}
def install(x:uw):Rf:=
 let R1:Rf:=if R.track.termF x.idx=(x.term,0)then {R with track:=(R.track.dropF x.idx).2}else {R with track:=⟨x.idx,x.term,[]⟩,out:={R.out with reset:=true}}
 {R1 with snap:=x,commit:=x.idx,gath:=F2,out:={R1.out with snap:=some x,save:=true}}
def gath1(m:Mg):Gt:=
 let g:=if R.gath.frm=m.frm/\R.gath.idx=m.idx/\R.gath.term=m.logTerm/\R.gath.total=m.total/\m.offset≠0 then R.gath else⟨m.frm,m.idx,m.logTerm,m.total,[]⟩
 if m.offset=g.data.length/\g.data.length+m.data.length<=m.total then {g with data:=g.data++m.data}else g
def piece(m:Mg):Rf:=
 if m.idx=0\/m.logTerm=0\/¬(1<=m.total/\m.total<=65536)then R
 else if m.idx<=R.commit then R.send {cZ with kind:=8,tgt:=m.frm,idx:=R.commit,round:=m.round}
 else
  let g:=R.gath1 m
  let R1:Rf:={R with gath:=g}
  if g.data.length<m.total then R1.send {cZ with kind:=8,tgt:=m.frm,idx:=m.idx,round:=m.round,offset:=g.data.length,total:=m.total}
  else(R1.install ⟨m.idx,m.logTerm,g.data⟩).send {cZ with kind:=8,tgt:=m.frm,idx:=m.idx,round:=m.round}
def has(s:Nat)(index:Int):Rf:=
 let p:=R.peer s
 let last:=R.track.lastF.1
 let mat:=max p.mat (min index last)
 let next:=max p.next (mat+1)
 let R1:=(R.setPeer s ⟨next,mat,if R.track.index<=mat then 0 else p.offset,p.round⟩).agrees
 if next<=last then R1.lacks s else R1
def answered(m:Mg):Rf:=
 let s:=m.frm.toNat
 let p:=R.peer s
 let R1:=R.setPeer s {p with round:=max p.round (min m.round R.round)}
 let p:=R1.peer s
 if m.kind=8/\0<m.total then
  if m.idx=R.snap.idx/\p.next-1<R.snap.idx then(R1.setPeer s {p with offset:=min m.offset R.snap.data.length}).lacks s else R1
 else if m.kind=6/\m.reject=true then(R1.setPeer s {p with next:=max (p.mat+1) (min (p.next-1) (m.idx+1))}).lacks s
 else R1.has s m.idx
def does(m:Mg):Rf:=
 if m.kind=1 then R.asked m
 else if m.kind=2 then
  if m.reject=false/\m.term=R.hard.term+1/\R.role=1 then(if(R.says m.frm).won then(R.says m.frm).stands else R.says m.frm)else R
 else if m.kind=3 then R.votes m
 else if m.kind=4 then
  if m.reject=false/\R.role=2 then(if(R.says m.frm).won then(R.says m.frm).leads else R.says m.frm)else R
 else if m.kind=5 then(if R.role≠3 then(R.hears m).appends m else R)
 else if m.kind=7 then(if R.role≠3 then(R.hears m).piece m else R)
 else if m.kind=8/\m.reject=true then R
 else if R.role=3 then R.answered m else R
def readsTo:Int:=eO R.n (R.matchL R.round Pr.round)
def reads:Rf:={R with waits:=R.waits.filter (fun x=>decide (R.readsTo<x.round)),out:={R.out with reads:=R.out.reads++(R.waits.filter (fun x=>decide (x.round<=R.readsTo))).map fun x=>(x.ctx,x.idx)}}
def late(m:Mg):Rf:=if m.kind=3\/m.kind=5\/m.kind=7 then R.send {cZ with kind:=m.kind+1,tgt:=m.frm,reject:=true,round:=m.round}else R
def step(m:Mg):Ot×Rf:=
 if R.right m=false then(dZ,R)
 else
  let R1:=if R.hard.term<m.term/\m.kind≠1/\(m.kind≠2\/m.reject=true)then R.follows m.term else R
  if m.term<R1.hard.term/\m.kind≠1 then(R1.late m).tell
  else
   let R2:=R1.does m
   (if R2.role=3 then R2.reads else R2).tell
def propose(c:En):(En×Int×Ot)×Rf:=
 if R.role≠3 then((gk,40,dZ),R)
 else
  let p:=R.track.putF R.hard.term c
  if p.1.2≠0 then((gk,p.1.2,dZ),{R with track:=p.2})
  else
   let o:=({R with track:=p.2}.save [p.1.1]).all.agrees.tell
   ((p.1.1,0,o.1),o.2)
def read(ctx:Int):(Int×Ot)×Rf:=
 if R.role≠3\/(R.track.termF R.commit).1≠R.hard.term then((40,dZ),R)
 else if numOk ctx=false then((1,dZ),R)
 else if 16<=R.waits.length then((41,dZ),R)
 else
  let o:=({R with round:=R.round+1,waits:=R.waits++[Wt.mk ctx R.commit (R.round+1)]:Rf}.all.reads).tell
  ((0,o.1),o.2)
def compact(index:Int)(data:List UInt8):Int×Rf:=
 if ¬(1<=data.length/\data.length<=65536)then(1,R)
 else if R.commit<index then(33,R)
 else if index<=R.track.index then(0,R)
 else(0,{R with snap:=⟨index,(R.track.termF index).1,data⟩,track:=(R.track.dropF index).2,peers:=R.peers.map fun p=>{p with offset:=0}})
end Rf
structure qm where
 hard:Hd
 snap:uw
 entries:List En
def fe(x:uw):Bool:=if x.idx=0/\x.term=0 then decide (x.data.length=0)else decide ((1<=x.idx/\x.idx<=i9)/\(1<=x.term/\x.term<=i9)/\1<=x.data.length/\x.data.length<=65536)
def Rf.new(id n:Int)(s:qm):Option Rf:=
 if ¬((1<=n/\n<=7)/\(1<=id/\id<=n)/\(0<=s.hard.term/\s.hard.term<=i9)/\(0<=s.hard.vote/\s.hard.vote<=n)/\fe s.snap=true)then none
 else
  let p:=bB.takeF (bB.mk s.snap.idx s.snap.term []) s.snap.idx s.snap.term (s.entries.filter fun x=>decide (s.snap.idx<x.idx))
  if p.1.2=false\/s.hard.term<p.2.lastF.2 then none
  else some (Rf.mk id.toNat n.toNat s.hard p.2 s.snap s.snap.idx 0 0 0 0 [] [] 0 [] F2 dZ)
def aQ(aa:Nat->Nat)(i:Nat)(j:Nat):Prop:=aa j=i
def ai(aa:Nat->Nat)(B i:Nat):Nat->Nat:=fun j=>if B<=j then i else aa j
def VP(aa:Nat->Nat)(i k:Nat):Nat->Nat:=fun j=>if aa j=i then k else aa j
theorem ac{aa:Nat->Nat}{B i j:Nat}(h:j<B):ai aa B i j=aa j:=if_neg (by omega)
theorem ay{aa:Nat->Nat}{B i j:Nat}(h:B<=j):ai aa B i j=i:=if_pos h
section
variable {aa ak:Nat->Nat}{i k:Nat}{w w':World}
theorem Fr.other(h:Fr (aQ aa i) w w')(hk:k≠i):∀j,aa j=k->j<w.heap.size->w'.heap[j]?=w.heap[j]?:=fun j hj hl=>h.block j hl fun(e:aa j=i)=>hk (hj.symm.trans e)
def bQ(aa:Nat->Nat)(i:Nat)(w:World)(T:TypeId)(size:Nat)(v:Value)(n:Nat)(xs:List Value):Prop:=
 ∃A c,v=.slice A n c/\w.ownsRow 0 T size (.slice A n c) n xs/\∀j,az A j->aa j=i
theorem bQ.keep{T:TypeId}{size n:Nat}{v:Value}{xs:List Value}(h:bQ aa i w T size v n xs)(hk:∀j,aa j=i->j<w.heap.size->w'.heap[j]?=w.heap[j]?):bQ aa i w' T size v n xs:=by
 obtain⟨A,c,e,h1,h2⟩:=h;exact⟨A,c,e,cH h1 fun j hj hl=>hk j (h2 j hj) hl,h2⟩
theorem bQ.relabel{T:TypeId}{size n:Nat}{v:Value}{xs:List Value}(h:bQ aa i w T size v n xs)(hl:∀j,j<w.heap.size->aa j=i->ak j=k):bQ ak k w T size v n xs:=by
 obtain⟨A,c,e,h1,h2⟩:=h;exact⟨A,c,e,h1,fun j hj=>hl j (aB h1 A c rfl j hj).1 (h2 j hj)⟩
theorem bQ.nil(aa:Nat->Nat)(i:Nat)(w:World)(T:TypeId)(size:Nat):bQ aa i w T size (.slice none 0 0) 0 []:=⟨none,0,rfl,b9 _ _,fun j h=>by obtain⟨_,h,_⟩:=h;cases h⟩
def bM(aa:Nat->Nat)(i:Nat)(w:World)(v:Value)(l:List UInt8):Prop:=Sl (aQ aa i) w 1 v l.length (l.map vb)
theorem bM.keep{v:Value}{l:List UInt8}(h:bM aa i w v l)(hk:∀j,aa j=i->j<w.heap.size->w'.heap[j]?=w.heap[j]?):bM aa i w' v l:=Sl.keep h hk
theorem bM.relabel{v:Value}{l:List UInt8}(h:bM aa i w v l)(hl:∀j,j<w.heap.size->aa j=i->ak j=k):bM ak k w v l:=Sl.mono h (by omega) hl
theorem bM.nil(aa:Nat->Nat)(i:Nat)(w:World):bM aa i w (.slice none 0 0) []:=Sl.nil _ _ _
def cN(aa:Nat->Nat)(i:Nat)(w:World)(v:Value)(L:List En):Prop:=
 ∃(A:Option Addr) (n c:Nat) (zs:List (Value×En)),v=.slice A n c/\fu w A n zs/\bq (aQ aa i) w zs/\zs.map (·.2)=L/\n<=c/\c<=maxLen/\(0<n->∀j,az A j->aa j=i)
theorem cN.keep{v:Value}{L:List En}(h:cN aa i w v L)(hk:∀j,aa j=i->j<w.heap.size->w'.heap[j]?=w.heap[j]?):cN aa i w' v L:=by
 obtain⟨A,n,c,zs,h1,h2,h3,h4,h5,h6,h7⟩:=h;exact⟨A,n,c,zs,h1,cn.stay (S:=aQ aa i) h2 (fun h0 ad e=>h7 h0 _ ⟨ad,e,rfl⟩) hk,h3.keep hk,h4,h5,h6,h7⟩
theorem cN.relabel{v:Value}{L:List En}(h:cN aa i w v L)(hl:∀j,j<w.heap.size->aa j=i->ak j=k):cN ak k w v L:=by
 obtain⟨A,n,c,zs,h1,h2,h3,h4,h5,h6,h7⟩:=h;refine⟨A,n,c,zs,h1,h2,h3.mono hl,h4,h5,h6,fun h0 j hj=>?_⟩;obtain⟨ad,e,rfl⟩:=hj;exact hl _ (cn.lt h2 h0 (by omega) e) (h7 h0 _ ⟨ad,e,rfl⟩)
theorem cN.nil(aa:Nat->Nat)(i:Nat)(w:World):cN aa i w (.slice none 0 0) []:=⟨none,0,0,[],rfl,cn.none_,fun z hz=>(by cases hz),rfl,Nat.le_refl _,Nat.zero_le _,fun h=>absurd h (by omega)⟩
theorem cN.of_new{B n c:Nat}{A:Option Addr}{zs:List (Value×En)}{L:List En}(h:gi B w A n c zs L)(hl:∀j,B<=j->j<w.heap.size->aa j=i):cN aa i w (.slice A n c) L:=by
 have hb:=bA h.1;refine⟨A,n,c,zs,rfl,cn.of_own h.1,h.2.1.mono fun j hj hn=>hl j hn.1 hj,h.2.2,hb.1,hb.2,fun _ j hj=>?_⟩;have:=aB h.1 A c rfl j hj;exact hl j this.2.1 this.1
def dU(aa:Nat->Nat)(i q:Nat)(w:World)(v:Value)(L:List En):Prop:=
 ∃zs:List (Value×En),bQ aa i w 59 6 v L.length (zs.flatMap bY)/\bq (aQ aa q) w zs/\zs.map (·.2)=L
theorem dU.keep{q:Nat}{v:Value}{L:List En}(h:dU aa i q w v L)(hk:∀j,aa j=i->j<w.heap.size->w'.heap[j]?=w.heap[j]?)(hq:∀j,aa j=q->j<w.heap.size->w'.heap[j]?=w.heap[j]?):dU aa i q w' v L:=by
 obtain⟨zs,h1,h2,h3⟩:=h;exact⟨zs,h1.keep hk,h2.keep hq,h3⟩
theorem dU.relabel{q r:Nat}{v:Value}{L:List En}(h:dU aa i q w v L)(hl:∀j,j<w.heap.size->aa j=i->ak j=k)(hq:∀j,j<w.heap.size->aa j=q->ak j=r):dU ak k r w v L:=by
 obtain⟨zs,h1,h2,h3⟩:=h;exact⟨zs,h1.relabel hl,h2.mono hq,h3⟩
theorem dU.nil(aa:Nat->Nat)(i q:Nat)(w:World):dU aa i q w (.slice none 0 0) []:=⟨[],bQ.nil _ _ _ _ _,fun z hz=>(by cases hz),rfl⟩
def yL(z:(Value×Value)×Mg):List Value:=
 [vi z.2.kind,vi z.2.frm,vi z.2.tgt,vi z.2.term,vi z.2.idx,vi z.2.logTerm,vi z.2.commit,vi z.2.round,.bool z.2.reject,vi z.2.offset,vi z.2.total,z.1.1,z.1.2]
theorem CN(z:(Value×Value)×Mg):(yL z).length=13:=rfl
def eH(m:Mg)(ve vd:Value):Value:=.agg #[vi m.kind,vi m.frm,vi m.tgt,vi m.term,vi m.idx,vi m.logTerm,vi m.commit,vi m.round,.bool m.reject,vi m.offset,vi m.total,ve,vd]
def kJ(aa:Nat->Nat)(i:Nat)(w:World)(z:(Value×Value)×Mg):Prop:=cN aa i w z.1.1 z.2.entries/\bM aa i w z.1.2 z.2.data
theorem kJ.keep{z:(Value×Value)×Mg}(h:kJ aa i w z)(hk:∀j,aa j=i->j<w.heap.size->w'.heap[j]?=w.heap[j]?):kJ aa i w' z:=⟨h.1.keep hk,h.2.keep hk⟩
theorem kJ.relabel{z:(Value×Value)×Mg}(h:kJ aa i w z)(hl:∀j,j<w.heap.size->aa j=i->ak j=k):kJ ak k w z:=⟨h.1.relabel hl,h.2.relabel hl⟩
def iE(aa:Nat->Nat)(i q:Nat)(w:World)(v:Value)(ms:List Mg):Prop:=
 ∃zs:List ((Value×Value)×Mg),bQ aa i w 39 13 v ms.length (zs.flatMap yL)/\(∀z∈zs,kJ aa q w z)/\zs.map (·.2)=ms
theorem iE.keep{q:Nat}{v:Value}{ms:List Mg}(h:iE aa i q w v ms)(hk:∀j,aa j=i->j<w.heap.size->w'.heap[j]?=w.heap[j]?)(hq:∀j,aa j=q->j<w.heap.size->w'.heap[j]?=w.heap[j]?):iE aa i q w' v ms:=by
 obtain⟨zs,h1,h2,h3⟩:=h;exact⟨zs,h1.keep hk,fun z hz=>(h2 z hz).keep hq,h3⟩
theorem iE.relabel{q r:Nat}{v:Value}{ms:List Mg}(h:iE aa i q w v ms)(hl:∀j,j<w.heap.size->aa j=i->ak j=k)(hq:∀j,j<w.heap.size->aa j=q->ak j=r):iE ak k r w v ms:=by
 obtain⟨zs,h1,h2,h3⟩:=h;exact⟨zs,h1.relabel hl,fun z hz=>(h2 z hz).relabel hq,h3⟩
theorem iE.nil(aa:Nat->Nat)(i q:Nat)(w:World):iE aa i q w (.slice none 0 0) []:=⟨[],bQ.nil _ _ _ _ _,fun z hz=>(by cases hz),rfl⟩
def tE(aa:Nat->Nat)(i:Nat)(w:World)(v:Value)(t:bB):Prop:=
 ∃(g:Nat) (S:Nat->Prop) (A:Option Addr) (n c:Nat) (zs:List (Value×En)),v=.pointer (some ⟨g,0,none⟩)/\cS 0 S w g t A n c zs/\∀j,(j=g\/az A j\/S j)->aa j=i
theorem tE.keep{v:Value}{t:bB}(h:tE aa i w v t)(hk:∀j,aa j=i->j<w.heap.size->w'.heap[j]?=w.heap[j]?):tE aa i w' v t:=by
 obtain⟨g,S,A,n,c,zs,h1,h2,h3⟩:=h;exact⟨g,S,A,n,c,zs,h1,h2.keep fun j hj hl=>hk j (h3 j hj) hl,h3⟩
def tT(aa:Nat->Nat)(i:Nat)(w:World)(v:Value)(x:Option uw):Prop:=
 match x with
 | none=>v=.pointer none
 | some s=>∃(g:Nat) (vd:Value),v=.pointer (some ⟨g,0,none⟩)/\aa g=i/\ar w g 26 #[vi s.idx,vi s.term,vd]/\bM aa i w vd s.data
theorem tT.keep{v:Value}{x:Option uw}(h:tT aa i w v x)(hk:∀j,aa j=i->j<w.heap.size->w'.heap[j]?=w.heap[j]?):tT aa i w' v x:=by
 cases x with
 | none=>exact h
 | some s=>
  obtain⟨g,vd,h1,h2,h3,h4⟩:=h;exact⟨g,vd,h1,h2,(hk g h2 h3.lt).trans h3,h4.keep hk⟩
end
def tK(l:List Int)(k:Nat):Int:=max 0 (l[k]?.getD 0)
theorem FU(k:Nat)(A:Option Addr)(m c:Nat)(l:List Int)(w:World)(hl:fB w A m l)(hk:k<7) :
  Calls prog 143 #[.slice A m c,.int .i64 (k+1:Nat)] w fun e w'=>e=.returned (.int .i64 (tK l k))/\w=w':=by
 have ah:=hl.len;have cl:((k+1:Nat):Int)-1=(k:Nat):=by omega
 by_cases Ro:k<m
 ·obtain⟨ad,rfl,hc⟩:=hl.at_ Ro;have Hv:=zH (show tK l k=max 0 (l[k]?.getD 0)from rfl);generalize l[k]?.getD 0=x at *;have hw:wrap64 (((k+1:Nat):Int)-1)=(k:Nat):=by unfold wrap64;omega
  generalize hs:((k+1:Nat):Int)=s at *;have rl:1<=s:=by omega
  have RY:s<=7:=by omega
  clear hs;by_cases hx:x<0
  ·go_enter func143,ntmps143;go_wp2_with fail;go_ret;exact⟨by rw[Hv.out,Int.max_eq_left (by omega)];rfl,rfl⟩
  ·go_enter func143,ntmps143;go_wp2_with fail;go_ret;exact⟨by rw[Hv.out,Int.max_eq_right (by omega)];rfl,rfl⟩
 ·have Hv:=zH (show tK l k=0 by unfold tK;rw[List.getElem?_eq_none (by omega)];rfl);go_enter func143,ntmps143;go_wp2_with fail;go_ret;exact⟨by rw[Hv.out];rfl,rfl⟩
def kX(l:List Int)(v:Int)(k:Nat):List Int:=((List.range k).filter fun i=>decide (v<=tK l i)).map fun i=>((i+1:Nat):Int)
theorem H9{l:List Int}{v:Int}{k:Nat}(h:v<=tK l k):kX l v (k+1)=kX l v k++[((k+1:Nat):Int)]:=by
 unfold kX;rw[List.range_succ,List.filter_append,List.filter_cons_of_pos (by exact decide_eq_true h),List.filter_nil,List.map_append];rfl
theorem JP{l:List Int}{v:Int}{k:Nat}(h:¬v<=tK l k):kX l v (k+1)=kX l v k:=by
 unfold kX;rw[List.range_succ,List.filter_append,List.filter_cons_of_neg (by simpa using h),List.filter_nil,List.append_nil]
theorem Id(l:List Int)(v:Int)(k:Nat):(kX l v k).length<=k:=by
 unfold kX;rw[List.length_map];exact Nat.le_trans (List.length_filter_le _ _) (by simp)
def JJ(N:Nat)(l:List Int)(v:Int):Bool:=lz N (kX l v N)
def qF(N:Nat)(l:List Int)(k:Nat)(b:Int):Prop:=(b=0\/∃i,i<k/\JJ N l (tK l i)=true/\b=tK l i)/\0<=b/\∀i,i<k->JJ N l (tK l i)=true->tK l i<=b
theorem qF.start(N:Nat)(l:List Int):qF N l 0 0:=⟨.inl rfl,Int.le_refl _,fun _ h=>absurd h (Nat.not_lt_zero _)⟩
theorem qF.up{N:Nat}{l:List Int}{k:Nat}{b:Int}(h:qF N l k b)(h1:JJ N l (tK l k)=true)(h2:b<tK l k):qF N l (k+1) (tK l k):=by
 refine⟨.inr ⟨k,Nat.lt_succ_self _,h1,rfl⟩,by have:=h.2.1;omega,fun i hi ho=>?_⟩;rcases Nat.lt_succ_iff_lt_or_eq.1 hi with hi|rfl
 ·exact Int.le_of_lt (Int.lt_of_le_of_lt (h.2.2 i hi ho) h2)
 ·exact Int.le_refl _
theorem qF.on{N:Nat}{l:List Int}{k:Nat}{b:Int}(h:qF N l k b)(h1:JJ N l (tK l k)=true->tK l k<=b):qF N l (k+1) b:=by
 refine⟨?_,h.2.1,fun i hi ho=>?_⟩
 ·rcases h.1 with h0|⟨i,hi,ho,hb⟩
  ·exact .inl h0
  ·exact .inr ⟨i,by omega,ho,hb⟩
 ·rcases Nat.lt_succ_iff_lt_or_eq.1 hi with hi|rfl
  ·exact h.2.2 i hi ho
  ·exact h1 ho
theorem DO(l:List Int):(tz l).Perm l:=List.mergeSort_perm l _
theorem yu(l:List Int):(tz l).Pairwise fun x y=>decide (x<=y)=true:=
 List.pairwise_mergeSort (le:=fun(x y:Int)=>decide (x<=y)) (fun a b c h1 h2=>decide_eq_true (Int.le_trans (of_decide_eq_true h1) (of_decide_eq_true h2))) (fun a b=>by rcases Int.le_total a b with h|h <;> simp[h]) l
theorem Mh(N:Nat)(l:List Int)(hN:1<=N):∃S:List Int,S.length=N/\S.Perm (oJ N l)/\(∀i j (hi:i<S.length) (hj:j<S.length),i<j->S[i]<=S[j])/\∃h:N-(N/2+1)<S.length,F9 N l=S[N-(N/2+1)]:=by
 have hl:(tz (oJ N l)).length=N:=by rw[nU];simp[oJ]
 refine⟨tz (oJ N l),hl,DO _,fun i j hi hj Ju=>of_decide_eq_true ((List.pairwise_iff_getElem.1 (yu (oJ N l))) i j hi hj Ju),by omega,?_⟩;unfold F9;rw[List.getElem?_eq_getElem (by omega)];rfl
theorem EO(N:Nat)(l:List Int)(v:Int):ly N (kX l v N)=(oJ N l).countP fun x=>decide (v<=x):=by
 unfold ly oJ;rw[List.countP_map,List.countP_eq_length_filter];refine congrArg List.length (List.filter_congr fun i hi=>?_);have hi:=List.mem_range.1 hi;rw[Bool.eq_iff_iff,decide_eq_true_eq];show _↔decide (v<=tK l i)=true;rw[decide_eq_true_eq];unfold kX;rw[List.mem_map];constructor
 ·rintro⟨j,hj,e⟩;obtain rfl:j=i:=by omega
  exact of_decide_eq_true (List.mem_filter.1 hj).2
 ·intro h;exact⟨i,List.mem_filter.2 ⟨List.mem_range.2 hi,decide_eq_true h⟩,rfl⟩
theorem CE{N:Nat}(h:1<=N/\N<=7)(l:List Int)(v:Int):JJ N l v=true↔N/2+1<=(oJ N l).countP fun x=>decide (v<=x):=by
 unfold JJ lz;rw[decide_eq_true_eq,Int.toNat_natCast,EO];omega
theorem GB(S:List Int)(hS:∀i j (hi:i<S.length) (hj:j<S.length),i<j->S[i]<=S[j])(j:Nat)(hj:j<S.length):S.length-j<=S.countP fun x=>decide (S[j]<=x):=by
 have e:S.countP (fun x=>decide (S[j]<=x))=(S.take j).countP (fun x=>decide (S[j]<=x))+(S.drop j).countP (fun x=>decide (S[j]<=x)):=by
  rw[<-List.countP_append,List.take_append_drop]
 have h2:(S.drop j).countP (fun x=>decide (S[j]<=x))=(S.drop j).length:=by
  rw[List.countP_eq_length];intro x hx;obtain⟨i,hi,rfl⟩:=List.getElem_of_mem hx;rw[List.getElem_drop];refine decide_eq_true ?_;rcases Nat.eq_zero_or_pos i with h0|h0
  ·subst h0;exact Int.le_refl _
  ·exact hS j (j+i) hj (by rw[List.length_drop]at hi;omega) (by omega)
 rw[e,h2,List.length_drop];omega
theorem Gb(S:List Int)(hS:∀i j (hi:i<S.length) (hj:j<S.length),i<j->S[i]<=S[j])(j:Nat)(hj:j<S.length)(v:Int)(hv:S[j]<v):(S.countP fun x=>decide (v<=x))<=S.length-j-1:=by
 have e:S.countP (fun x=>decide (v<=x))=(S.take (j+1)).countP (fun x=>decide (v<=x))+(S.drop (j+1)).countP (fun x=>decide (v<=x)):=by
  rw[<-List.countP_append,List.take_append_drop]
 have h1:(S.take (j+1)).countP (fun x=>decide (v<=x))=0:=by
  rw[List.countP_eq_zero];intro x hx;obtain⟨i,hi,rfl⟩:=List.getElem_of_mem hx;rw[List.getElem_take];have Ju:i<j+1:=by rw[List.length_take]at hi;omega
  have:S[i]'(by omega)<=S[j]:=by
   rcases Nat.lt_succ_iff_lt_or_eq.1 Ju with h|rfl
   ·exact hS i j (by omega) hj h
   ·exact Int.le_refl _
  simp only[decide_eq_true_eq];omega
 have h2:(S.drop (j+1)).countP (fun x=>decide (v<=x))<=(S.drop (j+1)).length:=List.countP_le_length;rw[List.length_drop]at h2;omega
theorem sH{N:Nat}(h:1<=N/\N<=7){l:List Int}{b:Int}(hb:qF N l N b):b=F9 N l:=by
 obtain⟨S,hSl,hp,hS,hj,ha⟩:=Mh N l h.1;have cnt:∀v,((oJ N l).countP fun x=>decide (v<=x))=S.countP fun x=>decide (v<=x):=fun v=>(hp.countP_eq _).symm
 obtain⟨i,hi,e⟩:∃i,i<N/\tK l i=S[N-(N/2+1)]:=by
  have:S[N-(N/2+1)]∈oJ N l:=hp.mem_iff.1 (List.getElem_mem _);obtain⟨i,hi,e⟩:=List.mem_map.1 this;exact⟨i,List.mem_range.1 hi,e⟩
 have hx:JJ N l (tK l i)=true:=by
  rw[CE h,cnt,e];have:=GB S hS _ hj;omega
 have h1:=hb.2.2 i hi hx;have h0:0<=tK l i:=Int.le_max_left _ _;rw[ha];refine Int.le_antisymm ?_ (by omega);rcases hb.1 with hz|⟨k,hk,ho,rfl⟩
 ·omega
 ·rw[CE h,cnt]at ho;refine Int.not_lt.1 fun aU=>?_
  have:=Gb S hS _ hj _ aU;omega
theorem nd(n:Int)(A:Option Addr)(m c:Nat)(l:List Int)(w:World)(hl:fB w A m l) :
  Calls prog 120 #[.int .i64 n,.slice A m c] w fun e w'=>e=.returned (.int .i64 (eO n l))/\Below w.heap.size w w':=by
 have ah:=hl.len;by_cases h:1<=n/\n<=7
 ·obtain⟨N,rfl⟩:∃N:Nat,n=N:=⟨n.toNat,by omega⟩;have Hw:=zH (jL h l);have Hb:=zH (fun b (hb:qF N l N b)=>sH (by omega) hb);have Yw:1<=N:=by omega
  have Wn:N<=7:=by omega
  have qk:=h.2;clear h;go_enter func120,ntmps120;go_wp2_with fail
  go_loopw [5,6] (fun b s wr=>∃(k:Nat) (x:Int),k<=N/\s=.int .i64 (k+1:Nat)/\b=.int .i64 x/\qF N l k x/\Below w.heap.size w wr) (fun _ s _=>(N+1-intOf s).toNat)
  case atStart=>exact⟨0,0,Nat.zero_le _,rfl,rfl,qF.start N l,Below.refl _ _⟩
  case round=>
   obtain⟨k,x,hk,rfl,rfl,mZ,hb⟩:=hrel;by_cases aU:k<N
   ·have Hm:=zH (Gp aU rfl);have hs:=zH (show((k+1:Nat):Int)<=N by omega);have El:=FU k A m c l wr (hl.below hb) (by omega);have wk:=zH (Bf rfl (show k<7 by omega));have wp:=zH (show((k+1:Nat):Int)+1=((k+1+1:Nat):Int) by omega);generalize((k+1:Nat):Int)=s at *;have hsN:s<=N:=hs.out;clear hs;go_wp2_with fail;refine El.mono ?_;rintro e w' ⟨rfl,rfl⟩;clear El;have Hup:=zH (fun h1 h2=>mZ.up h1 h2);have Hon:=zH (fun h1=>mZ.on h1);clear mZ;generalize hv:tK l k=v at *;clear hv;go_wp2_with fail
    go_loopw [8,9] (fun h p wr'=>∃(j:Nat) (A':Option Addr) (c':Nat),j<=N/\p=.int .i64 (j+1:Nat)/\h=.slice A' (kX l v j).length c'/\
     wr'.ownsRow w.heap.size 3 1 (.slice A' (kX l v j).length c') (kX l v j).length ((kX l v j).map vi)/\Below w.heap.size w wr') (fun _ p _=>(N+1-intOf p).toNat)
    case atStart=>exact⟨0,none,0,Nat.zero_le _,rfl,rfl,b9 _ _,hb⟩
    case round=>
     obtain⟨j,A',c',hj,rfl,rfl,aD,My⟩:=hrel;clear hb
     rename World=>wj
     by_cases nj:j<N
     ·have Hmj:=zH (Gp nj rfl);have Vl:=zH (show((j+1:Nat):Int)<=N by omega);have El:=FU j A m c l wj (hl.below My) (by omega);have wkj:=zH (Bf rfl (show j<7 by omega));have wpj:=zH (show((j+1:Nat):Int)+1=((j+1+1:Nat):Int) by omega);have Hyes:=zH (fun h=>H9 (l:=l) (v:=v) (k:=j) h);have Hno:=zH (fun h=>JP (l:=l) (v:=v) (k:=j) h);have SN:=Id l v j;have gu:=My.size;generalize hp:((j+1:Nat):Int)=p at *;have Z5:p<=N:=Vl.out;clear Vl;go_wp2_with fail;refine El.mono ?_;rintro e w' ⟨rfl,rfl⟩;clear El;generalize tK l j=u at *;by_cases Vv:v<=u
      ·have hh:=Hyes.out Vv;clear Hyes Hno;generalize kX l v j=hs at *;have qh:=bf aD ((Below.refl wj.heap.size wj).alloc zl (.cells #[.int .i64 p] 3));have Zg:=fB.lit wj 3 (0,0) [p] #[.int .i64 p] 1 wj.heap.size rfl rfl rfl;have Ug:w.heap.size<=(wj.alloc (.cells #[.int .i64 p] 3)).heap.size:=by simp only[World.alloc,Array.size_push];omega
       have dH:=My.alloc gu (.cells #[.int .i64 p] 3);go_wp2_with (at_builtin;refine bi rfl (.tmp 33) (.tmp 35) rfl w.heap.size rfl qh rfl Zg (by omega) Ug ?_;intro A3 c3 w3 bF gK bS)
       first|rw[wkj.out] | rw[wpj.out]
       refine⟨⟨j+1,A3,c3,nj,rfl,?_,?_,dH.trans bS⟩,Hmj.out⟩
       ·rw[hh,List.length_append];rfl
       ·rw[hh,List.length_append];exact bF
      ·have hh:=Hno.out (Int.not_le.1 Vv);clear Hyes Hno;go_wp2_with fail
       first|rw[wkj.out] | rw[wpj.out]
       exact⟨⟨j+1,A',c',nj,rfl,by rw[hh],by rw[hh];exact aD,My⟩,Hmj.out⟩
     ·obtain rfl:j=N:=by omega
      have Dl:=bA aD;have nm:=sV j A' (kX l v j).length c' (kX l v j) wj (fB.of_own aD) Dl.2 Dl.1;have Hok:=zH (show lz j (kX l v j)=JJ j l v from rfl);rw[Hok.out]at nm;go_wp2_with fail;refine nm.mono ?_;rintro e w' ⟨rfl,rfl⟩;clear nm aD;generalize JJ j l v=ok at *;cases ok
      ·have mZ:=Hon.out (fun h=>by cases h);go_wp2_with fail
       first|rw[wk.out] | rw[wp.out]
       exact⟨⟨k+1,x,aU,rfl,rfl,mZ,My⟩,Hm.out⟩
      ·by_cases ZG:x<v
       ·have mZ:=Hup.out rfl ZG;go_wp2_with fail
        first|rw[wk.out] | rw[wp.out]
        exact⟨⟨k+1,v,aU,rfl,rfl,mZ,My⟩,Hm.out⟩
       ·have mZ:=Hon.out (fun _=>by omega);go_wp2_with fail
        first|rw[wk.out] | rw[wp.out]
        exact⟨⟨k+1,x,aU,rfl,rfl,mZ,My⟩,Hm.out⟩
   ·obtain rfl:k=N:=by omega
    go_wp2_with fail;go_ret;exact⟨by rw[Hw.out,<-Hb.out _ mZ];rfl,hb⟩
 ·have Hw:=zH (sL h l);rcases(show n<1\/(1<=n/\7<n) by omega)with h1|⟨h1,h2⟩
  all_goals
   clear h;go_enter func120,ntmps120;go_wp2_with fail
   go_loopw [5,6] (fun b s wr=>s=.int .i64 1/\b=.int .i64 0/\wr=w) (fun _ _ _=>0)
   case atStart=>exact⟨rfl,rfl,rfl⟩
   case round=>
    obtain⟨rfl,rfl,rfl⟩:=hrel;go_wp2_with fail;go_ret;exact⟨by rw[Hw.out];rfl,Below.refl _ _⟩
section
open Go.MapKept
theorem al{P:Program}{fn:Func}{R:Ending->World->Prop}{a:Act}{w:World}(hr:fn.results=#[])(hd:a.defers=[])(hR:R (.returned (.tuple #[])) w):bodyPost P fn R .normal a w:=
 bodyPost_end (by simp[results,hr]) hd hR
structure Rw where
 peers:Value
 waits:Value
 yes:Value
 trk:Value
 dat:Value
 gat:Value
 ent:Value
 com:Value
 snp:Value
 rds:Value
 mgs:Value
def bE(R:Rf)(v:Rw):Array Value:=
 #[v.peers,vi R.round,v.waits,v.yes,vi R.id,vi R.n,vi R.hard.term,vi R.hard.vote,v.trk,vi R.snap.idx,vi R.snap.term,v.dat,vi R.commit,vi R.role,vi R.leader,vi R.clock,vi R.wait,
  vi R.gath.frm,vi R.gath.idx,vi R.gath.term,vi R.gath.total,v.gat,.bool R.out.save,.bool R.out.reset,vi R.out.hard.term,vi R.out.hard.vote,v.ent,v.com,v.snp,v.rds,v.mgs]
def mK(p:Pr):List Value:=[vi p.next,vi p.mat,vi p.offset,vi p.round]
def mT(x:Wt):List Value:=[vi x.ctx,vi x.idx,vi x.round]
def qW(x:Int×Int):List Value:=[vi x.1,vi x.2]
def uj(aa:Nat->Nat)(i:Nat)(w:World)(v:Value)(l:List Int):Prop:=
 (v=.map none/\l=[])\/∃(b:Nat) (es:Array MapEntry) (clock:Nat),v=.map (some b)/\aa b=i/\w.heap[b]?=some (.map es clock)/\Stamped es clock/\
  (∀x∈es.toList,∃k:Int,x.key=.int .i64 k/\0<=k/\k<=1000)/\∀k:Int,k∈l↔∃x∈es.toList,x.key=.int .i64 k
theorem uj.keep{aa:Nat->Nat}{i:Nat}{w w':World}{v:Value}{l:List Int}(h:uj aa i w v l)(hk:∀j,aa j=i->j<w.heap.size->w'.heap[j]?=w.heap[j]?):uj aa i w' v l:=by
 rcases h with h|⟨b,es,clock,h1,h2,h3,h4⟩
 ·exact .inl h
 ·exact .inr ⟨b,es,clock,h1,h2,(hk b h2 (aV h3)).trans h3,h4⟩
structure ax(aa:Nat->Nat)(b:Nat)(w:World)(g:Nat)(R:Rf)(v:Rw):Prop where
 s:ar w g 107 (bE R v)
 sl:aa g=b+1
 t:tE aa (b+2) w v.trk R.track
 p:bQ aa (b+3) w 163 4 v.peers R.peers.length (R.peers.flatMap mK)
 q:bQ aa (b+4) w 167 3 v.waits R.waits.length (R.waits.flatMap mT)
 y:uj aa (b+5) w v.yes R.yes
 d:bM aa (b+6) w v.dat R.snap.data
 gd:bQ aa (b+7) w 5 1 v.gat R.gath.data.length (R.gath.data.map vb)
 e:dU aa (b+8) (b+13) w v.ent R.out.entries
 c:dU aa (b+9) (b+13) w v.com R.out.commits
 n:tT aa (b+13) w v.snp R.out.snap
 r:bQ aa (b+11) w 134 2 v.rds R.out.reads.length (R.out.reads.flatMap qW)
 m:iE aa (b+12) (b+13) w v.mgs R.out.msgs
def aN(aa:Nat->Nat)(b:Nat)(j:Nat):Prop:=b<aa j/\aa j<=b+12
def bv(aa:Nat->Nat)(b:Nat)(j:Nat):Prop:=b<aa j/\aa j<=b+13
section
variable {aa ak:Nat->Nat}{b g:Nat}{w w':World}{R R':Rf}{v:Rw}
theorem ax.keep(h:ax aa b w g R v)(hk:∀j,bv aa b j->j<w.heap.size->w'.heap[j]?=w.heap[j]?):ax aa b w' g R v:=by
 have k:∀i,0<i->i<=13->∀j,aa j=b+i->j<w.heap.size->w'.heap[j]?=w.heap[j]?:=fun i h0 h1 j hj hl=>hk j ⟨by omega,by omega⟩ hl
 exact⟨(k 1 (by omega) (by omega) g h.sl h.s.lt).trans h.s,h.sl,h.t.keep (k 2 (by omega) (by omega)),h.p.keep (k 3 (by omega) (by omega)),h.q.keep (k 4 (by omega) (by omega)),h.y.keep (k 5 (by omega) (by omega)),
  h.d.keep (k 6 (by omega) (by omega)),h.gd.keep (k 7 (by omega) (by omega)),h.e.keep (k 8 (by omega) (by omega)) (k 13 (by omega) (by omega)),h.c.keep (k 9 (by omega) (by omega)) (k 13 (by omega) (by omega)),h.n.keep (k 13 (by omega) (by omega)),h.r.keep (k 11 (by omega) (by omega)),h.m.keep (k 12 (by omega) (by omega)) (k 13 (by omega) (by omega))⟩
theorem ax.below(h:ax aa b w g R v)(hb:Below w.heap.size w w'):ax aa b w' g R v:=h.keep fun j _ hl=>hb.block j hl
theorem ax.nums(h:ax aa b w g R v)(hs:ar w' g 107 (bE R' v))(hF:Fr (fun j=>j=g) w w')(e1:R'.track=R.track)(e2:R'.peers=R.peers)(e3:R'.waits=R.waits)(e4:R'.yes=R.yes)(e5:R'.snap.data=R.snap.data)(e6:R'.gath.data=R.gath.data)
  (e7:R'.out.entries=R.out.entries) (e8:R'.out.commits=R.out.commits) (e9:R'.out.snap=R.out.snap) (e10:R'.out.reads=R.out.reads) (e11:R'.out.msgs=R.out.msgs):ax aa b w' g R' v:=by
 have k:∀i,1<i->∀j,aa j=b+i->j<w.heap.size->w'.heap[j]?=w.heap[j]?:=fun i h0 j hj hl=>hF.block j hl fun e=>by
  have:=h.sl;rw[e]at hj;omega
 exact⟨hs,h.sl,by rw[e1];exact h.t.keep (k 2 (by omega)),by rw[e2];exact h.p.keep (k 3 (by omega)),by rw[e3];exact h.q.keep (k 4 (by omega)),by rw[e4];exact h.y.keep (k 5 (by omega)),by rw[e5];exact h.d.keep (k 6 (by omega)),
  by rw[e6];exact h.gd.keep (k 7 (by omega)),by rw[e7];exact h.e.keep (k 8 (by omega)) (k 13 (by omega)),by rw[e8];exact h.c.keep (k 9 (by omega)) (k 13 (by omega)),by rw[e9];exact h.n.keep (k 13 (by omega)),by rw[e10];exact h.r.keep (k 11 (by omega)),by rw[e11];exact h.m.keep (k 12 (by omega)) (k 13 (by omega))⟩
def ao(aa:Nat->Nat)(b:Nat)(w:World)(g:Nat)(R':Rf)(w':World):Prop:=
 ∃(ak:Nat->Nat) (v':Rw),ax ak b w' g R' v'/\(∀j,j<w.heap.size->¬aN aa b j->ak j=aa j)/\(∀j,j<w.heap.size->aN aa b j->aN ak b j)/\Fr (aN aa b) w w'
theorem ao.nums(h:ax aa b w g R v)(hs:ar w' g 107 (bE R' v))(hF:Fr (fun j=>j=g) w w')(e1:R'.track=R.track)(e2:R'.peers=R.peers)(e3:R'.waits=R.waits)(e4:R'.yes=R.yes)(e5:R'.snap.data=R.snap.data)(e6:R'.gath.data=R.gath.data)
  (e7:R'.out.entries=R.out.entries) (e8:R'.out.commits=R.out.commits) (e9:R'.out.snap=R.out.snap) (e10:R'.out.reads=R.out.reads) (e11:R'.out.msgs=R.out.msgs):ao aa b w g R' w':=
 ⟨aa,v,h.nums hs hF e1 e2 e3 e4 e5 e6 e7 e8 e9 e10 e11,fun _ _ _=>rfl,fun _ _ h=>h,hF.mono fun j e=>by rw[e];exact⟨by have:=h.sl;omega,by have:=h.sl;omega⟩⟩
theorem rR(h:ax aa b w g R v):Calls prog 50 #[.pointer (some ⟨g,0,none⟩)] w fun e w'=>e=.returned (.tuple #[])/\ao aa b w g R.rest w':=by
 obtain⟨f15,f16,-⟩:=h.s.fs [15,16];obtain⟨c15,c16,-⟩:=h.s.cs [15,16];simp only[bE,Zx]at c15 c16;have hS:ar ((w.setCell ⟨g,15,none⟩ (.int .i64 0)).setCell ⟨g,16,none⟩ (.int .i64 0)) g 107 (bE R.rest v):=(h.s.set_ 15 (.int .i64 0)).set_ 16 (.int .i64 0);have hP:=zH (ao.nums h hS ((Fr.set g 15 _).trans (Fr.set g 16 _) fun _ h=>.inl h) rfl rfl rfl rfl rfl rfl rfl rfl rfl rfl rfl);clear hS h;go_enter func50,ntmps50;go_wp2_with fail;exact al rfl rfl ⟨rfl,hP.out⟩
end
end
section
open Go.MapKept
theorem HY:(prog.info? 39).map (fun i=>(i.zero,i.size,i.bytes))=some (some (.agg #[vi 0,vi 0,vi 0,vi 0,vi 0,vi 0,vi 0,vi 0,.bool false,vi 0,vi 0,.slice none 0 0,.slice none 0 0]),13,136):=by kernel_rfl
theorem kf{w:World}{ops:Array Oper}{rest:List Oper}{o:Oper}{a:Act}{Q:Exit->Act->World->Prop}(kt:o.guard=none)(s x:Operand)
  (ho:o.op=.call {callee:=.builtin .append,args:=#[s,x],argTypes:=#[47,47]}) {aa:Nat->Nat} {i n:Nat} {v:Value} {zs:List ((Value×Value)×Mg)} (hs:a.eval s=v) (aD:bQ aa i w 39 13 v n (zs.flatMap yL))
  {gb d:Nat} {z:(Value×Value)×Mg} (hx:a.eval x=.slice (some ⟨gb,0,none⟩) 1 d) (hb:ar w gb 39 (yL z).toArray) (h1:z.1.1.oneCell'=true/\z.1.2.oneCell'=true) (hn:n<=1000000)
  (h:∀A' c' w' ak,bQ ak i w' 39 13 (.slice A' (n+1) c') (n+1) ((zs++[z]).flatMap yL)->Fr (aQ aa i) w w'->(ak=ai aa w.heap.size i)->wpList prog ops Q rest (a.put o.dst (.slice A' (n+1) c')) w'):wpList prog ops Q (o::rest) a w:=by
 obtain⟨i0,iy,jK,iL,gL⟩:=info_parts HY;obtain⟨A,c,rfl,bP,hl⟩:=aD;have gq:∀u∈yL z,u.oneCell'=true:=fun u hu=>by
  simp only[yL,List.mem_cons,List.not_mem_nil,or_false]at hu;rcases hu with rfl|rfl|rfl|rfl|rfl|rfl|rfl|rfl|rfl|rfl|rfl|rfl|rfl <;> first|rfl|exact h1.1|exact h1.2
 have hr:cn w 13 (some ⟨gb,0,none⟩) 1 (yL z):=⟨rfl,fun _=>⟨_,rfl,fun j y hy=>by
  have e:(⟨gb,0,none⟩:Addr).add j=⟨gb,j,none⟩:=by unfold Addr.add;split <;> simp[*]
  rw[e,hb.cell j,<-hy];simp⟩⟩
 refine bb w kt s x 47 ho 0 39 i0 _ 13 136 underlying47 iy jK iL gL rfl (by omega) (.slice A n c) n _ hs bP (some ⟨gb,0,none⟩) 1 d _ hx hr gq (by unfold maxLen;omega) (by omega) zz fun A' c' w' h3 h4 h5=>?_
 refine h _ _ _ _ ⟨A',c',rfl,by rw[List.flatMap_append,List.flatMap_cons,List.flatMap_nil,List.append_nil];exact h3,fun j hj=>?_⟩ ((Fr.grown h4).mono fun j hj=>hl j hj) rfl;rcases gE h5 j hj with h6|h6
 ·unfold ai;split
  ·rfl
  ·exact hl j h6
 ·exact ay h6
section
variable {aa:Nat->Nat}{b g:Nat}{w:World}{R:Rf}{v:Rw}
theorem tE.relabel{ak:Nat->Nat}{i k:Nat}{x:Value}{t:bB}(h:tE aa i w x t)(hl:∀j,j<w.heap.size->aa j=i->ak j=k):tE ak k w x t:=by
 obtain⟨g,S,A,n,c,zs,h1,h2,h3⟩:=h;refine⟨g,S,A,n,c,zs,h1,h2,fun j hj=>hl j ?_ (h3 j hj)⟩;rcases hj with rfl|hj|hj
 ·exact h2.b.lt
 ·exact(aB h2.o A c rfl j hj).1
 ·obtain⟨cs,fz,ty,e,_⟩:=h2.s j hj;exact aV e
theorem uj.relabel{ak:Nat->Nat}{i k:Nat}{x:Value}{l:List Int}(h:uj aa i w x l)(hl:∀j,j<w.heap.size->aa j=i->ak j=k):uj ak k w x l:=by
 rcases h with h|⟨q,es,clock,h1,h2,h3,h4⟩
 ·exact .inl h
 ·exact .inr ⟨q,es,clock,h1,hl q (aV h3) h2,h3,h4⟩
theorem tT.relabel{ak:Nat->Nat}{i k:Nat}{x:Value}{s:Option uw}(h:tT aa i w x s)(hl:∀j,j<w.heap.size->aa j=i->ak j=k):tT ak k w x s:=by
 cases s with
 | none=>exact h
 | some s=>
  obtain⟨q,vd,h1,h2,h3,h4⟩:=h;exact⟨q,vd,h1,hl q h3.lt h2,h3,h4.relabel hl⟩
theorem ax.relabel{ak:Nat->Nat}(h:ax aa b w g R v)(hl:∀j,j<w.heap.size->bv aa b j->ak j=aa j):ax ak b w g R v:=by
 have k:∀i,0<i->i<=13->∀j,j<w.heap.size->aa j=b+i->ak j=b+i:=fun i h0 h1 j hj e=>(hl j hj ⟨by omega,by omega⟩).trans e
 exact⟨h.s,k 1 (by omega) (by omega) g h.s.lt h.sl,h.t.relabel (k 2 (by omega) (by omega)),h.p.relabel (k 3 (by omega) (by omega)),h.q.relabel (k 4 (by omega) (by omega)),h.y.relabel (k 5 (by omega) (by omega)),
  h.d.relabel (k 6 (by omega) (by omega)),h.gd.relabel (k 7 (by omega) (by omega)),h.e.relabel (k 8 (by omega) (by omega)) (k 13 (by omega) (by omega)),h.c.relabel (k 9 (by omega) (by omega)) (k 13 (by omega) (by omega)),h.n.relabel (k 13 (by omega) (by omega)),h.r.relabel (k 11 (by omega) (by omega)),h.m.relabel (k 12 (by omega) (by omega)) (k 13 (by omega) (by omega))⟩
theorem ax.setMsgs{w3:World}{v':Value}{ms:List Mg}(h:ax aa b w g R v)(hF:Fr (aQ aa (b+12)) w w3)(hm:iE (ai aa w.heap.size (b+12)) (b+12) (b+13) w3 v' ms) :
  ax (ai aa w.heap.size (b+12)) b (w3.setCell ⟨g,30,none⟩ v') g {R with out:={R.out with msgs:=ms}} {v with mgs:=v'}/\Fr (aN aa b) w (w3.setCell ⟨g,30,none⟩ v'):=by
 have h':=h.relabel (ak:=ai aa w.heap.size (b+12)) fun j hj _=>ac hj
 have eQ:=Fr.set (w:=w3) g 30 v';have cQ:=h.s.lt;have mJ:ar w3 g 107 (bE R v):=(hF.other (k:=b+1) (by omega) g h.sl cQ).trans h.s;have k:∀i,1<i->i≠12->∀j,ai aa w.heap.size (b+12) j=b+i->j<w.heap.size->(w3.setCell ⟨g,30,none⟩ v').heap[j]?=w.heap[j]?:=fun i h0 h1 j hj hl=>by
  rw[ac hl]at hj;exact(eQ.block j (Nat.lt_of_lt_of_le hl hF.size) fun e=>by have:=h.sl;rw[e]at hj;omega).trans (hF.other (k:=b+i) (by omega) j hj hl)
 have BN:ai aa w.heap.size (b+12) g=b+1:=(ac cQ).trans h.sl;refine⟨⟨mJ.set_ 30 v',BN,h'.t.keep (k 2 (by omega) (by omega)),h'.p.keep (k 3 (by omega) (by omega)),h'.q.keep (k 4 (by omega) (by omega)),h'.y.keep (k 5 (by omega) (by omega)),h'.d.keep (k 6 (by omega) (by omega)),h'.gd.keep (k 7 (by omega) (by omega)),
  h'.e.keep (k 8 (by omega) (by omega)) (k 13 (by omega) (by omega)),h'.c.keep (k 9 (by omega) (by omega)) (k 13 (by omega) (by omega)),h'.n.keep (k 13 (by omega) (by omega)),h'.r.keep (k 11 (by omega) (by omega)),hm.keep (fun j hj hl=>eQ.block j hl fun e=>?_) (fun j hj hl=>eQ.block j hl fun e=>?_)⟩,?_⟩
 ·rw[e,BN]at hj;omega
 ·rw[e,BN]at hj;omega
 ·refine(hF.mono (X':=aN aa b) fun j hj=>?_).trans (eQ.mono (X':=aN aa b) fun j hj=>?_) fun j hj=>.inl hj
  ·have:aa j=b+12:=hj;exact⟨by omega,by omega⟩
  ·rw[hj];have:=h.sl;exact⟨by omega,by omega⟩
theorem sO(m:Mg)(ve vd:Value)(h:ax aa b w g R v)(hm:kJ aa (b+13) w ((ve,vd),m))(h1:ve.oneCell'=true/\vd.oneCell'=true)(hn:R.out.msgs.length<=100000) :
  Calls prog 97 #[.pointer (some ⟨g,0,none⟩),eH m ve vd] w fun e w'=>e=.returned (.tuple #[])/\ao aa b w g (R.send m) w':=by
 obtain⟨c4,c6,c30,-⟩:=h.s.cs [4,6,30];simp only[bE,vi,Zx]at c4 c6 c30;have cQ:=h.s.lt;obtain⟨T,hT⟩:=zN ((if m.term=0 then R.hard.term else m.term));have dW:=zH (show R.send m={R with out:={R.out with msgs:=R.out.msgs++[{m with frm:=R.id,term:=T}]}} by unfold Rf.send;rw[hT]);have aI:Below w.heap.size w (w.alloc (.cells #[.int .i64 m.kind,.int .i64 R.id,.int .i64 m.tgt,.int .i64 T,.int .i64 m.idx,.int .i64 m.logTerm,.int .i64 m.commit,.int .i64 m.round,.bool m.reject,.int .i64 m.offset,.int .i64 m.total,ve,vd] 39)):=zb.alloc zl _;have bN:=ar.new w 39 #[.int .i64 m.kind,.int .i64 R.id,.int .i64 m.tgt,.int .i64 T,.int .i64 m.idx,.int .i64 m.logTerm,.int .i64 m.commit,.int .i64 m.round,.bool m.reject,.int .i64 m.offset,.int .i64 m.total,ve,vd];obtain⟨w1,bV⟩:=zN (w.alloc (.cells #[.int .i64 m.kind,.int .i64 R.id,.int .i64 m.tgt,.int .i64 T,.int .i64 m.idx,.int .i64 m.logTerm,.int .i64 m.commit,.int .i64 m.round,.bool m.reject,.int .i64 m.offset,.int .i64 m.total,ve,vd] 39));rw[bV]at aI bN;have h0:=(h.relabel (ak:=ai aa w.heap.size b) fun j hj _=>ac hj);have dH:Below w1.drew.heap.size w1.drew (w1.drew.alloc (.cells #[.int .i64 m.kind,.int .i64 R.id,.int .i64 m.tgt,.int .i64 T,.int .i64 m.idx,.int .i64 m.logTerm,.int .i64 m.commit,.int .i64 m.round,.bool m.reject,.int .i64 m.offset,.int .i64 m.total,ve,vd] 39)):=zb.alloc zl _;have Ii:=ar.new w1.drew 39 (yL ((ve,vd),{m with frm:=R.id,term:=T})).toArray;have du:Below w.heap.size w (w1.drew.alloc (.cells #[.int .i64 m.kind,.int .i64 R.id,.int .i64 m.tgt,.int .i64 T,.int .i64 m.idx,.int .i64 m.logTerm,.int .i64 m.commit,.int .i64 m.round,.bool m.reject,.int .i64 m.offset,.int .i64 m.total,ve,vd] 39)):=ab (aA aI 1) dH zl;have h2:=h0.below du;have ui:kJ (ai aa w.heap.size b) (b+13) _ ((ve,vd),{m with frm:=R.id,term:=T}):=(hm.relabel (ak:=ai aa w.heap.size b) (k:=b+13) fun j hj e=>(ac hj).trans e).keep fun j _ hl=>du.block j hl
 obtain⟨zs,bP,cB,tB⟩:=id h2.m;obtain⟨y0,y1,y2,y3,y4,y5,y6,y7,y8,y9,yA,yB,yC,-⟩:=bN.cs [0,1,2,3,4,5,6,7,8,9,10,11,12];simp only[Zx]at y0 y1 y2 y3 y4 y5 y6 y7 y8 y9 yA yB yC;have c30':=(aI.cell (aw c30)).trans c30;obtain⟨k0,k1,k2,k3,k4,k5,k6,k7,k8,k9,kA,kB,kC⟩:=vV [g,w.heap.size] y0 y1 y2 y3 y4 y5 y6 y7 y8 y9 yA yB yC;have kD:=CV [g,w.heap.size] c30';have cT:∀q∈[g,w.heap.size],q<w1.heap.size:=by simp;exact⟨by have:=aI.size;omega,bN.lt⟩
 unfold eH;simp only[vi];rcases(show(m.term=0/\R.hard.term=T)\/(m.term≠0/\m.term=T) by
  by_cases h0:m.term=0
  ·rw[if_pos h0]at hT;exact .inl ⟨h0,hT⟩
  ·rw[if_neg h0]at hT;exact .inr ⟨h0,hT⟩)with⟨ht,tC⟩|⟨ht,tC⟩
 all_goals
  clear hT;go_enter func97,ntmps97;go_wp2_with fail;try simp only[tC]
  try rw[bV]
  refine mI [g,w.heap.size] w1 [([0,1,2,3,4,5,6],7),([],8)] ([9,10,11],12) ?_;refine ap fun K1 ct=>?_
  simp only[af,Zx];repeat go_big_quiet_step(fail)
  apply wpQuiet_nil;go_wp2_with fail;refine⟨aq cT (zb.drew.trans dH),ct _ _ ?_⟩;refine ap fun K2 ge=>?_
  simp only[af,Zx];repeat go_big_quiet_step(fail)
  apply wpQuiet_nil;go_wp2_with (at_builtin;refine kf rfl (.tmp 23) (.tmp 25) rfl rfl bP rfl Ii h1 (Nat.le_trans hn (by omega)) ?_;intro A3 c3 w3 cM cE dg hlab3);have iQ:ai aa w.heap.size b g=b+1:=(ac cQ).trans h.sl;have KR:ai aa w.heap.size b w.heap.size=b:=ay zl;have gK:w3.heap[g]?=w1.heap[g]?:=(dg.other (k:=b+1) (by omega) g iQ h2.s.lt).trans ((zb.drew.trans dH).block g (cT g (by simp)));have Lz:w3.heap[w.heap.size]?=w1.heap[w.heap.size]?:=(dg.other (k:=b) (by omega) w.heap.size KR (by have:=bN.lt;have:=dH.size;exact Nat.lt_of_lt_of_le bN.lt this)).trans ((zb.drew.trans dH).block _ bN.lt);refine⟨bO gK Lz,ge _ _ ?_⟩;subst hlab3;obtain⟨w2,cw⟩:=zN ((w1.drew.alloc (.cells #[.int .i64 m.kind,.int .i64 R.id,.int .i64 m.tgt,.int .i64 T,.int .i64 m.idx,.int .i64 m.logTerm,.int .i64 m.commit,.int .i64 m.round,.bool m.reject,.int .i64 m.offset,.int .i64 m.total,ve,vd] 39)));have cE:bQ (ai (ai aa w.heap.size b) w2.heap.size (b+12)) (b+12) w3 39 13 (.slice A3 (R.out.msgs.length+1) c3) (R.out.msgs.length+1) ((zs++[((ve,vd),{m with frm:=R.id,term:=T})]).flatMap yL):=by rw[<-cw];exact cE
  rw[cw]at du h2 ui cB;have dg:Fr (aQ (ai aa w.heap.size b) (b+12)) w2 w3:=by rw[<-cw];exact dg
  have kr:∀j,j<w3.heap.size->ai aa w.heap.size b j=b+13->ai (ai aa w.heap.size b) w2.heap.size (b+12) j=b+13:=fun j _ e=>by
   have hs:=du.size;rcases Nat.lt_or_ge j w2.heap.size with hj|hj
   ·exact(ac hj).trans e
   ·rw[ay (by omega)]at e;omega
  have FN:∀z∈zs++[((ve,vd),{m with frm:=R.id,term:=T})],kJ (ai (ai aa w.heap.size b) w2.heap.size (b+12)) (b+13) w3 z:=fun z hz=>by
   rcases List.mem_append.1 hz with hz|hz
   ·exact((cB z hz).keep (dg.other (k:=b+13) (by omega))).relabel kr
   ·rw[List.mem_singleton.1 hz];exact(ui.keep (dg.other (k:=b+13) (by omega))).relabel kr
  have pJ:iE (ai (ai aa w.heap.size b) w2.heap.size (b+12)) (b+12) (b+13) w3 (.slice A3 (R.out.msgs.length+1) c3) (R.out.msgs++[{m with frm:=R.id,term:=T}]):=⟨_,by rw[List.length_append];exact cE,FN,by rw[List.map_append,tB];rfl⟩;obtain⟨PX,lu⟩:=h2.setMsgs dg pJ;have hold:∀j,j<w.heap.size->ai (ai aa w.heap.size b) w2.heap.size (b+12) j=aa j:=fun j hj=>(ac (by have:=du.size;omega)).trans (ac hj)
  have hP:=zH (show ao aa b w g (R.send m) (w3.setCell ⟨g,30,none⟩ (.slice A3 (R.out.msgs.length+1) c3))from⟨ai (ai aa w.heap.size b) w2.heap.size (b+12),_,(by rw[dW.out];exact PX),fun j hj _=>hold j hj,fun j hj h=>by
   unfold aN at h ⊢;rw[hold j hj];exact h,(Fr.of_below (X:=aN aa b) du).trans lu fun j hj=>by
    unfold aN at hj ⊢;rcases Nat.lt_or_ge j w.heap.size with Jt|Jt
    ·rw[ac Jt]at hj;exact .inl hj
    ·exact .inr Jt⟩)
  have P7:ar w3 g 107 (bE R v):=(dg.other (k:=b+1) (by omega) g iQ h2.s.lt).trans h2.s;have cg:=P7.cell 30;have fg:=P7.free 30;simp only[bE,vi,Zx]at cg;clear PX lu pJ FN cE dg;refine aC ?_;simp only[af,Zx];repeat go_big_quiet_step(fail)
  apply wpQuiet_nil;go_wp2_with fail;exact al rfl rfl ⟨rfl,hP.out⟩
end
end
section
open Go.MapKept
section
variable {aa:Nat->Nat}{b g:Nat}{w:World}{R:Rf}{v:Rw}
theorem ax.setEnts{w3:World}{v':Value}{es:List En}(h:ax aa b w g R v)(hF:Fr (aQ aa (b+8)) w w3)(hm:dU (ai aa w.heap.size (b+8)) (b+8) (b+13) w3 v' es) :
  ax (ai aa w.heap.size (b+8)) b (w3.setCell ⟨g,26,none⟩ v') g {R with out:={R.out with entries:=es}} {v with ent:=v'}/\Fr (aN aa b) w (w3.setCell ⟨g,26,none⟩ v'):=by
 have h':=h.relabel (ak:=ai aa w.heap.size (b+8)) fun j hj _=>ac hj
 have eQ:=Fr.set (w:=w3) g 26 v';have cQ:=h.s.lt;have mJ:ar w3 g 107 (bE R v):=(hF.other (k:=b+1) (by omega) g h.sl cQ).trans h.s;have k:∀i,1<i->i≠8->∀j,ai aa w.heap.size (b+8) j=b+i->j<w.heap.size->(w3.setCell ⟨g,26,none⟩ v').heap[j]?=w.heap[j]?:=fun i h0 h1 j hj hl=>by
  rw[ac hl]at hj;exact(eQ.block j (Nat.lt_of_lt_of_le hl hF.size) fun e=>by have:=h.sl;rw[e]at hj;omega).trans (hF.other (k:=b+i) (by omega) j hj hl)
 have BN:ai aa w.heap.size (b+8) g=b+1:=(ac cQ).trans h.sl;refine⟨⟨mJ.set_ 26 v',BN,h'.t.keep (k 2 (by omega) (by omega)),h'.p.keep (k 3 (by omega) (by omega)),h'.q.keep (k 4 (by omega) (by omega)),h'.y.keep (k 5 (by omega) (by omega)),h'.d.keep (k 6 (by omega) (by omega)),h'.gd.keep (k 7 (by omega) (by omega)),
  hm.keep (fun j hj hl=>eQ.block j hl fun e=>?_) (fun j hj hl=>eQ.block j hl fun e=>?_),h'.c.keep (k 9 (by omega) (by omega)) (k 13 (by omega) (by omega)),h'.n.keep (k 13 (by omega) (by omega)),h'.r.keep (k 11 (by omega) (by omega)),h'.m.keep (k 12 (by omega) (by omega)) (k 13 (by omega) (by omega))⟩,?_⟩
 ·rw[e,BN]at hj;omega
 ·rw[e,BN]at hj;omega
 ·refine(hF.mono (X':=aN aa b) fun j hj=>?_).trans (eQ.mono (X':=aN aa b) fun j hj=>?_) fun j hj=>.inl hj
  ·have:aa j=b+8:=hj;exact⟨by omega,by omega⟩
  ·rw[hj];have:=h.sl;exact⟨by omega,by omega⟩
theorem pd(A:Option Addr)(n c:Nat)(ys:List (Value×En))(h:ax aa b w g R v)(hr:fu w A n ys)(hd:bq (aQ aa (b+13)) w ys)(hA:0<n->∀j,az A j->j≠g)(hn:n<=100000)(hN:R.out.entries.length<=100000) :
  Calls prog 67 #[.pointer (some ⟨g,0,none⟩),.slice A n c] w fun e w'=>e=.returned (.tuple #[])/\ao aa b w g (R.save (ys.map (·.2))) w':=by
 obtain⟨f22,f26,-⟩:=h.s.fs [22,26];obtain⟨c22,c26,-⟩:=h.s.cs [22,26];simp only[bE,vi,Zx]at c22 c26;have cQ:=h.s.lt;have hS:ar (w.setCell ⟨g,22,none⟩ (.bool true)) g 107 (bE {R with out:={R.out with save:=true}} v):=h.s.set_ 22 (.bool true);have h1:=h.nums (R':={R with out:={R.out with save:=true}}) hS (Fr.set g 22 _) rfl rfl rfl rfl rfl rfl rfl rfl rfl rfl rfl;have gR:Fr (fun j=>j=g) w (w.setCell ⟨g,22,none⟩ (.bool true)):=Fr.set g 22 _;have jX:fu (w.setCell ⟨g,22,none⟩ (.bool true)) A n ys:=cn.stay (S:=fun j=>j≠g) hr (fun h0 ad e=>hA h0 _ ⟨ad,e,rfl⟩) (gR.stay fun j hj _=>hj);have zo:bq (aQ aa (b+13)) (w.setCell ⟨g,22,none⟩ (.bool true)) ys:=hd.keep (gR.stay fun j hj _ e=>by
  have hj:aa j=b+13:=hj;have:=h.sl;rw[e]at hj;omega)
 have gq:=hd.one;have c26':=hS.cell 26;have f26':=hS.free 26;simp only[bE,vi,Zx]at c26';have he:dU aa (b+8) (b+13) (w.setCell ⟨g,22,none⟩ (.bool true)) v.ent R.out.entries:=h1.e;obtain⟨zs,⟨Ae,ce,pY,bP,fG⟩,xr,tB⟩:=he;rw[pY]at c26' c26;have fi:R.out.entries.length+n<=1000000000:=by omega
 have xf:=hr.len;have gu:(w.setCell ⟨g,22,none⟩ (.bool true)).heap.size=w.heap.size:=by simp[World.setCell]
 have Xi:=h1.s.lt;have aF:∀(A3:Option Addr) (c3:Nat) (w3:World),w3.ownsRow 0 59 6 (.slice A3 (R.out.entries.length+n) c3) (R.out.entries.length+n) ((zs++ys).flatMap bY)->Fr (az Ae) (w.setCell ⟨g,22,none⟩ (.bool true)) w3->(∀j,az A3 j->az Ae j\/(w.setCell ⟨g,22,none⟩ (.bool true)).heap.size<=j)->
   ar w3 g 107 (bE {R with out:={R.out with save:=true}} v)/\ao aa b w g (R.save (ys.map (·.2))) (w3.setCell ⟨g,26,none⟩ (.slice A3 (R.out.entries.length+n) c3)):=fun A3 c3 w3 cE dg Kv=>by
  have lu:Fr (aQ aa (b+8)) (w.setCell ⟨g,22,none⟩ (.bool true)) w3:=dg.mono fun j hj=>fG j hj
  have J0:∀j,aQ aa (b+13) j->j<(w.setCell ⟨g,22,none⟩ (.bool true)).heap.size->w3.heap[j]?=(w.setCell ⟨g,22,none⟩ (.bool true)).heap[j]?:=lu.other (k:=b+13) (by omega);have jG:∀j,j<(w.setCell ⟨g,22,none⟩ (.bool true)).heap.size->aQ aa (b+13) j->aQ (ai aa (w.setCell ⟨g,22,none⟩ (.bool true)).heap.size (b+8)) (b+13) j:=fun j hj e=>(ac hj).trans e
  have PI:bz (aQ (ai aa (w.setCell ⟨g,22,none⟩ (.bool true)).heap.size (b+8)) (b+13)) (w.setCell ⟨g,22,none⟩ (.bool true)) w3:=fun j e hj=>J0 j ((ac hj).symm.trans e) hj
  have Qf:bq (aQ (ai aa (w.setCell ⟨g,22,none⟩ (.bool true)).heap.size (b+8)) (b+13)) w3 (zs++ys):=((xr.mono jG).append (zo.mono jG)).keep PI;have hm:dU (ai aa (w.setCell ⟨g,22,none⟩ (.bool true)).heap.size (b+8)) (b+8) (b+13) w3 (.slice A3 (R.out.entries.length+n) c3) (R.out.entries++ys.map (·.2)):=by
   refine⟨zs++ys,?_,Qf,by rw[List.map_append,tB]⟩;rw[List.length_append,List.length_map,xf];refine⟨A3,c3,rfl,cE,fun j hj=>?_⟩;rcases Kv j hj with h6|h6
   ·unfold ai;split
    ·rfl
    ·exact fG j h6
   ·exact ay h6
  obtain⟨hR,hF⟩:=h1.setEnts lu hm;refine⟨(lu.other (k:=b+1) (by omega) g h.sl Xi).trans hS,ai aa (w.setCell ⟨g,22,none⟩ (.bool true)).heap.size (b+8),_,hR,fun j hj _=>ac (by rw[gu];exact hj),fun j hj hm=>?_,?_⟩
  ·unfold aN at hm ⊢;rw[ac (by rw[gu];exact hj)];exact hm
  ·exact(gR.mono (X':=aN aa b) fun j e=>by rw[e];exact⟨by have:=h.sl;omega,by have:=h.sl;omega⟩).trans hF fun j hj=>.inl hj
 have bP:(w.setCell ⟨g,22,none⟩ (.bool true)).ownsRow 0 59 6 (.slice Ae R.out.entries.length ce) R.out.entries.length (zs.flatMap bY):=bP;clear h h1 hS hr hd zo gR xr tB fG;go_enter func67,ntmps67;go_wp2_with (at_builtin;refine aW rfl (.tmp 13) (.tmp 14) rfl 0 rfl bP rfl jX gq fi zz ?_;intro A3 c3 w3 cE dg bS hrw3;obtain⟨gK,hP⟩:=aF A3 c3 w3 cE dg hrw3;replace hP:=zH hP;have f3:=gK.free 26;have e3:=gK.cell 26;simp only[bE,vi,Zx]at e3;clear aF cE dg bS hrw3 bP);exact al rfl rfl ⟨rfl,hP.out⟩
end
end
section
open Go.MapKept
def bw(id k:Nat):List Nat:=(List.range' 1 k).filter fun s=>decide (s≠id)
theorem iz(id k:Nat):bw id (k+1)=bw id k++if k+1=id then[]else[k+1]:=by
 unfold bw;rw[List.range'_concat,List.filter_append];simp only[Nat.one_mul,Nat.add_comm 1 k];by_cases h:k+1=id
 ·rw[if_pos h,List.filter_cons,if_neg (by simp[h])];rfl
 ·rw[if_neg h,List.filter_cons,if_pos (by simp[h])];rfl
theorem i8(id k:Nat):(bw id k).length<=k:=by
 unfold bw;refine Nat.le_trans (List.length_filter_le _ _) ?_;rw[List.length_range'];exact Nat.le_refl _
def yQ(l:List Nat):List Int:=l.map fun(s:Nat)=>(s:Int)
section
variable {aa:Nat->Nat}{b g:Nat}{w:World}{R:Rf}{v:Rw}
theorem nk(h:ax aa b w g R v)(hn:R.n<=7) :
  Calls prog 94 #[.pointer (some ⟨g,0,none⟩)] w fun e w'=>∃A c,e=.returned (.slice A R.others.length c)/\w'.ownsRow w.heap.size 3 1 (.slice A R.others.length c) R.others.length ((yQ R.others).map vi)/\Below w.heap.size w w':=by
 have cQ:=h.s.lt;go_enter func94,ntmps94;go_wp2_with fail
 go_loopw [3,4] (fun o s' wr=>∃(k:Nat) (A:Option Addr) (c:Nat),k<=R.n/\s'=.int .i64 ((k:Int)+1)/\o=.slice A (bw R.id k).length c/\wr.ownsRow w.heap.size 3 1 (.slice A (bw R.id k).length c) (bw R.id k).length ((yQ (bw R.id k)).map vi)/\Below w.heap.size w wr) (fun _ s' _=>R.n+1-(intOf s').toNat)
 case atStart=>exact⟨0,none,0,Nat.zero_le _,rfl,rfl,(b9 _ _:w.ownsRow w.heap.size 3 1 (.slice none 0 0) 0 []),Below.refl _ _⟩
 case round=>
  obtain⟨k,A,c,hk,rfl,rfl,aD,hb⟩:=hrel;have h':=h.below hb;obtain⟨c4,c5,-⟩:=h'.s.cs [4,5];simp only[bE,vi,Zx]at c4 c5;by_cases aU:k<R.n
  ·have aP:=zH (show R.n+1-(k+1+1)<R.n+1-(k+1) by omega);have fo:(k:Int)+1<=R.n:=by omega
   have ci:=iz R.id k;by_cases jg:k+1=R.id
   ·rw[if_pos jg,List.append_nil]at ci;replace ci:=zH ci;have jm:(R.id:Int)=(k:Int)+1:=by omega
    rw[jm]at c4;clear jm jg h';go_wp2_with fail;exact⟨⟨k+1,A,c,aU,by go_num,by rw[ci.out],by rw[ci.out];exact aD,hb⟩,by simp[intOf];have:=aP.out;omega⟩
   ·rw[if_neg jg]at ci;have ah:(bw R.id (k+1)).length=(bw R.id k).length+1:=by rw[ci];simp
    have oO:yQ (bw R.id (k+1))=yQ (bw R.id k)++[(k:Int)+1]:=by rw[ci];simp[yQ]
    have xv:=i8 R.id k;replace ci:=zH ci;replace ah:=zH ah;replace oO:=zH oO;have i1:(((k:Int)+1)==(R.id:Int))=false:=beq_eq_false_iff_ne.2 (by omega);have i2:(((k:Int)+1) !=(R.id:Int))=true:=by rw[bne,i1];rfl
    have jX:=fB.one wr ((k:Int)+1);have aI:Below wr.heap.size wr (wr.alloc (.cells #[.int .i64 ((k:Int)+1)] 3)):=zb.alloc zl _;have cv:=bf aD aI;have bJ:=ab hb aI zl;have fi:(bw R.id k).length+1<=1000000000:=by omega
    clear jg h' aD;go_wp2_with (at_builtin;refine bi rfl (.tmp 19) (.tmp 21) rfl w.heap.size rfl cv rfl jX fi bJ.size ?_;intro A3 c3 w3 bF gK bS);exact⟨⟨k+1,A3,c3,aU,by go_num,by rw[ah.out],by rw[ah.out,oO.out];exact bF,bJ.trans bS⟩,by simp[intOf];have:=aP.out;omega⟩
  ·obtain rfl:k=R.n:=by omega
   have ku:¬((R.n:Int)+1<=R.n):=by omega
   clear h';go_wp2_with fail;go_ret;exact⟨A,c,rfl,aD,hb⟩
end
end
section
open Go.MapKept
def Un(O:Ot)(ve vc vs vr vm:Value):Value:=.agg #[.bool O.save,.bool O.reset,vi O.hard.term,vi O.hard.vote,ve,vc,vs,vr,vm]
structure J3(aa:Nat->Nat)(i:Nat)(w:World)(O:Ot)(ve vc vs vr vm:Value):Prop where
 e:dU aa i i w ve O.entries
 c:dU aa i i w vc O.commits
 s:tT aa i w vs O.snap
 r:bQ aa i w 134 2 vr O.reads.length (O.reads.flatMap qW)
 m:iE aa i i w vm O.msgs
def cY(aa:Nat->Nat)(b i:Nat):Nat->Nat:=fun j=>if aa j=b+8\/aa j=b+9\/aa j=b+11\/aa j=b+12\/aa j=b+13 then i else aa j
section
variable {aa:Nat->Nat}{b g:Nat}{w:World}{R:Rf}{v:Rw}
theorem lO{i j q:Nat}(h:aa j=b+q)(hq:q=8\/q=9\/q=11\/q=12\/q=13):cY aa b i j=i:=if_pos (by omega)
theorem sy{i j q:Nat}(h:aa j=b+q)(hq:q<=7):cY aa b i j=b+q:=(if_neg (by omega)).trans h
theorem ax.tell{i:Nat}{w':World}(h:ax aa b w g R v)(hs:ar w' g 107 (bE R.tell.2 {v with ent:=.slice none 0 0,com:=.slice none 0 0,snp:=.pointer none,rds:=.slice none 0 0,mgs:=.slice none 0 0}))(hF:Fr (fun j=>j=g) w w') :
  ax (cY aa b i) b w' g R.tell.2 {v with ent:=.slice none 0 0,com:=.slice none 0 0,snp:=.pointer none,rds:=.slice none 0 0,mgs:=.slice none 0 0}/\J3 (cY aa b i) i w' R.tell.1 v.ent v.com v.snp v.rds v.mgs:=by
 have k:∀q,1<q->∀j,aa j=b+q->j<w.heap.size->w'.heap[j]?=w.heap[j]?:=fun q h0 j hj hl=>hF.block j hl fun e=>by
  have:=h.sl;rw[e]at hj;omega
 have hy:∀q,(q=8\/q=9\/q=11\/q=12\/q=13)->∀j,j<w'.heap.size->aa j=b+q->cY aa b i j=i:=fun q hq j _ e=>lO e hq
 have hn:∀q,q<=7->∀j,j<w'.heap.size->aa j=b+q->cY aa b i j=b+q:=fun q hq j _ e=>sy e hq
 refine⟨⟨hs,sy h.sl (by omega),(h.t.keep (k 2 (by omega))).relabel (hn 2 (by omega)),(h.p.keep (k 3 (by omega))).relabel (hn 3 (by omega)),(h.q.keep (k 4 (by omega))).relabel (hn 4 (by omega)),(h.y.keep (k 5 (by omega))).relabel (hn 5 (by omega)),
  (h.d.keep (k 6 (by omega))).relabel (hn 6 (by omega)),(h.gd.keep (k 7 (by omega))).relabel (hn 7 (by omega)),dU.nil _ _ _ _,dU.nil _ _ _ _,rfl,bQ.nil _ _ _ _ _,iE.nil _ _ _ _⟩,
  (h.e.keep (k 8 (by omega)) (k 13 (by omega))).relabel (hy 8 (by omega)) (hy 13 (by omega)),(h.c.keep (k 9 (by omega)) (k 13 (by omega))).relabel (hy 9 (by omega)) (hy 13 (by omega)),(h.n.keep (k 13 (by omega))).relabel (hy 13 (by omega)),(h.r.keep (k 11 (by omega))).relabel (hy 11 (by omega)),
  (h.m.keep (k 12 (by omega)) (k 13 (by omega))).relabel (hy 12 (by omega)) (hy 13 (by omega))⟩
def Rw.told(v:Rw):Rw:={v with ent:=.slice none 0 0,com:=.slice none 0 0,snp:=.pointer none,rds:=.slice none 0 0,mgs:=.slice none 0 0}
def gO(w:World)(g:Nat):World:=((((((((w.setCell ⟨g,22,none⟩ (.bool false)).setCell ⟨g,23,none⟩ (.bool false)).setCell ⟨g,24,none⟩ (.int .i64 0)).setCell ⟨g,25,none⟩ (.int .i64 0)).setCell ⟨g,26,none⟩ (.slice none 0 0)).setCell ⟨g,27,none⟩ (.slice none 0 0)).setCell ⟨g,28,none⟩ (.pointer none)).setCell ⟨g,29,none⟩ (.slice none 0 0)).setCell ⟨g,30,none⟩ (.slice none 0 0)
theorem FC(w:World)(g:Nat):Fr (fun j=>j=g) w (gO w g):=
 have e:∀{a b:World},Fr (fun j=>j=g) w a->Fr (fun j=>j=g) a b->Fr (fun j=>j=g) w b:=fun h h'=>h.trans h' fun _ h=>.inl h
 e (e (e (e (e (e (e (e (Fr.set g _ _) (Fr.set g _ _)) (Fr.set g _ _)) (Fr.set g _ _)) (Fr.set g _ _)) (Fr.set g _ _)) (Fr.set g _ _)) (Fr.set g _ _)) (Fr.set g _ _)
theorem yP(i:Nat)(h:ax aa b w g R v)(X:Array Value) :
  ar (((gO w g).alloc (.cells X 49)).alloc (.cells X 49)) w.heap.size 49 X/\ax (cY aa b i) b (((gO w g).alloc (.cells X 49)).alloc (.cells X 49)) g R.tell.2 v.told/\
   J3 (cY aa b i) i (((gO w g).alloc (.cells X 49)).alloc (.cells X 49)) R.tell.1 v.ent v.com v.snp v.rds v.mgs/\Fr (aN aa b) w (((gO w g).alloc (.cells X 49)).alloc (.cells X 49)):=by
 have hS:ar (gO w g) g 107 (bE R.tell.2 v.told):=by
  have s:=((((((((h.s.set_ 22 (.bool false)).set_ 23 (.bool false)).set_ 24 (.int .i64 0)).set_ 25 (.int .i64 0)).set_ 26 (.slice none 0 0)).set_ 27 (.slice none 0 0)).set_ 28 (.pointer none)).set_ 29 (.slice none 0 0)).set_ 30 (.slice none 0 0);simp only[bE,Zy]at s;exact s
 have hF:=FC w g;have gu:(gO w g).heap.size=w.heap.size:=by simp[gO,World.setCell]
 have bJ:Below (gO w g).heap.size (gO w g) (((gO w g).alloc (.cells X 49)).alloc (.cells X 49)):=(zb.alloc zl _).alloc (by simp) _;have hB:ar (((gO w g).alloc (.cells X 49)).alloc (.cells X 49)) w.heap.size 49 X:=by
  have:=(ar.new (gO w g) 49 X).alloc (.cells X 49);rw[gu]at this;exact this
 have di:Fr (fun j=>j=g) w (((gO w g).alloc (.cells X 49)).alloc (.cells X 49)):=hF.trans (Fr.of_below (X:=fun j=>j=g) bJ) fun _ h=>.inl h
 obtain⟨h1,h2⟩:=h.tell (i:=i) (hS.kept bJ) di;exact⟨hB,h1,h2,di.mono fun j e=>by rw[e];exact⟨by have:=h.sl;omega,by have:=h.sl;omega⟩⟩
theorem Al(i:Nat)(h:ax aa b w g R v) :
  Calls prog 52 #[.pointer (some ⟨g,0,none⟩)] w fun e w'=>e=.returned (Un R.tell.1 v.ent v.com v.snp v.rds v.mgs)/\ax (cY aa b i) b w' g R.tell.2 v.told/\J3 (cY aa b i) i w' R.tell.1 v.ent v.com v.snp v.rds v.mgs/\Fr (aN aa b) w w':=by
 obtain⟨c6,c7,c22,c23,c24,c25,c26,c27,c28,c29,c30,-⟩:=h.s.cs [6,7,22,23,24,25,26,27,28,29,30];obtain⟨f22,f23,f24,f25,f26,f27,f28,f29,f30,-⟩:=h.s.fs [22,23,24,25,26,27,28,29,30];simp only[bE,vi,Zx]at c6 c7 c22 c23 c24 c25 c26 c27 c28 c29 c30;have cQ:=h.s.lt;obtain⟨_,⟨A1,d1,E7,_⟩,_⟩:=id h.e;obtain⟨_,⟨A2,d2,E0,_⟩,_⟩:=id h.c;obtain⟨A3,IT⟩:∃p,v.snp=.pointer p:=by
  have hn:=h.n;cases hx:R.out.snap with
  | none=>rw[hx]at hn;exact⟨_,hn⟩
  | some s=>rw[hx]at hn;obtain⟨q,vd,e,_⟩:=hn;exact⟨_,e⟩
 obtain⟨A4,d4,JC,_⟩:=id h.r;obtain⟨_,⟨A5,d5,Jy,_⟩,_⟩:=id h.m;rw[E7]at c26;rw[E0]at c27;rw[IT]at c28;rw[JC]at c29;rw[Jy]at c30;generalize R.out.entries.length=n1 at *;generalize R.out.commits.length=n2 at *;generalize R.out.reads.length=n4 at *;generalize R.out.msgs.length=n5 at *;cases pN:R.out.save with
 | false=>
  rw[pN]at c22;replace h:=zH h;go_enter func52,ntmps52;go_wp2_with fail;have hT:R.tell.1=R.out:=by
   unfold Rf.tell;rw[pN];rfl
  obtain⟨hB,q1,q2,q3⟩:=yP i h.out #[.bool false,.bool R.out.reset,.int .i64 R.out.hard.term,.int .i64 R.out.hard.vote,.slice A1 n1 d1,.slice A2 n2 d2,.pointer A3,.slice A4 n4 d4,.slice A5 n5 d5];show bodyPost _ _ _ _ _ (((gO w g).alloc (.cells #[.bool false,.bool R.out.reset,.int .i64 R.out.hard.term,.int .i64 R.out.hard.vote,.slice A1 n1 d1,.slice A2 n2 d2,.pointer A3,.slice A4 n4 d4,.slice A5 n5 d5] 49)).alloc (.cells #[.bool false,.bool R.out.reset,.int .i64 R.out.hard.term,.int .i64 R.out.hard.vote,.slice A1 n1 d1,.slice A2 n2 d2,.pointer A3,.slice A4 n4 d4,.slice A5 n5 d5] 49));generalize((gO w g).alloc (.cells #[.bool false,.bool R.out.reset,.int .i64 R.out.hard.term,.int .i64 R.out.hard.vote,.slice A1 n1 d1,.slice A2 n2 d2,.pointer A3,.slice A4 n4 d4,.slice A5 n5 d5] 49)).alloc (.cells #[.bool false,.bool R.out.reset,.int .i64 R.out.hard.term,.int .i64 R.out.hard.vote,.slice A1 n1 d1,.slice A2 n2 d2,.pointer A3,.slice A4 n4 d4,.slice A5 n5 d5] 49)=wF at *;obtain⟨r0,r1,r2,r3,r4,r5,r6,r7,r8,-⟩:=hB.cs [0,1,2,3,4,5,6,7,8];simp only[Zx]at r0 r1 r2 r3 r4 r5 r6 r7 r8;exact bodyPost_ret (v:=.agg #[.bool false,.bool R.out.reset,.int .i64 R.out.hard.term,.int .i64 R.out.hard.vote,.slice A1 n1 d1,.slice A2 n2 d2,.pointer A3,.slice A4 n4 d4,.slice A5 n5 d5]) (by simp[results,results52,go_sem,r0,r1,r2,r3,r4,r5,r6,r7,r8]) rfl ⟨by rw[hT,E7,E0,IT,JC,Jy];unfold Un;rw[pN];rfl,q1,q2,q3⟩
 | true=>
  rw[pN]at c22;replace h:=zH h;go_enter func52,ntmps52;go_wp2_with fail;have hT:R.tell.1={R.out with hard:=R.hard}:=by
   unfold Rf.tell;rw[pN];rfl
  obtain⟨hB,q1,q2,q3⟩:=yP i h.out #[.bool true,.bool R.out.reset,.int .i64 R.hard.term,.int .i64 R.hard.vote,.slice A1 n1 d1,.slice A2 n2 d2,.pointer A3,.slice A4 n4 d4,.slice A5 n5 d5];show bodyPost _ _ _ _ _ (((gO w g).alloc (.cells #[.bool true,.bool R.out.reset,.int .i64 R.hard.term,.int .i64 R.hard.vote,.slice A1 n1 d1,.slice A2 n2 d2,.pointer A3,.slice A4 n4 d4,.slice A5 n5 d5] 49)).alloc (.cells #[.bool true,.bool R.out.reset,.int .i64 R.hard.term,.int .i64 R.hard.vote,.slice A1 n1 d1,.slice A2 n2 d2,.pointer A3,.slice A4 n4 d4,.slice A5 n5 d5] 49));generalize((gO w g).alloc (.cells #[.bool true,.bool R.out.reset,.int .i64 R.hard.term,.int .i64 R.hard.vote,.slice A1 n1 d1,.slice A2 n2 d2,.pointer A3,.slice A4 n4 d4,.slice A5 n5 d5] 49)).alloc (.cells #[.bool true,.bool R.out.reset,.int .i64 R.hard.term,.int .i64 R.hard.vote,.slice A1 n1 d1,.slice A2 n2 d2,.pointer A3,.slice A4 n4 d4,.slice A5 n5 d5] 49)=wF at *;obtain⟨r0,r1,r2,r3,r4,r5,r6,r7,r8,-⟩:=hB.cs [0,1,2,3,4,5,6,7,8];simp only[Zx]at r0 r1 r2 r3 r4 r5 r6 r7 r8;exact bodyPost_ret (v:=.agg #[.bool true,.bool R.out.reset,.int .i64 R.hard.term,.int .i64 R.hard.vote,.slice A1 n1 d1,.slice A2 n2 d2,.pointer A3,.slice A4 n4 d4,.slice A5 n5 d5]) (by simp[results,results52,go_sem,r0,r1,r2,r3,r4,r5,r6,r7,r8]) rfl ⟨by rw[hT,E7,E0,IT,JC,Jy];unfold Un;dsimp only;rw[pN];rfl,q1,q2,q3⟩
end
end
section
open Go.MapKept
section
variable {aa:Nat->Nat}{b g:Nat}{w w':World}{R R':Rf}{v:Rw}
theorem ax.numsW(h:ax aa b w g R v)(hs:ar w' g 107 (bE R' {v with waits:=.slice none 0 0}))(hF:Fr (fun j=>j=g) w w')(e1:R'.track=R.track)(e2:R'.peers=R.peers)(e3:R'.waits=[])(e4:R'.yes=R.yes)(e5:R'.snap.data=R.snap.data)(e6:R'.gath.data=R.gath.data)
  (e7:R'.out.entries=R.out.entries) (e8:R'.out.commits=R.out.commits) (e9:R'.out.snap=R.out.snap) (e10:R'.out.reads=R.out.reads) (e11:R'.out.msgs=R.out.msgs):ax aa b w' g R' {v with waits:=.slice none 0 0}:=by
 have k:∀i,1<i->∀j,aa j=b+i->j<w.heap.size->w'.heap[j]?=w.heap[j]?:=fun i h0 j hj hl=>hF.block j hl fun e=>by
  have:=h.sl;rw[e]at hj;omega
 exact⟨hs,h.sl,by rw[e1];exact h.t.keep (k 2 (by omega)),by rw[e2];exact h.p.keep (k 3 (by omega)),by rw[e3];exact bQ.nil _ _ _ _ _,by rw[e4];exact h.y.keep (k 5 (by omega)),by rw[e5];exact h.d.keep (k 6 (by omega)),
  by rw[e6];exact h.gd.keep (k 7 (by omega)),by rw[e7];exact h.e.keep (k 8 (by omega)) (k 13 (by omega)),by rw[e8];exact h.c.keep (k 9 (by omega)) (k 13 (by omega)),by rw[e9];exact h.n.keep (k 13 (by omega)),by rw[e10];exact h.r.keep (k 11 (by omega)),by rw[e11];exact h.m.keep (k 12 (by omega)) (k 13 (by omega))⟩
theorem xJ(t:Int)(h:ax aa b w g R v):Calls prog 58 #[.pointer (some ⟨g,0,none⟩),.int .i64 t] w fun e w'=>e=.returned (.tuple #[])/\ao aa b w g (R.follows t) w':=by
 obtain⟨c2,c6,c7,c13,c14,c22,-⟩:=h.s.cs [2,6,7,13,14,22];obtain⟨f2,f6,f7,f13,f14,f22,-⟩:=h.s.fs [2,6,7,13,14,22];simp only[bE,vi,Zx]at c2 c6 c7 c13 c14 c22;have cQ:=h.s.lt;have hS:ar ((((((w.setCell ⟨g,6,none⟩ (.int .i64 t)).setCell ⟨g,7,none⟩ (.int .i64 0)).setCell ⟨g,22,none⟩ (.bool true)).setCell ⟨g,13,none⟩ (.int .i64 0)).setCell ⟨g,14,none⟩ (.int .i64 0)).setCell ⟨g,2,none⟩ (.slice none 0 0)) g 107 (bE (R.follows t) {v with waits:=.slice none 0 0}):=by
  have s:=(((((h.s.set_ 6 (.int .i64 t)).set_ 7 (.int .i64 0)).set_ 22 (.bool true)).set_ 13 (.int .i64 0)).set_ 14 (.int .i64 0)).set_ 2 (.slice none 0 0);simp only[bE,Zy]at s;exact s
 have e:∀{a b:World},Fr (fun j=>j=g) w a->Fr (fun j=>j=g) a b->Fr (fun j=>j=g) w b:=fun h h'=>h.trans h' fun _ h=>.inl h
 have hF:=e (e (e (e (e (Fr.set (w:=w) g 6 (.int .i64 t)) (Fr.set g 7 (.int .i64 0))) (Fr.set g 22 (.bool true))) (Fr.set g 13 (.int .i64 0))) (Fr.set g 14 (.int .i64 0))) (Fr.set g 2 (.slice none 0 0));have hP:=zH (show ao aa b w g (R.follows t) _ from⟨aa,_,h.numsW hS hF rfl rfl rfl rfl rfl rfl rfl rfl rfl rfl rfl,fun _ _ _=>rfl,fun _ _ h=>h,hF.mono fun j e=>by rw[e];exact⟨by have:=h.sl;omega,by have:=h.sl;omega⟩⟩);clear e hF hS h;go_enter func58,ntmps58;go_wp2_with fail;exact al rfl rfl ⟨rfl,hP.out⟩
end
end
section
open Go.MapKept
section
variable {aa:Nat->Nat}{b g:Nat}{w w':World}{R:Rf}{v:Rw}
theorem iW{i:Nat}{x:Value}{t:bB}(h:tE aa i w x t)(hN:t.L.length<=1000000):Calls prog 44 #[x] w fun e w'=>e=.returned (.tuple #[.int .i64 t.lastF.1,.int .i64 t.lastF.2])/\Below w.heap.size w w':=by
 obtain⟨gt,S,A,n,c,zs,rfl,h1,_⟩:=h;exact nO h1 (by have:=h1.len.1;omega)
theorem lT{i:Nat}{x:Value}{t:bB}(k:Int)(h:tE aa i w x t)(hN:t.L.length<=1000000):Calls prog 89 #[x,.int .i64 k] w fun e w'=>e=.returned (.tuple #[.int .i64 (t.termF k).1,.int .i64 (t.termF k).2])/\Below w.heap.size w w':=by
 obtain⟨gt,S,A,n,c,zs,rfl,h1,_⟩:=h;exact jB k h1 (by have:=h1.len.1;omega)
theorem pL{i:Nat}{x:Value}{t:bB}(k m:Int)(h:tE aa i w x t)(hN:t.L.length<=1000000):Calls prog 131 #[x,.int .i64 k,.int .i64 m] w fun e w'=>∃A' n' c' zs',e=.returned (.slice A' n' c')/\gi w.heap.size w' A' n' c' zs' (t.sliceF k m)/\Below w.heap.size w w':=by
 obtain⟨gt,S,A,n,c,zs,rfl,h1,_⟩:=h;exact Cx k m h1 (by have:=h1.len.1;omega)
theorem FQ{i:Nat}{x:Value}{t:bB}(k m:Int)(h:tE aa i w x t)(hN:t.L.length<=1000000):Calls prog 136 #[x,.int .i64 k,.int .i64 m] w fun e w'=>e=.returned (.int .i64 (t.hintF k m))/\Below w.heap.size w w':=by
 obtain⟨gt,S,A,n,c,zs,rfl,h1,_⟩:=h;exact EV k m h1 (by have:=h1.len.1;omega)
theorem oy{i:Nat}{x:Value}{t:bB}(h:tE aa i w x t):Calls prog 80 #[x] w fun e w'=>e=.returned (.tuple #[.int .i64 t.index,.int .i64 t.term])/\Below w.heap.size w w':=by
 obtain⟨gt,S,A,n,c,zs,rfl,h1,_⟩:=h;refine(D1 h1).mono ?_;rintro e w' ⟨rfl,q,rfl⟩;exact⟨rfl,aA zb q⟩
theorem rN(m:Mg)(ve vd:Value)(h:ax aa b w g R v)(hN:R.track.L.length<=1000000) :
  Calls prog 135 #[.pointer (some ⟨g,0,none⟩),eH m ve vd] w fun e w'=>e=.returned (.bool (R.newer m))/\Below w.heap.size w w':=by
 have aI:Below w.heap.size w (w.alloc (.cells #[.int .i64 m.kind,.int .i64 m.frm,.int .i64 m.tgt,.int .i64 m.term,.int .i64 m.idx,.int .i64 m.logTerm,.int .i64 m.commit,.int .i64 m.round,.bool m.reject,.int .i64 m.offset,.int .i64 m.total,ve,vd] 39)):=zb.alloc zl _;have bN:=ar.new w 39 #[.int .i64 m.kind,.int .i64 m.frm,.int .i64 m.tgt,.int .i64 m.term,.int .i64 m.idx,.int .i64 m.logTerm,.int .i64 m.commit,.int .i64 m.round,.bool m.reject,.int .i64 m.offset,.int .i64 m.total,ve,vd];have c8:=h.s.cell 8;simp only[bE,vi,Zx]at c8;have cQ:=h.s.lt;have h0:=(h.relabel (ak:=ai aa w.heap.size b) fun j hj _=>ac hj);have bI:=iW (h0.below aI).t hN;obtain⟨l1,cy⟩:∃l,R.track.lastF.1=l:=⟨_,rfl⟩;obtain⟨l2,dM⟩:∃l,R.track.lastF.2=l:=⟨_,rfl⟩;have nV:=zH (show R.newer m=gf m.idx m.logTerm l1 l2 by unfold Rf.newer;rw[cy,dM]);rw[cy,dM]at bI;clear h h0 cy dM;unfold eH;simp only[vi];go_enter func135,ntmps135;go_wp2_with fail;generalize w.alloc (.cells #[.int .i64 m.kind,.int .i64 m.frm,.int .i64 m.tgt,.int .i64 m.term,.int .i64 m.idx,.int .i64 m.logTerm,.int .i64 m.commit,.int .i64 m.round,.bool m.reject,.int .i64 m.offset,.int .i64 m.total,ve,vd] 39)=w1 at *;refine bI.mono ?_;rintro e w2 ⟨rfl,bJ⟩;have mN:=bN.kept bJ;obtain⟨a4,a5,-⟩:=mN.cs [4,5];simp only[Zx]at a4 a5;have aH:=EG m.idx m.logTerm l1 l2 w2;clear bI;go_wp2_with fail;refine aH.mono ?_;rintro e w3 ⟨rfl,rfl⟩;go_wp2_with fail;go_ret;exact⟨by rw[nV.out];rfl,ab aI bJ zl⟩
end
end
section
open Go.MapKept
section
variable {aa:Nat->Nat}{b g:Nat}{w w' w'':World}{R R' R'':Rf}{v:Rw}
theorem gj(m:Mg)(he:m.entries=[])(hd:m.data=[])(h:ax aa b w g R v)(hn:R.out.msgs.length<=100000) :
  Calls prog 97 #[.pointer (some ⟨g,0,none⟩),eH m (.slice none 0 0) (.slice none 0 0)] w fun e w'=>e=.returned (.tuple #[])/\ao aa b w g (R.send m) w':=
 sO m _ _ h ⟨by rw[he];exact cN.nil _ _ _,by rw[hd];exact bM.nil _ _ _⟩ ⟨rfl,rfl⟩ hn
theorem ao.behind(h:ao aa b w' g R' w'')(hb:Below w.heap.size w w'):ao aa b w g R' w'':=by
 obtain⟨ak,v',h1,h2,h3,h4⟩:=h;have hs:=hb.size;exact⟨ak,v',h1,fun j hj hm=>h2 j (by omega) hm,fun j hj hm=>h3 j (by omega) hm,(Fr.of_below hb).trans h4 fun j hj=>.inl hj⟩
theorem ao.next{ag:Nat->Nat}(h:ao ag b w' g R'' w'')(h1:∀j,j<w.heap.size->¬aN aa b j->ag j=aa j)(h2:∀j,j<w.heap.size->aN aa b j->aN ag b j)(hF:Fr (aN aa b) w w'):ao aa b w g R'' w'':=by
 obtain⟨ak,v',q1,q2,q3,q4⟩:=h;have hs:=hF.size;have cR:∀j,j<w.heap.size->aN ag b j->aN aa b j:=fun j hj hm=>by
  rcases Classical.em (aN aa b j)with h|h
  ·exact h
  ·unfold aN at hm h;rw[h1 j hj h]at hm;exact absurd hm h
 refine⟨ak,v',q1,fun j hj hm=>?_,fun j hj hm=>q3 j (by omega) (h2 j hj hm),hF.trans q4 fun j hj=>?_⟩
 ·rw[q2 j (by omega) fun h=>hm (cR j hj h)];exact h1 j hj hm
 ·rcases Nat.lt_or_ge j w.heap.size with hl|hl
  ·exact .inl (cR j hl hj)
  ·exact .inr hl
theorem uR(m:Mg)(ve vd:Value)(h:ax aa b w g R v) :
  Calls prog 106 #[.pointer (some ⟨g,0,none⟩),eH m ve vd] w fun e w'=>e=.returned (.tuple #[])/\ao aa b w g (R.hears m) w':=by
 have aI:Below w.heap.size w (w.alloc (.cells #[.int .i64 m.kind,.int .i64 m.frm,.int .i64 m.tgt,.int .i64 m.term,.int .i64 m.idx,.int .i64 m.logTerm,.int .i64 m.commit,.int .i64 m.round,.bool m.reject,.int .i64 m.offset,.int .i64 m.total,ve,vd] 39)):=zb.alloc zl _;have bN:=ar.new w 39 #[.int .i64 m.kind,.int .i64 m.frm,.int .i64 m.tgt,.int .i64 m.term,.int .i64 m.idx,.int .i64 m.logTerm,.int .i64 m.commit,.int .i64 m.round,.bool m.reject,.int .i64 m.offset,.int .i64 m.total,ve,vd];obtain⟨w1,bV⟩:=zN (w.alloc (.cells #[.int .i64 m.kind,.int .i64 m.frm,.int .i64 m.tgt,.int .i64 m.term,.int .i64 m.idx,.int .i64 m.logTerm,.int .i64 m.commit,.int .i64 m.round,.bool m.reject,.int .i64 m.offset,.int .i64 m.total,ve,vd] 39));rw[bV]at aI bN;have cQ:=h.s.lt;have h1:=(h.below aI).below (w':=w1.drew) (zb.drew);have hS:ar ((w1.drew.setCell ⟨g,13,none⟩ (.int .i64 0)).setCell ⟨g,14,none⟩ (.int .i64 m.frm)) g 107 (bE {R with role:=0,leader:=m.frm} v):=by
  have s:=(h1.s.set_ 13 (.int .i64 0)).set_ 14 (.int .i64 m.frm);simp only[bE,Zy]at s;exact s
 have hF:Fr (fun j=>j=g) w1.drew ((w1.drew.setCell ⟨g,13,none⟩ (.int .i64 0)).setCell ⟨g,14,none⟩ (.int .i64 m.frm)):=(Fr.set g 13 _).trans (Fr.set g 14 _) fun _ h=>.inl h
 have h2:=h1.nums (R':={R with role:=0,leader:=m.frm}) hS hF rfl rfl rfl rfl rfl rfl rfl rfl rfl rfl rfl;have CI:=rR h2;have MD:Fr (aN aa b) w ((w1.drew.setCell ⟨g,13,none⟩ (.int .i64 0)).setCell ⟨g,14,none⟩ (.int .i64 m.frm)):=((Fr.of_below aI).trans (Fr.of_below (w:=w1) (X:=aN aa b) (zb.drew)) fun j hj=>.inl hj).trans (hF.mono (X':=aN aa b) fun j e=>by rw[e];exact⟨by have:=h.sl;omega,by have:=h.sl;omega⟩) fun j hj=>.inl hj
 obtain⟨c13,c14,-⟩:=h1.s.cs [13,14];obtain⟨f13,f14,-⟩:=h1.s.fs [13,14];simp only[bE,vi,Zx]at c13 c14;have c14':w1.cell? ⟨g,14,none⟩=some (.int .i64 R.leader):=c14;have f14':w1.frozen? ⟨g,14,none⟩=false:=f14;have a1:=bN.cell 1;simp only[Zx]at a1;have k1:=CV [w.heap.size] a1;have fV:w.heap.size≠g:=by omega
 clear h1 hS hF h2 h;unfold eH;simp only[vi];go_enter func106,ntmps106;go_wp2_with fail;try rw[bV]
 refine dV [w.heap.size] w1 [([0,1,2,3,4,5],6),([7,8],9)] [] ?_;refine av fun K1 ct=>?_
 simp only[af,Zx];repeat go_big_quiet_step(fail)
 apply wpQuiet_nil;go_wp2_with fail;refine⟨dN (by simp;exact(Fr.set g 13 _).block _ bN.lt fV),ct _ _ ?_⟩;refine av fun K2 ge=>?_
 simp only[af,Zx];repeat go_big_quiet_step(fail)
 apply wpQuiet_nil;go_wp2_with fail;refine⟨dN (by simp;exact((Fr.set g 14 _).block _ (by simp[World.setCell];exact bN.lt) fV).trans ((Fr.set g 13 _).block _ bN.lt fV)),ge _ _ ?_⟩;refine aj ?_;simp only[af];apply wpQuiet_nil;go_wp2_with fail;refine Calls.mono CI ?_;rintro e w3 ⟨rfl,hP⟩;have hQ:=zH (show ao aa b w g (R.hears m) w3 from hP.next (fun _ _ _=>rfl) (fun _ _ h=>h) MD);go_wp2_with fail;exact al rfl rfl ⟨rfl,hQ.out⟩
end
end
section
open Go.MapKept
section
variable {aa:Nat->Nat}{b g:Nat}{w:World}{R:Rf}{v:Rw}
theorem GU(m:Mg)(ve vd:Value)(h:ax aa b w g R v)(hn:R.out.msgs.length<=100000) :
  Calls prog 59 #[.pointer (some ⟨g,0,none⟩),eH m ve vd] w fun e w'=>e=.returned (.tuple #[])/\ao aa b w g (R.late m) w':=by
 have aI:Below w.heap.size w (w.alloc (.cells #[.int .i64 m.kind,.int .i64 m.frm,.int .i64 m.tgt,.int .i64 m.term,.int .i64 m.idx,.int .i64 m.logTerm,.int .i64 m.commit,.int .i64 m.round,.bool m.reject,.int .i64 m.offset,.int .i64 m.total,ve,vd] 39)):=zb.alloc zl _;have MD:Fr (aN aa b) w (w.alloc (.cells #[.int .i64 m.kind,.int .i64 m.frm,.int .i64 m.tgt,.int .i64 m.term,.int .i64 m.idx,.int .i64 m.logTerm,.int .i64 m.commit,.int .i64 m.round,.bool m.reject,.int .i64 m.offset,.int .i64 m.total,ve,vd] 39)):=Fr.of_below aI;have h1:=h.below aI;have dW:=gj {cZ with kind:=m.kind+1,tgt:=m.frm,reject:=true,round:=m.round} rfl rfl h1 hn;have ez:ao aa b w g R (w.alloc (.cells #[.int .i64 m.kind,.int .i64 m.frm,.int .i64 m.tgt,.int .i64 m.term,.int .i64 m.idx,.int .i64 m.logTerm,.int .i64 m.commit,.int .i64 m.round,.bool m.reject,.int .i64 m.offset,.int .i64 m.total,ve,vd] 39)):=⟨aa,v,h1,fun _ _ _=>rfl,fun _ _ h=>h,MD⟩;have cQ:=h.s.lt;unfold eH at dW ⊢;simp only[vi,cZ]at dW ⊢;clear h h1;by_cases hc:m.kind=3\/m.kind=5\/m.kind=7
 ·have hl:=zH (show R.late m=R.send {cZ with kind:=m.kind+1,tgt:=m.frm,reject:=true,round:=m.round}from if_pos hc);rcases hc with hc|hc|hc
  all_goals
   go_enter func59,ntmps59;go_wp2_with fail;rw[hc]at dW aI;refine Calls.mono dW ?_;rintro e w3 ⟨rfl,hP⟩;have hQ:=zH (show ao aa b w g (R.late m) w3 by rw[hl];rw[hc];exact hP.behind aI);go_wp2_with fail;exact al rfl rfl ⟨rfl,hQ.out⟩
 ·have h3:(m.kind==3)=false:=by simp;omega
  have h5:(m.kind==5)=false:=by simp;omega
  have h7:(m.kind==7)=false:=by simp;omega
  have hl:=zH (show R.late m=R from if_neg hc);replace ez:=zH ez;clear dW hc;go_enter func59,ntmps59;go_wp2_with fail;refine al rfl rfl ⟨rfl,?_⟩;rw[hl.out];exact ez.out
end
end
section
open Go.MapKept
theorem aO{P:Program}{fn:Func}{R:Ending->World->Prop}{a:Act}{w:World}(hr:fn.results=#[])(hd:a.defers=[])(hR:R (.returned (.tuple #[])) w):bodyPost P fn R .ret a w:=
 bodyPost_ret (by simp[results,hr]) hd hR
section
variable {aa:Nat->Nat}{b g:Nat}{w:World}{R:Rf}{v:Rw}
theorem EP(m:Mg)(ve vd:Value)(h:ax aa b w g R v)(hn:R.out.msgs.length<=100000)(hN:R.track.L.length<=1000000) :
  Calls prog 103 #[.pointer (some ⟨g,0,none⟩),eH m ve vd] w fun e w'=>e=.returned (.tuple #[])/\ao aa b w g (R.asked m) w':=by
 have cQ:=h.s.lt;obtain⟨c8,c9,c10,c4,-⟩:=h.s.cs [13,14,15,6];simp only[bE,vi,Zx]at c8 c9 c10 c4;have aI:Below w.heap.size w (w.alloc (.cells #[.int .i64 m.kind,.int .i64 m.frm,.int .i64 m.tgt,.int .i64 m.term,.int .i64 m.idx,.int .i64 m.logTerm,.int .i64 m.commit,.int .i64 m.round,.bool m.reject,.int .i64 m.offset,.int .i64 m.total,ve,vd] 39)):=zb.alloc zl _;have bN:=ar.new w 39 #[.int .i64 m.kind,.int .i64 m.frm,.int .i64 m.tgt,.int .i64 m.term,.int .i64 m.idx,.int .i64 m.logTerm,.int .i64 m.commit,.int .i64 m.round,.bool m.reject,.int .i64 m.offset,.int .i64 m.total,ve,vd];obtain⟨w1,bV⟩:=zN (w.alloc (.cells #[.int .i64 m.kind,.int .i64 m.frm,.int .i64 m.tgt,.int .i64 m.term,.int .i64 m.idx,.int .i64 m.logTerm,.int .i64 m.commit,.int .i64 m.round,.bool m.reject,.int .i64 m.offset,.int .i64 m.total,ve,vd] 39));rw[bV]at aI bN;obtain⟨y0,y1,y2,y3,y4,y5,y6,y7,y8,y9,yA,yB,yC,-⟩:=bN.cs [0,1,2,3,4,5,6,7,8,9,10,11,12];simp only[Zx]at y0 y1 y2 y3 y4 y5 y6 y7 y8 y9 yA yB yC;obtain⟨k0,k1,k2,k3,k4,k5,k6,k7,k8,k9,kA,kB,kC⟩:=vV [g,w.heap.size] y0 y1 y2 y3 y4 y5 y6 y7 y8 y9 yA yB yC;have c4':=(aI.cell (aw c4)).trans c4;have c8':=(aI.cell (aw c8)).trans c8;have c9':=(aI.cell (aw c9)).trans c9;have c10':=(aI.cell (aw c10)).trans c10;have kD:=CV [g,w.heap.size] c4';have cT:∀q∈[g,w.heap.size],q<w1.heap.size:=by simp;exact⟨by have:=aI.size;omega,bN.lt⟩
 have gp:=rN m ve vd ((h.below aI).below (w':=w1.drew) (zb.drew)) hN;obtain⟨x,hx⟩:=zN (R.newer m);rw[hx]at gp;have gB:=zH (show(R.role≠3/\(R.leader=0\/10<=R.clock))->R.hard.term<m.term->x=true->R.asked m=R.send {cZ with kind:=2,tgt:=m.frm,term:=m.term}from fun h1 h2 h3=>if_pos ⟨h1,h2,hx.trans h3⟩);have dt:=zH (show ¬((R.role≠3/\(R.leader=0\/10<=R.clock))/\R.hard.term<m.term/\x=true)->R.asked m=R.send {cZ with kind:=2,tgt:=m.frm,reject:=true}from fun h1=>if_neg (by rw[hx];exact h1));have Nn:=zH (show ∀w3,Below w.heap.size w w3->Calls prog 97 #[.pointer (some ⟨g,0,none⟩),eH {cZ with kind:=2,tgt:=m.frm,term:=m.term} (.slice none 0 0) (.slice none 0 0)] w3 (fun e w'=>e=.returned (.tuple #[])/\ao aa b w g (R.send {cZ with kind:=2,tgt:=m.frm,term:=m.term}) w')from fun w3 hb=>(gj {cZ with kind:=2,tgt:=m.frm,term:=m.term} rfl rfl (h.below hb) hn).mono fun e w' q=>⟨q.1,q.2.behind hb⟩);have rG:=zH (show ∀w3,Below w.heap.size w w3->Calls prog 97 #[.pointer (some ⟨g,0,none⟩),eH {cZ with kind:=2,tgt:=m.frm,reject:=true} (.slice none 0 0) (.slice none 0 0)] w3 (fun e w'=>e=.returned (.tuple #[])/\ao aa b w g (R.send {cZ with kind:=2,tgt:=m.frm,reject:=true}) w')from fun w3 hb=>(gj {cZ with kind:=2,tgt:=m.frm,reject:=true} rfl rfl (h.below hb) hn).mono fun e w' q=>⟨q.1,q.2.behind hb⟩);unfold eH at gp ⊢;simp only[vi]at gp ⊢;clear h;by_cases hF:(R.role≠3/\(R.leader=0\/10<=R.clock))/\R.hard.term<m.term
 ·have hY:=zH (show x=true->R.asked m=R.send {cZ with kind:=2,tgt:=m.frm,term:=m.term}from gB.out hF.1 hF.2);have Nu:=zH (show x=false->R.asked m=R.send {cZ with kind:=2,tgt:=m.frm,reject:=true}from fun hx=>dt.out (by rw[hx];simp));have cu:((R.role !=3)=true/\decide (m.term>R.hard.term)=true)/\((R.leader==0)=true\/((R.leader==0)=false/\decide (10<=R.clock)=true)):=by
   simp;omega
  obtain⟨⟨e1,e4⟩,e2⟩:=cu;replace hF:=zH hF;clear gB dt;rcases e2 with e2|⟨e2,e3⟩
  all_goals
   go_enter func103,ntmps103;go_wp2_with fail;try rw[bV]
   refine dV [g,w.heap.size] w1 [([0,1,2,3,4,5,6,7,8,9,10,11,12,13],14)] [15] ?_;refine av fun K1 ct=>?_
   simp only[af,Zx];repeat go_big_quiet_step(fail)
   apply wpQuiet_nil;go_wp2_with fail;refine gp.mono ?_;rintro e w3 ⟨rfl,bS⟩;go_wp2_with fail;have jA:Below w.heap.size w w3:=ab (aA aI 1) bS zl;have y1w:=(Below.cell ((zb.drew).trans bS) (aw y1)).trans y1;have y3w:=(Below.cell ((zb.drew).trans bS) (aw y3)).trans y3;refine⟨aq cT ((zb.drew).trans bS),ct _ _ ?_⟩;refine aj ?_;simp only[af,Zx];repeat go_big_quiet_step(fail)
   apply wpQuiet_nil;cases x
   ·go_wp2_with fail;refine Calls.mono (rG.out _ jA) ?_;rintro e w4 ⟨rfl,hP⟩;have hQ:=zH (show ao aa b w g (R.asked m) w4 by rw[Nu.out trivial];exact hP);go_wp2_with fail;exact al rfl rfl ⟨rfl,hQ.out⟩
   ·go_wp2_with fail;refine Calls.mono (Nn.out _ jA) ?_;rintro e w4 ⟨rfl,hP⟩;have hQ:=zH (show ao aa b w g (R.asked m) w4 by rw[hY.out trivial];exact hP);go_wp2_with fail;exact aO rfl rfl ⟨rfl,hQ.out⟩
 ·have Nu:=zH (show R.asked m=R.send {cZ with kind:=2,tgt:=m.frm,reject:=true}from dt.out fun h=>hF ⟨h.1,h.2.1⟩);have cu:((R.role !=3)=false/\decide (m.term>R.hard.term)=true)\/((R.role !=3)=false/\decide (m.term>R.hard.term)=false)\/((R.role !=3)=true/\(R.leader==0)=true/\decide (m.term>R.hard.term)=false)\/((R.role !=3)=true/\(R.leader==0)=false/\decide (10<=R.clock)=true/\decide (m.term>R.hard.term)=false)\/((R.role !=3)=true/\(R.leader==0)=false/\decide (10<=R.clock)=false/\decide (m.term>R.hard.term)=true)\/((R.role !=3)=true/\(R.leader==0)=false/\decide (10<=R.clock)=false/\decide (m.term>R.hard.term)=false):=by
   simp;omega
  have jA:Below w.heap.size w w1.drew:=aA aI 1;replace hF:=zH hF;clear gB dt gp hx;rcases cu with⟨e1,e4⟩|⟨e1,e4⟩|⟨e1,e2,e4⟩|⟨e1,e2,e3,e4⟩|⟨e1,e2,e3,e4⟩|⟨e1,e2,e3,e4⟩
  all_goals
   go_enter func103,ntmps103;go_wp2_with fail;try rw[bV]
   refine dV [g,w.heap.size] w1 [([0,1,2,3,4,5,6,7,8,9,10,11,12,13],14)] [15] ?_;refine av fun K1 ct=>?_
   simp only[af,Zx];repeat go_big_quiet_step(fail)
   apply wpQuiet_nil;go_wp2_with fail;refine⟨aR,ct _ _ ?_⟩;refine aj ?_;simp only[af,Zx];repeat go_big_quiet_step(fail)
   apply wpQuiet_nil;go_wp2_with fail;refine Calls.mono (rG.out _ jA) ?_;rintro e w4 ⟨rfl,hP⟩;have hQ:=zH (show ao aa b w g (R.asked m) w4 by rw[Nu.out];exact hP);go_wp2_with fail;exact al rfl rfl ⟨rfl,hQ.out⟩
end
end
section
open Go.MapKept
section
variable {aa:Nat->Nat}{b g:Nat}{w w1 w2:World}{R R1 R2:Rf}{v:Rw}
theorem ao.call{f:Nat}{args:Array Value}{E:Ending}(h:ao aa b w g R1 w1)(hc:∀ag v1,ax ag b w1 g R1 v1->Calls prog f args w1 fun e w'=>e=E/\ao ag b w1 g R2 w') :
  Calls prog f args w1 fun e w'=>e=E/\ao aa b w g R2 w':=by
 obtain⟨ag,v1,h1,h2,h3,h4⟩:=h;exact(hc ag v1 h1).mono fun e w' q=>⟨q.1,q.2.next h2 h3 h4⟩
theorem ao.fr(h:ao aa b w g R1 w1):Fr (aN aa b) w w1:=by
 obtain⟨ag,v1,h1,h2,h3,h4⟩:=h;exact h4
theorem ao.fresh(h:ao (ai aa w.heap.size b) b w1 g R1 w2)(hb:Below w.heap.size w w1):ao aa b w g R1 w2:=by
 obtain⟨ak,v',h1,h2,h3,h4⟩:=h;have hs:=hb.size;have hm:∀j,j<w.heap.size->(aN (ai aa w.heap.size b) b j↔aN aa b j):=fun j hj=>by
  unfold aN;rw[ac hj]
 refine⟨ak,v',h1,fun j hj hn=>?_,fun j hj hn=>h3 j (by omega) ((hm j hj).2 hn),(Fr.of_below (X:=aN aa b) hb).trans h4 fun j hj=>?_⟩
 ·rw[h2 j (by omega) fun h=>hn ((hm j hj).1 h)];exact ac hj
 ·rcases Nat.lt_or_ge j w.heap.size with hl|hl
  ·exact .inl ((hm j hl).1 hj)
  ·exact .inr hl
theorem ax.fresh(h:ax aa b w g R v)(hb:Below w.heap.size w w1):ax (ai aa w.heap.size b) b w1 g R v:=
 (h.relabel (ak:=ai aa w.heap.size b) fun _ hj _=>ac hj).below hb
theorem ao.new(h:ao (ai aa w.heap.size b) b w1 g R1 w2){j:Nat}(hj:w.heap.size<=j)(hl:j<w1.heap.size):w2.heap[j]?=w1.heap[j]?:=
 h.fr.block j hl fun hm=>by
  unfold aN at hm;rw[ay hj]at hm;omega
theorem Dt(m:Mg)(ve vd:Value)(h:ax aa b w g R v)(hn:R.out.msgs.length<=100000)(hN:R.track.L.length<=1000000) :
  Calls prog 104 #[.pointer (some ⟨g,0,none⟩),eH m ve vd] w fun e w'=>e=.returned (.tuple #[])/\ao aa b w g (R.votes m) w':=by
 have cQ:=h.s.lt;have c7:=h.s.cell 7;simp only[bE,vi,Zx]at c7;have aI:Below w.heap.size w (w.alloc (.cells #[.int .i64 m.kind,.int .i64 m.frm,.int .i64 m.tgt,.int .i64 m.term,.int .i64 m.idx,.int .i64 m.logTerm,.int .i64 m.commit,.int .i64 m.round,.bool m.reject,.int .i64 m.offset,.int .i64 m.total,ve,vd] 39)):=zb.alloc zl _;have bN:=ar.new w 39 #[.int .i64 m.kind,.int .i64 m.frm,.int .i64 m.tgt,.int .i64 m.term,.int .i64 m.idx,.int .i64 m.logTerm,.int .i64 m.commit,.int .i64 m.round,.bool m.reject,.int .i64 m.offset,.int .i64 m.total,ve,vd];obtain⟨w1,bV⟩:=zN (w.alloc (.cells #[.int .i64 m.kind,.int .i64 m.frm,.int .i64 m.tgt,.int .i64 m.term,.int .i64 m.idx,.int .i64 m.logTerm,.int .i64 m.commit,.int .i64 m.round,.bool m.reject,.int .i64 m.offset,.int .i64 m.total,ve,vd] 39));rw[bV]at aI bN;obtain⟨y0,y1,y2,y3,y4,y5,y6,y7,y8,y9,yA,yB,yC,-⟩:=bN.cs [0,1,2,3,4,5,6,7,8,9,10,11,12];simp only[Zx]at y0 y1 y2 y3 y4 y5 y6 y7 y8 y9 yA yB yC;obtain⟨k0,k1,k2,k3,k4,k5,k6,k7,k8,k9,kA,kB,kC⟩:=vV [g,w.heap.size] y0 y1 y2 y3 y4 y5 y6 y7 y8 y9 yA yB yC;have c7':=(aI.cell (aw c7)).trans c7;have kD:=CV [g,w.heap.size] c7';have cT:∀q∈[g,w.heap.size],q<w1.heap.size:=by simp;exact⟨by have:=aI.size;omega,bN.lt⟩
 have gp:=rN m ve vd ((h.below aI).below (w':=w1.drew) (zb.drew)) hN;obtain⟨x,hx⟩:=zN (R.newer m);rw[hx]at gp;have dt:=zH (show ¬((R.hard.vote=0\/R.hard.vote=m.frm)/\x=true)->R.votes m=R.send {cZ with kind:=4,tgt:=m.frm,reject:=true}from fun h1=>if_neg (by rw[hx];exact h1));have gB:=zH (show(R.hard.vote=0\/R.hard.vote=m.frm)->x=true->R.votes m=({R with hard:=⟨R.hard.term,m.frm⟩,out:={R.out with save:=true}}:Rf).rest.send {cZ with kind:=4,tgt:=m.frm,reject:=false}from fun h1 h2=>if_pos ⟨h1,by rw[hx];exact h2⟩);have rG:=zH (show ∀w3,Below w.heap.size w w3->Calls prog 97 #[.pointer (some ⟨g,0,none⟩),eH {cZ with kind:=4,tgt:=m.frm,reject:=true} (.slice none 0 0) (.slice none 0 0)] w3 (fun e w'=>e=.returned (.tuple #[])/\ao aa b w g (R.send {cZ with kind:=4,tgt:=m.frm,reject:=true}) w')from fun w3 hb=>(gj {cZ with kind:=4,tgt:=m.frm,reject:=true} rfl rfl (h.below hb) hn).mono fun e w' q=>⟨q.1,q.2.behind hb⟩);have hH:=zH h;unfold eH at gp ⊢;simp only[vi]at gp ⊢;clear h;by_cases hF:R.hard.vote=0\/R.hard.vote=m.frm
 ·have cu:(R.hard.vote==0)=true\/((R.hard.vote==0)=false/\(R.hard.vote==m.frm)=true):=by
   simp;omega
  replace hF:=zH hF;rcases cu with e1|⟨e1,e2⟩
  all_goals
   go_enter func104,ntmps104;go_wp2_with fail;try rw[bV]
   refine dV [g,w.heap.size] w1 [([0,1,2,3,4,5,6,7,8,9,10,11,12,13,14,15,16,17,18],19)] [20,21] ?_;refine av fun K1 ct=>?_
   simp only[af,Zx];repeat go_big_quiet_step(fail)
   apply wpQuiet_nil;go_wp2_with fail;refine gp.mono ?_;rintro e w3 ⟨rfl,bS⟩;go_wp2_with fail;have jA:Below w.heap.size w w3:=ab (aA aI 1) bS zl;have y1w:=(Below.cell ((zb.drew).trans bS) (aw y1)).trans y1;have eK:w.heap.size<w3.heap.size:=aw y1w;refine⟨aq cT ((zb.drew).trans bS),ct _ _ ?_⟩;refine aj ?_;simp only[af,Zx];repeat go_big_quiet_step(fail)
   apply wpQuiet_nil;cases x
   ·clear hH;go_wp2_with fail;refine Calls.mono (rG.out _ jA) ?_;rintro e w4 ⟨rfl,hP⟩;have hQ:=zH (show ao aa b w g (R.votes m) w4 by rw[dt.out (by simp)];exact hP);go_wp2_with fail;exact al rfl rfl ⟨rfl,hQ.out⟩
   ·have h3:=hH.out.fresh jA;have hS:ar ((w3.setCell ⟨g,7,none⟩ (.int .i64 m.frm)).setCell ⟨g,22,none⟩ (.bool true)) g 107 (bE {R with hard:=⟨R.hard.term,m.frm⟩,out:={R.out with save:=true}} v):=by
     have s:=(h3.s.set_ 7 (.int .i64 m.frm)).set_ 22 (.bool true);simp only[bE,Zy]at s;exact s
    have G4:Fr (fun j=>j=g) w3 ((w3.setCell ⟨g,7,none⟩ (.int .i64 m.frm)).setCell ⟨g,22,none⟩ (.bool true)):=(Fr.set g 7 _).trans (Fr.set g 22 _) fun _ h=>.inl h
    have qz:ao (ai aa w.heap.size b) b w3 g {R with hard:=⟨R.hard.term,m.frm⟩,out:={R.out with save:=true}} _:=ao.nums h3 hS G4 rfl rfl rfl rfl rfl rfl rfl rfl rfl rfl rfl;obtain⟨c7w,c22w,-⟩:=h3.s.cs [7,22];obtain⟨f7w,f22w,-⟩:=h3.s.fs [7,22];simp only[bE,vi,Zx]at c7w c22w;have CI:=qz.call (fun ag v1 h=>rR h);replace qz:=zH qz;clear h3 hS G4 hH;go_wp2_with fail;refine Calls.mono CI ?_;rintro e w4 ⟨rfl,hP⟩;have y1z:=(World.cell?_of_block (a:=⟨w.heap.size,1,none⟩) (hP.new zl eK)).trans y1w;have dW:=hP.call (fun ag v1 h=>gj {cZ with kind:=4,tgt:=m.frm,reject:=false} rfl rfl h hn);unfold eH at dW;simp only[vi]at dW;clear CI hP;go_wp2_with fail;refine Calls.mono dW ?_;rintro e w5 ⟨rfl,hP⟩;have hQ:=zH (show ao aa b w g (R.votes m) w5 by rw[gB.out hF.out trivial];exact hP.fresh jA);go_wp2_with fail;exact al rfl rfl ⟨rfl,hQ.out⟩
 ·have Nu:=zH (show R.votes m=R.send {cZ with kind:=4,tgt:=m.frm,reject:=true}from dt.out fun h=>hF h.1);have e1:(R.hard.vote==0)=false:=by simp;omega
  have e2:(R.hard.vote==m.frm)=false:=by simp;omega
  have jA:Below w.heap.size w w1.drew:=aA aI 1;replace hF:=zH hF;clear gB dt gp hx hH;go_enter func104,ntmps104;go_wp2_with fail;try rw[bV]
  refine dV [g,w.heap.size] w1 [([0,1,2,3,4,5,6,7,8,9,10,11,12,13,14,15,16,17,18],19)] [20,21] ?_;refine av fun K1 ct=>?_
  simp only[af,Zx];repeat go_big_quiet_step(fail)
  apply wpQuiet_nil;go_wp2_with fail;refine⟨aR,ct _ _ ?_⟩;refine aj ?_;simp only[af,Zx];repeat go_big_quiet_step(fail)
  apply wpQuiet_nil;go_wp2_with fail;refine Calls.mono (rG.out _ jA) ?_;rintro e w4 ⟨rfl,hP⟩;have hQ:=zH (show ao aa b w g (R.votes m) w4 by rw[Nu.out];exact hP);go_wp2_with fail;exact al rfl rfl ⟨rfl,hQ.out⟩
end
end
section
open Go.MapKept
open Rf (numOk)
theorem Mp{a b c d e f g:Prop}[Decidable a][Decidable b][Decidable c][Decidable d][Decidable e][Decidable f][Decidable g]{r:Bool}(hr:r=decide (a/\b/\c/\d/\e/\f/\g)) :
  (decide a=false/\r=false)\/(decide a=true/\decide b=false/\r=false)\/(decide a=true/\decide b=true/\decide c=false/\r=false)\/(decide a=true/\decide b=true/\decide c=true/\decide d=false/\r=false)\/
  (decide a=true/\decide b=true/\decide c=true/\decide d=true/\decide e=false/\r=false)\/(decide a=true/\decide b=true/\decide c=true/\decide d=true/\decide e=true/\decide f=false/\r=false)\/
  (decide a=true/\decide b=true/\decide c=true/\decide d=true/\decide e=true/\decide f=true/\decide g=false/\r=false)\/(decide a=true/\decide b=true/\decide c=true/\decide d=true/\decide e=true/\decide f=true/\decide g=true/\r=true):=by
 subst hr;by_cases ha:a
 ·by_cases hb:b
  ·by_cases hc:c
   ·by_cases hd:d
    ·by_cases he:e
     ·by_cases hf:f
      ·by_cases hg:g <;> simp[ha,hb,hc,hd,he,hf,hg]
      ·simp[ha,hb,hc,hd,he,hf]
     ·simp[ha,hb,hc,hd,he]
    ·simp[ha,hb,hc,hd]
   ·simp[ha,hb,hc]
  ·simp[ha,hb]
 ·simp[ha]
theorem mP{a l m:Int}{x:Bool}(hx:decide (l<=a/\a<=m)=x)(w:World):Calls prog 36 #[.int .i64 a,.int .i64 l,.int .i64 m] w fun e w'=>e=.returned (.bool x)/\w'=w:=by
 by_cases h1:l<=a
 ·by_cases h2:a<=m
  ·have hd:=zH (show x=true by rw[<-hx];simp[h1,h2]);clear hx;go_enter func36,ntmps36;go_wp2_with fail;go_ret;exact⟨by rw[hd.out];rfl,rfl⟩
  ·have hd:=zH (show x=false by rw[<-hx];simp[h2]);clear hx;go_enter func36,ntmps36;go_wp2_with fail;go_ret;exact⟨by rw[hd.out];rfl,rfl⟩
 ·have hd:=zH (show x=false by rw[<-hx];simp[h1]);clear hx;go_enter func36,ntmps36;go_wp2_with fail;go_ret;exact⟨by rw[hd.out];rfl,rfl⟩
section
variable {aa:Nat->Nat}{b g:Nat}{w:World}{R:Rf}{v:Rw}
def fI(m:Mg):List Int:=[m.idx,m.logTerm,m.commit,m.round,m.offset,m.total]
theorem vu(m:Mg):(fI m).all numOk=(numOk m.idx&&numOk m.logTerm&&numOk m.commit&&numOk m.round&&numOk m.offset&&numOk m.total):=by
 simp[fI,List.all_cons,Bool.and_assoc]
theorem uT{m:Mg}{k:Nat}(hk:k<6)(hf:numOk ((fI m)[k]?.getD 0)=false):R.right m=false:=by
 unfold Rf.right;have:(fI m).all numOk=false:=by
  rw[Bool.eq_false_iff];intro h;have h2:=List.all_eq_true.1 h ((fI m)[k]?.getD 0) (by
   have hl:k<(fI m).length:=hk;rw[List.getElem?_eq_getElem hl];exact List.getElem_mem hl)
  rw[hf]at h2;cases h2
 rw[<-vu,this];rfl
theorem vo{m:Mg}(h:∀k,k<6->numOk ((fI m)[k]?.getD 0)=true):R.right m=decide ((1<=m.kind/\m.kind<=8)/\m.tgt=R.id/\(1<=m.frm/\m.frm<=R.n)/\m.frm≠R.id/\(1<=m.term/\m.term<=i9)/\m.entries.length<=6/\m.data.length<=160):=by
 unfold Rf.right;have:(fI m).all numOk=true:=by
  rw[List.all_eq_true];intro x hx;obtain⟨k,hk,rfl⟩:=List.getElem_of_mem hx;have:=h k hk;rw[List.getElem?_eq_getElem hk]at this;exact this
 rw[<-vu,this];rfl
theorem nZ(x:Int):decide (0<=x/\x<=1099511627776)=numOk x:=by
 unfold numOk i9;by_cases h1:0<=x <;> by_cases h2:x<=1099511627776 <;> simp[h1,h2]
theorem Eb(m:Mg)(A1 A2:Option Addr)(n1 n2 c1 c2:Nat)(iI:n1=m.entries.length)(lB:n2=m.data.length)(h:ax aa b w g R v) :
  Calls prog 57 #[.pointer (some ⟨g,0,none⟩),eH m (.slice A1 n1 c1) (.slice A2 n2 c2)] w fun e w'=>e=.returned (.bool (R.right m))/\Below w.heap.size w w':=by
 have cQ:=h.s.lt;obtain⟨ve,pY⟩:=zN (Value.slice A1 n1 c1);obtain⟨vd,rv⟩:=zN (Value.slice A2 n2 c2);rw[pY,rv];obtain⟨d4,d5,-⟩:=h.s.cs [4,5];simp only[bE,vi,Zx]at d4 d5;have aI:Below w.heap.size w (w.alloc (.cells #[.int .i64 m.kind,.int .i64 m.frm,.int .i64 m.tgt,.int .i64 m.term,.int .i64 m.idx,.int .i64 m.logTerm,.int .i64 m.commit,.int .i64 m.round,.bool m.reject,.int .i64 m.offset,.int .i64 m.total,ve,vd] 39)):=zb.alloc zl _;have bN:=ar.new w 39 #[.int .i64 m.kind,.int .i64 m.frm,.int .i64 m.tgt,.int .i64 m.term,.int .i64 m.idx,.int .i64 m.logTerm,.int .i64 m.commit,.int .i64 m.round,.bool m.reject,.int .i64 m.offset,.int .i64 m.total,ve,vd];obtain⟨w1,bV⟩:=zN (w.alloc (.cells #[.int .i64 m.kind,.int .i64 m.frm,.int .i64 m.tgt,.int .i64 m.term,.int .i64 m.idx,.int .i64 m.logTerm,.int .i64 m.commit,.int .i64 m.round,.bool m.reject,.int .i64 m.offset,.int .i64 m.total,ve,vd] 39));rw[bV]at aI bN;obtain⟨y0,y1,y2,y3,y4,y5,y6,y7,y8,y9,yA,yB,yC,-⟩:=bN.cs [0,1,2,3,4,5,6,7,8,9,10,11,12];simp only[Zx]at y0 y1 y2 y3 y4 y5 y6 y7 y8 y9 yA yB yC;obtain⟨k0,k1,k2,k3,k4,k5,k6,k7,k8,k9,kA,kB,kC⟩:=vV [g,w.heap.size] y0 y1 y2 y3 y4 y5 y6 y7 y8 y9 yA yB yC;have d4':=(aI.cell (aw d4)).trans d4;have d5':=(aI.cell (aw d5)).trans d5;have dt:=zH (fun k (hk:k<6) (hf:numOk ((fI m)[k]?.getD 0)=false)=>uT (R:=R) (m:=m) hk hf);have gB:=zH (fun h=>vo (R:=R) (m:=m) h);obtain⟨w2,cw⟩:=zN (w1.alloc (.cells #[.int .i64 m.idx,.int .i64 m.logTerm,.int .i64 m.commit,.int .i64 m.round,.int .i64 m.offset,.int .i64 m.total] 3));have mX:ar w2 w1.heap.size 3 ((fI m).map vi).toArray:=by rw[<-cw];exact ar.new w1 3 ((fI m).map vi).toArray
 have dH:Below w1.heap.size w1 w2:=by rw[<-cw];exact zb.alloc zl _
 have z0:=(dH.cell (aw y0)).trans y0;have z1:=(dH.cell (aw y1)).trans y1;have z2:=(dH.cell (aw y2)).trans y2;have z3:=(dH.cell (aw y3)).trans y3;have zB:=(dH.cell (aw yB)).trans yB;have zC:=(dH.cell (aw yC)).trans yC;have zD:=(dH.cell (aw d4')).trans d4';have zE:=(dH.cell (aw d5')).trans d5';obtain⟨q0,q1,q2,q3,qB,qC,qD,qE⟩:=TJ [g,w.heap.size] z0 z1 z2 z3 zB zC zD zE;clear k0 k1 k2 k3 k4 k5 k6 k7 k8 k9 kA kB kC;have Ey:Below w.heap.size w w2.drew:=aA (ab aI dH zl) 1;have du:Below w.heap.size w w2:=ab aI dH zl;unfold eH;simp only[vi];clear h;go_enter func57,ntmps57;go_wp2_with fail;try rw[bV]
 go_wp2_with fail;try rw[cw]
 go_loopw [21] (fun i wr=>∃k:Nat,k<=6/\i=.int .i64 k/\(∀j,j<k->numOk ((fI m)[j]?.getD 0)=true)/\wr=w2) (fun i _=>6-(intOf i).toNat)
 case atStart=>exact⟨0,Nat.zero_le _,rfl,fun j hj=>absurd hj (Nat.not_lt_zero _),rfl⟩
 case round=>
  obtain⟨k,hk,rfl,cB,rfl⟩:=hrel;replace cB:=zH cB;by_cases aU:k<6
  ·obtain⟨x,hx⟩:=zN ((fI m)[k]?.getD 0);have ik:k<(fI m).length:=aU;have c0:wr.cell? ⟨w1.heap.size,k,none⟩=some (.int .i64 x):=(mX.cell k).trans (by rw[List.getElem?_toArray,List.getElem?_map,List.getElem?_eq_getElem ik,<-hx,List.getElem?_eq_getElem ik];rfl);have aH:=mP (nZ x) wr;replace hx:=zH hx;cases ci:numOk x with
   | false=>
    rw[ci]at aH;have hf:=zH (dt.out k aU (by rw[hx.out];exact ci));go_wp2_with fail;refine aH.mono ?_;rintro e w4 ⟨rfl,rfl⟩;go_wp2_with fail;go_ret;exact⟨by rw[hf.out];rfl,du⟩
   | true=>
    rw[ci]at aH;have nB:=zH (show ∀j,j<k+1->numOk ((fI m)[j]?.getD 0)=true from fun j hj=>by
     rcases Nat.lt_or_ge j k with h1|h1
     ·exact cB.out j h1
     ·obtain rfl:j=k:=by omega
      rw[hx.out];exact ci)
    go_wp2_with fail;refine aH.mono ?_;rintro e w4 ⟨rfl,rfl⟩;go_wp2_with fail;exact⟨⟨k+1,aU,by go_num,nB.out,trivial⟩,by simp[intOf];omega⟩
  ·obtain rfl:k=6:=by omega
   have hR:=gB.out cB.out;unfold i9 at hR;clear mX dH;have e3:(i9:Int)=1099511627776:=rfl;have bs:∃x,decide (1<=m.kind/\m.kind<=8)=x:=⟨_,rfl⟩;have bJ:∃x,decide (1<=m.frm/\m.frm<=(R.n:Int))=x:=⟨_,rfl⟩;have bS:∃x,decide (1<=m.term/\m.term<=1099511627776)=x:=⟨_,rfl⟩;obtain⟨x1,bs⟩:=bs;obtain⟨x2,bJ⟩:=bJ;obtain⟨x3,bS⟩:=bS;have cu:=Mp hR;rw[bs,bJ,bS,<-iI,<-lB]at cu;have t1:decide (m.tgt=(R.id:Int))=(m.tgt==(R.id:Int)):=rfl;have t2:decide (m.frm≠(R.id:Int))=(m.frm !=(R.id:Int)):=by by_cases h:m.frm=R.id <;> simp[h]
   have t3:decide (n1<=6)=decide ((n1:Int)<=6):=by by_cases h:n1<=6 <;> simp <;> omega
   have t4:decide (n2<=160)=decide ((n2:Int)<=160):=by by_cases h:n2<=160 <;> simp <;> omega
   rw[t1,t2,t3,t4]at cu;have gC:=fun w=>mP bs w
   have tF:=fun w=>mP bJ w
   have Br:=fun w=>mP bS w
   replace gC:=zH gC;replace tF:=zH tF;replace Br:=zH Br;clear bs bJ bS hR iI lB e3 t1 t2 t3 t4;rcases cu with⟨rfl,hr⟩|⟨rfl,e2,hr⟩|⟨rfl,e2,rfl,hr⟩|⟨rfl,e2,rfl,e4,hr⟩|⟨rfl,e2,rfl,e4,rfl,hr⟩|⟨rfl,e2,rfl,e4,rfl,e6,hr⟩|⟨rfl,e2,rfl,e4,rfl,e6,e7,hr⟩|⟨rfl,e2,rfl,e4,rfl,e6,e7,hr⟩
   all_goals
    replace hr:=zH hr;rw[<-pY]at qB;rw[<-rv]at qC;clear pY rv;go_wp2_with fail;refine dV [g,w.heap.size] wr [([0,1],2),([3,4,5,6,7,8,9,10,11,12,13,14,15,16,17,18],19),([20,21,22,23,24,25,26,27,28,29,30,31,32],33)] [34,35,36,37,38,39,40,41,42,43,44,45,46,47] ?_;refine av fun K1 ct=>?_
    simp only[af,Zx];repeat go_big_quiet_step(fail)
    apply wpQuiet_nil;go_wp2_with fail;refine(gC.out _).mono ?_;rintro e w4 ⟨rfl,rfl⟩;go_wp2_with fail;refine⟨aR,ct _ _ ?_⟩;refine av fun K2 ge=>?_
    simp only[af,Zx];repeat go_big_quiet_step(fail)
    apply wpQuiet_nil;go_wp2_with fail;try(refine(tF.out _).mono ?_;rintro e w4 ⟨rfl,rfl⟩;go_wp2_with fail)
    refine⟨aR,ge _ _ ?_⟩;refine av fun K3 jx=>?_
    simp only[af,Zx];repeat go_big_quiet_step(fail)
    apply wpQuiet_nil;go_wp2_with fail;try(refine(Br.out _).mono ?_;rintro e w4 ⟨rfl,rfl⟩;go_wp2_with fail)
    refine⟨aR,jx _ _ ?_⟩;refine aj ?_;simp only[af,Zx];repeat go_big_quiet_step(fail)
    apply wpQuiet_nil;go_wp2_with fail;go_ret;exact⟨by rw[hr.out];rfl,Ey⟩
end
end
section
open Go.Maps Go.MapKept Go.WideMaps
open Go.ChangeMaps (setBlock modify_eq_set heap_setBlock_same heap_setBlock_other)
theorem jI{L:List MapEntry}(hn:(L.map (·.key)).Nodup){j:Nat}{e0:MapEntry}(h:L[j]?=some e0)(y x:MapEntry):x∈L.set j y↔x=y\/(x∈L/\x.key≠e0.key):=by
 obtain⟨hj,ej⟩:=List.getElem?_eq_some_iff.1 h;have inj:∀i (hi:i<L.length),L[i].key=e0.key->i=j:=fun i hi e=>by
  have h1:i<(L.map (·.key)).length:=by simpa using hi
  have h2:j<(L.map (·.key)).length:=by simpa using hj
  refine(List.getElem_inj (h₀:=h1) (h₁:=h2) hn).1 ?_;simp only[List.getElem_map];rw[e,ej]
 constructor
 ·intro hx;obtain⟨i,hi,ex⟩:=List.getElem_of_mem hx;rw[List.getElem_set]at ex;split at ex
  ·exact .inl ex.symm
  ·rename_i fV;have NM:i<L.length:=by simpa using hi
   refine .inr ⟨ex▸List.getElem_mem NM,fun e=>fV ?_⟩;exact(inj i NM (by rw[ex];exact e)).symm
 ·rintro(rfl|⟨hx,fV⟩)
  ·exact List.mem_iff_getElem.2 ⟨j,by simpa using hj,by simp⟩
  ·obtain⟨i,hi,rfl⟩:=List.getElem_of_mem hx;have Ju:j≠i:=fun e=>fV (by subst e;rw[ej])
   exact List.mem_iff_getElem.2 ⟨i,by simpa using hi,by rw[List.getElem_set_ne Ju]⟩
def fw(w:World)(b:Nat)(l:List Int):Prop:=
 ∃es clock,w.heap[b]?=some (.map es clock)/\Stamped es clock/\(∀x∈es.toList,∃k:Int,x.key=.int .i64 k/\0<=k/\k<=1000)/\∀k:Int,k∈l↔∃x∈es.toList,x.key=.int .i64 k
theorem CO:prog.underlying 3=some (.int .i64):=underlying3
theorem kO:Keyed prog 3:=int_keyed CO
theorem qe{s:Int}(h0:0<=s)(h1:s<=1000):keyOf prog 3 (.int .i64 s)=some (.int .i64 s):=keyOf_int_mk CO (by rw[Lit.wf_int_iff];simp only[IntKind.min,IntKind.max,IntKind.signed,IntKind.bits];simp;omega)
section
variable {w w':World}{b:Nat}{l:List Int}
theorem fw.lt(h:fw w b l):b<w.heap.size:=by
 obtain⟨es,clock,hb,_⟩:=h;exact aV hb
theorem fw.keep(h:fw w b l)(hk:w'.heap[b]?=w.heap[b]?):fw w' b l:=by
 obtain⟨es,clock,hb,h'⟩:=h;exact⟨es,clock,hk.trans hb,h'⟩
theorem fw.made(w:World):fw (w.alloc (.map #[] 0)) w.heap.size []:=
 ⟨#[],0,heap_alloc_new w _,stamped_empty 0,fun x hx=>by simp at hx,fun k=>by simp⟩
theorem JN{es:Array MapEntry}(h:∀x∈es.toList,∃k:Int,x.key=.int .i64 k/\0<=k/\k<=1000):∀x∈es.toList,∃l,keyOf prog 3 x.key=some l:=fun x hx=>by
 obtain⟨s,e,h0,h1⟩:=h x hx;exact⟨_,by rw[e];exact qe h0 h1⟩
theorem uU{es:Array MapEntry}{clock:Nat}(hb:w.heap[b]?=some (.map es clock))(o:Obj):w.grownBy (setBlock w b o) (some b):=
 ⟨rfl,rfl,rfl,by simp[setBlock],fun j _ fV=>heap_setBlock_other hb o (fun e=>fV (by rw[e]))⟩
theorem vn{α:Type}[DecidableEq α]:∀{l l':List α},l.Nodup->l ⊆ l'->l.length<=l'.length
 | [],l',_,_=>Nat.zero_le _
 | x::l,l',hn,hs=>by
  have hx:x∈l':=hs (List.mem_cons_self ..);have h1:=List.nodup_cons.1 hn;have:=vn h1.2 (l':=l'.erase x) fun y hy=>(List.mem_erase_of_ne fun(e:y=x)=>h1.1 (by rw[<-e];exact hy)).2 (hs (List.mem_cons_of_mem _ hy))
  have h3:=List.length_erase_of_mem hx;have h4:=List.length_pos_of_mem hx;simp only[List.length_cons];omega
theorem fw.size(h:fw w b l):∃es clock,w.heap[b]?=some (.map es clock)/\es.size<=l.length:=by
 obtain⟨es,clock,h1,h2,h3,h4⟩:=h;refine⟨es,clock,h1,?_⟩;have hn:(es.toList.map (·.key)).Nodup:=h2.2.2;obtain⟨ks,AK⟩:∃ks:List Int,es.toList.map (·.key)=ks.map (Value.int .i64):=by
  have:∀L:List MapEntry,(∀x∈L,∃k:Int,x.key=.int .i64 k/\0<=k/\k<=1000)->∃ks:List Int,L.map (·.key)=ks.map (Value.int .i64):=fun L=>by
   induction L with
   | nil=>exact fun _=>⟨[],rfl⟩
   | cons x L ih=>
    intro hL;obtain⟨k,e,_⟩:=hL x (List.mem_cons_self ..);obtain⟨ks,e2⟩:=ih fun y hy=>hL y (List.mem_cons_of_mem _ hy)
    exact⟨k::ks,by rw[List.map_cons,List.map_cons,e,e2]⟩
  exact this _ h3
 rw[AK]at hn;have ah:es.size=ks.length:=by
  have:=congrArg List.length AK;simpa using this
 have Yh:ks.Nodup:=List.Pairwise.imp (fun {a b} h e=>h (by rw[e])) (List.pairwise_map.1 hn);rw[ah];refine vn Yh fun k hk=>(h4 k).2 ?_
 have:Value.int .i64 k∈es.toList.map (·.key):=by rw[AK];exact List.mem_map.2 ⟨k,hk,rfl⟩
 obtain⟨x,hx,e⟩:=List.mem_map.1 this;exact⟨x,hx,e⟩
theorem rK(h:fw w b l){t e:TypeId}(ht:prog.underlying t=some (.map 3 e)){s:Int}(h0:0<=s)(sN:s<=1000)(v:Value) :
  ∃w',(Instr.mapUpdate t (.map (some b)) (.int .i64 s) v).run prog w=.ok () w'/\fw w' b (l++[s])/\w.grownBy w' (some b):=by
 obtain⟨es,clock,hb,aE,AK,hF⟩:=h;have IW:=qe h0 sN;have Kp:∀e0:MapEntry,∀j,es.toList[j]?=some e0->(es.modify j (fun e'=>{e' with key:=.int .i64 s,val:=v})).toList=es.toList.set j {e0 with key:=.int .i64 s,val:=v}:=fun e0 j h2=>by rw[Array.toList_modify,modify_eq_set _ _ _ _ h2]
 rcases kO.find w IW es.toList (JN AK)with⟨h1,h2⟩|⟨j,e0,h1,h2,h3⟩
 ·refine⟨setBlock w b (.map (es.push ⟨.int .i64 s,v,clock⟩) (clock+1)),?_,⟨_,_,heap_setBlock_same hb _,stamped_push aE h2,?_,?_⟩,uU hb _⟩
  ·simp[Instr.mapUpdate,run_underlying ht,MapKept.run_getObj_map hb,kO.check w false IW,h1,MapKept.run_setObj_map _ hb,Result.andThen,setBlock]
  ·intro x hx;simp only[Array.toList_push,List.mem_append,List.mem_singleton]at hx;rcases hx with hx|rfl
   ·exact AK x hx
   ·exact⟨s,rfl,h0,sN⟩
  ·intro t;simp only[Array.toList_push,List.mem_append,List.mem_singleton];constructor
   ·rintro(ht|rfl)
    ·obtain⟨x,hx,hk⟩:=(hF t).1 ht;exact⟨x,.inl hx,hk⟩
    ·exact⟨_,.inr rfl,rfl⟩
   ·rintro⟨x,hx|rfl,hk⟩
    ·exact .inl ((hF t).2 ⟨x,hx,hk⟩)
    ·injection hk with _ hk;exact .inr hk.symm
 ·have hj:es[j]?=some e0:=by simpa using h2
  have OZ:∀e',es[j]?=some e'->({e' with key:=.int .i64 s,val:=v}:MapEntry).key=e'.key:=fun e' NC=>by rw[hj]at NC;cases NC;exact h3.symm
  refine⟨setBlock w b (.map (es.modify j (fun e'=>{e' with key:=.int .i64 s,val:=v})) clock),?_,⟨_,_,heap_setBlock_same hb _,stamped_modify aE _ _ (fun _ _=>rfl) (fun e' _ NC=>OZ e' NC),?_,?_⟩,uU hb _⟩
  ·simp[Instr.mapUpdate,run_underlying ht,MapKept.run_getObj_map hb,kO.check w false IW,h1,hj,h3,kO.stays w IW,MapKept.run_setObj_map _ hb,Result.andThen,setBlock]
  ·intro x hx;rw[Kp e0 j h2,jI aE.2.2 h2]at hx;rcases hx with rfl|⟨hx,_⟩
   ·exact⟨s,rfl,h0,sN⟩
   ·exact AK x hx
  ·intro t;rw[Kp e0 j h2];simp only[List.mem_append,List.mem_singleton];have hs:s∈l:=(hF s).2 ⟨e0,List.mem_of_getElem? h2,h3⟩;constructor
   ·intro ht;have ME:t∈l:=by
     rcases ht with ht|rfl
     ·exact ht
     ·exact hs
    obtain⟨x,hx,hk⟩:=(hF t).1 ME;by_cases e:t=s
    ·exact⟨_,(jI aE.2.2 h2 _ _).2 (.inl rfl),by rw[e]⟩
    ·refine⟨x,(jI aE.2.2 h2 _ _).2 (.inr ⟨hx,fun e'=>e ?_⟩),hk⟩;have:=(hk.symm.trans e').trans h3;injection this
   ·rintro⟨x,hx,hk⟩;rcases(jI aE.2.2 h2 _ _).1 hx with rfl|⟨hx,_⟩
    ·injection hk with _ hk;exact .inr hk.symm
    ·exact .inl ((hF t).2 ⟨x,hx,hk⟩)
end
structure lX(w:World)(r b:Nat)(l:List Int)(left:Int->Prop)(n:Nat)(last:Option Int):Prop where
 m:fw w b l
 it:∃es clock since c0 seen,w.heap[r]?=some (.mapIter (some b) since seen c0)/\w.heap[b]?=some (.map es clock)/\Stamped es clock/\
  (∀x∈es.toList,x.born<since)/\since<=c0/\n=(leftOf es seen).size/\(∀s,left s↔∃x∈(leftOf es seen).toList,x.key=.int .i64 s)/\
  (∀x∈es.toList,∃s:Int,x.key=.int .i64 s/\0<=s/\s<=1000)/\since<=clock/\
  (∀s,last=some s->∃(e:MapEntry) (seen0:Array Nat),e∈es.toList/\e.key=.int .i64 s/\seen=seen0.push e.born/\c0=clock)
section
variable {w w':World}{r b n:Nat}{l:List Int}{left:Int->Prop}{last:Option Int}
theorem lX.keep(h:lX w r b l left n last)(hr:w'.heap[r]?=w.heap[r]?)(hb:w'.heap[b]?=w.heap[b]?):lX w' r b l left n last:=by
 obtain⟨es,clock,since,c0,seen,h1,h2,h3⟩:=h.it;exact⟨h.m.keep hb,es,clock,since,c0,seen,hr.trans h1,hb.trans h2,h3⟩
theorem yq(es:Array MapEntry):leftOf es #[]=es:=by
 unfold leftOf;exact Array.filter_eq_self.2 (fun x _=>by simp)
theorem xI(h:fw w b l){t e:TypeId}(ht:prog.underlying t=some (.map 3 e)) :
  ∃w' n,(Instr.range t (.map (some b))).run prog w=.ok (.pointer (some ⟨w.heap.size,0,none⟩)) w'/\n<=l.length/\lX w' w.heap.size b l (fun s=>s∈l) n none/\∃o,w'=w.alloc o:=by
 have aU:=h.lt;obtain⟨es,clock,hb,aE,AK,hF⟩:=id h;have gu:es.size<=l.length:=by
  obtain⟨es',clock',e1,e2⟩:=h.size;rw[hb]at e1;cases e1;exact e2
 have jH:(w.alloc (.mapIter (some b) clock #[] clock)).heap[b]?=some (.map es clock):=((MapKept.heap_alloc w _).2 b aU).trans hb;refine⟨_,es.size,run_range_map w t 3 e b es clock ht hb,gu,⟨h.keep (((MapKept.heap_alloc w _).2 b aU)),es,clock,clock,clock,#[],(MapKept.heap_alloc w _).1,jH,aE,aE.1,Nat.le_refl _,by rw[yq],?_,AK,Nat.le_refl _,fun s h=>by cases h⟩,_,rfl⟩;intro s;rw[yq];exact hF s
theorem mU(h:lX w r b l left n last)(E5:r≠b)(ty:TypeId) :
  (n=0/\(∀s,¬left s)/\(Instr.next (.pointer (some ⟨r,0,none⟩)) false ty).run prog w=.ok (.tuple #[.bool false]) w)\/
  ∃s v w1 o n',n'<n/\left s/\(w1=w\/w1=w.drew)/\(Instr.next (.pointer (some ⟨r,0,none⟩)) false ty).run prog w=.ok (.tuple #[.bool true,.int .i64 s,v]) (setBlock w1 r o)/\
   lX (setBlock w1 r o) r b l (fun t=>left t/\t≠s) n' (some s):=by
 obtain⟨es,clock,since,c0,seen,h1,h2,aE,hold,SQ,hn,yn,AK,MN,_⟩:=h.it;rcases run_next_at (P:=prog) w ty r b since c0 seen es clock h1 h2 hold SQ with⟨h0,lv⟩|⟨e,he,w1,bV,lv⟩
 ·refine .inl ⟨hn.trans h0,fun s hs=>?_,lv⟩;obtain⟨x,hx,_⟩:=(yn s).1 hs;have:=Array.eq_empty_of_size_eq_zero h0;rw[this]at hx;simp at hx
 ·have NF:e∈es.toList:=by
   unfold leftOf at he;simp at he ⊢;exact he.1
  obtain⟨s,hk,hs⟩:=AK e NF;have Qg:w1.heap=w.heap:=by rcases bV with rfl|rfl <;> rfl
  have JH:r<w1.heap.size:=by
   rw[Qg];rcases Nat.lt_or_ge r w.heap.size with aU|tq
   ·exact aU
   ·rw[Array.getElem?_eq_none tq]at h1;cases h1
  have N9:(setBlock w1 r (.mapIter (some b) since (seen.push e.born) clock)).heap[r]?=some (.mapIter (some b) since (seen.push e.born) clock):=by
   simp[setBlock,JH]
  have jH:(setBlock w1 r (.mapIter (some b) since (seen.push e.born) clock)).heap[b]?=w.heap[b]?:=by
   simp only[setBlock];rw[Array.getElem?_setIfInBounds_ne E5,Qg]
  refine .inr ⟨s,e.val,w1,_,_,?_,(yn s).2 ⟨e,he,hk⟩,bV,by rw[<-hk];exact lv,⟨h.m.keep jH,es,clock,since,clock,seen.push e.born,N9,jH.trans h2,aE,hold,MN,rfl,?_,AK,MN,?_⟩⟩
  ·rw[hn];exact left_shrinks es seen e he
  ·intro t;have inj:∀x,x∈es.toList->(x.born=e.born↔x.key=e.key):=fun x hx=>by
    obtain⟨i,hi,rfl⟩:=List.getElem_of_mem hx;obtain⟨j,hj,rfl⟩:=List.getElem_of_mem NF;constructor
    ·intro e1;have:=(List.getElem_inj (h₀:=by simpa using hi) (h₁:=by simpa using hj) aE.2.1).1 (by simpa using e1);subst this;rfl
    ·intro e1;have:=(List.getElem_inj (h₀:=by simpa using hi) (h₁:=by simpa using hj) aE.2.2).1 (by simpa using e1);subst this;rfl
   have memL:∀x,x∈(leftOf es (seen.push e.born)).toList↔x∈(leftOf es seen).toList/\x.born≠e.born:=fun x=>by
    unfold leftOf;simp[and_assoc]
   constructor
   ·rintro⟨hl,fV⟩;obtain⟨x,hx,AH⟩:=(yn t).1 hl;refine⟨x,(memL x).2 ⟨hx,fun e1=>fV ?_⟩,AH⟩;have:=(inj x (mem_left hx).1).1 e1;rw[AH,hk]at this;injection this
   ·rintro⟨x,hx,AH⟩;obtain⟨hx,fV⟩:=(memL x).1 hx;refine⟨(yn t).2 ⟨x,hx,AH⟩,fun e1=>fV ((inj x (mem_left hx).1).2 ?_)⟩;rw[AH,hk,e1]
  ·intro s' e1;injection e1 with e1;subst e1;exact⟨e,seen,NF,hk,rfl,rfl⟩
theorem lV{s:Int}(h:lX w r b l left n (some s)):∃v,(Instr.entry (.pointer (some ⟨r,0,none⟩))).run prog w=.ok (.tuple #[.int .i64 s,v]) w:=by
 obtain⟨es,clock,since,c0,seen,h1,h2,aE,hold,SQ,hn,yn,AK,MN,hl⟩:=h.it;obtain⟨e,seen0,he,hk,rfl,rfl⟩:=hl s rfl;have:=run_entry_at (P:=prog) w r b since seen0 es c0 e h1 h2 he aE.2.1;rw[hk]at this;exact⟨_,this⟩
end
end
section
open Go.MapKept
section
variable {aa ak:Nat->Nat}{b g:Nat}{w w':World}{R R':Rf}{v v':Rw}
theorem ax.turn(X:List Nat)(h:ax aa b w g R v)(hs:ar w' g 107 (bE R' v'))(hl:∀i j,0<i->i<=13->i∉X->j<w.heap.size->aa j=b+i->ak j=b+i)
  (h1:1∉X) (hF:Fr (fun j=>j=g\/∃i,i∈X/\aa j=b+i) w w')
  (t:tE ak (b+2) w' v'.trk R'.track\/(2∉X/\v'.trk=v.trk/\R'.track=R.track))
  (p:bQ ak (b+3) w' 163 4 v'.peers R'.peers.length (R'.peers.flatMap mK)\/(3∉X/\v'.peers=v.peers/\R'.peers=R.peers))
  (q:bQ ak (b+4) w' 167 3 v'.waits R'.waits.length (R'.waits.flatMap mT)\/(4∉X/\v'.waits=v.waits/\R'.waits=R.waits))
  (y:uj ak (b+5) w' v'.yes R'.yes\/(5∉X/\v'.yes=v.yes/\R'.yes=R.yes))
  (d:bM ak (b+6) w' v'.dat R'.snap.data\/(6∉X/\v'.dat=v.dat/\R'.snap.data=R.snap.data))
  (gd:bQ ak (b+7) w' 5 1 v'.gat R'.gath.data.length (R'.gath.data.map vb)\/(7∉X/\v'.gat=v.gat/\R'.gath.data=R.gath.data))
  (e:dU ak (b+8) (b+13) w' v'.ent R'.out.entries\/((8∉X/\13∉X)/\v'.ent=v.ent/\R'.out.entries=R.out.entries))
  (c:dU ak (b+9) (b+13) w' v'.com R'.out.commits\/((9∉X/\13∉X)/\v'.com=v.com/\R'.out.commits=R.out.commits))
  (n:tT ak (b+13) w' v'.snp R'.out.snap\/(13∉X/\v'.snp=v.snp/\R'.out.snap=R.out.snap))
  (r:bQ ak (b+11) w' 134 2 v'.rds R'.out.reads.length (R'.out.reads.flatMap qW)\/(11∉X/\v'.rds=v.rds/\R'.out.reads=R.out.reads))
  (m:iE ak (b+12) (b+13) w' v'.mgs R'.out.msgs\/((12∉X/\13∉X)/\v'.mgs=v.mgs/\R'.out.msgs=R.out.msgs)):ax ak b w' g R' v':=by
 have h0:=h.relabel (ak:=ai aa w.heap.size b) fun j hj _=>ac hj
 have B:∀i j,0<i->ai aa w.heap.size b j=b+i->j<w.heap.size/\aa j=b+i:=fun i j hi e=>by
  rcases Nat.lt_or_ge j w.heap.size with hj|hj
  ·exact⟨hj,(ac hj).symm.trans e⟩
  ·rw[ay hj]at e;omega
 have L:∀i,0<i->i<=13->i∉X->∀j,j<w'.heap.size->ai aa w.heap.size b j=b+i->ak j=b+i:=fun i h1 h2 hX j _ e=>hl i j h1 h2 hX (B i j h1 e).1 (B i j h1 e).2
 have K:∀i,1<i->i<=13->i∉X->∀j,ai aa w.heap.size b j=b+i->j<w.heap.size->w'.heap[j]?=w.heap[j]?:=fun i h0 h1 hX j hj aU=>hF.block j aU fun hh=>by
  have hj:=(B i j (by omega) hj).2;rcases hh with rfl|⟨k,hk,hh⟩
  ·have:=h.sl;omega
  ·have:k=i:=by omega
   rw[this]at hk;exact hX hk
 refine⟨hs,hl 1 g (by omega) (by omega) h1 h.s.lt h.sl,?_,?_,?_,?_,?_,?_,?_,?_,?_,?_,?_⟩
 ·rcases t with t|⟨hX,e1,e2⟩
  ·exact t
  ·rw[e1,e2];exact(h0.t.keep (K 2 (by omega) (by omega) hX)).relabel (L 2 (by omega) (by omega) hX)
 ·rcases p with p|⟨hX,e1,e2⟩
  ·exact p
  ·rw[e1,e2];exact(h0.p.keep (K 3 (by omega) (by omega) hX)).relabel (L 3 (by omega) (by omega) hX)
 ·rcases q with q|⟨hX,e1,e2⟩
  ·exact q
  ·rw[e1,e2];exact(h0.q.keep (K 4 (by omega) (by omega) hX)).relabel (L 4 (by omega) (by omega) hX)
 ·rcases y with y|⟨hX,e1,e2⟩
  ·exact y
  ·rw[e1,e2];exact(h0.y.keep (K 5 (by omega) (by omega) hX)).relabel (L 5 (by omega) (by omega) hX)
 ·rcases d with d|⟨hX,e1,e2⟩
  ·exact d
  ·rw[e1,e2];exact(h0.d.keep (K 6 (by omega) (by omega) hX)).relabel (L 6 (by omega) (by omega) hX)
 ·rcases gd with gd|⟨hX,e1,e2⟩
  ·exact gd
  ·rw[e1,e2];exact(h0.gd.keep (K 7 (by omega) (by omega) hX)).relabel (L 7 (by omega) (by omega) hX)
 ·rcases e with e|⟨⟨hX,hY⟩,e1,e2⟩
  ·exact e
  ·rw[e1,e2];exact(h0.e.keep (K 8 (by omega) (by omega) hX) (K 13 (by omega) (by omega) hY)).relabel (L 8 (by omega) (by omega) hX) (L 13 (by omega) (by omega) hY)
 ·rcases c with c|⟨⟨hX,hY⟩,e1,e2⟩
  ·exact c
  ·rw[e1,e2];exact(h0.c.keep (K 9 (by omega) (by omega) hX) (K 13 (by omega) (by omega) hY)).relabel (L 9 (by omega) (by omega) hX) (L 13 (by omega) (by omega) hY)
 ·rcases n with n|⟨hX,e1,e2⟩
  ·exact n
  ·rw[e1,e2];exact(h0.n.keep (K 13 (by omega) (by omega) hX)).relabel (L 13 (by omega) (by omega) hX)
 ·rcases r with r|⟨hX,e1,e2⟩
  ·exact r
  ·rw[e1,e2];exact(h0.r.keep (K 11 (by omega) (by omega) hX)).relabel (L 11 (by omega) (by omega) hX)
 ·rcases m with m|⟨⟨hX,hY⟩,e1,e2⟩
  ·exact m
  ·rw[e1,e2];exact(h0.m.keep (K 12 (by omega) (by omega) hX) (K 13 (by omega) (by omega) hY)).relabel (L 12 (by omega) (by omega) hX) (L 13 (by omega) (by omega) hY)
theorem ao.turn(X:List Nat)(h:ax aa b w g R v)(hs:ar w' g 107 (bE R' v'))(hl:∀j,j<w.heap.size->ak j=aa j)
  (h1:∀i,i∈X->1<i/\i<=12) (hF:Fr (fun j=>j=g\/∃i,i∈X/\aa j=b+i) w w')
  (t:tE ak (b+2) w' v'.trk R'.track\/(2∉X/\v'.trk=v.trk/\R'.track=R.track))
  (p:bQ ak (b+3) w' 163 4 v'.peers R'.peers.length (R'.peers.flatMap mK)\/(3∉X/\v'.peers=v.peers/\R'.peers=R.peers))
  (q:bQ ak (b+4) w' 167 3 v'.waits R'.waits.length (R'.waits.flatMap mT)\/(4∉X/\v'.waits=v.waits/\R'.waits=R.waits))
  (y:uj ak (b+5) w' v'.yes R'.yes\/(5∉X/\v'.yes=v.yes/\R'.yes=R.yes))
  (d:bM ak (b+6) w' v'.dat R'.snap.data\/(6∉X/\v'.dat=v.dat/\R'.snap.data=R.snap.data))
  (gd:bQ ak (b+7) w' 5 1 v'.gat R'.gath.data.length (R'.gath.data.map vb)\/(7∉X/\v'.gat=v.gat/\R'.gath.data=R.gath.data))
  (e:dU ak (b+8) (b+13) w' v'.ent R'.out.entries\/((8∉X/\13∉X)/\v'.ent=v.ent/\R'.out.entries=R.out.entries))
  (c:dU ak (b+9) (b+13) w' v'.com R'.out.commits\/((9∉X/\13∉X)/\v'.com=v.com/\R'.out.commits=R.out.commits))
  (n:tT ak (b+13) w' v'.snp R'.out.snap\/(13∉X/\v'.snp=v.snp/\R'.out.snap=R.out.snap))
  (r:bQ ak (b+11) w' 134 2 v'.rds R'.out.reads.length (R'.out.reads.flatMap qW)\/(11∉X/\v'.rds=v.rds/\R'.out.reads=R.out.reads))
  (m:iE ak (b+12) (b+13) w' v'.mgs R'.out.msgs\/((12∉X/\13∉X)/\v'.mgs=v.mgs/\R'.out.msgs=R.out.msgs)):ao aa b w g R' w':=by
 refine⟨ak,v',h.turn X hs (fun i j _ _ _ hj e=>(hl j hj).trans e) (fun hh=>by have:=h1 1 hh;omega) hF t p q y d gd e c n r m,fun j hj _=>hl j hj,fun j hj hm=>?_,hF.mono fun j hj=>?_⟩
 ·unfold aN at hm ⊢;rw[hl j hj];exact hm
 ·have:=h.sl;rcases hj with rfl|⟨i,hi,e⟩
  ·exact⟨by omega,by omega⟩
  ·have:=h1 i hi;exact⟨by omega,by omega⟩
theorem Fr.map{b:Nat}(hg:w.grownBy w' (some b)):Fr (fun j=>j=b) w w':=
 have h:=(Below.refl 0 w).grown hg zz (fun _ _=>Nat.zero_le _)
 ⟨h.os,h.tape,h.output,h.size,fun k hk hn=>hg.block k hk fun e=>hn (Option.some.inj e)⟩
theorem Fr.two{X Y Z:Nat->Prop}{w1 w2 w3:World}(h:Fr X w1 w2)(h':Fr Y w2 w3)(hX:∀j,X j->Z j\/w1.heap.size<=j)(hY:∀j,Y j->Z j\/w1.heap.size<=j):Fr Z w1 w3:=
 ⟨h'.os.trans h.os,h'.tape.trans h.tape,h'.output.trans h.output,Nat.le_trans h.size h'.size,fun k hk hn=>
  (h'.block k (Nat.lt_of_lt_of_le hk h.size) fun hx=>(hY k hx).elim hn fun h0=>absurd h0 (by omega)).trans (h.block k hk fun hx=>(hX k hx).elim hn fun h0=>absurd h0 (by omega))⟩
theorem uC(role:Int)(h:ax aa b w g R v)(jg:R.id<=1000) :
  Calls prog 96 #[.pointer (some ⟨g,0,none⟩),.int .i64 role] w fun e w'=>e=.returned (.tuple #[])/\ao aa b w g {R with role:=role,leader:=0,yes:=[(R.id:Int)]} w':=by
 have cQ:=h.s.lt;obtain⟨c3,c4,c13,c14,-⟩:=h.s.cs [3,4,13,14];obtain⟨f3,f13,f14,-⟩:=h.s.fs [3,13,14];simp only[bE,vi,Zx]at c3 c4 c13 c14;have AD:Fr (fun j=>j=g) w ((w.setCell ⟨g,13,none⟩ (.int .i64 role)).setCell ⟨g,14,none⟩ (.int .i64 0)):=(Fr.set g 13 _).trans (Fr.set g 14 _) fun _ h=>.inl h
 have gu:((w.setCell ⟨g,13,none⟩ (.int .i64 role)).setCell ⟨g,14,none⟩ (.int .i64 0)).heap.size=w.heap.size:=by simp[World.setCell]
 have AE:ar ((w.setCell ⟨g,13,none⟩ (.int .i64 role)).setCell ⟨g,14,none⟩ (.int .i64 0)) g 107 (bE {R with role:=role,leader:=0} v):=by
  have s:=(h.s.set_ 13 (.int .i64 role)).set_ 14 (.int .i64 0);simp only[bE,Zy]at s;exact s
 have eb:=fw.made ((w.setCell ⟨g,13,none⟩ (.int .i64 role)).setCell ⟨g,14,none⟩ (.int .i64 0));rw[gu]at eb;have dH:Below _ ((w.setCell ⟨g,13,none⟩ (.int .i64 role)).setCell ⟨g,14,none⟩ (.int .i64 0)) (((w.setCell ⟨g,13,none⟩ (.int .i64 role)).setCell ⟨g,14,none⟩ (.int .i64 0)).alloc (.map #[] 0)):=(Below.refl ((w.setCell ⟨g,13,none⟩ (.int .i64 role)).setCell ⟨g,14,none⟩ (.int .i64 0)).heap.size _).alloc zl _;obtain⟨wa,Xf⟩:=zN (((w.setCell ⟨g,13,none⟩ (.int .i64 role)).setCell ⟨g,14,none⟩ (.int .i64 0)));rw[Xf]at AD gu AE eb dH;obtain⟨w2,cw⟩:=zN (wa.alloc (.map #[] 0));rw[cw]at eb dH;obtain⟨w3,QH,ja,gK⟩:=rK eb underlying101 (s:=(R.id:Int)) (by omega) (by omega) (.bool true);have ls:=AE.kept dH;have iT:ar w3 g 107 (bE {R with role:=role,leader:=0} v):=((Fr.map gK).block g ls.lt (by omega)).trans ls;have c4':=ls.cell 4;have d3:=iT.cell 3;have e3:=iT.free 3;simp only[bE,vi,Zx]at d3 c4';have ED:fw (w3.setCell ⟨g,3,none⟩ (.map (some w.heap.size))) w.heap.size [(R.id:Int)]:=ja.keep ((Fr.set g 3 _).block _ ja.lt (by omega));have hF:Fr (fun j=>j=g\/∃i,i∈[5]/\aa j=b+i) w (w3.setCell ⟨g,3,none⟩ (.map (some w.heap.size))):=
  (((AD.two (Fr.of_below (X:=fun j=>j=g) dH) (fun j e=>.inl (.inl e)) fun j e=>.inl (.inl e)).two (Fr.map gK) (fun j e=>.inl e) fun j e=>.inr (by omega)).two (Fr.set g 3 _) (fun j e=>.inl e) fun j e=>.inl (.inl e))
 have AI:ar (w3.setCell ⟨g,3,none⟩ (.map (some w.heap.size))) g 107 (bE {R with role:=role,leader:=0,yes:=[(R.id:Int)]} {v with yes:=.map (some w.heap.size)}):=by
  have s:=iT.set_ 3 (.map (some w.heap.size));simp only[bE,Zy]at s;exact s
 have hy:uj (ai aa w.heap.size (b+5)) (b+5) (w3.setCell ⟨g,3,none⟩ (.map (some w.heap.size))) (.map (some w.heap.size)) [(R.id:Int)]:=by
  obtain⟨es,clock,q1,q2,q3,q4⟩:=ED;exact .inr ⟨_,es,clock,rfl,ay zl,q1,q2,q3,q4⟩
 have hP:=zH (show ao aa b w g {R with role:=role,leader:=0,yes:=[(R.id:Int)]} (w3.setCell ⟨g,3,none⟩ (.map (some w.heap.size)))from ao.turn (ak:=ai aa w.heap.size (b+5)) [5] h AI (fun j hj=>ac hj) (by simp) hF
  tI tI tI (.inl hy) tI tI tI tI tI tI tI)
 clear h eb ja ED hF AD AE ls iT AI hy gK dH;go_enter func96,ntmps96;go_wp2_with fail;rw[show ∀w,(Instr.makeMap 101 none).run prog w=.ok (.map (some w.heap.size)) (w.alloc (.map #[] 0))from fun _=>rfl];go_wp2_with fail;exact al rfl rfl ⟨rfl,hP.out⟩
end
end
end Go.Proofs.YtjcninheccmpoaaGreat
