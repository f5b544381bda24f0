import Derived.Test.YtjcninheccmpoaaGreatM8
set_option maxRecDepth 100000
set_option maxHeartbeats 8000000
set_option linter.all false
namespace Go.Proofs.YtjcninheccmpoaaGreat
open Go.RowKit Go.Proofs.Tryz
section
variable {aa:Nat->Nat}{c q g i n d:Nat}{w w':World}{R:Rf}{v:Aw}{A:Option Addr}{zs:List (Value×En)}{t t':bB}
def ob(aa:Nat->Nat)(q:Nat)(w:World)(j:Nat):Prop:=aa j=q/\j<w.heap.size
theorem ob.label{i:Nat}:∀j,j<w'.heap.size->ob aa q w j->aQ (ai aa w.heap.size i) q j:=fun _ _ h=>(ac h.2).trans h.1
theorem sX(hT:cG (aQ aa q) w g t A n d zs)(hl:∀j,(j=g\/az A j)->aa j=i)(hP:fQ (ob aa q w) w g A t' w') :
  AM (ai aa w.heap.size i) i q w' (.pointer (some ⟨g,0,none⟩)) t'/\Fr (aQ aa i) w w':=by
 obtain⟨A',n',d',zs',h1,h2,h3⟩:=hP;refine⟨⟨g,A',n',d',zs',rfl,h1.mono ob.label,fun j hj=>?_⟩,h3.mono fun j e=>hl j (.inl e)⟩;rcases hj with rfl|hj
 ·exact(ac hT.b.lt).trans (hl _ (.inl rfl))
 ·rcases h2 j hj with h|h
  ·exact(ac (hT.rowlt j h)).trans (hl j (.inr h))
  ·exact ay h
theorem aJ.track(ha:aL c q)(h:aJ aa c q w g R v)(hT:AM (ai aa w.heap.size (c+2)) (c+2) q w' v.trk t')(hF:Fr (aQ aa (c+2)) w w') :
  aJ (ai aa w.heap.size (c+2)) c q w' g {R with track:=t'} v/\Fr (aT aa c) w w':=by
 have hs:ar w' g 122 (bj {R with track:=t'} v):=(hF.other (k:=c+1) (by omega) g h.sl h.s.lt).trans h.s;have di:Fr (fun j=>j=g\/∃i,i∈[2]/\aa j=c+i) w w':=hF.mono fun j e=>.inr ⟨2,by simp,e⟩
 have hX:∀i∈[2],1<i/\i<=9:=by simp
 exact⟨h.turn [2] ha hs (fun j hj=>ac hj) hX di (.inl hT) tI tI tI (.inr ⟨rfl,rfl⟩) (.inr ⟨rfl,rfl⟩) tI tI (.inr ⟨rfl,rfl⟩) tI tI,gD h hX di⟩
def nF(aa:Nat->Nat)(c q:Nat)(w:World)(g:Nat)(R':Rf)(v:Aw)(w':World)(vy:Value)(fs:List Fa):Prop:=
 ∃ak:Nat->Nat,aJ ak c q w' g R' v/\(∀j,j<w.heap.size->ak j=aa j)/\Fr (aT aa c) w w'/\aG (aQ ak q) w' vy fs
theorem qY(tm:Int)(x:En)(V:Option Addr)(m k:Nat)(ha:aL c q)(h:aJ aa c q w g R v)(hN:R.track.L.length<=1000000)(hf:aG (aQ aa q) w (.slice V m k) x.facts)(hm:m<=maxLen) :
  Calls prog 69 #[v.trk,.int .i64 tm,.agg #[.int .i64 x.op,.int .i64 x.sess,.int .i64 x.seq,.slice V m k]] w fun e w'=>∃A1 n1 c1,e=.returned (.tuple #[.agg #[.int .i64 (R.track.putF tm x).1.1.idx,.int .i64 (R.track.putF tm x).1.1.term,.int .i64 (R.track.putF tm x).1.1.op,.int .i64 (R.track.putF tm x).1.1.sess,.int .i64 (R.track.putF tm x).1.1.seq,.slice A1 n1 c1],.int .i64 (R.track.putF tm x).1.2])/\
   nF aa c q w g {R with track:=(R.track.putF tm x).2} v w' (.slice A1 n1 c1) (R.track.putF tm x).1.1.facts:=by
 obtain⟨gt,A,n,d,zs,hv,hT,hl⟩:=id h.t;rw[hv];have hS:∀j,ob aa q w j->j<w.heap.size/\j≠gt:=fun j hj=>⟨hj.2,fun e=>by
  have h1:=hl gt (.inl rfl);have h2:=hj.1;rw[e,h1]at h2;unfold aL at ha;omega⟩
 refine(FH tm x V m k (hT.mono (S':=ob aa q w) fun j hj e=>⟨e,hj⟩) (by have:=hT.len.1;omega) (hf.mono fun j hj e=>⟨e,hj⟩) hm hS).mono ?_;rintro e w' ⟨vy,rfl,RF,hP⟩;obtain⟨A1,n1,c1,rfl,_⟩:=RF.form;obtain⟨q1,q2⟩:=sX hT hl hP;rw[<-hv]at q1;obtain⟨h1,h2⟩:=h.track ha q1 q2;exact⟨A1,n1,c1,rfl,_,h1,fun j hj=>ac hj,h2,RF.mono ob.label⟩
def nI(aa:Nat->Nat)(c q:Nat)(w:World)(g:Nat)(R':Rf)(v:Aw)(w':World):Prop:=
 ∃ak:Nat->Nat,aJ ak c q w' g R' v/\(∀j,j<w.heap.size->ak j=aa j)/\Fr (aT aa c) w w'
theorem nI.post{R':Rf}(h:nI aa c q w g R' v w'):au aa c q w g R' w':=by
 obtain⟨ak,h1,h2,h3⟩:=h;exact⟨ak,v,h1,h2,h3⟩
theorem vx(k:Int)(ha:aL c q)(h:aJ aa c q w g R v)(hN:R.track.L.length<=1000000) :
  Calls prog 128 #[v.trk,.int .i64 k] w fun e w'=>e=.returned (.int .i64 (R.track.dropF k).1)/\nI aa c q w g {R with track:=(R.track.dropF k).2} v w':=by
 obtain⟨gt,A,n,d,zs,hv,hT,hl⟩:=id h.t;rw[hv];have hS:∀j,ob aa q w j->j≠gt:=fun j hj e=>by
  have h1:=hl gt (.inl rfl);have h2:=hj.1;rw[e,h1]at h2;unfold aL at ha;omega
 refine(ES k (hT.mono (S':=ob aa q w) fun j hj e=>⟨e,hj⟩) (by have:=hT.len.1;omega) hS).mono ?_;rintro e w' ⟨rfl,hP⟩;obtain⟨q1,q2⟩:=sX hT hl hP;rw[<-hv]at q1;obtain⟨h1,h2⟩:=h.track ha q1 q2;exact⟨rfl,_,h1,fun j hj=>ac hj,h2⟩
theorem uD(idx tm:Int)(A2:Option Addr)(m c2:Nat)(ys:List (Value×En))(ha:aL c q)(h:aJ aa c q w g R v)(hN:R.track.L.length<=1000000)(hr:fu w A2 m ys)(hd:bq (aQ aa q) w ys)
  (hm:m<=100000) (Ao:m<=c2) (Pq:c2<=maxLen) (Dg:0<m->∀j,az A2 j->aa j≠c+2) :
  Calls prog 46 #[v.trk,.int .i64 idx,.int .i64 tm,.slice A2 m c2] w fun e w'=>
   e=.returned (.tuple #[.int .i64 (R.track.takeF idx tm (ys.map (·.2))).1.1,.bool (R.track.takeF idx tm (ys.map (·.2))).1.2])/\nI aa c q w g {R with track:=(R.track.takeF idx tm (ys.map (·.2))).2} v w':=by
 obtain⟨gt,A,n,d,zs,hv,hT,hl⟩:=id h.t;rw[hv];have hS:∀j,ob aa q w j->j≠gt:=fun j hj e=>by
  have h1:=hl gt (.inl rfl);have h2:=hj.1;rw[e,h1]at h2;unfold aL at ha;omega
 refine(DN idx tm A2 m c2 ys (hT.mono (S':=ob aa q w) fun j hj e=>⟨e,hj⟩) (by have:=hT.len.1;omega) hr (hd.mono fun j hj e=>⟨e,hj⟩) hm Ao Pq hS fun h0 j hj e=>Dg h0 j hj (by rw[e];exact hl gt (.inl rfl))).mono ?_;rintro e w' ⟨rfl,hP⟩;obtain⟨q1,q2⟩:=sX hT hl hP;rw[<-hv]at q1;obtain⟨h1,h2⟩:=h.track ha q1 q2;exact⟨rfl,_,h1,fun j hj=>ac hj,h2⟩
end
section
variable {aa ag:Nat->Nat}{c q g p:Nat}{w w' w1 w2 wX:World}{R R' R2:Rf}{v:Aw}{vy:Value}{fs:List Fa}{x:En}{cs:Array Value}
def eF(aa:Nat->Nat)(c q:Nat)(w:World)(g:Nat)(R':Rf)(w':World)(p:Nat)(vy:Value)(fs:List Fa)(cs:Array Value):Prop:=
 ∃(ak:Nat->Nat) (v':Aw),aJ ak c q w' g R' v'/\(∀j,j<w.heap.size->ak j=aa j)/\Fr (aT aa c) w w'/\aG (aQ ak q) w' vy fs/\ar w' p 59 cs/\¬dC ak c q p/\w.heap.size<=p
theorem nF.boxed(cs:Array Value)(h:nF aa c q w g R' v w' vy fs)(_ha:aL c q):eF aa c q w g R' (w'.alloc (.cells cs 59)) w'.heap.size vy fs cs:=by
 obtain⟨ak,h1,h2,h3,h4⟩:=h;have hb:Below w'.heap.size w' (w'.alloc (.cells cs 59)):=(Below.refl w'.heap.size w').alloc zl _;have hs:=h3.size;refine⟨ai ak w'.heap.size (q+c+10),v,h1.fresh _ hb,fun j hj=>(ac (by omega)).trans (h2 j hj),h3.trans (Fr.of_below (X:=aT aa c) hb) fun j hj=>.inl hj,?_,ar.new _ _ _,?_,hs⟩
 ·exact(h4.mono fun j hj e=>(ac hj).trans e).keep (bz.below hb)
 ·unfold dC;rw[ay zl];omega
theorem nF.box(h:nF (ai aa w.heap.size (q+c+10)) c q (w.alloc (.cells cs 59)) g R' v w' vy fs):eF aa c q w g R' w' w.heap.size vy fs cs:=by
 obtain⟨ak,h1,h2,h3,h4⟩:=h;have hb:Below w.heap.size w (w.alloc (.cells cs 59)):=(Below.refl w.heap.size w).alloc zl _;have hk:=ar.new w 59 cs;have hl:=hk.lt;have e1:ak w.heap.size=q+c+10:=(h2 _ hl).trans (ay zl);refine⟨ak,v,h1,fun j hj=>(h2 j (by omega)).trans (ac hj),(Fr.of_below (X:=aT aa c) hb).trans h3 fun j hj=>fH (fun _ hj=>ac hj) hj,h4,(h3.block _ hl ?_).trans hk,?_,Nat.le_refl _⟩
 ·unfold aT;rw[ay zl];omega
 ·unfold dC;rw[e1];omega
theorem eF.set(x:En)(h:eF aa c q w g R' w' p vy fs cs)(hc:cs.size=6):eF aa c q w g R' (set6 w' p (vy,x)) p vy fs (bY (vy,x)).toArray:=by
 obtain⟨ak,v',h1,h2,h3,h4,h5,h6,h7⟩:=h;have hF:=Fr.set6 w' p (vy,x);refine⟨ak,v',h1.keep fun j hj hl=>hF.block j hl fun e=>h6 (e▸hj),h2,h3.trans hF fun j e=>.inr (by omega),h4.keep (hF.stay fun j hj _ e=>h6 ?_),(eW (vy,x) h5 hc).1,h6,h7⟩;rw[<-e];exact .inr hj
theorem eF.post(h:eF aa c q w g R' w' p vy fs cs):au aa c q w g R' w':=by
 obtain⟨ak,v',h1,h2,h3,h4,h5,h6,h7⟩:=h;exact⟨ak,v',h1,h2,h3⟩
theorem eF.blk(h:eF aa c q w g R' w' p vy fs cs):ar w' p 59 cs/\p≠g/\w.heap.size<=p:=by
 obtain⟨ak,v',h1,h2,h3,h4,h5,h6,h7⟩:=h;refine⟨h5,fun e=>h6 ?_,h7⟩;rw[e];have:=h1.sl;exact .inl ⟨by omega,by omega⟩
theorem eF.open_(ha:aL c q)(h:eF aa c q w g R' w' p vy fs cs):∃ag v1,aJ ag c q w' g R' v1/\aG (aQ ag q) w' vy fs/\¬aT ag c p/\∀R2 w2,au ag c q w' g R2 w2->eF aa c q w g R2 w2 p vy fs cs:=by
 obtain⟨ak,v',h1,h2,h3,h4,h5,h6,h7⟩:=h;have ho:¬aT ak c p:=fun hh=>h6 (.inl hh)
 refine⟨ak,v',h1,h4,ho,fun R2 w2 hP=>?_⟩;obtain⟨bu,v2,r1,r2,r3⟩:=hP;have hs:=h3.size;have hn:∀j,j<w'.heap.size->(dC bu c q j↔dC ak c q j):=fun j hj=>by unfold dC;rw[r2 j hj]
 refine⟨bu,v2,r1,fun j hj=>(r2 j (by omega)).trans (h2 j hj),h3.trans r3 fun j hj=>fH h2 hj,?_,(r3.block p h5.lt ho).trans h5,fun hh=>h6 ((hn p h5.lt).1 hh),h7⟩;exact(h4.mono (S':=aQ bu q) fun j hj e=>(r2 j hj).trans e).keep fun j hj hl=>r3.block j hl fun hh=>by
  have hj:bu j=q:=hj;rw[r2 j hl]at hj;unfold aT at hh;unfold aL at ha;omega
theorem eF.act{f:Nat}{args:Array Value}{E:Ending}(ha:aL c q)(h:eF aa c q w g R' w' p vy fs cs)(hc:∀ag v1,aJ ag c q w' g R' v1->Calls prog f args w' fun e w2=>e=E/\au ag c q w' g R2 w2) :
  Calls prog f args w' fun e w2=>e=E/\eF aa c q w g R2 w2 p vy fs cs:=by
 obtain⟨ag,v1,h1,_,_,h2⟩:=h.open_ ha;exact(hc ag v1 h1).mono fun e w2 r=>⟨r.1,h2 R2 w2 r.2⟩
theorem eF.next(h:eF ag c q w1 g R' w' p vy fs cs)(hl:∀j,j<w.heap.size->ag j=aa j)(hF:Fr (aT aa c) w w1):eF aa c q w g R' w' p vy fs cs:=by
 obtain⟨ak,v',h1,h2,h3,h4,h5,h6,h7⟩:=h;have hs:=hF.size;exact⟨ak,v',h1,fun j hj=>(h2 j (by omega)).trans (hl j hj),hF.trans h3 fun j hj=>fH hl hj,h4,h5,h6,by omega⟩
theorem vH(ha:aL c q)(h:aJ aa c q w g R v)(hf:aG (aQ aa q) w vy x.facts):∃A d zs,v.ent=.slice A R.out.entries.length d/\
  ((w.alloc (.cells (bY (vy,x)).toArray 59)).drew).ownsRow 0 59 6 (.slice A R.out.entries.length d) R.out.entries.length (zs.flatMap bY)/\fu ((w.alloc (.cells (bY (vy,x)).toArray 59)).drew) (some ⟨w.heap.size,0,none⟩) 1 [(vy,x)]/\Below w.heap.size w ((w.alloc (.cells (bY (vy,x)).toArray 59)).drew)/\
  (∀z∈[(vy,x)],z.1.oneCell'=true)/\∀A3 c3 w3,w3.ownsRow 0 59 6 (.slice A3 (R.out.entries.length+1) c3) (R.out.entries.length+1) ((zs++[(vy,x)]).flatMap bY)->Fr (az A) ((w.alloc (.cells (bY (vy,x)).toArray 59)).drew) w3->(∀j,az A3 j->az A j\/((w.alloc (.cells (bY (vy,x)).toArray 59)).drew).heap.size<=j)->
   ar w3 g 122 (bj R v)/\au aa c q w g {R with out:={R.out with entries:=R.out.entries++[x]}} (w3.setCell ⟨g,26,none⟩ (.slice A3 (R.out.entries.length+1) c3))/\∀j,j<w.heap.size->¬aT aa c j->w3.heap[j]?=w.heap[j]?:=by
 have hb:Below w.heap.size w ((w.alloc (.cells (bY (vy,x)).toArray 59)).drew):=((Below.refl w.heap.size w).alloc zl _).drew;have h1:=h.fresh (q+c+10) hb;obtain⟨A,d,zs,pY,uv,bP,xr,tB⟩:=h1.e.row;have hr:fu ((w.alloc (.cells (bY (vy,x)).toArray 59)).drew) (some ⟨w.heap.size,0,none⟩) 1 [(vy,x)]:=fu.one (ar.new w _ _);have hd:bq (aQ (ai aa w.heap.size (q+c+10)) q) ((w.alloc (.cells (bY (vy,x)).toArray 59)).drew) [(vy,x)]:=fun z hz=>by
  rw[List.mem_singleton.1 hz];exact(hf.mono (S':=aQ (ai aa w.heap.size (q+c+10)) q) fun j hj e=>(ac hj).trans e).keep (bz.below hb)
 refine⟨A,d,zs,pY,bP,hr,hb,hd.one,fun A3 c3 w3 ho hF EX=>?_⟩;obtain⟨h6,jb,mX⟩:=Fz ha h1 uv rfl xr tB hd (L':=[x]) rfl (m:=1) rfl ho hF EX;refine⟨mX,(au.fresh (q+c+10) ⟨_,_,h6,fun j hj=>ac hj,jb⟩ hb),fun j hj hn=>(hF.block j (Nat.lt_of_lt_of_le hj hb.size) fun hh=>hn ?_).trans (hb.block j hj)⟩;obtain⟨A0,d0,e0,_,jq⟩:=uv;injection e0 with e1 _ _;subst e1;have:=jq j hh;rw[ac hj]at this;exact⟨by omega,by omega⟩
end
theorem Bz:(prog.info? 171).map (fun i=>(i.zero,i.size,i.bytes))=some (some (.agg #[.int .i64 0,.int .i64 0,.int .i64 0,.int .i64 0]),4,32):=by kernel_rfl
theorem px{w:World}{ops:Array Oper}{rest:List Oper}{o:Oper}{a:Act}{Q:Exit->Act->World->Prop}(kt:o.guard=none)(s x:Operand)
  (ho:o.op=.call {callee:=.builtin .append,args:=#[s,x],argTypes:=#[117,117]})
  (base:Nat) {A:Option Addr} {n c:Nat} {l:List Pr} (hs:a.eval s=.slice A n c) (aD:w.ownsRow base 171 4 (.slice A n c) n (l.flatMap mK))
  {B:Option Addr} {m d:Nat} {r:List Pr} (hx:a.eval x=.slice B m d) (hr:cn w 4 B m (r.flatMap mK)) (hb:n+m<=1000000000) (bl:base<=w.heap.size)
  (h:∀A' c' w',w'.ownsRow base 171 4 (.slice A' (n+m) c') (n+m) ((l++r).flatMap mK)->Fr (az A) w w'->(∀j,az A' j->az A j\/w.heap.size<=j)->wpList prog ops Q rest (a.put o.dst (.slice A' (n+m) c')) w'):wpList prog ops Q (o::rest) a w:=by
 obtain⟨i0,iy,jK,iL,gL⟩:=info_parts Bz;refine bb w kt s x 117 ho base 171 i0 _ 4 32 underlying117 iy jK iL gL rfl (by omega) (.slice A n c) n _ hs aD B m d _ hx hr (fun u hu=>?_) (by unfold maxLen;omega) (by omega) bl fun A' c' w' h3 h4 h5=>?_
 ·obtain⟨z,_,hz⟩:=List.mem_flatMap.1 hu;unfold mK at hz;simp only[List.mem_cons,List.not_mem_nil,or_false]at hz;rcases hz with rfl|rfl|rfl|rfl <;> rfl
 ·rw[<-List.flatMap_append]at h3;exact h A' c' w' h3 (Fr.grown h4) (gE h5)
theorem RdP.one{w:World}{g:Nat}{a b c d:Int}(hg:ar w g 171 #[.int .i64 a,.int .i64 b,.int .i64 c,.int .i64 d]):cn w 4 (some ⟨g,0,none⟩) 1 ([(⟨a,b,c,d⟩:Pr)].flatMap mK):=
 ⟨rfl,fun _=>⟨_,rfl,fun j y hy=>by
  have e:(⟨g,0,none⟩:Addr).add j=⟨g,j,none⟩:=by unfold Addr.add;split <;> simp[*]
  rw[e,hg.cell j,<-hy];simp[mK,vi]⟩⟩
def ib(R:Rf)(k:Nat):Rf:={R with role:=3,leader:=R.id,clock:=0,peers:=List.replicate k ⟨R.track.lastF.1+1,0,0,0⟩}
def wg(R:Rf):Rf:={ib R (R.n+1)with waits:=[]}
def yM(R:Rf)(pf:(En×Int)×bB):Rf:={wg R with track:=pf.2}
theorem Dm{R:Rf}{pf:(En×Int)×bB}(h:R.track.putF R.hard.term gk=pf):R.leads1=if pf.1.2=0 then {(yM R pf).save [pf.1.1]with round:=1}else {yM R pf with round:=1}:=by
 have e:R.crown.track.putF R.crown.hard.term gk=pf:=h;unfold Rf.leads1;simp only[e];split <;> rfl
section
variable {aa:Nat->Nat}{c q g:Nat}{w:World}{R:Rf}{v:Aw}
theorem sC{K M:Nat}(ha:aL c q)(h:aJ aa c q w g R v)(hk:Ok K M R)(ct:1<=K)(hK:K<=80000)(hM:M<=60000)(hi:R.track.index<=R.commit) :
  Calls prog 116 #[.pointer (some ⟨g,0,none⟩)] w fun e w'=>e=.returned (.tuple #[])/\au aa c q w g R.leads w':=by
 have cQ:=h.s.lt;have qk:=hk.id.2.2;have cf:=hk.trk;obtain⟨c0,c1,c4,-⟩:=h.s.cs [0,1,4];simp only[bj,vi,Zx]at c0 c1 c4;have bI:=jE h.t (by omega);have dG:=h.t.inv;have oV:=dG.last;have uN:=dG.room;have kp:=dG.b;obtain⟨l1,cy⟩:∃l,R.track.lastF.1=l:=⟨_,rfl⟩;rw[cy]at bI oV;have DF:0<=l1/\l1<=1099511627776:=by omega
 have hH:=zH h;replace cy:=zH cy;replace hk:=zH hk;clear h dG oV uN kp;go_enter func116,ntmps116;go_wp2_with fail;refine bI.mono ?_;rintro e w1 ⟨rfl,bs⟩;clear bI c0 c1 c4;have h1:=hH.out.fresh (q+c+10) bs;obtain⟨e0,e9,e10,e11,e14,-⟩:=h1.s.cs [0,9,10,11,14];simp only[bj,vi,Zx]at e0 e9 e10 e11 e14;obtain⟨f9,f10,f11,f14,-⟩:=h1.s.fs [9,10,11,14];have iQ:=h1.s.lt;obtain⟨w2,cw⟩:=zN ((((w1.setCell ⟨g,9,none⟩ (.int .i64 3)).setCell ⟨g,10,none⟩ (.int .i64 R.id)).setCell ⟨g,11,none⟩ (.int .i64 0)).setCell ⟨g,14,none⟩ (.slice none 0 0));have di:Fr (fun j=>j=g) w1 w2:=by rw[<-cw];exact(((Fr.set g 9 _).trans (Fr.set g 10 _) fun _ h=>.inl h).trans (Fr.set g 11 _) fun _ h=>.inl h).trans (Fr.set g 14 _) fun _ h=>.inl h
 have ls:ar w2 g 122 (bj (ib R 0) {v with peers:=.slice none 0 0}):=by
  rw[<-cw];have s:=(((h1.s.set_ 9 (.int .i64 3)).set_ 10 (.int .i64 R.id)).set_ 11 (.int .i64 0)).set_ 14 (.slice none 0 0);simp only[bj,Zy]at s;exact s
 have C3:au aa c q w g (ib R 0) w2:=by
  refine au.fresh (q+c+10) (w1:=w1) ?_ bs;have qw:Fr (fun j=>j=g\/∃i,i∈[4]/\ai aa w.heap.size (q+c+10) j=c+i) w1 w2:=di.mono fun j e=>.inl e
  have hX:∀i∈[4],1<i/\i<=9:=by simp
  exact⟨_,_,h1.turn [4] ha ls (fun j hj=>rfl) hX qw tI tI (.inl (bQ.nil _ _ _ _ _)) tI (.inr ⟨rfl,rfl⟩) (.inr ⟨rfl,rfl⟩) tI tI (.inr ⟨rfl,rfl⟩) tI tI,fun j hj=>rfl,gD h1 hX qw⟩
 replace cw:=zH cw;clear h1 di ls;go_wp2_with fail;rw[cw.out];try go_wp2_with fail
 go_loopw [4] (fun i wr=>∃k:Nat,k<=R.n+1/\i=.int .i64 k/\au aa c q w g (ib R k) wr) (fun i _=>R.n+1-(intOf i).toNat)
 case atStart=>exact⟨0,Nat.zero_le _,rfl,C3⟩
 case round=>
  clear C3;obtain⟨k,Db,rfl,ag,v1,h1,rF,gR⟩:=hrel;have c1:=h1.s.cell 1;simp only[bj,vi,Zx]at c1;have NU:(ib R k).n=R.n:=rfl;rw[NU]at c1;have iQ:=h1.s.lt;by_cases aU:k<R.n+1
  ·have fo:(k:Int)<=R.n:=by omega
   have aP:=zH (show R.n+1-(k+1)<R.n+1-k by omega);have aI:Below wr.heap.size wr (wr.alloc (.cells #[.int .i64 (l1+1),.int .i64 0,.int .i64 0,.int .i64 0] 171)):=zb.alloc zl _;have dx:=RdP.one (ar.new wr 171 #[.int .i64 (l1+1),.int .i64 0,.int .i64 0,.int .i64 0]);have h2:=h1.fresh (q+c+10) aI;obtain⟨A,d,eX,bP,hl⟩:=id h2.p;have mx:(ib R k).peers.length=k:=List.length_replicate;rw[mx]at eX bP;have c14:wr.cell? ⟨g,14,none⟩=some (.slice A k d):=by
    have:=h1.s.cell 14;simp only[bj,Zx]at this;rw[this,eX]
   have fi:k+1<=1000000000:=by omega
   have aF:∀(A3:Option Addr) (c3:Nat) (w3:World),w3.ownsRow 0 171 4 (.slice A3 (k+1) c3) (k+1) (((ib R k).peers++[(⟨l1+1,0,0,0⟩:Pr)]).flatMap mK)->Fr (az A) (wr.alloc (.cells #[.int .i64 (l1+1),.int .i64 0,.int .i64 0,.int .i64 0] 171)) w3->(∀j,az A3 j->az A j\/(wr.alloc (.cells #[.int .i64 (l1+1),.int .i64 0,.int .i64 0,.int .i64 0] 171)).heap.size<=j)->
     ar w3 g 122 (bj (ib R k) v1)/\au aa c q w g (ib R (k+1)) (w3.setCell ⟨g,14,none⟩ (.slice A3 (k+1) c3)):=fun A3 c3 w3 ho hF hr=>by
    have hy:=h2.p;rw[eX,mx]at hy;obtain⟨g1,g2⟩:=oG hy ho hF hr;have e:(ib R k).peers++[(⟨l1+1,0,0,0⟩:Pr)]=(ib R (k+1)).peers:=by
     show List.replicate k _++_=List.replicate (k+1) _;rw[cy.out,List.replicate_succ']
    rw[e]at g1;have e2:(ib R (k+1)).peers.length=k+1:=List.length_replicate;obtain⟨h3,h4,h5⟩:=h2.setPeers ha g2 (by rw[e2];exact g1);exact⟨h5,((au.fresh (q+c+10) (w1:=wr.alloc (.cells #[.int .i64 (l1+1),.int .i64 0,.int .i64 0,.int .i64 0] 171)) ⟨_,_,h3,fun j hj=>ac hj,h4⟩ aI).next rF gR)⟩
   clear h1 h2 hl;go_wp2_with (at_builtin;refine px rfl (.tmp 43) (.tmp 47) rfl 0 rfl bP rfl dx fi zz ?_;intro A3 c3 w3 cE dg hrw3;obtain⟨iT,lm⟩:=aF A3 c3 w3 cE dg hrw3;replace lm:=zH lm;have x14:=iT.cell 14;have y14:=iT.free 14;simp only[bj,vi,Zx]at x14;clear aF cE dg hrw3 bP);exact⟨⟨k+1,aU,by go_num,lm.out⟩,by simp[intOf];have:=aP.out;omega⟩
  ·obtain rfl:k=R.n+1:=by omega
   have ku:¬((R.n+1:Nat):Int)<=R.n:=by omega
   have h2:=h1.s.set_ 16 (.slice none 0 0);have x16:=h1.s.free 16;have z16:∃u,wr.cell? ⟨g,16,none⟩=some u:=⟨_,h1.s.cell 16⟩;simp only[bj,Zy]at h2;obtain⟨A5,d5,qG,_⟩:=id h1.x;have c16:wr.cell? ⟨g,16,none⟩=some (.slice A5 (ib R (R.n+1)).waits.length d5):=by
    have:=h1.s.cell 16;simp only[bj,Zx]at this;rw[this,qG]
   obtain⟨w4,eL⟩:=zN (wr.setCell ⟨g,16,none⟩ (.slice none 0 0));have iK:Fr (fun j=>j=g) wr w4:=by rw[<-eL];exact Fr.set g 16 _
   rw[eL]at h2;have H8:Fr (fun j=>j=g\/∃i,i∈[5]/\ag j=c+i) wr w4:=iK.mono fun j e=>.inl e
   have hX:∀i∈[5],1<i/\i<=9:=by simp
   have h4:aJ ag c q w4 g (wg R) {v1 with waits:=.slice none 0 0}:=h1.turn [5] ha h2 (fun j hj=>rfl) hX H8 tI tI tI (.inl (bQ.nil _ _ _ _ _)) (.inr ⟨rfl,rfl⟩) (.inr ⟨rfl,rfl⟩) tI tI (.inr ⟨rfl,rfl⟩) tI tI;have Ie:Fr (aT aa c) w w4:=gR.trans (gD h1 hX H8) fun j hj=>fH rF hj
   generalize bW:({v1 with waits:=.slice none 0 0}:Aw)=v4 at h4;obtain⟨pf,jv⟩:=zN (R.track.putF R.hard.term gk);have kh:Below w4.drew.heap.size w4.drew (w4.drew.alloc (.cells #[.int .i64 0,.int .i64 0,.int .i64 0,.int .i64 0,.int .i64 0,.slice none 0 0] 59)):=zb.alloc zl _;have eD:=qY R.hard.term gk none 0 0 ha (h4.below (w':=w4.drew) (zb.drew)) (by show R.track.L.length<=_;omega) (aG.nil _ _) zz;have ey:=qY R.hard.term gk none 0 0 ha ((h4.below (w':=w4.drew) (zb.drew)).fresh (q+c+10) kh) (by show R.track.L.length<=_;omega) (aG.nil _ _) zz;have V9:(wg R).track=R.track:=rfl;rw[V9,jv]at eD ey;have AG:({wg R with track:=pf.2}:Rf)=yM R pf:=rfl;rw[AG]at eD ey;simp only[gk]at eD ey;obtain⟨gt,gM,ye,pI,ua⟩:=h4.trk_at;rw[gM]at eD ey;obtain⟨d2,d4,-⟩:=h4.s.cs [2,4];simp only[bj,vi,Zx]at d2 d4;rw[gM]at d4;obtain⟨k2,k4⟩:=nY [g] d2 d4;have KG:=h4.s.lt;have qQ:w4.heap[g]?=some (.cells (bj (yM R pf) v4) 122 (0,0)):=h4.s;have ci:∀wx p vy cs,eF ag c q w4.drew g (yM R pf) wx p vy pf.1.1.facts cs->eF aa c q w g (yM R pf) wx p vy pf.1.1.facts cs:=fun wx p vy cs hM=>hM.next rF (Ie.trans (Fr.of_below (X:=aT aa c) (zb.drew)) fun _ h=>.inl h)
   replace eL:=zH eL;replace jv:=zH jv;replace bW:=zH bW;clear h1 h2 h4 V9 AG z16;go_wp2_with fail;rw[eL.out];try go_wp2_with fail
   go_cut [5,6] (fun s5 s6 wr=>∃p A1 n1 c1,s5=.pointer (some ⟨p,0,none⟩)/\s6=.int .i64 pf.1.2/\eF aa c q w g (yM R pf) wr p (.slice A1 n1 c1) pf.1.1.facts (bY (.slice A1 n1 c1,pf.1.1)).toArray)
   case first=>
    refine Q6 [g] w4 (.two [0,1,2,3,4,5,6,7,8,9] 10 14 (.one [11,12,13] 14 (.one [] 15 (.last [16]))) (.one [] 10 (.one [11,12,13] 15 (.last [16])))) ?_;refine ir fun K1 K2 ct ge=>?_
    simp only[af,Zx];repeat go_big_quiet_step(fail)
    apply wpQuiet_nil;constructor
    ·go_wp2_with fail;refine eD.mono ?_;rintro e w5 ⟨A1,n1,c1,rfl,hT⟩;go_wp2_with fail;have jp:w5.heap[g]?=w4.heap[g]?:=by obtain⟨cV,h5,_⟩:=id hT;exact h5.s.trans qQ.symm
     refine⟨br jp,ct _ _ ?_⟩;clear eD ey;refine bD fun K3 jx=>?_
     simp only[af,Zx];repeat go_big_quiet_step(fail)
     apply wpQuiet_nil;go_wp2_with fail;have hM:=hT.boxed #[.int .i64 0,.int .i64 0,.int .i64 0,.int .i64 0,.int .i64 0,.slice none 0 0] ha;have kS:(w5.alloc (.cells #[.int .i64 0,.int .i64 0,.int .i64 0,.int .i64 0,.int .i64 0,.slice none 0 0] 59)).heap[g]?=w4.heap[g]?:=by
      have LE:Below w5.heap.size w5 (w5.alloc (.cells #[.int .i64 0,.int .i64 0,.int .i64 0,.int .i64 0,.int .i64 0,.slice none 0 0] 59)):=zb.alloc zl _;exact(LE.block _ (aV (jp.trans qQ))).trans jp
     generalize E6:w5.alloc (.cells #[.int .i64 0,.int .i64 0,.int .i64 0,.int .i64 0,.int .i64 0,.slice none 0 0] 59)=w6 at *;generalize yb:w5.heap.size=p at *;refine⟨br kS,jx _ _ ?_⟩;refine bD fun K4 tj=>?_
     simp only[af,Zx];apply wpQuiet_nil;obtain⟨fS,rU,_⟩:=hM.blk;obtain⟨z0,z1,z2,z3,z4,z5,-⟩:=fS.cs [0,1,2,3,4,5];simp only[Zx]at z0 z1 z2 z3 z4 z5;obtain⟨f0,f1,f2,f3,f4,f5,-⟩:=fS.fs [0,1,2,3,4,5];have eQ:=Fr.set6 w6 p (.slice A1 n1 c1,pf.1.1);have uL:(set6 w6 p (.slice A1 n1 c1,pf.1.1)).heap[g]?=w4.heap[g]?:=(eQ.block g (aV (kS.trans qQ)) fun e=>rU e.symm).trans kS;have oD:=hM.set pf.1.1 rfl;go_wp2_with fail;refine⟨br uL,tj _ _ ?_⟩;show eG _ _ _ _ _ _ (set6 w6 p (.slice A1 n1 c1,pf.1.1));have aF:=zH (ci _ _ _ _ oD);generalize set6 w6 p (.slice A1 n1 c1,pf.1.1)=w7 at *;clear hM oD fS z0 z1 z2 z3 z4 z5 f0 f1 f2 f3 f4 f5 eQ hT ci;refine dz ?_;simp only[af,Zx];repeat go_big_quiet_step(fail)
     apply wpQuiet_nil;go_wp2_with fail
     go_meet
     exact⟨p,A1,n1,c1,rfl,rfl,aF.out⟩
    ·go_wp2_with fail;refine⟨br (kh.block g KG),ge _ _ ?_⟩;refine bD fun K3 jx=>?_
     simp only[af,Zx];apply wpQuiet_nil;go_wp2_with fail;refine ey.mono ?_;rintro e w6 ⟨A1,n1,c1,rfl,hT⟩;go_wp2_with fail;have kS:w6.heap[g]?=w4.heap[g]?:=by obtain⟨cV,h5,_⟩:=id hT;exact h5.s.trans qQ.symm
     have hM:=hT.box;have Bh:w4.drew.heap.size=w4.heap.size:=rfl;rw[Bh]at hM;refine⟨br kS,jx _ _ ?_⟩;clear eD ey;refine bD fun K4x Bg=>?_
     simp only[af,Zx];repeat go_big_quiet_step(fail)
     apply wpQuiet_nil;obtain⟨fS,rU,_⟩:=hM.blk;generalize w4.heap.size=p at *;obtain⟨z0,z1,z2,z3,z4,z5,-⟩:=fS.cs [0,1,2,3,4,5];simp only[Zx]at z0 z1 z2 z3 z4 z5;obtain⟨f0,f1,f2,f3,f4,f5,-⟩:=fS.fs [0,1,2,3,4,5];have eQ:=Fr.set6 w6 p (.slice A1 n1 c1,pf.1.1);have uL:(set6 w6 p (.slice A1 n1 c1,pf.1.1)).heap[g]?=w4.heap[g]?:=(eQ.block g (aV (kS.trans qQ)) fun e=>rU e.symm).trans kS;have oD:=hM.set pf.1.1 rfl;go_wp2_with fail;refine⟨br uL,Bg _ _ ?_⟩;show eG _ _ _ _ _ _ (set6 w6 p (.slice A1 n1 c1,pf.1.1));have aF:=zH (ci _ _ _ _ oD);generalize set6 w6 p (.slice A1 n1 c1,pf.1.1)=w7 at *;clear hM oD fS z0 z1 z2 z3 z4 z5 f0 f1 f2 f3 f4 f5 eQ hT ci;refine dz ?_;simp only[af,Zx];repeat go_big_quiet_step(fail)
     apply wpQuiet_nil;go_wp2_with fail
     go_meet
     exact⟨p,A1,n1,c1,rfl,rfl,aF.out⟩
   case rest=>
    obtain⟨p,A1,n1,c1,MA,mX,sf⟩:=hcut;subst MA;subst mX
    rename World=>wc
    clear eD ey kh ci d2 d4 k2 k4 qQ Ie iK H8 c16 x16;have Nm:R.leads=R.leads1.all.agrees:=rfl;have gw:=Dm jv.out;have rI:Ok (K+1) (M+1) R.leads1:=hk.out.leads1 ct;have jX:=yR R;have nB:=rI.all;have jz:=rI.peers jX (by omega);have rP:R.leads1.all.track.index<=R.leads1.all.commit/\R.leads1.all.peers.length=R.leads1.all.n+1:=by
     obtain⟨ms,e,_⟩:=ev R.leads1.others R.leads1;have e':R.leads1.all=_:=e;rw[e'];refine⟨?_,jz.len⟩;show R.leads1.track.index<=R.leads1.commit;have Gc:=iv R.track R.hard.term gk;rw[jv.out]at Gc;rw[gw];split
     ·show pf.2.index<=R.commit;rw[Gc.1];exact hi
     ·show pf.2.index<=R.commit;rw[Gc.1];exact hi
    have aF:∀wx,au aa c q w g R.leads1 wx->Calls prog 53 #[.pointer (some ⟨g,0,none⟩)] wx fun e w'=>e=.returned (.tuple #[])/\au aa c q w g R.leads1.all w':=fun wx hP=>hP.call fun bu v2 h2=>oK ha h2 jz (by have:=rI.ms;omega)
    have na:∀wx,au aa c q w g R.leads1.all wx->Calls prog 70 #[.pointer (some ⟨g,0,none⟩)] wx fun e w'=>e=.returned (.tuple #[])/\au aa c q w g R.leads w':=fun wx hP=>hP.call fun bu v2 h2=>lN ha h2 rP.2 nB.id.2.2 rP.1 nB.cm.1 (by have:=nB.trk;omega) (by have:=nB.cs;omega)
    replace aF:=zH aF;replace na:=zH na;replace rI:=zH rI;replace nB:=zH nB;replace jz:=zH jz;replace rP:=zH rP;clear Nm jX;obtain⟨nr,rU,_⟩:=sf.blk;obtain⟨bu,v2,h2,qV,U2,cR⟩:=sf.open_ ha;by_cases hz:pf.1.2=0
    ·rw[if_pos hz]at gw;have xn:(pf.1.2==0)=true:=by simp[hz]
     obtain⟨d15,d22,-⟩:=h2.s.cs [15,22];simp only[bj,vi,Zx]at d15 d22;obtain⟨f15,f22,-⟩:=h2.s.fs [15,22];have s22:=h2.s.set_ 22 (.bool true);simp only[bj,Zy]at s22;obtain⟨wd,tJ⟩:=zN (wc.setCell ⟨g,22,none⟩ (.bool true));have Az:Fr (fun j=>j=g) wc wd:=by rw[<-tJ];exact Fr.set g 22 _
     rw[tJ]at s22;have h3:aJ bu c q wd g {yM R pf with out:={(yM R pf).out with save:=true}} v2:=h2.nums ha s22 Az rfl rfl rfl rfl rfl rfl rfl rfl rfl rfl rfl;have uH:ar wd p 59 (bY (.slice A1 n1 c1,pf.1.1)).toArray:=(Az.block p nr.lt rU).trans nr;have Bi:∀j,bu j=q->j≠g:=fun j hj e=>by have:=h2.sl;rw[e]at hj;unfold aL at ha;omega
     have uc:aG (aQ bu q) wd (.slice A1 n1 c1) pf.1.1.facts:=qV.keep fun j hj hl=>Az.block j hl (Bi j hj)
     obtain⟨A,d,zs,pY,bP,dx,P6,gq,jy⟩:=vH ha h3 uc;have UF:=zH (h2.nums_post ha h3 Az);obtain⟨n,fp⟩:=zN ((yM R pf).out.entries.length);have ah:({yM R pf with out:={(yM R pf).out with save:=true}}:Rf).out.entries.length=n:=fp;rw[ah]at pY bP jy;have Sr:n<=100000:=by rw[<-fp];have:=hk.out.es;show R.out.entries.length<=_;omega
     have e26:wd.cell? ⟨g,26,none⟩=some (.slice A n d):=by
      have:=h3.s.cell 26;simp only[bj,Zx]at this;rw[this,pY]
     have kt:=h3.s.lt;have Q2:=uH.lt;obtain⟨z0,z1,z2,z3,z4,z5,-⟩:=uH.cs [0,1,2,3,4,5];simp only[bY,vi,Zx]at z0 z1 z2 z3 z4 z5;obtain⟨k26,k0,k1,k2,k3,k4,k5⟩:=KW [g,p] e26 z0 z1 z2 z3 z4 z5;have cT:∀x∈[g,p],x<wd.heap.size:=by simp;exact⟨kt,Q2⟩
     have fi:n+1<=1000000000:=by omega
     have KS:∀A3 c3 w3,w3.ownsRow 0 59 6 (.slice A3 (n+1) c3) (n+1) ((zs++[(Value.slice A1 n1 c1,pf.1.1)]).flatMap bY)->Fr (az A) ((wd.alloc (.cells (bY (.slice A1 n1 c1,pf.1.1)).toArray 59)).drew) w3->(∀j,az A3 j->az A j\/((wd.alloc (.cells (bY (.slice A1 n1 c1,pf.1.1)).toArray 59)).drew).heap.size<=j)->
       ar w3 g 122 (bj {yM R pf with out:={(yM R pf).out with save:=true}} v2)/\w3.heap[g]?=wd.heap[g]?/\w3.heap[p]?=wd.heap[p]?/\au aa c q w g R.leads1 ((w3.setCell ⟨g,26,none⟩ (.slice A3 (n+1) c3)).setCell ⟨g,15,none⟩ (.int .i64 1)):=fun A3 c3 w3 ho hF hr=>by
      obtain⟨q1,q2,q3⟩:=jy A3 c3 w3 ho hF hr;refine⟨q1,q1.trans h3.s.symm,q3 p Q2 U2,?_⟩;obtain⟨Ei,v6,h6,rf,jb⟩:=q2;have s15:=h6.s.set_ 15 (.int .i64 1);simp only[bj,Zy]at s15;have Gw:=Fr.set (w:=w3.setCell ⟨g,26,none⟩ (.slice A3 (n+1) c3)) g 15 (.int .i64 1);have h7:=h6.nums (R':=({(yM R pf).save [pf.1.1]with round:=1}:Rf)) ha s15 Gw rfl rfl rfl rfl rfl rfl rfl rfl rfl rfl rfl;have AU:au bu c q wc g ({(yM R pf).save [pf.1.1]with round:=1}:Rf) ((w3.setCell ⟨g,26,none⟩ (.slice A3 (n+1) c3)).setCell ⟨g,15,none⟩ (.int .i64 1)):=by
       have Ur:Fr (aT bu c) wc wd:=Az.mono fun j e=>by rw[e];have:=h2.sl;exact⟨by omega,by omega⟩
       exact((h6.nums_post ha h7 Gw).next rf jb).next (fun _ _=>rfl) Ur
      rw[gw];exact(cR _ _ AU).post
     replace tJ:=zH tJ;clear h2 h3 qV uc jy cR sf uH nr s22 hz;go_wp2_with fail;rw[tJ.out];try go_wp2_with fail
     refine mI [g,p] wd [([0,1,2,3,4,5,6],7),([],8)] ([9,10,11],12) ?_;refine ap fun K5 wR=>?_
     simp only[af,Zx];repeat go_big_quiet_step(fail)
     apply wpQuiet_nil;go_wp2_with fail;refine⟨aq cT P6,wR _ _ ?_⟩;refine ap fun K6 rS=>?_
     simp only[af,Zx];apply wpQuiet_nil;go_wp2_with (at_builtin;refine aW rfl (.tmp 79) (.tmp 81) rfl 0 rfl bP rfl dx gq fi zz ?_;intro A3 c3 w3 cE dg bS hrw3;obtain⟨iT,gK,Ex,lm⟩:=KS A3 c3 w3 cE dg hrw3;replace lm:=zH lm;clear KS cE dg bS hrw3);obtain⟨x26,x15,-⟩:=iT.cs [26,15];obtain⟨y26,y15,-⟩:=iT.fs [26,15];simp only[bj,vi,Zx]at x26 x15;refine⟨bO gK Ex,rS _ _ ?_⟩;refine aC ?_;simp only[af,Zx];repeat go_big_quiet_step(fail)
     apply wpQuiet_nil;go_wp2_with fail;refine(aF.out _ lm.out).mono ?_;rintro e wE ⟨rfl,yK⟩;have pW:=na.out _ yK;clear yK iT x26 x15;go_wp2_with fail;refine pW.mono ?_;rintro e wF ⟨rfl,zv⟩;replace zv:=zH zv;clear pW;go_wp2_with fail;exact cL rfl rfl ⟨rfl,zv.out⟩
    ·rw[if_neg hz]at gw;have xn:(pf.1.2==0)=false:=by simp[hz]
     have d15:=h2.s.cell 15;simp only[bj,vi,Zx]at d15;have f15:=h2.s.free 15;have s15:=h2.s.set_ 15 (.int .i64 1);simp only[bj,Zy]at s15;have Gw:=Fr.set (w:=wc) g 15 (.int .i64 1);have h7:=h2.nums (R':=({yM R pf with round:=1}:Rf)) ha s15 Gw rfl rfl rfl rfl rfl rfl rfl rfl rfl rfl rfl;have lm:=zH (show au aa c q w g R.leads1 (wc.setCell ⟨g,15,none⟩ (.int .i64 1)) by rw[gw];exact(cR _ _ (h2.nums_post ha h7 Gw)).post);clear h2 h7 qV cR sf nr s15 hz;go_wp2_with fail;refine(aF.out _ lm.out).mono ?_;rintro e wE ⟨rfl,yK⟩;have pW:=na.out _ yK;clear yK;go_wp2_with fail;refine pW.mono ?_;rintro e wF ⟨rfl,zv⟩;replace zv:=zH zv;clear pW;go_wp2_with fail;exact cL rfl rfl ⟨rfl,zv.out⟩
end
theorem B6(R:Rf):R.stands2=(bw R.id R.n).foldl (fun R' (s:Nat)=>R'.send (ft R.track.lastF.1 R.track.lastF.2 s)) R.stands1:=rfl
theorem H3(R:Rf):R.asks2=(bw R.id R.n).foldl (fun R' (s:Nat)=>R'.send (jh R.hard.term R.track.lastF.1 R.track.lastF.2 s)) R.asks1:=rfl
section
variable {aa:Nat->Nat}{c q g:Nat}{w:World}{R:Rf}{v:Aw}
theorem pU{K M:Nat}(ha:aL c q)(h:aJ aa c q w g R v)(hk:Ok K M R)(ct:1<=K)(hK:K<=70000)(hM:M<=40000)(hi:R.track.index<=R.commit)(ht:R.hard.term<1099511627776) :
  Calls prog 102 #[.pointer (some ⟨g,0,none⟩)] w fun e w'=>e=.returned (.tuple #[])/\au aa c q w g R.stands w':=by
 have cQ:=h.s.lt;have cf:=hk.trk;have qX:=hk.tm;have xu:=hk.ms;have jg:=hk.id;have qk:=jg.2.2;have xf:=hk.yl;obtain⟨gt,gM,ye,pI,ua⟩:=h.trk_at;obtain⟨Ay,dy,Lp,_⟩:=id h.y;obtain⟨c0,c2,c3,c4,c9,c10,c22,-⟩:=h.s.cs [0,2,3,4,9,10,22];simp only[bj,vi,Zx]at c0 c2 c3 c4 c9 c10 c22;have c13:w.cell? ⟨g,13,none⟩=some (.slice Ay R.yes.length dy):=by
  have:=h.s.cell 13;simp only[bj,Zx]at this;rw[this,Lp]
 obtain⟨f2,f3,f22,f9,f10,f13,-⟩:=h.s.fs [2,3,22,9,10,13];obtain⟨w2,cw⟩:=zN ((((((((w.setCell ⟨g,2,none⟩ (.int .i64 (R.hard.term+1))).setCell ⟨g,3,none⟩ (.int .i64 R.id)).setCell ⟨g,22,none⟩ (.bool true)).setCell ⟨g,9,none⟩ (.int .i64 2)).setCell ⟨g,10,none⟩ (.int .i64 0)).setCell ⟨g,13,none⟩ (.slice none 0 0))).drew);have e:∀{w a b:World},Fr (fun j=>j=g) w a->Fr (fun j=>j=g) a b->Fr (fun j=>j=g) w b:=fun h h'=>h.trans h' fun _ h=>.inl h
 have di:Fr (fun j=>j=g) w w2:=by rw[<-cw];exact e (e (e (e (e (e (Fr.set g 2 _) (Fr.set g 3 _)) (Fr.set g 22 _)) (Fr.set g 9 _)) (Fr.set g 10 _)) (Fr.set g 13 _)) (Fr.of_below (X:=fun j=>j=g) (zb.drew))
 have ls:ar w2 g 122 (bj R.stands1 {v with yes:=.slice none 0 0}):=by
  have s:=((((((h.s.set_ 2 (.int .i64 (R.hard.term+1))).set_ 3 (.int .i64 R.id)).set_ 22 (.bool true)).set_ 9 (.int .i64 2)).set_ 10 (.int .i64 0)).set_ 13 (.slice none 0 0));simp only[bj,Zy]at s;replace s:=ar.kept s (zb.drew);rw[cw]at s;exact s
 have qw:Fr (fun j=>j=g\/∃i,i∈[3]/\aa j=c+i) w w2:=di.mono fun j e=>.inl e
 have hX:∀i∈[3],1<i/\i<=9:=by simp
 have h2:aJ aa c q w2 g R.stands1 {v with yes:=.slice none 0 0}:=h.turn [3] ha ls (fun j hj=>rfl) hX qw tI (.inl (bQ.nil _ _ _ _ _)) tI tI (.inr ⟨rfl,rfl⟩) (.inr ⟨rfl,rfl⟩) tI tI (.inr ⟨rfl,rfl⟩) tI tI;have C3:au aa c q w g R.stands1 w2:=⟨aa,_,h2,fun _ _=>rfl,gD h hX qw⟩;have Sq:w2.cell? ⟨g,4,none⟩=some (.pointer (some ⟨gt,0,none⟩)):=by
  have:=h2.s.cell 4;simp only[bj,Zx]at this;rw[this];exact congrArg some gM
 have bI:=jE h2.t (by show R.track.L.length<=_;omega);rw[show({v with yes:=.slice none 0 0}:Aw).trk=.pointer (some ⟨gt,0,none⟩)from gM]at bI;obtain⟨l1,cy⟩:∃l,R.track.lastF.1=l:=⟨_,rfl⟩;obtain⟨l2,dM⟩:∃l,R.track.lastF.2=l:=⟨_,rfl⟩;rw[show R.stands1.track.lastF.1=l1 from cy,show R.stands1.track.lastF.2=l2 from dM]at bI;have kU:R.stands1.id=R.id/\R.stands1.n=R.n/\R.stands1.hard.term=R.hard.term+1/\R.stands1.out.msgs=R.out.msgs/\R.stands1.yes=[]:=⟨rfl,rfl,rfl,rfl,rfl⟩;obtain⟨R1,gZ⟩:=zN (R.stands1);rw[gZ]at C3 kU;have AV:R.stands2=(bw R.id R.n).foldl (fun R' (s:Nat)=>R'.send (ft l1 l2 s)) R1:=by rw[B6,cy,dM,gZ]
 have cB:=hk.standing ht;have UP:(R.stands2.says R.id).track.index<=(R.stands2.says R.id).commit:=by rw[jJ];exact hi
 have xw:(R.stands2.says R.id).hard.term=R.hard.term+1:=by rw[jJ]
 have aE:R.stands=if(R.stands2.says R.id).won then(R.stands2.says R.id).leads else R.stands2.says R.id:=rfl
 have dh:∀wx,au aa c q w g (R.stands2.says R.id) wx->Calls prog 116 #[.pointer (some ⟨g,0,none⟩)] wx fun e w'=>e=.returned (.tuple #[])/\au aa c q w g ((R.stands2.says R.id).leads) w':=fun wx hP=>hP.call fun cM v3 h3=>sC ha h3 cB (by omega) (by omega) (by omega) UP
 replace cw:=zH cw;replace cy:=zH cy;replace dM:=zH dM;replace gZ:=zH gZ;replace AV:=zH AV;replace aE:=zH aE;replace cB:=zH cB;replace xw:=zH xw;replace hk:=zH hk;replace dh:=zH dh;clear h h2 di qw ls e;go_enter func102,ntmps102;go_wp2_with fail;obtain⟨k0,k2⟩:=nY [g] c0 c2;refine mI [g] w [] ([0,1,2,3,4,5,6,7,8,9,10,11,12,13],14) ?_;refine aC ?_;simp only[af,Zx];repeat go_big_quiet_step(fail)
 apply wpQuiet_nil;go_wp2_with fail;rw[cw.out];try go_wp2_with fail
 refine bI.mono ?_;rintro e w3 ⟨rfl,bS⟩;have lm:=C3.below bS;clear bI C3 c0 c2 c3 c4 c9 c10 c13 c22 f2 f3 f22 f9 f10 f13 Sq;go_wp2_with fail
 go_loopw [4] (fun i wr=>∃k:Nat,k<=R.n/\i=.int .i64 ((k:Int)+1)/\au aa c q w g ((bw R.id k).foldl (fun R' (s:Nat)=>R'.send (ft l1 l2 s)) R1) wr) (fun i _=>R.n+1-(intOf i).toNat)
 case atStart=>exact⟨0,Nat.zero_le _,rfl,lm⟩
 case round=>
  clear lm;obtain⟨k,Db,rfl,hQ⟩:=hrel;have yD:=gh (fun s=>ft l1 l2 s) (bw R.id k) R1;have vF:=i8 R.id k;have ci:=iz R.id k;rw[yD]at hQ;obtain⟨ag,v1,h1,rF,gR⟩:=hQ;obtain⟨R2,jR⟩:∃R2:Rf,({R1 with out:={R1.out with msgs:=R1.out.msgs++(bw R.id k).map fun s=>kM R1.id R1.hard.term (ft l1 l2 s)}}:Rf)=R2:=⟨_,rfl⟩;have mo:R2.id=R.id/\R2.n=R.n/\R2.hard.term=R.hard.term+1/\R2.out.msgs.length<=M+7/\R2.yes=[]:=by
   rw[<-jR];refine⟨kU.1,kU.2.1,kU.2.2.1,?_,kU.2.2.2.2⟩;show(R1.out.msgs++_).length<=_;rw[List.length_append,List.length_map,kU.2.2.2.1];omega
  rw[jR]at h1 yD;obtain⟨c0,c1,c2,-⟩:=h1.s.cs [0,1,2];simp only[bj,vi,Zx]at c0 c1 c2;rw[mo.1]at c0;rw[mo.2.1]at c1;rw[mo.2.2.1]at c2;by_cases aU:k<R.n
  ·have aP:=zH (show R.n+1-(k+1+1)<R.n+1-(k+1) by omega);have fo:(k:Int)+1<=R.n:=by omega
   by_cases wL:k+1=R.id
   ·rw[if_pos wL,List.append_nil]at ci;have jm:(R.id:Int)=(k:Int)+1:=by omega
    have aF:=zH (show au aa c q w g ((bw R.id (k+1)).foldl (fun R' (s:Nat)=>R'.send (ft l1 l2 s)) R1) wr by rw[ci,yD];exact⟨ag,v1,h1,rF,gR⟩);rw[jm]at c0;clear jm wL h1 yD ci jR mo jg kU c2;go_wp2_with fail;exact⟨⟨k+1,aU,by go_num,aF.out⟩,by simp[intOf];have:=aP.out;omega⟩
   ·rw[if_neg wL]at ci;have gA:=dj ((fun s=>ft l1 l2 s) (k+1)) rfl rfl ha h1 (by have:=mo.2.2.2.1;omega);have aF:=zH (fun w5 (hp:au ag c q wr g (R2.send ((fun s=>ft l1 l2 s) (k+1))) w5)=>show au aa c q w g ((bw R.id (k+1)).foldl (fun R' (s:Nat)=>R'.send (ft l1 l2 s)) R1) w5 by rw[ci,nN,yD];exact hp.next rF gR);have i1:(((k:Int)+1)==(R.id:Int))=false:=beq_eq_false_iff_ne.2 (by omega);have i2:(((k:Int)+1) !=(R.id:Int))=true:=by rw[bne,i1];rfl
    have i3:((k+1:Nat):Int)=(k:Int)+1:=by omega
    have i4:=zH i3;unfold eH at gA;simp only[ft,cZ,vi,i3]at gA;clear wL h1 yD ci i3 jR mo jg kU;go_wp2_with fail;refine gA.mono ?_;rintro e w5 ⟨rfl,hp⟩;have me:=aF.out w5 (by simpa only[ft,cZ,i4.out]using hp);clear gA hp;replace me:=zH me;go_wp2_with fail;exact⟨⟨k+1,aU,by go_num,me.out⟩,by simp[intOf];have:=aP.out;omega⟩
  ·obtain rfl:k=R.n:=by omega
   have ku:¬((R.n:Int)+1<=R.n):=by omega
   have GT:R2=R.stands2:=by rw[AV.out,yD]
   have ML:=sT (R.id:Int) ha h1 (by rw[mo.2.2.2.2];exact Nat.zero_le _);rw[GT]at ML;have cR:=zH (fun w5 (hp:au ag c q wr g (R.stands2.says R.id) w5)=>hp.next rF gR);clear h1 yD ci jR mo GT jg kU;go_wp2_with fail;refine ML.mono ?_;rintro e w5 ⟨rfl,hp⟩;have yb:=cR.out w5 hp;clear ML hp;cases Lx:(R.stands2.says R.id).won
   ·have hQ:=zH (show au aa c q w g R.stands w5 by rw[aE.out,if_neg (by rw[Lx];simp)];exact yb);clear yb;go_wp2_with fail;exact cL rfl rfl ⟨rfl,hQ.out⟩
   ·have eB:=dh.out _ yb;have AZ:=zH (aE.out.trans (if_pos Lx));clear yb;go_wp2_with fail;refine eB.mono ?_;rintro e w6 ⟨rfl,vq⟩;have hQ:=zH (show au aa c q w g R.stands w6 by rw[AZ.out];exact vq);clear eB vq;go_wp2_with fail;exact cL rfl rfl ⟨rfl,hQ.out⟩
end
section
variable {aa:Nat->Nat}{c q g:Nat}{w:World}{R:Rf}{v:Aw}
theorem vj{K M:Nat}(ha:aL c q)(h:aJ aa c q w g R v)(hk:Ok K M R)(ct:1<=K)(hK:K<=60000)(hM:M<=30000)(hi:R.track.index<=R.commit)(ht:R.hard.term<1099511627776) :
  Calls prog 56 #[.pointer (some ⟨g,0,none⟩)] w fun e w'=>e=.returned (.tuple #[])/\au aa c q w g R.asks w':=by
 have cQ:=h.s.lt;have cf:=hk.trk;have qX:=hk.tm;have xu:=hk.ms;have jg:=hk.id;have qk:=jg.2.2;have xf:=hk.yl;obtain⟨gt,gM,ye,pI,ua⟩:=h.trk_at;obtain⟨Ay,dy,Lp,_⟩:=id h.y;obtain⟨c0,c4,c9,c10,-⟩:=h.s.cs [0,4,9,10];simp only[bj,vi,Zx]at c0 c4 c9 c10;have c13:w.cell? ⟨g,13,none⟩=some (.slice Ay R.yes.length dy):=by
  have:=h.s.cell 13;simp only[bj,Zx]at this;rw[this,Lp]
 obtain⟨f9,f10,f13,-⟩:=h.s.fs [9,10,13];obtain⟨w2,cw⟩:=zN ((((w.setCell ⟨g,9,none⟩ (.int .i64 1)).setCell ⟨g,10,none⟩ (.int .i64 0)).setCell ⟨g,13,none⟩ (.slice none 0 0)));have e:∀{w a b:World},Fr (fun j=>j=g) w a->Fr (fun j=>j=g) a b->Fr (fun j=>j=g) w b:=fun h h'=>h.trans h' fun _ h=>.inl h
 have di:Fr (fun j=>j=g) w w2:=by rw[<-cw];exact e (e (Fr.set g 9 _) (Fr.set g 10 _)) (Fr.set g 13 _)
 have ls:ar w2 g 122 (bj R.asks1 {v with yes:=.slice none 0 0}):=by
  have s:=(((h.s.set_ 9 (.int .i64 1)).set_ 10 (.int .i64 0)).set_ 13 (.slice none 0 0));simp only[bj,Zy]at s;rw[cw]at s;exact s
 have qw:Fr (fun j=>j=g\/∃i,i∈[3]/\aa j=c+i) w w2:=di.mono fun j e=>.inl e
 have hX:∀i∈[3],1<i/\i<=9:=by simp
 have h2:aJ aa c q w2 g R.asks1 {v with yes:=.slice none 0 0}:=h.turn [3] ha ls (fun j hj=>rfl) hX qw tI (.inl (bQ.nil _ _ _ _ _)) tI tI (.inr ⟨rfl,rfl⟩) (.inr ⟨rfl,rfl⟩) tI tI (.inr ⟨rfl,rfl⟩) tI tI;have C3:au aa c q w g R.asks1 w2:=⟨aa,_,h2,fun _ _=>rfl,gD h hX qw⟩;have Sq:w2.cell? ⟨g,4,none⟩=some (.pointer (some ⟨gt,0,none⟩)):=by
  have:=h2.s.cell 4;simp only[bj,Zx]at this;rw[this];exact congrArg some gM
 have bI:=jE h2.t (by show R.track.L.length<=_;omega);rw[show({v with yes:=.slice none 0 0}:Aw).trk=.pointer (some ⟨gt,0,none⟩)from gM]at bI;obtain⟨l1,cy⟩:∃l,R.track.lastF.1=l:=⟨_,rfl⟩;obtain⟨l2,dM⟩:∃l,R.track.lastF.2=l:=⟨_,rfl⟩;rw[show R.asks1.track.lastF.1=l1 from cy,show R.asks1.track.lastF.2=l2 from dM]at bI;have kU:R.asks1.id=R.id/\R.asks1.n=R.n/\R.asks1.hard.term=R.hard.term/\R.asks1.out.msgs=R.out.msgs/\R.asks1.yes=[]:=⟨rfl,rfl,rfl,rfl,rfl⟩;obtain⟨R1,gZ⟩:=zN (R.asks1);rw[gZ]at C3 kU;have AV:R.asks2=(bw R.id R.n).foldl (fun R' (s:Nat)=>R'.send (jh R.hard.term l1 l2 s)) R1:=by rw[H3,cy,dM,gZ]
 have cB:=hk.asking;have UP:(R.asks2.says R.id).track.index<=(R.asks2.says R.id).commit:=by rw[jd];exact hi
 have xw:(R.asks2.says R.id).hard.term=R.hard.term:=by rw[jd]
 have aE:R.asks=if(R.asks2.says R.id).won then(R.asks2.says R.id).stands else R.asks2.says R.id:=rfl
 have dh:∀wx,au aa c q w g (R.asks2.says R.id) wx->Calls prog 102 #[.pointer (some ⟨g,0,none⟩)] wx fun e w'=>e=.returned (.tuple #[])/\au aa c q w g ((R.asks2.says R.id).stands) w':=fun wx hP=>hP.call fun cM v3 h3=>pU ha h3 cB (by omega) (by omega) (by omega) UP (by rw[xw];exact ht)
 replace cw:=zH cw;replace cy:=zH cy;replace dM:=zH dM;replace gZ:=zH gZ;replace AV:=zH AV;replace aE:=zH aE;replace cB:=zH cB;replace xw:=zH xw;replace hk:=zH hk;replace dh:=zH dh;clear h h2 di qw ls e;go_enter func56,ntmps56;go_wp2_with fail;rw[cw.out];try go_wp2_with fail
 refine bI.mono ?_;rintro e w3 ⟨rfl,bS⟩;have lm:=C3.below bS;clear bI C3 c0 c4 c9 c10 c13 f9 f10 f13 Sq;go_wp2_with fail
 go_loopw [4] (fun i wr=>∃k:Nat,k<=R.n/\i=.int .i64 ((k:Int)+1)/\au aa c q w g ((bw R.id k).foldl (fun R' (s:Nat)=>R'.send (jh R.hard.term l1 l2 s)) R1) wr) (fun i _=>R.n+1-(intOf i).toNat)
 case atStart=>exact⟨0,Nat.zero_le _,rfl,lm⟩
 case round=>
  clear lm;obtain⟨k,Db,rfl,hQ⟩:=hrel;have yD:=gh (fun s=>jh R.hard.term l1 l2 s) (bw R.id k) R1;have vF:=i8 R.id k;have ci:=iz R.id k;rw[yD]at hQ;obtain⟨ag,v1,h1,rF,gR⟩:=hQ;obtain⟨R2,jR⟩:∃R2:Rf,({R1 with out:={R1.out with msgs:=R1.out.msgs++(bw R.id k).map fun s=>kM R1.id R1.hard.term (jh R.hard.term l1 l2 s)}}:Rf)=R2:=⟨_,rfl⟩;have mo:R2.id=R.id/\R2.n=R.n/\R2.hard.term=R.hard.term/\R2.out.msgs.length<=M+7/\R2.yes=[]:=by
   rw[<-jR];refine⟨kU.1,kU.2.1,kU.2.2.1,?_,kU.2.2.2.2⟩;show(R1.out.msgs++_).length<=_;rw[List.length_append,List.length_map,kU.2.2.2.1];omega
  rw[jR]at h1 yD;obtain⟨c0,c1,c2,-⟩:=h1.s.cs [0,1,2];simp only[bj,vi,Zx]at c0 c1 c2;rw[mo.1]at c0;rw[mo.2.1]at c1;rw[mo.2.2.1]at c2;by_cases aU:k<R.n
  ·have aP:=zH (show R.n+1-(k+1+1)<R.n+1-(k+1) by omega);have fo:(k:Int)+1<=R.n:=by omega
   by_cases wL:k+1=R.id
   ·rw[if_pos wL,List.append_nil]at ci;have jm:(R.id:Int)=(k:Int)+1:=by omega
    have aF:=zH (show au aa c q w g ((bw R.id (k+1)).foldl (fun R' (s:Nat)=>R'.send (jh R.hard.term l1 l2 s)) R1) wr by rw[ci,yD];exact⟨ag,v1,h1,rF,gR⟩);rw[jm]at c0;clear jm wL h1 yD ci jR mo jg kU c2;go_wp2_with fail;exact⟨⟨k+1,aU,by go_num,aF.out⟩,by simp[intOf];have:=aP.out;omega⟩
   ·rw[if_neg wL]at ci;have gA:=dj ((fun s=>jh R.hard.term l1 l2 s) (k+1)) rfl rfl ha h1 (by have:=mo.2.2.2.1;omega);have aF:=zH (fun w5 (hp:au ag c q wr g (R2.send ((fun s=>jh R.hard.term l1 l2 s) (k+1))) w5)=>show au aa c q w g ((bw R.id (k+1)).foldl (fun R' (s:Nat)=>R'.send (jh R.hard.term l1 l2 s)) R1) w5 by rw[ci,nN,yD];exact hp.next rF gR);have i1:(((k:Int)+1)==(R.id:Int))=false:=beq_eq_false_iff_ne.2 (by omega);have i2:(((k:Int)+1) !=(R.id:Int))=true:=by rw[bne,i1];rfl
    have i3:((k+1:Nat):Int)=(k:Int)+1:=by omega
    have i4:=zH i3;unfold eH at gA;simp only[jh,cZ,vi,i3]at gA;clear wL h1 yD ci i3 jR mo jg kU;go_wp2_with fail;refine gA.mono ?_;rintro e w5 ⟨rfl,hp⟩;have me:=aF.out w5 (by simpa only[jh,cZ,i4.out]using hp);clear gA hp;replace me:=zH me;go_wp2_with fail;exact⟨⟨k+1,aU,by go_num,me.out⟩,by simp[intOf];have:=aP.out;omega⟩
  ·obtain rfl:k=R.n:=by omega
   have ku:¬((R.n:Int)+1<=R.n):=by omega
   have GT:R2=R.asks2:=by rw[AV.out,yD]
   have ML:=sT (R.id:Int) ha h1 (by rw[mo.2.2.2.2];exact Nat.zero_le _);rw[GT]at ML;have cR:=zH (fun w5 (hp:au ag c q wr g (R.asks2.says R.id) w5)=>hp.next rF gR);clear h1 yD ci jR mo GT jg kU;go_wp2_with fail;refine ML.mono ?_;rintro e w5 ⟨rfl,hp⟩;have yb:=cR.out w5 hp;clear ML hp;cases Lx:(R.asks2.says R.id).won
   ·have hQ:=zH (show au aa c q w g R.asks w5 by rw[aE.out,if_neg (by rw[Lx];simp)];exact yb);clear yb;go_wp2_with fail;exact cL rfl rfl ⟨rfl,hQ.out⟩
   ·have eB:=dh.out _ yb;have AZ:=zH (aE.out.trans (if_pos Lx));clear yb;go_wp2_with fail;refine eB.mono ?_;rintro e w6 ⟨rfl,vq⟩;have hQ:=zH (show au aa c q w g R.asks w6 by rw[AZ.out];exact vq);clear eB vq;go_wp2_with fail;exact cL rfl rfl ⟨rfl,hQ.out⟩
end
theorem yX{idx:Int}{L:List En}:∀{i:Nat} {tm:Int},bL idx i tm L=true->∀(k:Nat) y,L[k]?=some y->y.idx=idx+1+i+k:=by
 induction L with
 | nil=>intro i tm _ k y h;cases h
 | cons x L ih=>
  intro i tm h k y hy;obtain⟨_,h2,_,h4⟩:=iX.1 h;cases k with
  | zero=>
   obtain rfl:x=y:=by simpa using hy
   omega
  | succ k=>
   have:=ih h4 k y (by simpa using hy);omega
theorem BE{L:List En}:∀{a:Int} {j:Nat},(∀(k:Nat) y,L[k]?=some y->y.idx=a+k)->L.filter (fun y=>decide (a+j<=y.idx))=L.drop j:=by
 induction L with
 | nil=>intro a j _;simp
 | cons x L ih=>
  intro a j h;have h0:=h 0 x rfl;have hs:∀(k:Nat) y,L[k]?=some y->y.idx=(a+1)+k:=fun k y hy=>by
   have:=h (k+1) y (by simpa using hy);omega
  cases j with
  | zero=>
   rw[List.drop_zero];refine List.filter_eq_self.2 fun y hy=>?_
   obtain⟨k,hk⟩:=List.getElem?_of_mem hy;have:=h k y hk;simp;omega
  | succ j=>
   rw[List.filter_cons,if_neg (by simp;omega),List.drop_succ_cons,<-ih hs (j:=j)];congr 1;funext y;congr 1;apply propext;constructor <;> intro _ <;> omega
theorem Ci{t:bB}{idx tm:Int}{L:List En}{p:(Int×Bool)×bB}(hp:t.takeF idx tm L=p)(h1:0<p.1.1):p.2.sliceF p.1.1 L.length=L.filter (fun y=>decide (p.1.1<=y.idx))/\L.filter (fun y=>decide (p.1.1<=y.idx))≠[]:=by
 unfold bB.takeF at hp;split at hp
 ·rename_i hc;cases hd:t.findDiff L with
  | none=>rw[hd]at hp;subst hp;exact absurd h1 (by simp)
  | some z=>
   obtain⟨x,r⟩:=z;rw[hd]at hp;subst hp;obtain⟨j,term',h2,h3,h4,h5,h6,_⟩:=iA (i:=0) (by simpa using hc.1) hc.2 hd;rw[Nat.sub_zero]at h6;have lC:=eU h4;have M5:∀(k:Nat) y,L[k]?=some y->y.idx=(idx+1)+k:=fun k y hy=>by
    have:=yX hc.2 k y hy;simpa using this
   have hf:L.filter (fun y=>decide (x.idx<=y.idx))=x::r:=by
    rw[<-h6,<-BE M5 (j:=j)];congr 1;funext y;rw[h3]
   refine⟨?_,by rw[hf];simp⟩;show bB.sliceF {t with L:=t.L.take (x.idx-t.index-1).toNat++x::r} x.idx L.length=L.filter (fun y=>decide (x.idx<=y.idx));rw[hf];have hl:=ow t hd;unfold bB.sliceF;rw[if_neg (by show ¬(x.idx<=t.index\/(L.length:Int)<1);omega)];show List.take (L.length:Int).toNat (List.drop (x.idx-t.index-1).toNat (t.L.take (x.idx-t.index-1).toNat++x::r))=x::r;have ye:(t.L.take (x.idx-t.index-1).toNat).length=(x.idx-t.index-1).toNat:=by
    rw[List.length_take];omega
   rw[List.drop_append_of_le_length (by omega),List.drop_eq_nil_of_le (by omega),List.nil_append,List.take_of_length_le (by simp;omega)]
 ·subst hp;exact absurd h1 (by simp)
def mL(R1:Rf)(first:Int)(l:List En):Rf:=if l.filter (fun y=>decide (first<=y.idx))=[]then R1 else R1.save (l.filter fun y=>decide (first<=y.idx))
theorem G5(R1:Rf)(first:Int):mL R1 first []=R1:=if_pos rfl
theorem EA{R1:Rf}{first:Int}{l:List En}{x:En}(h:¬first<=x.idx):mL R1 first (l++[x])=mL R1 first l:=by
 have e:(l++[x]).filter (fun y=>decide (first<=y.idx))=l.filter (fun y=>decide (first<=y.idx)):=by
  rw[List.filter_append,List.filter_cons_of_neg (by simpa using h),List.filter_nil,List.append_nil]
 unfold mL;rw[e]
theorem Gl{R1:Rf}{first:Int}{l:List En}{x:En}(h:first<=x.idx):mL R1 first (l++[x])=(mL R1 first l).save [x]:=by
 have e:(l++[x]).filter (fun y=>decide (first<=y.idx))=l.filter (fun y=>decide (first<=y.idx))++[x]:=by
  rw[List.filter_append,List.filter_cons_of_pos (by simpa using h),List.filter_nil]
 unfold mL;rw[e,if_neg (by simp)];split
 ·rename_i h2;rw[h2,List.nil_append]
 ·unfold Rf.save;simp
theorem GE(R1:Rf)(first:Int)(l:List En):(mL R1 first l).out.entries.length<=R1.out.entries.length+l.length:=by
 unfold mL;split
 ·omega
 ·show(R1.out.entries++_).length<=_;rw[List.length_append];have:=List.length_filter_le (fun y:En=>decide (first<=y.idx)) l;omega
theorem Dk(R1:Rf)(first:Int)(l:List En):(mL R1 first l).track=R1.track/\(mL R1 first l).commit=R1.commit/\(mL R1 first l).out.commits=R1.out.commits/\(mL R1 first l).out.msgs=R1.out.msgs:=by
 unfold mL;split <;> exact⟨rfl,rfl,rfl,rfl⟩
def kF(R1:Rf)(first:Int)(l:List En):Rf:=if 0<first then mL R1 first l else R1
theorem FR{aa:Nat->Nat}{i q:Nat}{w:World}{x:Value}{t:bB}(k tm:Int)(h:AM aa i q w x t)(hN:t.L.length<=1000000):Calls prog 142 #[x,.int .i64 k,.int .i64 tm] w fun e w'=>e=.returned (.int .i64 (t.hintF k tm))/\w=w':=by
 obtain⟨gt,A,n,c,zs,rfl,hT,hl⟩:=h;exact DJ k tm hT (by have:=hT.len.1;omega)
section
variable {aa:Nat->Nat}{c q g:Nat}{w w1 wr:World}{R R':Rf}{v:Aw}
theorem au.reads{A:Option Addr}{n:Nat}{zs:List (Value×En)}(ha:aL c q)(h:au aa c q w g R' wr)(hr:fu w A n zs)(hd:bq (aQ aa q) w zs)(hA:0<n->∀j,az A j->aa j=q):fu wr A n zs/\∃ak v',aJ ak c q wr g R' v'/\bq (aQ ak q) wr zs/\(∀j,j<w.heap.size->ak j=aa j)/\Fr (aT aa c) w wr:=by
 obtain⟨ak,v',h1,h2,h3⟩:=h;have hn:∀j,aa j=q->¬aT aa c j:=fun j e hh=>by unfold aT at hh;unfold aL at ha;omega
 have aE:bz (aQ aa q) w wr:=fun j e hj=>h3.block j hj (hn j e)
 refine⟨cn.stay (S:=aQ aa q) hr (fun h0 ad e=>hA h0 _ ⟨ad,e,rfl⟩) aE,ak,v',h1,?_,h2,h3⟩;refine(hd.mono (S':=ob aa q w) fun j hj e=>⟨e,hj⟩).keep (w':=wr) (fun j e hj=>h3.block j e.2 (hn j e.1)) |>.mono fun j hj e=>(h2 j e.2).trans e.1
theorem xd{K M:Nat}(m:Mg)(A1 A2:Option Addr)(n1 c1 n2 c2:Nat)(ha:aL c q)(h:aJ aa c q w g R v)(hk:Ok K M R)(hK:K<=50000)(hM:M<=20000)(hi:R.track.index<=R.commit)(he:cN aa q w (.slice A1 n1 c1) m.entries)(Ob:m.entries.length<=6)
  (hx:0<=m.idx/\m.idx<=1099511627776) (hc:m.commit<=1099511627776) :
  Calls prog 117 #[.pointer (some ⟨g,0,none⟩),eH m (.slice A1 n1 c1) (.slice A2 n2 c2)] w fun e w'=>e=.returned (.tuple #[])/\au aa c q w g (R.appends m) w':=by
 have cQ:=h.s.lt;have cf:=hk.trk;have oX:=hk.cm;have aI:Below w.heap.size w (w.alloc (.cells #[.int .i64 m.kind,.int .i64 m.frm,.int .i64 m.tgt,.int .i64 m.term,.int .i64 m.idx,.int .i64 m.logTerm,.int .i64 m.commit,.int .i64 m.round,.bool m.reject,.int .i64 m.offset,.int .i64 m.total,.slice A1 n1 c1,.slice A2 n2 c2] 39)):=zb.alloc zl _;have bN:=ar.new w 39 #[.int .i64 m.kind,.int .i64 m.frm,.int .i64 m.tgt,.int .i64 m.term,.int .i64 m.idx,.int .i64 m.logTerm,.int .i64 m.commit,.int .i64 m.round,.bool m.reject,.int .i64 m.offset,.int .i64 m.total,.slice A1 n1 c1,.slice A2 n2 c2];obtain⟨w1,bV⟩:=zN (w.alloc (.cells #[.int .i64 m.kind,.int .i64 m.frm,.int .i64 m.tgt,.int .i64 m.term,.int .i64 m.idx,.int .i64 m.logTerm,.int .i64 m.commit,.int .i64 m.round,.bool m.reject,.int .i64 m.offset,.int .i64 m.total,.slice A1 n1 c1,.slice A2 n2 c2] 39));rw[bV]at aI bN;have h1:=h.fresh (q+c+10) aI;obtain⟨ag,eV⟩:=zN (ai aa w.heap.size (q+c+10));rw[eV]at h1;have cy:∀j,j<w.heap.size->ag j=aa j:=fun j hj=>by rw[<-eV];exact ac hj
 have WB:ag w.heap.size=q+c+10:=by rw[<-eV];exact ay zl
 have tL:¬aT ag c w.heap.size:=fun hh=>by unfold aT at hh;omega
 have cR:∀R' w',au ag c q w1 g R' w'->au aa c q w g R' w':=fun R' w' hp=>hp.next cy (Fr.of_below aI)
 obtain⟨Ae,ne,ce,zs,pY,EZ,IS,Df,AB,S3,bP⟩:=he;injection pY with e1 e2 e3;subst e1;subst e2;subst e3;have Jr:fu w1 A1 n1 zs:=fu.below EZ aI;have NJ:bq (aQ ag q) w1 zs:=(IS.mono fun j hj e=>(cy j hj).trans e).keep (bz.below aI);have HD:0<n1->∀j,az A1 j->ag j=q:=fun h0 j hj=>by
  have aU:j<w.heap.size:=by obtain⟨ad,e,rfl⟩:=hj;exact cn.lt EZ h0 (by omega) e
  exact(cy j aU).trans (bP h0 j hj)
 have iI:n1=m.entries.length:=by rw[<-Df,List.length_map];exact EZ.len.symm
 obtain⟨gt,gM,ye,pI,ua⟩:=h1.trk_at;obtain⟨y1,y4,y5,y6,y7,y11,-⟩:=bN.cs [1,4,5,6,7,11];simp only[Zx]at y1 y4 y5 y6 y7 y11;obtain⟨c4,c8,-⟩:=h1.s.cs [4,8];simp only[bj,vi,Zx]at c4 c8;rw[gM]at c4;have iQ:=h1.s.lt;have lD:=bN.lt;have cT:∀x∈[g,w.heap.size],x<w1.heap.size:=by simp;exact⟨iQ,lD⟩
 obtain⟨k1,k4,k5,k7,kB,t4,t8⟩:=KW [g,w.heap.size] y1 y4 y5 y7 y11 c4 c8;unfold eH;simp only[vi];replace bV:=zH bV;replace eV:=zH eV;have Kj:n1<=6:=by omega
 replace iI:=zH iI;by_cases aU:m.idx<R.commit
 ·have hA:=zH (show R.appends m=R.send {cZ with kind:=6,tgt:=m.frm,idx:=R.commit,round:=m.round}from if_pos aU);have gA:=dj {cZ with kind:=6,tgt:=m.frm,idx:=R.commit,round:=m.round} rfl rfl ha (h1.below (w':=w1.drew.drew) (aA zb 2)) (by have:=hk.ms;omega);unfold eH at gA;simp only[cZ,vi]at gA;have aF:=zH (fun w5 (hp:au ag c q w1.drew.drew g (R.send {cZ with kind:=6,tgt:=m.frm,idx:=R.commit,round:=m.round}) w5)=>show au aa c q w g (R.appends m) w5 by rw[hA.out];exact cR _ _ (hp.behind (w:=w1) (aA zb 2)));have d1:=ae (w:=w1.drew) (gs:=[g,w.heap.size]) y1 (by simp);have d7:=ae (w:=w1.drew) (gs:=[g,w.heap.size]) y7 (by simp);have d8:=ae (w:=w1.drew) (gs:=[g,w.heap.size]) c8 (by simp);replace hk:=zH hk;clear h h1 EZ IS Jr NJ cR;go_enter func117,ntmps117;go_wp2_with fail;rw[bV.out];try go_wp2_with fail
  refine dV [g,w.heap.size] w1 [] [0,1,2,3,4,5,6] ?_;refine aj ?_;simp only[af,Zx];repeat go_big_quiet_step(fail)
  apply wpQuiet_nil;go_wp2_with fail;refine bT (C:=dP [g,w.heap.size] w1.drew) [] ([0,1,2,3,4,5,6,7,8,9],10) (by kernel_rfl) (by kernel_rfl) (fun _ _ _ _ e h=>⟨e.symm.trans h.1,h.2⟩) aR ?_;refine aC ?_;simp only[af,Zx];repeat go_big_quiet_step(fail)
  apply wpQuiet_nil;go_wp2_with fail;refine gA.mono ?_;rintro e w5 ⟨rfl,hp⟩;have hQ:=aF.out w5 hp;replace hQ:=zH hQ;clear gA hp;go_wp2_with fail;exact aO rfl rfl ⟨rfl,hQ.out⟩
 ·obtain⟨p,hp⟩:=zN (R.track.takeF m.idx m.logTerm m.entries);have Hg:=uD m.idx m.logTerm A1 n1 c1 zs ha (h1.below (w':=w1.drew.drew) (aA zb 2)) (by omega) (fu.below Jr (aA zb 2)) (NJ.keep (bz.below (aA zb 2))) (by omega) AB S3 (fun h0 j hj=>by rw[HD h0 j hj];unfold aL at ha;omega);rw[Df,gM,hp]at Hg;have d4:=ae (w:=w1.drew) (gs:=[g,w.heap.size]) y4 (by simp);have d5:=ae (w:=w1.drew) (gs:=[g,w.heap.size]) y5 (by simp);have dB:=ae (w:=w1.drew) (gs:=[g,w.heap.size]) y11 (by simp);have s4:=ae (w:=w1.drew) (gs:=[g,w.heap.size]) c4 (by simp);have fo:=Int.not_lt.1 aU;have qQ:w1.heap[g]?=some (.cells (bj {R with track:=p.2} v) 122 (0,0)):=h1.s;have Ml:R.appends m=if p.1.2=false then R.send {cZ with kind:=6,tgt:=m.frm,reject:=true,idx:=R.track.hintF m.idx m.logTerm,round:=m.round}
   else(Rf.commits (if 0<p.1.1 then({R with track:=p.2}:Rf).save (p.2.sliceF p.1.1 m.entries.length)else {R with track:=p.2}) (min m.commit (m.idx+m.entries.length))).send {cZ with kind:=6,tgt:=m.frm,idx:=m.idx+m.entries.length,round:=m.round}:=by
   unfold Rf.appends;rw[if_neg aU];simp only[hp]
  have hf:=eJ R.track m.idx m.logTerm m.entries;rw[hp]at hf;have Wf:R.track.Inv:=hk.tr;replace Ml:=zH Ml;replace hp:=zH hp;replace hk:=zH hk;clear h h1 EZ IS aU k1 k7;go_enter func117,ntmps117;go_wp2_with fail;rw[bV.out];try go_wp2_with fail
  refine dV [g,w.heap.size] w1 [] [0,1,2,3,4,5,6] ?_;refine aj ?_;simp only[af,Zx];repeat go_big_quiet_step(fail)
  apply wpQuiet_nil;go_wp2_with fail;refine cF (C:=dP [g,w.heap.size] w1.drew) [([0,1,2,3,4,5,6,7,8,9],10)] [11,12,13,14,15] (by kernel_rfl) (by kernel_rfl) (fun _ _ _ _ e h=>⟨e.symm.trans h.1,h.2⟩) aR ?_;refine av fun K1 ct=>?_
  simp only[af,Zx];repeat go_big_quiet_step(fail)
  apply wpQuiet_nil;go_wp2_with fail;refine Hg.mono ?_;rintro e w5 ⟨rfl,hV⟩;have Rv:nI ag c q w1 g {R with track:=p.2} v w5:=by
   obtain⟨cV,q1,q2,q3⟩:=hV;exact⟨cV,q1,q2,(Fr.of_below (X:=aT ag c) (aA (Below.refl w1.heap.size w1) 2)).trans q3 fun _ h=>.inl h⟩
  have jp:w5.heap[g]?=w1.heap[g]?:=by obtain⟨cV,q1,_⟩:=id Rv;exact q1.s.trans qQ.symm
  have qz:=Rv.post;have MF:ar w5 w.heap.size 39 #[.int .i64 m.kind,.int .i64 m.frm,.int .i64 m.tgt,.int .i64 m.term,.int .i64 m.idx,.int .i64 m.logTerm,.int .i64 m.commit,.int .i64 m.round,.bool m.reject,.int .i64 m.offset,.int .i64 m.total,.slice A1 n1 c1,.slice A2 n2 c2]:=qz.blk tL bN;clear Hg hV;go_wp2_with fail;refine⟨bO (w:=w1.drew) jp (MF.trans bN.symm),ct _ _ ?_⟩;refine aj ?_;simp only[af,Zx];repeat go_big_quiet_step(fail)
  apply wpQuiet_nil;by_cases cB:p.1.2=false
  ·have QF:p.2=R.track:=hf.2.2 cB;have ez:({R with track:=p.2}:Rf)=R:=by rw[QF]
   have hA:=zH (Ml.out.trans (if_pos cB));obtain⟨cV,h5,oA,UL⟩:=Rv;rw[ez]at h5;have ur:=FR m.idx m.logTerm (h5.below (w':=w5.drew) (zb.drew)).t (by omega);obtain⟨H,hH⟩:=zN (R.track.hintF m.idx m.logTerm);rw[hH,gM]at ur;have gA:=dj {cZ with kind:=6,tgt:=m.frm,reject:=true,idx:=H,round:=m.round} rfl rfl ha (h5.below (w':=w5.drew) (zb.drew)) (by have:=hk.out.ms;omega);unfold eH at gA;simp only[cZ,vi]at gA;have aF:=zH (fun w6 (hp:au cV c q w5.drew g (R.send {cZ with kind:=6,tgt:=m.frm,reject:=true,idx:=H,round:=m.round}) w6)=>show au aa c q w g (R.appends m) w6 by rw[hA.out,hH];exact cR _ _ ((hp.behind (w:=w5) (zb.drew)).next oA UL));obtain⟨z1,z4,z5,z7,-⟩:=MF.cs [1,4,5,7];simp only[Zx]at z1 z4 z5 z7;have x4:=h5.s.cell 4;simp only[bj,vi,Zx]at x4;rw[gM]at x4;have XR:=h5.s.lt;obtain⟨b1,b4,b5,b7,bx⟩:=MZ [g,w.heap.size] z1 z4 z5 z7 x4;replace hH:=zH hH;clear h5 qz ez QF hf cR;go_wp2_with fail;refine mI [g,w.heap.size] w5 [([0,1,2,3,4,5,6,7,8,9,10,12,13],11)] ([14],15) ?_;refine ap fun K2 ge=>?_
   simp only[af,Zx];repeat go_big_quiet_step(fail)
   apply wpQuiet_nil;go_wp2_with fail;refine ur.mono ?_;rintro e w6 ⟨rfl,rfl⟩;go_wp2_with fail;refine⟨aR,ge _ _ ?_⟩;refine aC ?_;simp only[af,Zx];repeat go_big_quiet_step(fail)
   apply wpQuiet_nil;go_wp2_with fail;refine gA.mono ?_;rintro e w6 ⟨rfl,vq⟩;have hQ:=aF.out w6 vq;replace hQ:=zH hQ;clear gA vq;go_wp2_with fail;exact aO rfl rfl ⟨rfl,hQ.out⟩
  ·replace cB:p.1.2=true:=by simpa using cB
   have hA:=Ml.out;rw[if_neg (by rw[cB];simp)]at hA;obtain⟨first,rM⟩:∃f,p.1.1=f:=⟨_,rfl⟩;rw[rM]at hA ⊢;obtain⟨R1,gZ⟩:∃R1:Rf,({R with track:=p.2}:Rf)=R1:=⟨_,rfl⟩;rw[gZ]at hA qz;have vW:R1.out.entries=R.out.entries/\R1.out.commits=R.out.commits/\R1.out.msgs=R.out.msgs/\R1.commit=R.commit/\R1.track=p.2:=by rw[<-gZ];exact⟨rfl,rfl,rfl,rfl,rfl⟩
   have hes:=hk.out.es;have cu:=hk.out.cs;have xu:=hk.out.ms;have bI:(if 0<first then R1.save (p.2.sliceF first m.entries.length)else R1)=kF R1 first m.entries:=by
    unfold kF;by_cases h0:0<first
    ·rw[if_pos h0,if_pos h0];have hs:=Ci hp.out (by rw[rM];exact h0);rw[rM]at hs;unfold mL;rw[if_neg hs.2,hs.1]
    ·rw[if_neg h0,if_neg h0]
   rw[bI]at hA;have aF:=zH (fun R' w6 (hp:au ag c q w1 g R' w6)=>cR R' w6 hp);replace hA:=zH hA;replace rM:=zH rM;replace gZ:=zH gZ;have Qa:au ag c q w1 g (kF R1 first (m.entries.take 0)) w5:=by
    rw[List.take_zero];have e:kF R1 first []=R1:=by unfold kF;rw[G5];split <;> rfl
    rw[e];exact qz
   clear qz Rv bI cR hf jp MF qQ Ml;go_wp2_with fail
   go_loopw [6] (fun i wr=>∃j:Nat,j<=n1/\i=.int .i64 j/\au ag c q w1 g (kF R1 first (m.entries.take j)) wr) (fun i _=>n1-(intOf i).toNat)
   case atStart=>exact⟨0,Nat.zero_le _,rfl,Qa⟩
   case round=>
    clear Qa;replace cB:=zH cB;obtain⟨j,hj,rfl,hQ⟩:=hrel;have JU:ar wr w.heap.size 39 #[.int .i64 m.kind,.int .i64 m.frm,.int .i64 m.tgt,.int .i64 m.term,.int .i64 m.idx,.int .i64 m.logTerm,.int .i64 m.commit,.int .i64 m.round,.bool m.reject,.int .i64 m.offset,.int .i64 m.total,.slice A1 n1 c1,.slice A2 n2 c2]:=hQ.blk tL bN;obtain⟨Ek,bu,v2,h2,B9,dM,di⟩:=hQ.reads ha Jr NJ HD;obtain⟨z1,z4,z6,z7,z11,-⟩:=JU.cs [1,4,6,7,11];simp only[Zx]at z1 z4 z6 z7 z11;by_cases xp:j<n1
    ·obtain⟨ad,vf,x,FD,hz,m0,m1,m2,m3,m4,m5⟩:=Ek.at_ xp;obtain⟨B,mm,dd,SJ,_⟩:=(B9 _ (List.mem_of_getElem? hz)).form;obtain rfl:vf=_:=SJ;have Iu:=B9 _ (List.mem_of_getElem? hz);have GJ:m.entries[j]?=some x:=by rw[<-Df,List.getElem?_map,hz];rfl
     have HA:m.entries.take (j+1)=m.entries.take j++[x]:=by rw[List.take_add_one,GJ];rfl
     have aP:=zH (show n1-(j+1)<n1-j by omega);by_cases h0:0<first
     ·by_cases JZ:first<=x.idx
      ·
       obtain⟨R2,jR⟩:∃R2:Rf,kF R1 first (m.entries.take j)=R2:=⟨_,rfl⟩
       have Ss:R2.out.entries.length<=M+6:=by
        rw[<-jR];unfold kF;rw[if_pos h0];have h5:=GE R1 first (m.entries.take j)
        have h6:(m.entries.take j).length<=6:=by rw[List.length_take];omega
        rw[vW.1]at h5;omega
       have dh:kF R1 first (m.entries.take (j+1))=R2.save [x]:=by
        rw[<-jR,HA];unfold kF;rw[if_pos h0,if_pos h0,Gl JZ]
       rw[jR]at h2;have d22:=h2.s.cell 22;simp only[bj,vi,Zx]at d22;have f22:=h2.s.free 22;have s22:=h2.s.set_ 22 (.bool true);simp only[bj,Zy]at s22;obtain⟨wd,tJ⟩:=zN (wr.setCell ⟨g,22,none⟩ (.bool true));have Az:Fr (fun j=>j=g) wr wd:=by rw[<-tJ];exact Fr.set g 22 _
       rw[tJ]at s22;have h3:aJ bu c q wd g {R2 with out:={R2.out with save:=true}} v2:=h2.nums ha s22 Az rfl rfl rfl rfl rfl rfl rfl rfl rfl rfl rfl;have Bi:∀j,bu j=q->j≠g:=fun j hj e=>by have:=h2.sl;rw[e]at hj;unfold aL at ha;omega
       have js:w.heap.size≠g:=by omega
       have uH:ar wd w.heap.size 39 #[.int .i64 m.kind,.int .i64 m.frm,.int .i64 m.tgt,.int .i64 m.term,.int .i64 m.idx,.int .i64 m.logTerm,.int .i64 m.commit,.int .i64 m.round,.bool m.reject,.int .i64 m.offset,.int .i64 m.total,.slice A1 n1 c1,.slice A2 n2 c2]:=(Az.block _ JU.lt js).trans JU;have uc:aG (aQ bu q) wd (.slice B mm dd) x.facts:=Iu.keep fun j hj hl=>Az.block j hl (Bi j hj)
       have Pa:bu ad.block=q:=(dM _ (by have:=cn.lt Jr (by omega) (by omega) FD;exact this)).trans (HD (by omega) _ ⟨ad,FD,rfl⟩);have Mq:ad.block<wr.heap.size:=cn.lt Ek (by omega) (by omega) FD;have Jp:fu wd A1 n1 zs:=cn.stay (S:=aQ bu q) Ek (fun h0 ad' e=>by rw[FD]at e;injection e with e;rw[<-e];exact Pa) (Az.stay fun j hj _=>Bi j hj);obtain⟨ad',vf',x',QI,xn,m0,m1,m2,m3,m4,m5⟩:=Jp.at_ xp;rw[hz]at xn;injection xn with xn;injection xn with e1 e2;subst e1;subst e2;obtain rfl:ad=ad':=by rw[FD]at QI;injection QI
       obtain⟨A,d,ws,pY,CZ,dx,P6,gq,jy⟩:=vH ha h3 uc;obtain⟨n,fp⟩:=zN (R2.out.entries.length);have ah:({R2 with out:={R2.out with save:=true}}:Rf).out.entries.length=n:=fp;rw[ah]at pY CZ jy;rw[fp]at Ss;have e26:wd.cell? ⟨g,26,none⟩=some (.slice A n d):=by
        have:=h3.s.cell 26;simp only[bj,Zx]at this;rw[this,pY]
       have kt:=h3.s.lt;have vw:=uH.lt;have z11:=uH.cell 11;simp only[Zx]at z11;obtain⟨k26,kz,k0,k1,k2,k3,k4,k5⟩:=TJ [g,w.heap.size,(ad.add (j*6)).block] e26 z11 m0 m1 m2 m3 m4 m5;have Ep:(ad.add (j*6)).block=ad.block:=by unfold Addr.add;split <;> rfl
       have LZ:wd.heap.size=wr.heap.size:=by rw[<-tJ];simp[World.setCell]
       have ze:∀x∈[g,w.heap.size,(ad.add (j*6)).block],x<wd.heap.size:=by
        intro x hx;simp only[List.mem_cons,List.not_mem_nil,or_false]at hx;rcases hx with rfl|rfl|rfl
        ·exact kt
        ·exact vw
        ·rw[Ep,LZ];exact Mq
       have fi:n+1<=1000000000:=by omega
       have KS:∀A3 c3 w3,w3.ownsRow 0 59 6 (.slice A3 (n+1) c3) (n+1) ((ws++[(Value.slice B mm dd,x)]).flatMap bY)->Fr (az A) ((wd.alloc (.cells (bY (.slice B mm dd,x)).toArray 59)).drew) w3->(∀j,az A3 j->az A j\/((wd.alloc (.cells (bY (.slice B mm dd,x)).toArray 59)).drew).heap.size<=j)->
         ar w3 g 122 (bj {R2 with out:={R2.out with save:=true}} v2)/\(∀x∈[g,w.heap.size,(ad.add (j*6)).block],w3.heap[x]?=wd.heap[x]?)/\au ag c q w1 g (kF R1 first (m.entries.take (j+1))) (w3.setCell ⟨g,26,none⟩ (.slice A3 (n+1) c3)):=fun A3 c3 w3 ho hF hr=>by
        obtain⟨q1,q2,q3⟩:=jy A3 c3 w3 ho hF hr;refine⟨q1,fun x hx=>?_,?_⟩
        ·simp only[List.mem_cons,List.not_mem_nil,or_false]at hx;rcases hx with rfl|rfl|rfl
         ·exact q1.trans h3.s.symm
         ·refine q3 _ vw fun hh=>?_
          unfold aT at hh;rw[dM _ lD,WB]at hh;omega
         ·rw[Ep];refine q3 _ (by rw[LZ];exact Mq) fun hh=>?_
          unfold aT at hh;rw[Pa]at hh;unfold aL at ha;omega
        ·rw[dh];exact(q2.next (fun _ _=>rfl) (Az.mono fun j e=>by rw[e];have:=h2.sl;exact⟨by omega,by omega⟩)).next dM di
       subst FD;replace tJ:=zH tJ;replace fp:=zH fp;clear h2 h3 uc jy uH Ek B9 Jp s22 Iu jR dh hz GJ HA hQ Ep LZ;go_wp2_with fail;rw[tJ.out];try go_wp2_with fail
       refine mI [g,w.heap.size,(ad.add (j*6)).block] wd [([0,1,2,3,4,5,6,7,8,9,10],11),([],12)] ([13,14,15],16) ?_;refine ap fun K5 wR=>?_
       simp only[af,Zx];repeat go_big_quiet_step(fail)
       apply wpQuiet_nil;go_wp2_with fail;refine⟨aq ze P6,wR _ _ ?_⟩;refine ap fun K6 rS=>?_
       simp only[af,Zx];apply wpQuiet_nil;go_wp2_with (at_builtin;refine aW rfl (.tmp 87) (.tmp 93) rfl 0 rfl CZ rfl dx gq fi zz ?_;intro A3 c3 w3 cE dg bS hrw3;obtain⟨iT,ja,lm⟩:=KS A3 c3 w3 cE dg hrw3;replace lm:=zH lm;clear KS cE dg bS hrw3);have x26:=iT.cell 26;have y26:=iT.free 26;simp only[bj,vi,Zx]at x26;refine⟨dN ja,rS _ _ ?_⟩;refine aC ?_;simp only[af,Zx];repeat go_big_quiet_step(fail)
       apply wpQuiet_nil;go_wp2_with fail;exact⟨⟨j+1,xp,by go_num,lm.out⟩,by simp[intOf];exact aP.out⟩
      ·have ez:kF R1 first (m.entries.take (j+1))=kF R1 first (m.entries.take j):=by
        rw[HA];unfold kF;rw[if_pos h0,if_pos h0,EA JZ]
       rw[<-ez]at hQ;subst FD;replace hQ:=zH hQ;replace JZ:=Int.not_le.1 JZ;clear h2 Ek B9 Iu ez hz GJ HA;go_wp2_with fail;exact⟨⟨j+1,xp,by go_num,hQ.out⟩,by simp[intOf];exact aP.out⟩
     ·have ez:kF R1 first (m.entries.take (j+1))=kF R1 first (m.entries.take j):=by
       unfold kF;rw[if_neg h0,if_neg h0]
      rw[<-ez]at hQ;subst FD;replace hQ:=zH hQ;clear h2 Ek B9 Iu ez hz GJ HA;go_wp2_with fail;exact⟨⟨j+1,xp,by go_num,hQ.out⟩,by simp[intOf];exact aP.out⟩
    ·obtain rfl:j=n1:=by omega
     have ye:m.entries.take j=m.entries:=by rw[iI.out];exact List.take_length
     rw[ye]at h2;obtain⟨R2,jR⟩:∃R2:Rf,kF R1 first m.entries=R2:=⟨_,rfl⟩
     have zn:R2.track=p.2/\R2.commit=R.commit/\R2.out.commits=R.out.commits/\R2.out.msgs=R.out.msgs:=by
      rw[<-jR];unfold kF;split
      ·have:=Dk R1 first m.entries
       exact⟨this.1.trans vW.2.2.2.2,this.2.1.trans vW.2.2.2.1,this.2.2.1.trans vW.2.1,this.2.2.2.trans vW.2.2.1⟩
      ·exact⟨vW.2.2.2.2,vW.2.2.2.1,vW.2.1,vW.2.2.1⟩
     have pV:=hA.out;rw[jR]at h2 pV;obtain⟨E,hE⟩:∃E:Int,m.idx+(m.entries.length:Int)=E:=⟨_,rfl⟩;have Cb:m.idx+(j:Int)=E:=by rw[<-hE,iI.out]
     have Z8:0<=E/\E<=1099511627790:=by omega
     rw[hE]at pV;obtain⟨Cm,OL⟩:∃C,min m.commit E=C:=⟨_,rfl⟩;have Zj:Cm<=4000000000000:=by omega
     have Nb:=eJ R.track m.idx m.logTerm m.entries;rw[hp.out]at Nb;have qA:=ov Cm ha h2 (by rw[zn.1,zn.2.1,Nb.1];exact hi) (by rw[zn.2.1];exact oX.1) Zj (by rw[zn.1];have:=Nb.2.1;omega) (by rw[zn.2.2.1];omega);have gA:∀wx,au bu c q wr g (R2.commits Cm) wx->Calls prog 63 #[.pointer (some ⟨g,0,none⟩),eH {cZ with kind:=6,tgt:=m.frm,idx:=E,round:=m.round} (.slice none 0 0) (.slice none 0 0)] wx fun e w'=>e=.returned (.tuple #[])/\au aa c q w g (R.appends m) w':=fun wx hp=>by
      have SD:(R2.commits Cm).out.msgs.length<=100000:=by
       have e:(R2.commits Cm).out.msgs=R2.out.msgs:=by unfold Rf.commits;split <;> rfl
       rw[e,zn.2.2.2];omega
      refine(hp.call fun cM v3 h3=>dj {cZ with kind:=6,tgt:=m.frm,idx:=E,round:=m.round} rfl rfl ha h3 SD).mono ?_;rintro e w' ⟨rfl,hq⟩;refine⟨rfl,aF.out _ _ ?_⟩;rw[pV,OL];exact hq.next dM di
     have GJ:∀wx,au bu c q wr g (R2.commits Cm) wx->ar wx w.heap.size 39 #[.int .i64 m.kind,.int .i64 m.frm,.int .i64 m.tgt,.int .i64 m.term,.int .i64 m.idx,.int .i64 m.logTerm,.int .i64 m.commit,.int .i64 m.round,.bool m.reject,.int .i64 m.offset,.int .i64 m.total,.slice A1 j c1,.slice A2 n2 c2]:=fun wx hp=>hp.blk (fun hh=>by unfold aT at hh;rw[dM _ lD,WB]at hh;omega) JU
     unfold eH at gA;simp only[cZ,vi]at gA;replace pV:=zH pV;replace hE:=zH hE;replace jR:=zH jR;replace zn:=zH zn;replace gA:=zH gA;replace GJ:=zH GJ;clear h2 Ek B9 ye Nb hQ;rcases(show(m.commit<=E/\m.commit=Cm)\/(E<m.commit/\E=Cm) by omega)with⟨c1',c2'⟩|⟨c1',c2'⟩
     ·rw[<-c2']at qA gA GJ;replace c2':=zH c2';replace OL:=zH OL;go_wp2_with fail;try rw[Cb]
      try go_wp2_with fail
      refine qA.mono ?_;rintro e w6 ⟨rfl,vq⟩;have mX:=gA.out w6 vq;have Rj:=GJ.out w6 vq;obtain⟨b1,b7,-⟩:=Rj.cs [1,7];simp only[Zx]at b1 b7;clear qA vq Rj;go_wp2_with fail;refine mX.mono ?_;rintro e w7 ⟨rfl,Me⟩;replace Me:=zH Me;clear mX;go_wp2_with fail;exact cL rfl rfl ⟨rfl,Me.out⟩
     ·rw[<-c2']at qA gA GJ;replace c2':=zH c2';replace OL:=zH OL;go_wp2_with fail;try rw[Cb]
      try go_wp2_with fail
      refine qA.mono ?_;rintro e w6 ⟨rfl,vq⟩;have mX:=gA.out w6 vq;have Rj:=GJ.out w6 vq;obtain⟨b1,b7,-⟩:=Rj.cs [1,7];simp only[Zx]at b1 b7;clear qA vq Rj;go_wp2_with fail;refine mX.mono ?_;rintro e w7 ⟨rfl,Me⟩;replace Me:=zH Me;clear mX;go_wp2_with fail;exact cL rfl rfl ⟨rfl,Me.out⟩
end
theorem xj(R:Rf)(s:Nat)(hs:s<R.peers.length):R.setPeer s (R.peer s)=R:=by
 have e:R.peers.set s (R.peer s)=R.peers:=by
  unfold Rf.peer;rw[List.getElem?_eq_getElem hs];exact List.set_getElem_self hs
 unfold Rf.setPeer;rw[e]
section
variable {aa:Nat->Nat}{c q g p s j d n pm:Nat}{w w1 wr:World}{R:Rf}{v:Aw}{u:Value}{P P':Pr}{mc:Array Value}
theorem aJ.setPeer(ha:aL c q)(h:aJ aa c q w g R v)(hs:s<R.peers.length)(hq:v.peers=.slice (some ⟨p,0,none⟩) R.peers.length d)(hj:j<4)(hp:mK P'=(mK (R.peer s)).set j u) :
  aJ aa c q (w.setCell ⟨p,s*4+j,none⟩ u) g (R.setPeer s P') v/\Fr (fun k=>k=p) w (w.setCell ⟨p,s*4+j,none⟩ u)/\aa p=c+4:=by
 obtain⟨A,c',e,aD,hl⟩:=id h.p;rw[hq]at e;injection e with e1 e2 e3;subst e1;subst e3;have nC:=hl p ⟨_,rfl,rfl⟩;have hF:=Fr.set (w:=w) p (s*4+j) u;have JB:g≠p:=fun e=>by have:=h.sl;rw[e,nC]at this;omega
 have O3:ar (w.setCell ⟨p,s*4+j,none⟩ u) g 122 (bj (R.setPeer s P') v):=(hF.block g h.s.lt JB).trans h.s;have aE:=(aD.stored (s*4+j) u).1;have Lw:R.peers[s]?=some (R.peer s):=by unfold Rf.peer;rw[List.getElem?_eq_getElem hs];rfl
 rw[jl jD hj hp Lw]at aE;refine⟨h.turn [4] ha O3 (fun _ _=>rfl) (by simp) (hF.mono fun k e=>.inr ⟨4,by simp,by rw[e];exact nC⟩) tI tI (.inl ?_) tI (.inr ⟨rfl,rfl⟩) (.inr ⟨rfl,rfl⟩) tI tI (.inr ⟨rfl,rfl⟩) tI tI,hF,nC⟩;rw[hq];have e:(R.setPeer s P').peers.length=R.peers.length:=List.length_set;rw[e];exact⟨_,_,rfl,aE,hl⟩
theorem aJ.peer_cells(h:aJ aa c q w g R v)(hs:s<R.peers.length)(hv:v.peers=.slice (some ⟨p,0,none⟩) n d)(hP:R.peer s=P) :
  (w.cell? ⟨p,s*4,none⟩=some (.int .i64 P.next)/\w.cell? ⟨p,s*4+1,none⟩=some (.int .i64 P.mat)/\w.cell? ⟨p,s*4+2,none⟩=some (.int .i64 P.offset)/\w.cell? ⟨p,s*4+3,none⟩=some (.int .i64 P.round))/\
  (w.frozen? ⟨p,s*4,none⟩=false/\w.frozen? ⟨p,s*4+1,none⟩=false/\w.frozen? ⟨p,s*4+2,none⟩=false/\w.frozen? ⟨p,s*4+3,none⟩=false)/\p<w.heap.size:=by
 obtain⟨q',c',e,h1,h2,p0,p1,p2,p3,pf⟩:=h.peer_at hs;rw[hv]at e;injection e with e1 _ _;injection e1 with e1;injection e1 with e1;subst e1;rw[hP]at p0 p1 p2 p3;exact⟨⟨p0,p1,p2,p3⟩,⟨pf _,pf _,pf _,pf _⟩,h2⟩
def mS(aa:Nat->Nat)(c q:Nat)(w1:World)(g:Nat)(R:Rf)(s:Nat)(v:Aw)(pm:Nat)(mc:Array Value)(P:Pr)(wr:World):Prop:=
 aJ aa c q wr g (R.setPeer s P) v/\Fr (aT aa c) w1 wr/\ar wr pm 39 mc
theorem mS.set(j:Nat)(u:Value)(P':Pr)(ha:aL c q)(h:mS aa c q w1 g R s v pm mc P wr)(hs:s<R.peers.length)(hq:v.peers=.slice (some ⟨p,0,none⟩) R.peers.length d)(hm:aa pm≠c+4)(hj:j<4)(hp:mK P'=(mK P).set j u):mS aa c q w1 g R s v pm mc P' (wr.setCell ⟨p,s*4+j,none⟩ u):=by
 obtain⟨h1,h2,h3⟩:=h;obtain⟨a1,a2,a3⟩:=h1.setPeer (P':=P') (u:=u) ha (by rw[bo];exact hs) (by rw[bo];exact hq) hj (by rw[bK R s P hs];exact hp);rw[fq]at a1;exact⟨a1,h2.trans (a2.mono (X':=aT aa c) fun k e=>by rw[e];exact⟨by omega,by omega⟩) fun _ h=>.inl h,(a2.block pm h3.lt fun e=>hm (by rw[e];exact a3)).trans h3⟩
theorem mS.below(h:mS aa c q w1 g R s v pm mc P wr)(hb:Below wr.heap.size wr w):mS aa c q w1 g R s v pm mc P w:=
 ⟨h.1.below hb,h.2.1.trans (Fr.of_below (X:=aT aa c) hb) fun _ h=>.inl h,h.2.2.kept hb⟩
theorem mS.post(h:mS aa c q w1 g R s v pm mc P wr):au aa c q w1 g (R.setPeer s P) wr:=⟨aa,v,h.1,fun _ _=>rfl,h.2.1⟩
theorem vE{K M:Nat}(s:Nat)(ha:aL c q)(h:aJ aa c q w g R v)(hk:Ok K M R)(hr:R.role=3)(hs:s<=R.n)(hK:K<=100000)(hM:M<=90000) :
  Calls prog 100 #[.pointer (some ⟨g,0,none⟩),.int .i64 s] w fun e w'=>e=.returned (.tuple #[])/\au aa c q w g (R.lacks s) w':=by
 obtain⟨h1,h2,h3,h4⟩:=hk.peer hr hs;exact rq s ha h h1 (by have:=hk.ms;omega) (by have:=hk.trk;omega) h3.1 (by omega) h4.1 h4.2 hk.dat
end
def Rl:Nat->Code->Option Code
 | 0,c=>some c
 | k+1,.seq _ b=>Rl k b
 | _+1,_=>none
def RM(k:Nat)(c:Code):Option Code:=match Rl k c with
 | some (.seq a _)=>some a
 | some b=>some b
 | none=>none
def HI(k:Nat)(c:Code):Code:=(Rl k c).getD .skip
def CH(k:Nat)(c:Code):Code:=(RM k c).getD .skip
def fl(F:Func):Code:=F.body.getD .skip
section
variable {P:Program}{Q:Exit->Act->World->Prop}{a:Act}{w:World}
theorem C9{o:Option Code}{c:Code}(h:o=some c)(hw:c.wp P Q a w):(o.getD .skip).wp P Q a w:=by
 subst h;exact hw
theorem aK{k:Nat}{c:Code}(h:Rl k c=some (.seq (CH k c) (HI (k+1) c)))(hw:(CH k c).wp P (Exit.then ((HI (k+1) c).wp P Q) Q) a w):(HI k c).wp P Q a w:=by
 unfold HI;rw[h];exact wp_seq hw
end
theorem B7(l:List Value):l=(List.range l.length).map fun i=>l[i]?.getD undef:=by
 refine List.ext_getElem? fun i=>?_
 rw[List.getElem?_map];rcases Nat.lt_or_ge i l.length with h|h
 ·rw[List.getElem?_range h,List.getElem?_eq_getElem h];simp[h]
 ·rw[List.getElem?_eq_none (l:=List.range l.length) (by simp;exact h),List.getElem?_eq_none h];rfl
theorem an{l:List Value}{n:Nat}(h:l.length=n):∃f:Nat->Value,l=(List.range n).map f/\∀i v,l[i]?=some v->f i=v:=
 ⟨fun i=>l[i]?.getD undef,by subst h;exact B7 l,fun i v e=>by show l[i]?.getD undef=v;rw[e];rfl⟩
theorem cP{P:Program}{f:FuncId}{fn:Func}{args:List Value}{w:World}{R:Ending->World->Prop}(n:Nat)(hf:P.funcs[f]?=some fn)(hb:fn.body=some (fl fn))(hn:fn.ntmps=n)(ha:args.length<=n)
  (h:∀l:List Value,l.length=n->(∀(i:Nat) (v:Value),args[i]?=some v->l[i]?=some v)->(HI 0 (fl fn)).wp P (bodyPost P fn R) ⟨l.toArray,[]⟩ w):Calls P f args.toArray w R:=by
 refine calls_of_wp hf hb ?_;have e:args.toArray++Array.replicate (fn.ntmps-args.toArray.size) undef=(args++List.replicate (n-args.length) undef).toArray:=by
  rw[hn];simp
 rw[e];exact h _ (by simp;omega) fun i v hi=>by
  have hl:i<args.length:=(List.getElem?_eq_some_iff.1 hi).1;rw[List.getElem?_append_left hl];exact hi
theorem cI {P:Program}{Q:Exit->Act->World->Prop}{a:Act}{w:World}(k:Nat)(F:Func){c:Code}(h:RM k (fl F)=some c)(hw:c.wp P Q a w):(CH k (fl F)).wp P Q a w:=C9 h hw
theorem F0 {P:Program}{Q:Exit->Act->World->Prop}{a:Act}{w:World}(k:Nat)(F:Func){c:Code}(h:Rl k (fl F)=some c)(hw:c.wp P Q a w):(HI k (fl F)).wp P Q a w:=C9 h hw
abbrev sQ (k:Nat)(F:Func)(K:Act->World->Prop)(Q:Exit->Act->World->Prop)(l:List Value)(w:World):Prop:=(CH k (fl F)).wp prog (Exit.then K Q) ⟨l.toArray,[]⟩ w
abbrev sP (k:Nat)(F:Func)(K:Act->World->Prop)(H:Ending->World->Prop)(l:List Value)(w:World):Prop:=(CH k (fl F)).wp prog (Exit.then K (bodyPost prog F H)) ⟨l.toArray,[]⟩ w
abbrev tP (k:Nat)(F:Func)(H:Ending->World->Prop)(l:List Value)(w:World):Prop:=(HI k (fl F)).wp prog (bodyPost prog F H) ⟨l.toArray,[]⟩ w
abbrev rT (H:World->Prop):Ending->World->Prop:=fun e w''=>e=.returned (.tuple #[])/\H w'' 
def LA(l:List Value)(g b s:Nat)(rd:Int):Prop:=l.length=263/\l[0]?=some (.pointer (some ⟨g,0,none⟩))/\l[3]?=some (.pointer (some ⟨b,0,none⟩))/\l[4]?=some (.int .i64 s)/\l[5]?=some (.int .i64 rd)
def jW(m:Mg)(s:Nat)(A1 A2:Option Addr)(n1 c1 n2 c2:Nat):Array Value:=#[.int .i64 m.kind,.int .i64 s,.int .i64 m.tgt,.int .i64 m.term,.int .i64 m.idx,.int .i64 m.logTerm,.int .i64 m.commit,.int .i64 m.round,.bool m.reject,.int .i64 m.offset,.int .i64 m.total,.slice A1 n1 c1,.slice A2 n2 c2]
section
variable {ag:Nat->Nat}{c q g s b pr d n1 c1 n2 c2:Nat}{A1 A2:Option Addr}{w1 wx:World}{R:Rf}{v:Aw}{mc:Array Value}{P:Pr}{K:Act->World->Prop}{Q':Exit->Act->World->Prop}{l:List Value}{m:Mg}{rd:Int}
theorem Uj{r0:Int}(hl:LA l g b s r0)(aE:mS ag c q w1 g R s v b mc P wx)(hK:∀l',LA l' g b s (min r0 R.round)->K ⟨l'.toArray,[]⟩ wx):sQ 3 f119 K Q' l wx:=by
 obtain⟨hA,_,_⟩:=id aE;have c15:=hA.s.cell 15;simp only[bj,vi,Zx]at c15;replace c15:wx.cell? ⟨g,15,none⟩=some (.int .i64 R.round):=c15;replace aE:=zH aE;clear hA;obtain⟨ah,aS,be,bW,cA⟩:=hl;obtain⟨fr,rfl,am⟩:=an ah;rw[dY,am _ _ aS,am _ _ be,am _ _ bW,am _ _ cA];clear ah am aS be bW cA;refine cI 3 f119 rfl ?_;rcases(show(R.round<r0/\min r0 R.round=R.round)\/(r0<=R.round/\min r0 R.round=r0) by omega)with⟨a1,a2⟩|⟨a1,a2⟩
 ·rw[a2]at hK;clear a2;go_wp2_with fail;exact⟨rfl,rfl,rfl,rfl,rfl⟩
 ·rw[a2]at hK;clear a2;go_wp2_with fail;exact⟨rfl,rfl,rfl,rfl,rfl⟩
theorem Uw(ha:aL c q)(dL:s<R.peers.length)(eX:v.peers=.slice (some ⟨pr,0,none⟩) R.peers.length d)(cz:ag b≠c+4)(hl:LA l g b s rd)(aE:mS ag c q w1 g R s v b mc P wx)
  (hK:∀l' w',LA l' g b s rd->mS ag c q w1 g R s v b mc {P with round:=max P.round rd} w'->K ⟨l'.toArray,[]⟩ w'):sQ 4 f119 K Q' l wx:=by
 obtain⟨hA,wU,jV⟩:=id aE;obtain⟨⟨p0,p1,p2,p3⟩,⟨e0,e1,e2,e3⟩,wb⟩:=hA.peer_cells (s:=s) (by rw[bo];exact dL) eX (bK R s _ dL);have c14:_:=hA.s.cell 14;simp only[bj,Zx]at c14;rw[eX]at c14;have xB:=hA.s.lt;have zV:=jV.lt;have tM:s<R.peers.length:=dL;obtain⟨n,fp⟩:=zN (R.peers.length);by_cases a1:P.round<rd
 ·have ki:=aE.set 3 (.int .i64 rd) {P with round:=max P.round rd} ha dL eX cz (by omega) (by show[_,_,_,_]=[_,_,_,_];rw[show max P.round rd=rd by omega];rfl);replace ki:=zH ki;replace aE:=zH aE;replace eX:=zH eX;rw[fp]at tM c14;clear fp;clear hA wU jV;obtain⟨ah,aS,be,bW,cA⟩:=hl;obtain⟨fr,rfl,am⟩:=an ah;rw[dY,am _ _ aS,am _ _ be,am _ _ bW,am _ _ cA];clear ah am aS be bW cA;refine cI 4 f119 rfl ?_;go_wp2_with fail;exact hK _ _ ⟨rfl,rfl,rfl,rfl,rfl⟩ ki.out
 ·have e:({P with round:=max P.round rd}:Pr)=P:=by rw[show max P.round rd=P.round by omega]
  rw[e]at hK;have ki:=zH aE;replace aE:=zH aE;replace eX:=zH eX;rw[fp]at tM c14;clear fp e;clear hA wU jV;replace a1:=Int.not_lt.1 a1;obtain⟨ah,aS,be,bW,cA⟩:=hl;obtain⟨fr,rfl,am⟩:=an ah;rw[dY,am _ _ aS,am _ _ be,am _ _ bW,am _ _ cA];clear ah am aS be bW cA;refine cI 4 f119 rfl ?_;go_wp2_with fail;exact hK _ _ ⟨rfl,rfl,rfl,rfl,rfl⟩ ki.out
theorem JG(h0:¬(m.kind=8/\0<m.total))(hl:LA l g b s rd)(aE:mS ag c q w1 g R s v b (jW m s A1 A2 n1 c1 n2 c2) P wx)
  (hK:∀l',LA l' g b s rd->K ⟨l'.toArray,[]⟩ wx):sQ 5 f119 K Q' l wx:=by
 obtain⟨hA,_,jV⟩:=id aE;obtain⟨y0,y10,-⟩:=jV.cs [0,10];simp only[jW,Zx]at y0 y10;have cu:(m.kind==8)=false\/((m.kind==8)=true/\m.total<=0):=by
  by_cases hk:m.kind=8
  ·refine .inr ⟨by simp[hk],?_⟩;rcases Int.lt_or_le 0 m.total with h|h
   ·exact absurd ⟨hk,h⟩ h0
   ·exact h
  ·exact .inl (by simp[hk])
 replace aE:=zH aE;replace h0:=zH h0;clear hA jV;obtain⟨ah,aS,be,bW,cA⟩:=hl;obtain⟨fr,rfl,am⟩:=an ah;rw[dY,am _ _ aS,am _ _ be,am _ _ bW,am _ _ cA];clear ah am aS be bW cA;refine cI 5 f119 rfl ?_;rcases cu with h|⟨h,h'⟩
 ·go_wp2_with fail;exact⟨rfl,rfl,rfl,rfl,rfl⟩
 ·go_wp2_with fail;exact⟨rfl,rfl,rfl,rfl,rfl⟩
end
section
variable {ag:Nat->Nat}{c q g s b pr d n1 c1 n2 c2:Nat}{A1 A2:Option Addr}{w1 wx:World}{R:Rf}{v:Aw}{P:Pr}{K:Act->World->Prop}{l:List Value}{m:Mg}{rd:Int}{G:World->Prop}
theorem G2(ha:aL c q)(dL:s<R.peers.length)(eX:v.peers=.slice (some ⟨pr,0,none⟩) R.peers.length d)(cz:ag b≠c+4)(O8:g≠b)(hk:m.kind=8)(ht:0<m.total)(hx:m.idx=R.snap.idx)(hy:P.next-1<R.snap.idx)
  (ci:1<=P.next/\P.next<=1099511627777) (hl:LA l g b s rd) (aE:mS ag c q w1 g R s v b (jW m s A1 A2 n1 c1 n2 c2) P wx)
  (ik:∀w',mS ag c q w1 g R s v b (jW m s A1 A2 n1 c1 n2 c2) {P with offset:=min m.offset R.snap.data.length} w'->Calls prog 100 #[.pointer (some ⟨g,0,none⟩),.int .i64 s] w' fun e w''=>e=.returned (.tuple #[])/\G w'') :
  sP 5 f119 K (rT G) l wx:=by
 obtain⟨hA,wU,jV⟩:=id aE;obtain⟨⟨p0,p1,p2,p3⟩,⟨e0,e1,e2,e3⟩,wb⟩:=hA.peer_cells (s:=s) (by rw[bo];exact dL) eX (bK R s _ dL);have c14:_:=hA.s.cell 14;simp only[bj,Zx]at c14;rw[eX]at c14;have xB:=hA.s.lt;have zV:=jV.lt;obtain⟨y0,y4,y9,y10,-⟩:=jV.cs [0,4,9,10];simp only[jW,vi,Zx]at y0 y4 y9 y10;have tM:s<R.peers.length:=dL;have c5:=hA.s.cell 5;simp only[bj,vi,Zx]at c5;replace c5:wx.cell? ⟨g,5,none⟩=some (.int .i64 R.snap.idx):=c5;have SM:(m.kind==8)=true:=by simp[hk]
 have CB:(m.idx==R.snap.idx)=true:=by simp[hx]
 obtain⟨N,HK⟩:=zN (R.snap.data.length);obtain⟨n,fp⟩:=zN (R.peers.length);obtain⟨W,hW⟩:=zN ((wx.setCell ⟨pr,s*4+2,none⟩ (.int .i64 m.offset)).drew.drew);have Gq:mS ag c q w1 g R s v b (jW m s A1 A2 n1 c1 n2 c2) {P with offset:=m.offset} W:=by
  rw[<-hW];exact(aE.set 2 (.int .i64 m.offset) {P with offset:=m.offset} ha dL eX cz (by omega) rfl).below (aA zb 2)
 obtain⟨k14,k5,ky4,kp0⟩:=GD [g,b,pr] c14 c5 y4 p0;have x14:=ae (w:=wx.drew) (gs:=[g,b,pr]) c14 (by simp);have xy9:=ae (w:=wx.drew) (gs:=[g,b,pr]) y9 (by simp);have SV:-9223372036854775808<=P.next-1/\P.next-1<=9223372036854775807:=by omega
 rw[fp]at tM c14 k14 x14;have ki:=zH aE;replace aE:=zH aE;replace hW:=zH hW;replace hk:=zH hk;replace hx:=zH hx;have Mm:=eX;rw[fp]at Mm;replace eX:=zH eX;replace Mm:=zH Mm;replace Gq:=zH Gq;clear hA wU jV p1 p3 e1 e3;obtain⟨ah,aS,be,bW,cA⟩:=hl;obtain⟨fr,rfl,am⟩:=an ah;rw[dY,am _ _ aS,am _ _ be,am _ _ bW,am _ _ cA];clear ah am aS be bW cA;refine cI 5 f119 rfl ?_;replace fp:=zH fp;go_wp2_with fail;refine dV [g,b,pr] wx [] [0,1,2,3,4,5,6,7,8,9,10,11,12,13,14,15,16,17,18,19,20,21,22,23,24] ?_;refine aj ?_;simp only[af,Zx];repeat go_big_quiet_step(fail)
 apply wpQuiet_nil;go_wp2_with fail;refine bT (C:=dP [g,b,pr] wx.drew) [] ([0,1,2,3,4,5,6,7,8],9) (by kernel_rfl) (by kernel_rfl) (fun _ _ _ _ e h=>⟨e.symm.trans h.1,h.2⟩) aR ?_;refine aC ?_;simp only[af,Zx];repeat go_big_quiet_step(fail)
 apply wpQuiet_nil;go_wp2_with fail;rw[hW.out];clear y0 y4 y9 y10 c5 c14 p0 p2 e0 e2 k14 k5 ky4 kp0 x14 xy9 wb xB zV;obtain⟨hA,wU,jV⟩:=id Gq.out;obtain⟨⟨p0,p1,p2,p3⟩,⟨e0,e1,e2,e3⟩,wb⟩:=hA.peer_cells (s:=s) (by rw[bo];exact dL) eX (bK R s _ dL);have c14:_:=hA.s.cell 14;simp only[bj,Zx]at c14;rw[eX]at c14;have xB:=hA.s.lt;have zV:=jV.lt;have y9:=jV.cell 9;simp only[jW,vi,Zx]at y9;obtain⟨Ad,cd,rv,_⟩:=id hA.d;have c7:=hA.s.cell 7;simp only[bj,Zx]at c7;replace c7:W.cell? ⟨g,7,none⟩=some (.slice Ad N cd):=by rw[c7,rv];show some (Value.slice Ad R.snap.data.length cd)=_;rw[HK]
 clear rv hA wU jV p0 p1 p3 e0 e1 e3;rw[fp.out]at c14;obtain⟨k7,k14,ky9⟩:=sD [g,b,pr] c7 c14 y9;have x7:=ae (w:=W.drew) (gs:=[g,b,pr]) c7 (by simp);have x14:=ae (w:=W.drew) (gs:=[g,b,pr]) c14 (by simp);by_cases a1:(N:Int)<m.offset
 ·obtain⟨V,hV⟩:=zN ((W.setCell ⟨pr,s*4+2,none⟩ (.int .i64 N)).drew.drew);have eB:=ik V (by
   rw[<-hV,show min m.offset (R.snap.data.length:Int)=N by omega];exact((Gq.out).set 2 (.int .i64 N) {P with offset:=N} ha dL eX.out cz (by omega) rfl).below (aA zb 2))
  replace hV:=zH hV;replace HK:=zH HK;clear ik;refine dV [g,b,pr] W [] [0,1,2,3,4,5,6,7,8] ?_;refine aj ?_;simp only[af,Zx];repeat go_big_quiet_step(fail)
  apply wpQuiet_nil;go_wp2_with fail;refine bT (C:=dP [g,b,pr] W.drew) [] ([0,1,2,3,4,5,6,7,8,9,10,11,12],13) (by kernel_rfl) (by kernel_rfl) (fun _ _ _ _ e h=>⟨e.symm.trans h.1,h.2⟩) aR ?_;refine aC ?_;simp only[af,Zx];repeat go_big_quiet_step(fail)
  apply wpQuiet_nil;go_wp2_with fail;rw[hV.out];refine eB.mono ?_;rintro e wn ⟨rfl,hp⟩;replace hp:=zH hp;clear eB;go_wp2_with fail;exact aO rfl rfl ⟨rfl,hp.out⟩
 ·have eB:=ik W.drew (by
   rw[show min m.offset (R.snap.data.length:Int)=m.offset by omega];exact(Gq.out).below (zb.drew))
  replace a1:=Int.not_lt.1 a1;replace HK:=zH HK;clear ik;refine dV [g,b,pr] W [] [0,1,2,3,4,5,6,7,8] ?_;refine aj ?_;simp only[af,Zx];repeat go_big_quiet_step(fail)
  apply wpQuiet_nil;go_wp2_with fail;refine eB.mono ?_;rintro e wn ⟨rfl,hp⟩;replace hp:=zH hp;clear eB;go_wp2_with fail;exact aO rfl rfl ⟨rfl,hp.out⟩
end
section
variable {ag:Nat->Nat}{c q g s b pr d n1 c1 n2 c2:Nat}{A1 A2:Option Addr}{w1 wx:World}{R:Rf}{v:Aw}{P:Pr}{K:Act->World->Prop}{Q':Exit->Act->World->Prop}{l:List Value}{m:Mg}{rd:Int}{G:World->Prop}
theorem DI(dL:s<R.peers.length)(eX:v.peers=.slice (some ⟨pr,0,none⟩) R.peers.length d)(hk:m.kind=8)(ht:0<m.total)(Lk:¬(m.idx=R.snap.idx/\P.next-1<R.snap.idx))
  (ci:1<=P.next/\P.next<=1099511627777) (hl:LA l g b s rd) (aE:mS ag c q w1 g R s v b (jW m s A1 A2 n1 c1 n2 c2) P wx)
  (hG:∀w',mS ag c q w1 g R s v b (jW m s A1 A2 n1 c1 n2 c2) P w'->G w') :
  sP 5 f119 K (rT G) l wx:=by
 obtain⟨hA,wU,jV⟩:=id aE;obtain⟨⟨p0,p1,p2,p3⟩,⟨e0,e1,e2,e3⟩,wb⟩:=hA.peer_cells (s:=s) (by rw[bo];exact dL) eX (bK R s _ dL);have c14:_:=hA.s.cell 14;simp only[bj,Zx]at c14;rw[eX]at c14;have xB:=hA.s.lt;have zV:=jV.lt;obtain⟨y0,y4,y10,-⟩:=jV.cs [0,4,10];simp only[jW,vi,Zx]at y0 y4 y10;have tM:s<R.peers.length:=dL;have c5:=hA.s.cell 5;simp only[bj,vi,Zx]at c5;replace c5:wx.cell? ⟨g,5,none⟩=some (.int .i64 R.snap.idx):=c5;have SM:(m.kind==8)=true:=by simp[hk]
 obtain⟨n,fp⟩:=zN (R.peers.length);have hQ:=zH (hG _ (aE.below (zb.drew)));obtain⟨k14,k5,ky4,kp0⟩:=GD [g,b,pr] c14 c5 y4 p0;have SV:-9223372036854775808<=P.next-1/\P.next-1<=9223372036854775807:=by omega
 rw[fp]at tM c14 k14;have cu:(m.idx==R.snap.idx)=false\/((m.idx==R.snap.idx)=true/\R.snap.idx<=P.next-1):=by
  by_cases h:m.idx=R.snap.idx
  ·refine .inr ⟨by simp[h],?_⟩;rcases Int.lt_or_le (P.next-1) R.snap.idx with h'|h'
   ·exact absurd ⟨h,h'⟩ Lk
   ·exact h'
  ·exact .inl (by simp[h])
 replace aE:=zH aE;replace hk:=zH hk;replace Lk:=zH Lk;replace eX:=zH eX;clear hA wU jV p1 p2 p3 e0 e1 e2 e3 hG;obtain⟨ah,aS,be,bW,cA⟩:=hl;obtain⟨fr,rfl,am⟩:=an ah;rw[dY,am _ _ aS,am _ _ be,am _ _ bW,am _ _ cA];clear ah am aS be bW cA;refine cI 5 f119 rfl ?_;replace fp:=zH fp;rcases cu with CB|⟨CB,Z9⟩
 all_goals
  go_wp2_with fail;refine dV [g,b,pr] wx [] [0,1,2,3,4,5,6,7,8,9,10,11,12,13,14,15,16,17,18,19,20,21,22,23,24] ?_;refine aj ?_;simp only[af,Zx];repeat go_big_quiet_step(fail)
  apply wpQuiet_nil;go_wp2_with fail;exact aO rfl rfl ⟨rfl,hQ.out⟩
theorem JF(h0:m.reject=false)(hl:LA l g b s rd)(aE:mS ag c q w1 g R s v b (jW m s A1 A2 n1 c1 n2 c2) P wx)
  (hK:∀l',LA l' g b s rd->K ⟨l'.toArray,[]⟩ wx):sQ 6 f119 K Q' l wx:=by
 obtain⟨hA,_,jV⟩:=id aE;have y8:=jV.cell 8;simp only[jW,Zx]at y8;rw[h0]at y8;replace aE:=zH aE;replace h0:=zH h0;clear hA jV;obtain⟨ah,aS,be,bW,cA⟩:=hl;obtain⟨fr,rfl,am⟩:=an ah;rw[dY,am _ _ aS,am _ _ be,am _ _ bW,am _ _ cA];clear ah am aS be bW cA;refine cI 6 f119 rfl ?_;go_wp2_with fail;exact⟨rfl,rfl,rfl,rfl,rfl⟩
theorem Gi(ha:aL c q)(dL:s<R.peers.length)(eX:v.peers=.slice (some ⟨pr,0,none⟩) R.peers.length d)(cz:ag b≠c+4)(h0:m.reject=true)(uM:0<=m.idx/\m.idx<=1099511627776)
  (ci:1<=P.next/\P.next<=1099511627777) (Da:0<=P.mat/\P.mat<=1099511627776) (hl:LA l g b s rd) (aE:mS ag c q w1 g R s v b (jW m s A1 A2 n1 c1 n2 c2) P wx)
  (ik:∀w',mS ag c q w1 g R s v b (jW m s A1 A2 n1 c1 n2 c2) {P with next:=max (P.mat+1) (min (P.next-1) (m.idx+1))} w'->Calls prog 100 #[.pointer (some ⟨g,0,none⟩),.int .i64 s] w' fun e w''=>e=.returned (.tuple #[])/\G w'') :
  sP 6 f119 K (rT G) l wx:=by
 obtain⟨hA,wU,jV⟩:=id aE;obtain⟨⟨p0,p1,p2,p3⟩,⟨e0,e1,e2,e3⟩,wb⟩:=hA.peer_cells (s:=s) (by rw[bo];exact dL) eX (bK R s _ dL);have c14:_:=hA.s.cell 14;simp only[bj,Zx]at c14;rw[eX]at c14;have xB:=hA.s.lt;have zV:=jV.lt;obtain⟨y4,y8,-⟩:=jV.cs [4,8];simp only[jW,vi,Zx]at y4 y8;rw[h0]at y8;have tM:s<R.peers.length:=dL;obtain⟨n,fp⟩:=zN (R.peers.length);obtain⟨nx,MO⟩:=zN (max (P.mat+1) (min (P.next-1) (m.idx+1)));rw[MO]at ik;obtain⟨W,hW⟩:=zN (wx.setCell ⟨pr,s*4,none⟩ (.int .i64 nx));have eB:=ik W (by
  rw[<-hW];exact aE.set 0 (.int .i64 nx) {P with next:=nx} ha dL eX cz (by omega) rfl)
 rw[fp]at tM c14;have cu:(m.idx+1<P.next-1/\((m.idx+1<P.mat+1/\nx=P.mat+1)\/(P.mat+1<=m.idx+1/\nx=m.idx+1)))\/(P.next-1<=m.idx+1/\((P.next-1<P.mat+1/\nx=P.mat+1)\/(P.mat+1<=P.next-1/\nx=P.next-1))):=by omega
 replace hW:=zH hW;replace aE:=zH aE;replace eX:=zH eX;replace h0:=zH h0;replace MO:=zH MO;clear hA wU jV p2 p3 e1 e2 e3 ik;obtain⟨ah,aS,be,bW,cA⟩:=hl;obtain⟨fr,rfl,am⟩:=an ah;rw[dY,am _ _ aS,am _ _ be,am _ _ bW,am _ _ cA];clear ah am aS be bW cA;refine cI 6 f119 rfl ?_;replace fp:=zH fp;rcases cu with⟨x1,⟨x2,x3⟩|⟨x2,x3⟩⟩|⟨x1,⟨x2,x3⟩|⟨x2,x3⟩⟩
 all_goals
  have KV:wx.setCell ⟨pr,s*4,none⟩ (.int .i64 nx)=W:=hW.out;rw[x3]at KV;replace KV:=zH KV;clear x3;go_wp2_with fail;rw[KV.out];go_wp2_with fail;refine eB.mono ?_;rintro e wn ⟨rfl,hp⟩;replace hp:=zH hp;clear eB;go_wp2_with fail;exact aO rfl rfl ⟨rfl,hp.out⟩
end
def LC(l:List Value)(g b s:Nat)(last:Int):Prop:=l.length=263/\l[0]?=some (.pointer (some ⟨g,0,none⟩))/\l[3]?=some (.pointer (some ⟨b,0,none⟩))/\l[4]?=some (.int .i64 s)/\l[7]?=some (.int .i64 last)
def LB(l:List Value)(g s:Nat)(last has:Int):Prop:=l.length=263/\l[0]?=some (.pointer (some ⟨g,0,none⟩))/\l[4]?=some (.int .i64 s)/\l[7]?=some (.int .i64 last)/\l[9]?=some (.int .i64 has)
section
variable {ag:Nat->Nat}{c q g s b pr d n1 c1 n2 c2:Nat}{A1 A2:Option Addr}{w1 wx:World}{R:Rf}{v:Aw}{P:Pr}{K:Act->World->Prop}{Q':Exit->Act->World->Prop}{l:List Value}{m:Mg}{rd last has:Int}{G:World->Prop}
theorem Ts(hN:R.track.L.length<=1000000)(hl:LA l g b s rd)(aE:mS ag c q w1 g R s v b (jW m s A1 A2 n1 c1 n2 c2) P wx)(hK:∀l' w',LC l' g b s R.track.lastF.1->mS ag c q w1 g R s v b (jW m s A1 A2 n1 c1 n2 c2) P w'->K ⟨l'.toArray,[]⟩ w'):sQ 7 f119 K Q' l wx:=by
 obtain⟨hA,_,jV⟩:=id aE;have c4:=hA.s.cell 4;simp only[bj,vi,Zx]at c4;have bI:=jE hA.t hN;have e:(R.setPeer s P).track=R.track:=rfl;rw[e]at bI;have K9:∀w',Below wx.heap.size wx w'->mS ag c q w1 g R s v b (jW m s A1 A2 n1 c1 n2 c2) P w':=fun w' hb=>aE.below hb
 replace aE:=zH aE;clear hA jV e;obtain⟨ah,aS,be,bW,cA⟩:=hl;obtain⟨fr,rfl,am⟩:=an ah;rw[dY,am _ _ aS,am _ _ be,am _ _ bW,am _ _ cA];clear ah am aS be bW cA;refine cI 7 f119 rfl ?_;go_wp2_with fail;refine bI.mono ?_;rintro e w2 ⟨rfl,hb⟩;have h2:=zH (K9 w2 hb);clear hb K9 bI;go_wp2_with fail;exact hK _ _ ⟨rfl,rfl,rfl,rfl,rfl⟩ h2.out
theorem Uh(hl:LC l g b s last)(aE:mS ag c q w1 g R s v b (jW m s A1 A2 n1 c1 n2 c2) P wx)(hK:∀l',LB l' g s last m.idx->K ⟨l'.toArray,[]⟩ wx):sQ 8 f119 K Q' l wx:=by
 obtain⟨hA,_,jV⟩:=id aE;have y4:=jV.cell 4;simp only[jW,Zx]at y4;replace aE:=zH aE;clear hA jV;obtain⟨ah,aS,be,bW,fU⟩:=hl;obtain⟨fr,rfl,am⟩:=an ah;rw[dY,am _ _ aS,am _ _ be,am _ _ bW,am _ _ fU];clear ah am aS be bW fU;refine cI 8 f119 rfl ?_;go_wp2_with fail;exact⟨rfl,rfl,rfl,rfl,rfl⟩
theorem U1(hl:LB l g s last has)(hK:∀l',LB l' g s last (min has last)->K ⟨l'.toArray,[]⟩ wx):sQ 9 f119 K Q' l wx:=by
 obtain⟨ah,aS,bW,fU,gl⟩:=hl;obtain⟨fr,rfl,am⟩:=an ah;rw[dY,am _ _ aS,am _ _ bW,am _ _ fU,am _ _ gl];clear ah am aS bW fU gl;refine cI 9 f119 rfl ?_;rcases(show(last<has/\min has last=last)\/(has<=last/\min has last=has) by omega)with⟨a1,a2⟩|⟨a1,a2⟩
 ·rw[a2]at hK;clear a2;go_wp2_with fail;exact⟨rfl,rfl,rfl,rfl,rfl⟩
 ·rw[a2]at hK;clear a2;go_wp2_with fail;exact⟨rfl,rfl,rfl,rfl,rfl⟩
theorem Q0(ha:aL c q)(dL:s<R.peers.length)(eX:v.peers=.slice (some ⟨pr,0,none⟩) R.peers.length d)(cz:ag b≠c+4)(hl:LB l g s last has)(aE:mS ag c q w1 g R s v b (jW m s A1 A2 n1 c1 n2 c2) P wx)(hK:∀l' w',LB l' g s last has->mS ag c q w1 g R s v b (jW m s A1 A2 n1 c1 n2 c2) {P with mat:=max P.mat has} w'->K ⟨l'.toArray,[]⟩ w'):sQ 10 f119 K Q' l wx:=by
 obtain⟨hA,wU,jV⟩:=id aE;obtain⟨⟨p0,p1,p2,p3⟩,⟨e0,e1,e2,e3⟩,wb⟩:=hA.peer_cells (s:=s) (by rw[bo];exact dL) eX (bK R s _ dL);have c14:_:=hA.s.cell 14;simp only[bj,Zx]at c14;rw[eX]at c14;have xB:=hA.s.lt;have zV:=jV.lt;have tM:s<R.peers.length:=dL;obtain⟨n,fp⟩:=zN (R.peers.length);by_cases a1:P.mat<has
 ·have ki:=zH (aE.set 1 (.int .i64 has) {P with mat:=max P.mat has} ha dL eX cz (by omega) (by show[_,_,_,_]=[_,_,_,_];rw[show max P.mat has=has by omega];rfl));replace aE:=zH aE;replace eX:=zH eX;rw[fp]at tM c14;clear fp hA wU jV;obtain⟨ah,aS,bW,fU,gl⟩:=hl;obtain⟨fr,rfl,am⟩:=an ah;rw[dY,am _ _ aS,am _ _ bW,am _ _ fU,am _ _ gl];clear ah am aS bW fU gl;refine cI 10 f119 rfl ?_;go_wp2_with fail;exact hK _ _ ⟨rfl,rfl,rfl,rfl,rfl⟩ ki.out
 ·have e:({P with mat:=max P.mat has}:Pr)=P:=by rw[show max P.mat has=P.mat by omega]
  rw[e]at hK;have ki:=zH aE;replace aE:=zH aE;replace eX:=zH eX;rw[fp]at tM c14;clear fp e hA wU jV;replace a1:=Int.not_lt.1 a1;obtain⟨ah,aS,bW,fU,gl⟩:=hl;obtain⟨fr,rfl,am⟩:=an ah;rw[dY,am _ _ aS,am _ _ bW,am _ _ fU,am _ _ gl];clear ah am aS bW fU gl;refine cI 10 f119 rfl ?_;go_wp2_with fail;exact hK _ _ ⟨rfl,rfl,rfl,rfl,rfl⟩ ki.out
theorem Pf(ha:aL c q)(dL:s<R.peers.length)(eX:v.peers=.slice (some ⟨pr,0,none⟩) R.peers.length d)(cz:ag b≠c+4)(Da:0<=P.mat/\P.mat<=1099511627776)(hl:LB l g s last has)(aE:mS ag c q w1 g R s v b (jW m s A1 A2 n1 c1 n2 c2) P wx)(hK:∀l' w',LB l' g s last has->mS ag c q w1 g R s v b (jW m s A1 A2 n1 c1 n2 c2) {P with next:=max P.next (P.mat+1)} w'->K ⟨l'.toArray,[]⟩ w'):sP 11 f119 K (rT G) l wx:=by
 obtain⟨hA,wU,jV⟩:=id aE;obtain⟨⟨p0,p1,p2,p3⟩,⟨e0,e1,e2,e3⟩,wb⟩:=hA.peer_cells (s:=s) (by rw[bo];exact dL) eX (bK R s _ dL);have c14:_:=hA.s.cell 14;simp only[bj,Zx]at c14;rw[eX]at c14;have xB:=hA.s.lt;have zV:=jV.lt;have tM:s<R.peers.length:=dL;obtain⟨n,fp⟩:=zN (R.peers.length);obtain⟨k14,kp0,kp1⟩:=sD [g,b,pr] c14 p0 p1;have x14:=ae (w:=wx.drew) (gs:=[g,b,pr]) c14 (by simp);have xp1:=ae (w:=wx.drew) (gs:=[g,b,pr]) p1 (by simp);rw[fp]at tM c14 k14 x14;by_cases a1:P.next<P.mat+1
 ·obtain⟨W,hW⟩:=zN ((wx.setCell ⟨pr,s*4,none⟩ (.int .i64 (P.mat+1))).drew.drew);have ki:mS ag c q w1 g R s v b (jW m s A1 A2 n1 c1 n2 c2) {P with next:=max P.next (P.mat+1)} W:=by
   rw[<-hW];exact(aE.set 0 (.int .i64 (P.mat+1)) {P with next:=max P.next (P.mat+1)} ha dL eX cz (by omega) (by show[_,_,_,_]=[_,_,_,_];rw[show max P.next (P.mat+1)=P.mat+1 by omega];rfl)).below (aA zb 2)
  replace ki:=zH ki;replace hW:=zH hW;replace aE:=zH aE;replace eX:=zH eX;clear fp hA wU jV;obtain⟨ah,aS,bW,fU,gl⟩:=hl;obtain⟨fr,rfl,am⟩:=an ah;rw[dY,am _ _ aS,am _ _ bW,am _ _ fU,am _ _ gl];clear ah am aS bW fU gl;refine cI 11 f119 rfl ?_;go_wp2_with fail;refine dV [g,b,pr] wx [] [0,1,2,3,4,5,6,7,8,9,10,11,12,13,14,15,16,17] ?_;refine aj ?_;simp only[af,Zx];repeat go_big_quiet_step(fail)
  apply wpQuiet_nil;go_wp2_with fail;refine bT (C:=dP [g,b,pr] wx.drew) [] ([0,1,2,3,4,5,6,7,8,9,10,11,12,13,14,15],16) (by kernel_rfl) (by kernel_rfl) (fun _ _ _ _ e h=>⟨e.symm.trans h.1,h.2⟩) aR ?_;refine aC ?_;simp only[af,Zx];repeat go_big_quiet_step(fail)
  apply wpQuiet_nil;go_wp2_with fail;rw[hW.out];exact hK _ _ ⟨rfl,rfl,rfl,rfl,rfl⟩ ki.out
 ·have e:({P with next:=max P.next (P.mat+1)}:Pr)=P:=by rw[show max P.next (P.mat+1)=P.next by omega]
  rw[e]at hK;have ki:=zH (aE.below (w:=wx.drew) (zb.drew));replace aE:=zH aE;replace eX:=zH eX;clear fp e hA wU jV;replace a1:=Int.not_lt.1 a1;obtain⟨ah,aS,bW,fU,gl⟩:=hl;obtain⟨fr,rfl,am⟩:=an ah;rw[dY,am _ _ aS,am _ _ bW,am _ _ fU,am _ _ gl];clear ah am aS bW fU gl;refine cI 11 f119 rfl ?_;go_wp2_with fail;refine dV [g,b,pr] wx [] [0,1,2,3,4,5,6,7,8,9,10,11,12,13,14,15,16,17] ?_;refine aj ?_;simp only[af,Zx];repeat go_big_quiet_step(fail)
  apply wpQuiet_nil;go_wp2_with fail;exact hK _ _ ⟨rfl,rfl,rfl,rfl,rfl⟩ ki.out
theorem OH(ha:aL c q)(dL:s<R.peers.length)(eX:v.peers=.slice (some ⟨pr,0,none⟩) R.peers.length d)(cz:ag b≠c+4)(hl:LB l g s last has)(aE:mS ag c q w1 g R s v b (jW m s A1 A2 n1 c1 n2 c2) P wx)(hK:∀l' w',LB l' g s last has->mS ag c q w1 g R s v b (jW m s A1 A2 n1 c1 n2 c2) {P with offset:=if R.track.index<=P.mat then 0 else P.offset} w'->K ⟨l'.toArray,[]⟩ w'):sP 12 f119 K (rT G) l wx:=by
 obtain⟨hA,wU,jV⟩:=id aE;obtain⟨⟨p0,p1,p2,p3⟩,⟨e0,e1,e2,e3⟩,wb⟩:=hA.peer_cells (s:=s) (by rw[bo];exact dL) eX (bK R s _ dL);have c14:_:=hA.s.cell 14;simp only[bj,Zx]at c14;rw[eX]at c14;have xB:=hA.s.lt;have zV:=jV.lt;have tM:s<R.peers.length:=dL;obtain⟨n,fp⟩:=zN (R.peers.length);obtain⟨gt,gM,ye,pI,ua⟩:=hA.trk_at;have c4:=hA.s.cell 4;simp only[bj,Zx]at c4;rw[gM]at c4;replace ua:wx.cell? ⟨gt,0,none⟩=some (.int .i64 R.track.index):=ua;obtain⟨k14,k4,kp1,kt0⟩:=GD [g,gt,pr] c14 c4 p1 ua;rw[fp]at tM c14 k14;by_cases a1:R.track.index<=P.mat
 ·rw[if_pos a1]at hK;have ki:=zH ((aE.set 2 (.int .i64 0) {P with offset:=0} ha dL eX cz (by omega) rfl).below (w:=(wx.setCell ⟨pr,s*4+2,none⟩ (.int .i64 0)).drew) (zb.drew));replace aE:=zH aE;replace eX:=zH eX;clear fp hA wU jV;obtain⟨ah,aS,bW,fU,gl⟩:=hl;obtain⟨fr,rfl,am⟩:=an ah;rw[dY,am _ _ aS,am _ _ bW,am _ _ fU,am _ _ gl];clear ah am aS bW fU gl;refine cI 12 f119 rfl ?_;go_wp2_with fail;refine dV [g,gt,pr] wx [] [0,1,2,3,4,5,6,7,8,9,10,11,12,13,14,15] ?_;refine aj ?_;simp only[af,Zx];repeat go_big_quiet_step(fail)
  apply wpQuiet_nil;go_wp2_with fail;exact hK _ _ ⟨rfl,rfl,rfl,rfl,rfl⟩ ki.out
 ·rw[if_neg a1]at hK;have ki:=zH (aE.below (w:=wx.drew) (zb.drew));replace aE:=zH aE;replace eX:=zH eX;clear fp hA wU jV;replace a1:=Int.not_le.1 a1;obtain⟨ah,aS,bW,fU,gl⟩:=hl;obtain⟨fr,rfl,am⟩:=an ah;rw[dY,am _ _ aS,am _ _ bW,am _ _ fU,am _ _ gl];clear ah am aS bW fU gl;refine cI 12 f119 rfl ?_;go_wp2_with fail;refine dV [g,gt,pr] wx [] [0,1,2,3,4,5,6,7,8,9,10,11,12,13,14,15] ?_;refine aj ?_;simp only[af,Zx];repeat go_big_quiet_step(fail)
  apply wpQuiet_nil;go_wp2_with fail;exact hK _ _ ⟨rfl,rfl,rfl,rfl,rfl⟩ ki.out
theorem PG(gJ:Calls prog 70 #[.pointer (some ⟨g,0,none⟩)] wx fun e w'=>e=.returned (.tuple #[])/\G w')(hl:LB l g s last has)(hK:∀l' w',LB l' g s last has->G w'->K ⟨l'.toArray,[]⟩ w'):sQ 13 f119 K Q' l wx:=by
 obtain⟨ah,aS,bW,fU,gl⟩:=hl;obtain⟨fr,rfl,am⟩:=an ah;rw[dY,am _ _ aS,am _ _ bW,am _ _ fU,am _ _ gl];clear ah am aS bW fU gl;refine cI 13 f119 rfl ?_;go_wp2_with fail;refine gJ.mono ?_;rintro e w2 ⟨rfl,hp⟩;replace hp:=zH hp;go_wp2_with fail;exact hK _ _ ⟨rfl,rfl,rfl,rfl,rfl⟩ hp.out
theorem Pk(h:aJ ag c q wx g R v)(dL:s<R.peers.length)(ik:R.peer s=P)(om:P.next<=last->Calls prog 100 #[.pointer (some ⟨g,0,none⟩),.int .i64 s] wx fun e w'=>e=.returned (.tuple #[])/\G w')(zm:last<P.next->G wx)(hl:LB l g s last has):tP 14 f119 (rT G) l wx:=by
 obtain⟨pr,d,eX,P2,KF,qj⟩:=h.peer_at dL;clear qj;obtain⟨⟨p0,p1,p2,p3⟩,_,wb⟩:=h.peer_cells dL eX ik;have c14:=h.s.cell 14;simp only[bj,Zx]at c14;rw[eX]at c14;obtain⟨n,fp⟩:=zN (R.peers.length);rw[fp]at dL c14;clear fp h p1 p2 p3 eX ik;obtain⟨ah,aS,bW,fU,gl⟩:=hl;obtain⟨fr,rfl,am⟩:=an ah;rw[dY,am _ _ aS,am _ _ bW,am _ _ fU,am _ _ gl];clear ah am aS bW fU gl;refine F0 14 f119 rfl ?_;by_cases a1:P.next<=last
 ·have eB:=om a1;clear om zm;go_wp2_with fail;refine eB.mono ?_;rintro e wn ⟨rfl,hp⟩;replace hp:=zH hp;clear eB;go_wp2_with fail;exact al rfl rfl ⟨rfl,hp.out⟩
 ·have hG:=zH (zm (Int.not_le.1 a1));replace a1:=Int.not_le.1 a1;clear om zm;go_wp2_with fail;exact al rfl rfl ⟨rfl,hG.out⟩
end
section
variable {aa ag:Nat->Nat}{c q g s b pr d n1 c1 n2 c2:Nat}{A1 A2:Option Addr}{w w1 wx:World}{R:Rf}{v:Aw}{P:Pr}{K:Act->World->Prop}{Q':Exit->Act->World->Prop}{l:List Value}{m:Mg}{rd last has:Int}{G:World->Prop}
theorem UQ(hl:l.length=263/\l[0]?=some (.pointer (some ⟨g,0,none⟩))/\l[1]?=some (.agg (jW m s A1 A2 n1 c1 n2 c2)))(hK:∀l':List Value,l'.length=263/\l'[0]?=some (.pointer (some ⟨g,0,none⟩))/\l'[3]?=some (.pointer (some ⟨wx.heap.size,0,none⟩))->K ⟨l'.toArray,[]⟩ (wx.alloc (.cells (jW m s A1 A2 n1 c1 n2 c2) 39))):sQ 0 f119 K Q' l wx:=by
 unfold jW at *;obtain⟨ah,aS,bH⟩:=hl;obtain⟨fr,rfl,am⟩:=an ah;rw[dY,am _ _ aS,am _ _ bH];clear ah am aS bH;refine cI 0 f119 rfl ?_;go_wp2_with fail;exact⟨rfl,rfl,rfl⟩
theorem Sy(bN:ar wx b 39 (jW m s A1 A2 n1 c1 n2 c2))(hl:l.length=263/\l[0]?=some (.pointer (some ⟨g,0,none⟩))/\l[3]?=some (.pointer (some ⟨b,0,none⟩)))(hK:∀l':List Value,l'.length=263/\l'[0]?=some (.pointer (some ⟨g,0,none⟩))/\l'[3]?=some (.pointer (some ⟨b,0,none⟩))/\l'[4]?=some (.int .i64 s)->K ⟨l'.toArray,[]⟩ wx):sQ 1 f119 K Q' l wx:=by
 have y1:=bN.cell 1;simp only[jW,Zx]at y1;clear bN;obtain⟨ah,aS,be⟩:=hl;obtain⟨fr,rfl,am⟩:=an ah;rw[dY,am _ _ aS,am _ _ be];clear ah am aS be;refine cI 1 f119 rfl ?_;go_wp2_with fail;exact⟨rfl,rfl,rfl,rfl⟩
theorem T6(bN:ar wx b 39 (jW m s A1 A2 n1 c1 n2 c2))(hl:l.length=263/\l[0]?=some (.pointer (some ⟨g,0,none⟩))/\l[3]?=some (.pointer (some ⟨b,0,none⟩))/\l[4]?=some (.int .i64 s))(hK:∀l',LA l' g b s m.round->K ⟨l'.toArray,[]⟩ wx):sQ 2 f119 K Q' l wx:=by
 have y7:=bN.cell 7;simp only[jW,Zx]at y7;clear bN;obtain⟨ah,aS,be,bW⟩:=hl;obtain⟨fr,rfl,am⟩:=an ah;rw[dY,am _ _ aS,am _ _ be,am _ _ bW];clear ah am aS be bW;refine cI 2 f119 rfl ?_;go_wp2_with fail;exact⟨rfl,rfl,rfl,rfl,rfl⟩
theorem xX(R:Rf)(s:Nat):R.agrees.peer s=R.peer s/\R.agrees.peers=R.peers/\R.agrees.n=R.n/\R.agrees.track=R.track:=by
 obtain⟨k,cs,e⟩:=jN R;rw[e];exact⟨rfl,rfl,rfl,rfl⟩
theorem uh{K M:Nat}(m:Mg)(s:Nat)(A1 A2:Option Addr)(n1 c1 n2 c2:Nat)(ha:aL c q)(h:aJ aa c q w g R v)(hk:Ok K M R)(hr:R.role=3)(hK:K<=50000)(hM:M<=20000)(hi:R.track.index<=R.commit)
  (hf:m.frm=(s:Int)) (hs:s<=R.n) (uH:m.kind=6\/(m.kind=8/\m.reject=false)) (hx:0<=m.idx/\m.idx<=1099511627776) (ho:0<=m.offset) :
  Calls prog 119 #[.pointer (some ⟨g,0,none⟩),eH m (.slice A1 n1 c1) (.slice A2 n2 c2)] w fun e w'=>e=.returned (.tuple #[])/\au aa c q w g (R.answered m) w':=by
 obtain⟨dL,lk⟩:=hk.peer hr hs;have cf:=hk.trk;have aI:Below w.heap.size w (w.alloc (.cells (jW m s A1 A2 n1 c1 n2 c2) 39)):=zb.alloc zl _;have bN:=ar.new w 39 (jW m s A1 A2 n1 c1 n2 c2);have I5:eH m (.slice A1 n1 c1) (.slice A2 n2 c2)=.agg (jW m s A1 A2 n1 c1 n2 c2):=by unfold eH jW;rw[hf];rfl
 rw[I5];obtain⟨w1,bV⟩:=zN (w.alloc (.cells (jW m s A1 A2 n1 c1 n2 c2) 39));rw[bV]at aI bN;have h1:=h.fresh (q+c+10) aI;obtain⟨ag,eV⟩:=zN (ai aa w.heap.size (q+c+10));rw[eV]at h1;have cy:∀j,j<w.heap.size->ag j=aa j:=fun j hj=>by rw[<-eV];exact ac hj
 have cz:ag w.heap.size≠c+4:=by rw[<-eV,ay zl];omega
 have O8:g≠w.heap.size:=by have:=h.s.lt;omega
 have cR:∀R' w',au ag c q w1 g R' w'->au aa c q w g R' w':=fun R' w' hp=>hp.next cy (Fr.of_below aI)
 obtain⟨pr,d,eX,P2,KF,qj⟩:=h1.peer_at dL;clear qj P2 KF;obtain⟨P,hP⟩:=zN (R.peer s);have Eg:mS ag c q w1 g R s v w.heap.size (jW m s A1 A2 n1 c1 n2 c2) P w1:=⟨by rw[<-hP,xj R s dL];exact h1,Fr.refl _ _,bN⟩;have uI:=lE dL hf;obtain⟨P1,FA⟩:∃P1:Pr,({P with round:=max P.round (min m.round R.round)}:Pr)=P1:=⟨_,rfl⟩;have qz:pc R s m=P1:=by unfold pc;rw[hP];exact FA
 have LJ:P.next=P1.next/\P.mat=P1.mat/\P.offset=P1.offset:=by rw[<-FA];exact⟨rfl,rfl,rfl⟩
 rw[qz,hP,LJ.1,LJ.2.1]at uI;rw[hP]at lk;have lk:xG R P1:=by rw[<-FA];exact lk
 have eB:∀(P':Pr) w',xG R P'->mS ag c q w1 g R s v w.heap.size (jW m s A1 A2 n1 c1 n2 c2) P' w'->R.answered m=(R.setPeer s P').lacks s->Calls prog 100 #[.pointer (some ⟨g,0,none⟩),.int .i64 s] w' fun e w''=>e=.returned (.tuple #[])/\au aa c q w g (R.answered m) w'':=fun P' w' ho aE e=>by
  refine(aE.post.call fun bu v2 h2=>vE s ha h2 (hk.setPeer s ho) hr hs (by omega) (by omega)).mono ?_;rintro e' w'' ⟨rfl,hp⟩;exact⟨rfl,by rw[e];exact cR _ _ hp⟩
 refine cP (args:=[.pointer (some ⟨g,0,none⟩),.agg (jW m s A1 A2 n1 c1 n2 c2)]) 263 func119 (by kernel_rfl) ntmps119 (by simp) fun la jO fD=>?_
 refine aK (by kernel_rfl) (UQ ⟨jO,fD 0 _ rfl,fD 1 _ rfl⟩ fun l0 jq=>?_);rw[bV];refine aK (by kernel_rfl) (Sy bN jq fun l1 qH=>?_);refine aK (by kernel_rfl) (T6 bN qH fun l2 dM=>?_);refine aK (by kernel_rfl) (Uj dM Eg fun l3 kr=>?_);refine aK (by kernel_rfl) (Uw ha dL eX cz kr Eg fun l4 w4 nG kT=>?_);rw[FA]at kT;clear Eg qz hP FA LJ;by_cases hb:m.kind=8/\0<m.total
 ·rw[if_pos hb]at uI;by_cases ht:m.idx=R.snap.idx/\P1.next-1<R.snap.idx
  ·rw[if_pos ht]at uI;exact aK (by kernel_rfl) (G2 ha dL eX cz O8 hb.1 hb.2 ht.1 ht.2 lk.2.1 nG kT fun w' hst'=>eB {P1 with offset:=min m.offset R.snap.data.length} w' ⟨lk.1,lk.2.1,by show 0<=min m.offset _;omega,by show min m.offset _<=_;omega⟩ hst' uI)
  ·rw[if_neg ht]at uI;exact aK (by kernel_rfl) (DI dL eX hb.1 hb.2 ht lk.2.1 nG kT fun w' hst'=>by rw[uI];exact cR _ _ hst'.post)
 ·rw[if_neg hb]at uI;refine aK (by kernel_rfl) (JG hb nG kT fun l5 oA=>?_);by_cases hj:m.reject=true
  ·have h6:m.kind=6:=by
    rcases uH with h|⟨_,h⟩
    ·exact h
    ·rw[hj]at h;cases h
   rw[if_pos ⟨h6,hj⟩]at uI;exact aK (by kernel_rfl) (Gi ha dL eX cz hj hx lk.2.1 lk.1 oA kT fun w' hst'=>eB {P1 with next:=max (P1.mat+1) (min (P1.next-1) (m.idx+1))} w' ⟨lk.1,⟨by show 1<=max _ _;have:=lk.1;have:=lk.2.1;omega,by show max _ _<=_;have:=lk.1;have:=lk.2.1;omega⟩,lk.2.2⟩ hst' uI)
  ·have Jt:m.reject=false:=by simpa using hj
   rw[if_neg (fun e=>hj e.2),Bu]at uI;refine aK (by kernel_rfl) (JF Jt oA kT fun l6 rf=>?_);refine aK (by kernel_rfl) (Ts (by omega) rf kT fun l7 w7 xv hst7=>?_);refine aK (by kernel_rfl) (Uh xv hst7 fun l8 Md=>?_);refine aK (by kernel_rfl) (U1 Md fun l9 Nr=>?_);refine aK (by kernel_rfl) (Q0 ha dL eX cz Nr hst7 fun l10 w10 hl10 hst10=>?_);have oV:=hk.tr.last;have uN:=hk.tr.room;have hbb:=hk.tr.b;have W8:=lk.1;refine aK (by kernel_rfl) (Pf ha dL eX cz ⟨by show 0<=max P1.mat _;omega,by show max P1.mat _<=_;omega⟩ hl10 hst10 fun l11 w11 FI hst11=>?_);refine aK (by kernel_rfl) (OH ha dL eX cz FI hst11 fun l12 w12 hl12 hst12=>?_);have Ku:(R.setPeer s P1).peer s=P1:=bK R s _ dL;have VU:oM (R.setPeer s P1) s m.idx=⟨max P1.next (max P1.mat (min m.idx R.track.lastF.1)+1),max P1.mat (min m.idx R.track.lastF.1),if R.track.index<=max P1.mat (min m.idx R.track.lastF.1)then 0 else P1.offset,P1.round⟩:=by
    unfold oM;rw[Ku];rfl
   rw[VU,fq]at uI;have U4:xG R ⟨max P1.next (max P1.mat (min m.idx R.track.lastF.1)+1),max P1.mat (min m.idx R.track.lastF.1),if R.track.index<=max P1.mat (min m.idx R.track.lastF.1)then 0 else P1.offset,P1.round⟩:=by
    rw[<-VU];exact vO (hk.setPeer s lk) m.idx (by rw[Ku];exact lk)
   have eb:=hk.setPeer s U4;have gJ:Calls prog 70 #[.pointer (some ⟨g,0,none⟩)] w12 fun e w'=>e=.returned (.tuple #[])/\au ag c q w1 g (R.setPeer s ⟨max P1.next (max P1.mat (min m.idx R.track.lastF.1)+1),max P1.mat (min m.idx R.track.lastF.1),if R.track.index<=max P1.mat (min m.idx R.track.lastF.1)then 0 else P1.offset,P1.round⟩).agrees w':=
    hst12.post.call fun bu v2 h2=>lN ha h2 (eb.ld hr).1 hk.id.2.2 hi hk.cm.1 (by show R.track.L.length<=_;omega) (by have:=hk.cs;show R.out.commits.length<=_;omega)
   refine aK (by kernel_rfl) (PG gJ hl12 fun l13 w13 hl13 MY=>?_);obtain⟨bu,v2,h2,dM,di⟩:=id MY;have xA:=xX (R.setPeer s ⟨max P1.next (max P1.mat (min m.idx R.track.lastF.1)+1),max P1.mat (min m.idx R.track.lastF.1),if R.track.index<=max P1.mat (min m.idx R.track.lastF.1)then 0 else P1.offset,P1.round⟩) s;refine Pk h2 (by rw[xA.2.1,bo];exact dL) (xA.1.trans (bK R s _ dL)) (fun fo=>?_) (fun aU=>?_) hl13
   ·refine(MY.call fun cM v3 h3=>vE s ha h3 eb.agrees (by rw[lR];exact hr) (by rw[xA.2.2.1];exact hs) (by omega) (by omega)).mono ?_;rintro e' w'' ⟨rfl,hp⟩;have e:=uI.trans (if_pos fo);exact⟨rfl,by rw[e];exact cR _ _ hp⟩
   ·have e:=uI.trans (if_neg (Int.not_le.2 aU));rw[e];exact cR _ _ MY
end
def qS(G:Gt)(gv:Value):Array Value:=#[.int .i64 G.frm,.int .i64 G.idx,.int .i64 G.term,.int .i64 G.total,gv]
def cC(m:Mg)(A1 A2:Option Addr)(n1 c1 n2 c2:Nat):Array Value:=#[.int .i64 m.kind,.int .i64 m.frm,.int .i64 m.tgt,.int .i64 m.term,.int .i64 m.idx,.int .i64 m.logTerm,.int .i64 m.commit,.int .i64 m.round,.bool m.reject,.int .i64 m.offset,.int .i64 m.total,.slice A1 n1 c1,.slice A2 n2 c2]
structure lj(cx:Nat->Nat)(c q:Nat)(w1:World)(g:Nat)(R:Rf)(v:Aw)(b:Nat)(mc:Array Value)(vd:Value)(md:List UInt8)(gb:Nat)(G:Gt)(gv:Value)(aa:Nat->Nat)(wx:World):Prop where
 a:aJ aa c q wx g R v
 l:∀j,j<w1.heap.size->aa j=cx j
 f:Fr (aT cx c) w1 wx
 m:ar wx b 39 mc
 k:ar wx gb 120 (qS G gv)
 kn:¬dC aa c q gb
 mn:¬dC aa c q b
 w1g:w1.heap.size<=gb
 d:bM aa q wx gv G.data
 md:bM aa q wx vd md
def LP(l:List Value)(g b:Nat):Prop:=l.length=221/\l[0]?=some (.pointer (some ⟨g,0,none⟩))/\l[3]?=some (.pointer (some ⟨b,0,none⟩))
def LG(l:List Value)(g b gb:Nat):Prop:=l.length=221/\l[0]?=some (.pointer (some ⟨g,0,none⟩))/\l[3]?=some (.pointer (some ⟨b,0,none⟩))/\l[4]?=some (.pointer (some ⟨gb,0,none⟩))
section
variable {aa cx:Nat->Nat}{c q g b gb n1 c1 n2 c2:Nat}{A1 A2:Option Addr}{w1 wx w':World}{R:Rf}{v:Aw}{mc:Array Value}{G:Gt}{gv vd:Value}{mD:List UInt8}{K:Act->World->Prop}{Q':Exit->Act->World->Prop}{l:List Value}{m:Mg}{H:World->Prop}
theorem lj.below(h:lj cx c q w1 g R v b mc vd mD gb G gv aa wx)(hb:Below wx.heap.size wx w'):lj cx c q w1 g R v b mc vd mD gb G gv aa w':=
 ⟨h.a.below hb,h.l,h.f.trans (Fr.of_below (X:=aT cx c) hb) fun _ h=>.inl h,h.m.kept hb,h.k.kept hb,h.kn,h.mn,h.w1g,h.d.keep fun j _ hl=>hb.block j hl,h.md.keep fun j _ hl=>hb.block j hl⟩
theorem lj.turn{G':Gt}{gv':Value}(h:lj cx c q w1 g R v b mc vd mD gb G gv aa wx)(hF:Fr (fun j=>j=gb) wx w')(AA:b≠gb)(hk:ar w' gb 120 (qS G' gv'))(hd:bM aa q w' gv' G'.data):lj cx c q w1 g R v b mc vd mD gb G' gv' aa w':=by
 have hs:=h.f.size;refine⟨h.a.keep fun j hj hl=>hF.block j hl fun e=>h.kn (e▸hj),h.l,h.f.trans hF fun j e=>.inr (by have:=h.w1g;omega),(hF.block b h.m.lt AA).trans h.m,hk,h.kn,h.mn,h.w1g,hd,h.md.keep fun j hj hl=>hF.block j hl fun e=>h.kn (e▸.inr hj)⟩
theorem ZX(hl:l.length=221/\l[0]?=some (.pointer (some ⟨g,0,none⟩))/\l[1]?=some (.agg (cC m A1 A2 n1 c1 n2 c2)))(hK:∀l':List Value,LP l' g wx.heap.size->K ⟨l'.toArray,[]⟩ (wx.alloc (.cells (cC m A1 A2 n1 c1 n2 c2) 39))):sQ 0 f118 K Q' l wx:=by
 unfold cC at *;obtain⟨ah,aS,bH⟩:=hl;obtain⟨fr,rfl,am⟩:=an ah;rw[dR,am _ _ aS,am _ _ bH];clear ah am aS bH;refine cI 0 f118 rfl ?_;go_wp2_with fail;exact⟨rfl,rfl,rfl⟩
theorem IE(hb:ar wx b 39 (cC m A1 A2 n1 c1 n2 c2))(h0:m.idx=0\/m.logTerm=0\/¬(1<=m.total/\m.total<=65536))(hl:LP l g b)(hH:H wx):sP 1 f118 K (rT H) l wx:=by
 obtain⟨y4,y5,y10,-⟩:=hb.cs [4,5,10];simp only[cC,Zx]at y4 y5 y10;have cu:(m.idx==0)=true\/((m.idx==0)=false/\(m.logTerm==0)=true)\/((m.idx==0)=false/\(m.logTerm==0)=false/\m.total<1)\/((m.idx==0)=false/\(m.logTerm==0)=false/\1<=m.total/\65536<m.total):=by
  simp only[beq_iff_eq,beq_eq_false_iff_ne];omega
 clear hb h0;replace hH:=zH hH;obtain⟨ah,aS,be⟩:=hl;obtain⟨fr,rfl,am⟩:=an ah;rw[dR,am _ _ aS,am _ _ be];clear ah am aS be;refine cI 1 f118 rfl ?_;rcases cu with h1|⟨h1,h2⟩|⟨h1,h2,h3⟩|⟨h1,h2,h3,h4⟩
 all_goals
  go_wp2_with fail;exact aO rfl rfl ⟨rfl,hH.out⟩
theorem Mj(hb:ar wx b 39 (cC m A1 A2 n1 c1 n2 c2))(h0:¬(m.idx=0\/m.logTerm=0\/¬(1<=m.total/\m.total<=65536)))(hl:LP l g b)(hK:∀l',LP l' g b->K ⟨l'.toArray,[]⟩ wx):sQ 1 f118 K Q' l wx:=by
 obtain⟨y4,y5,y10,-⟩:=hb.cs [4,5,10];simp only[cC,Zx]at y4 y5 y10;have h1:(m.idx==0)=false:=by simp only[beq_eq_false_iff_ne];omega
 have h2:(m.logTerm==0)=false:=by simp only[beq_eq_false_iff_ne];omega
 have h3:1<=m.total:=by omega
 have h4:m.total<=65536:=by omega
 clear hb h0;obtain⟨ah,aS,be⟩:=hl;obtain⟨fr,rfl,am⟩:=an ah;rw[dR,am _ _ aS,am _ _ be];clear ah am aS be;refine cI 1 f118 rfl ?_;go_wp2_with fail;exact⟨rfl,rfl,rfl⟩
theorem Ix(ha:aL c q)(h:aJ aa c q wx g R v)(hb:ar wx b 39 (cC m A1 A2 n1 c1 n2 c2))(h0:m.idx<=R.commit)(hn:R.out.msgs.length<=100000)(hl:LP l g b)(hH:∀w',au aa c q wx g (R.send {cZ with kind:=8,tgt:=m.frm,idx:=R.commit,round:=m.round}) w'->H w'):sP 2 f118 K (rT H) l wx:=by
 obtain⟨y1,y4,y7,-⟩:=hb.cs [1,4,7];simp only[cC,Zx]at y1 y4 y7;have c8:=h.s.cell 8;simp only[bj,vi,Zx]at c8;have gA:=dj {cZ with kind:=8,tgt:=m.frm,idx:=R.commit,round:=m.round} rfl rfl ha (h.below (w':=wx.drew.drew) (aA zb 2)) hn;unfold eH at gA;simp only[cZ,vi]at gA;have aF:=zH (fun w5 (hp:au aa c q wx.drew.drew g (R.send {cZ with kind:=8,tgt:=m.frm,idx:=R.commit,round:=m.round}) w5)=>hH w5 (hp.behind (w:=wx) (aA zb 2)));obtain⟨k4,k8⟩:=nY [g,b] y4 c8;have d1:=ae (w:=wx.drew) (gs:=[g,b]) y1 (by simp);have d7:=ae (w:=wx.drew) (gs:=[g,b]) y7 (by simp);have d8:=ae (w:=wx.drew) (gs:=[g,b]) c8 (by simp);clear h hb hH;obtain⟨ah,aS,be⟩:=hl;obtain⟨fr,rfl,am⟩:=an ah;rw[dR,am _ _ aS,am _ _ be];clear ah am aS be;refine cI 2 f118 rfl ?_;go_wp2_with fail;refine dV [g,b] wx [] [0,1,2,3,4,5,6] ?_;refine aj ?_;simp only[af,Zx];repeat go_big_quiet_step(fail)
 apply wpQuiet_nil;go_wp2_with fail;refine bT (C:=dP [g,b] wx.drew) [] ([0,1,2,3,4,5,6,7,8,9],10) (by kernel_rfl) (by kernel_rfl) (fun _ _ _ _ e h=>⟨e.symm.trans h.1,h.2⟩) aR ?_;refine aC ?_;simp only[af,Zx];repeat go_big_quiet_step(fail)
 apply wpQuiet_nil;go_wp2_with fail;refine gA.mono ?_;rintro e w5 ⟨rfl,hp⟩;have hQ:=zH (aF.out w5 hp);clear gA hp;go_wp2_with fail;exact aO rfl rfl ⟨rfl,hQ.out⟩
theorem Mk(h:aJ aa c q wx g R v)(hb:ar wx b 39 (cC m A1 A2 n1 c1 n2 c2))(h0:R.commit<m.idx)(hl:LP l g b)(hK:∀l',LP l' g b->K ⟨l'.toArray,[]⟩ wx.drew):sP 2 f118 K (rT H) l wx:=by
 have y4:=hb.cell 4;simp only[cC,Zx]at y4;have c8:=h.s.cell 8;simp only[bj,vi,Zx]at c8;obtain⟨k4,k8⟩:=nY [g,b] y4 c8;clear h hb;obtain⟨ah,aS,be⟩:=hl;obtain⟨fr,rfl,am⟩:=an ah;rw[dR,am _ _ aS,am _ _ be];clear ah am aS be;refine cI 2 f118 rfl ?_;go_wp2_with fail;refine dV [g,b] wx [] [0,1,2,3,4,5,6] ?_;refine aj ?_;simp only[af,Zx];repeat go_big_quiet_step(fail)
 apply wpQuiet_nil;go_wp2_with fail;exact⟨rfl,rfl,rfl⟩
theorem XZ(h:aJ aa c q wx g R v)(hl:LP l g b)(hK:∀l',LG l' g b wx.heap.size->K ⟨l'.toArray,[]⟩ (wx.alloc (.cells (qS R.gath v.gat) 120))):sQ 3 f118 K Q' l wx:=by
 obtain⟨c17,c18,c19,c20,c21,-⟩:=h.s.cs [17,18,19,20,21];simp only[bj,vi,Zx]at c17 c18 c19 c20 c21;obtain⟨Ag,cg,qc,_⟩:=id h.gd;obtain⟨ng,RN⟩:∃n,R.gath.data.length=n:=⟨_,rfl⟩;rw[RN]at qc;unfold qS at hK;rw[qc]at hK c21;have cQ:=h.s.lt;clear h qc RN;obtain⟨ah,aS,be⟩:=hl;obtain⟨fr,rfl,am⟩:=an ah;rw[dR,am _ _ aS,am _ _ be];clear ah am aS be;refine cI 3 f118 rfl ?_;go_wp2_with fail;exact⟨rfl,rfl,rfl,rfl⟩
end
end Go.Proofs.YtjcninheccmpoaaGreat
