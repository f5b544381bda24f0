import Derived.Test.YtjcninheccmpoaaGreatU1
import Derived.Lib.SliceRun
import Derived.Laws.Bits64b
import Derived.Test.YtjcninheccmpoaaGreatProg
import Derived.Shelf.Sort.Plain
import Derived.Ground.NamesProg
set_option maxRecDepth 100000
set_option maxHeartbeats 8000000
set_option linter.all false
namespace Go.Proofs.YtjcninheccmpoaaGreat
open Go.RowKit Go.Proofs.Tryz
def ji(P:Program)(l:List Oper)(C:World->Prop)(Q:Exit->Act->World->Prop)(z:List Nat×Nat):List (List Nat×Nat)->Act->World->Prop
 | [],a,w=>wpQuiet P l.toArray C (fun a'=>wpList P l.toArray Q (af l [z.2]) a' w) (af l z.1) a
 | (seg,i)::more,a,w=>wpQuiet P l.toArray C (fun a'=>wpList P l.toArray (bG C (ji P l C Q z more) Q) (af l [i]) a' w) (af l seg) a
def qb(l:List Oper)(i:Nat):List Nat:=
 (List.range l.length).foldl (fun D q=>if(match l[q]? with|some o=>o.after.any fun e=>Region.binds .any e&&(e.on==i||D.contains e.on)|none=>false)then D++[q]else D) []
def uL(l:List Oper)(i z:Nat)(listed:Array Bool):Bool:=
 (qb l i).contains z&&(qb l i).all fun q=>!(listed.getD q true)&&(match l[q]? with|some o=>o.after.any fun e=>Region.binds .any e&&(e.on==i||(qb l i).contains e.on)|none=>false)
def gY(l:List Oper)(z:Nat):List Nat->Array Bool->Option (Array Bool)
 | [],listed=>some listed
 | i::is,listed=>if(Region.ready .any l.toArray listed).contains i&&Region.free .any l.toArray listed i&&((l[i]?).map rW).getD false&&uL l i z listed then gY l z is (listed.setIfInBounds i true)else none
def ny(l:List Oper)(z:List Nat×Nat):List (List Nat×Nat)->Array Bool->Bool
 | [],listed=>match gY l z.2 z.1 listed with
  | some r=>Region.ready .any l.toArray r==[z.2]&&(Region.ready .any l.toArray (r.setIfInBounds z.2 true)).isEmpty
  | none=>false
 | (seg,i)::more,listed=>match gY l z.2 seg listed with
  | some r=>Region.ready .any l.toArray r==[i]&&ny l z more (r.setIfInBounds i true)
  | none=>false
def Fg(l:List Oper)(segs:List (List Nat×Nat))(z:List Nat×Nat):Bool:=
 Region.noSelect l.toArray&&(segs.map (fun s=>s.1.length+1)).sum+(z.1.length+1)==l.length&&ny l z segs (Array.replicate l.length false)
section
variable {P:Program}{ops:Array Oper}{Q:Exit->Act->World->Prop}{S:World->Prop}{z:Nat}
def gc(P:Program)(ops:Array Oper)(Q:Exit->Act->World->Prop)(S:World->Prop)(z:Nat):Nat->Array Bool->Act->World->Prop
 | 0,listed,a,w=>Region.ready .any ops listed=[]/\Q .normal a w
 | fuel+1,listed,a,w=>
  (Region.ready .any ops listed=[]->Q .normal a w)/\
  ∀i∈Region.ready .any ops listed,wpOp P ops Q i (fun a' w'=>(i=z\/S w')/\gc P ops Q S z fuel (listed.setIfInBounds i true) a' w') a w
theorem rH:∀(fuel:Nat) (listed:Array Bool) (a:Act) (w:World),gc P ops Q S z fuel listed a w->wpAny P .any ops Q fuel listed a w
 | 0,_,_,_,h=>h
 | fuel+1,_,_,_,h=>⟨h.1,fun i hi=>wpOp_mono (fun a' w' h'=>rH fuel _ a' w' h'.2) (h.2 i hi)⟩
theorem uM{i:Nat}{oi:Oper}{v:Value}{D:List Nat}(hi:ops[i]?=some oi)(NJ:∀(j:Nat) (o:Oper) cs b,ops[j]?=some o->o.op≠.select cs b)
  (hQ:∀c a w,Q (.panic c) (a.put oi.dst v) w->Q (.panic c) a w) (Su:z∈D) (hD:∀q∈D,∃oq,ops[q]?=some oq/\∃e∈oq.after,Region.binds .any e=true/\(e.on=i\/e.on∈D)) :
  ∀(fuel:Nat) (listed:Array Bool) (a:Act) (w:World),
   (∀q∈D,listed.getD q true=false)->
   (∀j oj,ops[j]?=some oj->j≠i->listed.getD j true=false->(∀e∈oj.after,Region.binds .any e=true->e.on≠i)->oi.apart ops oj=true)->
   i∈Region.ready .any ops listed->YieldsIf P ops S oi v a->S w->
   gc P ops Q S z fuel (listed.setIfInBounds i true) (a.put oi.dst v) w->gc P ops Q S z (fuel+1) listed a w:=by
 intro fuel;induction fuel with
 | zero=>
  intro listed a w _ _ hr hy hS H;refine⟨fun h=>(by rw[h]at hr;cases hr),fun j hj=>?_⟩;by_cases Iu:j=i
  ·subst Iu;exact hy.wpOp hi hS ⟨.inr hS,H⟩
  ·have:=ready_mono hj Iu;rw[H.1]at this;cases this
 | succ fuel ih=>
  intro listed a w NS mr hr hy hS H;refine⟨fun h=>(by rw[h]at hr;cases hr),fun j hj=>?_⟩;by_cases Iu:j=i
  ·subst Iu;exact hy.wpOp hi hS ⟨.inr hS,H⟩
  ·have h1:=H.2 j (ready_mono hj Iu);obtain⟨MT,oj,ON,eS⟩:=mem_ready.1 hj;have No:∀q,listed.getD q true=false->∀e∈oj.after,Region.binds .any e=true->e.on≠q:=fun q h0 e he hb heq=>by
    have h1:=eS e he hb;rw[heq]at h1;rcases Nat.lt_or_ge q listed.size with h'|h'
    ·simp[h']at h0 h1;rw[h0]at h1;cases h1
    ·simp[Array.getElem?_eq_none h']at h1
   have Nk:∀e∈oj.after,Region.binds .any e=true->e.on≠i:=No i (mem_ready.1 hr).1;have TS:j∉D:=fun hm=>by
    obtain⟨oq,Ud,e,he,hb,h2⟩:=hD j hm;rw[ON]at Ud;obtain rfl:=Option.some.inj Ud;rcases h2 with h2|h2
    ·exact Nk e he hb h2
    ·exact No e.on (NS _ h2) e he hb rfl
   have W6:j≠z:=fun e=>TS (e▸Su)
   have h2:=wpOp_putIf ON (mr j oj ON Iu MT Nk) (fun cs b=>NJ i oi cs b hi) (fun cs b=>NJ j oj cs b ON) hQ hy h1;have yJ:∀k ok,ops[k]?=some ok->k≠i->(listed.setIfInBounds j true).getD k true=false->
     (∀e∈ok.after,Region.binds .any e=true->e.on≠i)->oi.apart ops ok=true:=fun k ok hk Rb OY dn=>by
    refine mr k ok hk Rb ?_ dn;by_cases TT:j=k
    ·subst TT;exact MT
    ·rw[getD_set_ne true TT]at OY;exact OY
   have Sa:∀q∈D,(listed.setIfInBounds j true).getD q true=false:=fun q hq=>by
    rw[getD_set_ne true (show j≠q from fun e=>by subst e;exact TS hq)];exact NS q hq
   refine wpOp_mono (fun a' w' h3=>⟨h3.2.1,ih (listed.setIfInBounds j true) a' w' Sa yJ (ready_mono hr (Ne.symm Iu)) h3.1 (h3.2.1.resolve_left W6) ?_⟩) h2;rw[Array.setIfInBounds_comm _ _ Iu];exact h3.2.2
theorem xD{i:Nat}{oi:Oper}{v:Value}{D:List Nat}{fuel:Nat}{listed:Array Bool}{a:Act}{w:World}(hi:ops[i]?=some oi)
  (hs:Region.noSelect ops=true) (hf:Region.free .any ops listed i=true) (hr:(Region.ready .any ops listed).contains i=true)
  (hQ:∀c a w,Q (.panic c) (a.put oi.dst v) w->Q (.panic c) a w) (Su:z∈D) (hD:∀q∈D,∃oq,ops[q]?=some oq/\∃e∈oq.after,Region.binds .any e=true/\(e.on=i\/e.on∈D)) (OY:∀q∈D,listed.getD q true=false) (hy:YieldsIf P ops S oi v a) (hS:S w)
  (h:gc P ops Q S z fuel (listed.setIfInBounds i true) (a.put oi.dst v) w):gc P ops Q S z (fuel+1) listed a w:=
 uM hi (Region.noSelect_spec hs) hQ Su hD fuel listed a w OY (Region.free_spec hi hf) (by simpa using hr) hy hS h
theorem rG{rs:List Nat}{fuel:Nat}{listed:Array Bool}{a:Act}{w:World}(hr:Region.ready .any ops listed=rs)(cH:rs≠[])
  (h:∀i∈rs,wpOp P ops Q i (fun a' w'=>(i=z\/S w')/\gc P ops Q S z fuel (listed.setIfInBounds i true) a' w') a w):gc P ops Q S z (fuel+1) listed a w:=
 ⟨fun h0=>absurd (hr▸h0) cH,hr▸h⟩
theorem xC{listed:Array Bool}{a:Act}{w:World}(hr:Region.ready .any ops listed=[])(h:Q .normal a w) :
  ∀fuel,gc P ops Q S z fuel listed a w
 | 0=>⟨hr,h⟩
 | _+1=>⟨fun _=>h,by rw[hr];simp⟩
end
section
variable {P:Program}{l:List Oper}{C:World->Prop}{Q:Exit->Act->World->Prop}{z:List Nat×Nat}
theorem F6{l:List Oper}{z i:Nat}{listed:Array Bool}(h:uL l i z listed=true) :
  z∈qb l i/\(∀q∈qb l i,∃oq,l.toArray[q]?=some oq/\∃e∈oq.after,Region.binds .any e=true/\(e.on=i\/e.on∈qb l i))/\∀q∈qb l i,listed.getD q true=false:=by
 unfold uL at h;rw[Bool.and_eq_true,List.all_eq_true]at h;refine⟨by simpa using h.1,fun q hq=>?_,fun q hq=>?_⟩
 ·have h1:=h.2 q hq;rw[Bool.and_eq_true]at h1;have h2:=h1.2;cases ho:l[q]? with
  | none=>rw[ho]at h2;cases h2
  | some o=>
   rw[ho]at h2;obtain⟨k,hk,he⟩:=Array.any_eq_true.1 h2;rw[Bool.and_eq_true,Bool.or_eq_true,beq_iff_eq]at he;exact⟨o,by simpa using ho,o.after[k],Array.getElem_mem hk,he.1,he.2.imp id (by simpa using ·)⟩
 ·have h1:=h.2 q hq;rw[Bool.and_eq_true,Bool.not_eq_true']at h1;exact h1.1
theorem au{seg:List Nat}{i:Nat}{more:List (List Nat×Nat)}{a:Act}{w:World}
  (h:∀K:Act->World->Prop,(∀a w,ji P l C Q z more a w->K a w)->wpQuiet P l.toArray C (fun a'=>wpList P l.toArray (bG C K Q) (af l [i]) a' w) (af l seg) a) :
  ji P l C Q z ((seg,i)::more) a w:=h _ (fun _ _ h=>h)
theorem aE{a:Act}{w:World}(h:wpQuiet P l.toArray C (fun a'=>wpList P l.toArray Q (af l [z.2]) a' w) (af l z.1) a):ji P l C Q z [] a w:=h
theorem CZ{o:Oper}{a:Act}{w:World}{next K':Act->World->Prop}(h:∀a w,next a w->K' a w)(hh:o.wp P a w next Q):o.wp P a w K' Q:=by
 unfold Oper.wp at *;generalize(execOp a.eval o).run P w=r at *;cases r with
 | ok n w'=>
  cases n <;> simp only[Oper.upon]at hh ⊢ <;>
   first
    | exact h _ _ hh
    | exact Calls.mono hh (fun e w'' he=>by cases e <;> first|exact h _ _ he|exact he)
    | exact Rows.mono hh (fun _ _ he=>h _ _ he)
 | halt x w'=>cases x <;> simp only[Oper.upon]at hh ⊢ <;> exact hh
theorem pX{zi:Nat}(hs:Region.noSelect l.toArray=true)(hQ:∀c (a b:Act) w,a.defers=b.defers->Q (.panic c) a w->Q (.panic c) b w)(seg:List Nat) :
  ∀(listed r:Array Bool) (a:Act) (w:World) (fuel:Nat) (K:Act->Prop),gY l zi seg listed=some r->C w->wpQuiet P l.toArray C K (af l seg) a->
   (∀a',K a'->gc P l.toArray Q C zi fuel r a' w)->gc P l.toArray Q C zi (seg.length+fuel) listed a w:=by
 induction seg with
 | nil=>
  intro listed r a w fuel K hr hC h hK;simp only[gY,Option.some.injEq]at hr;subst hr;simpa using hK a h
 | cons i is ih=>
  intro listed r a w fuel K hr hC h hK;unfold gY at hr;by_cases hb:((Region.ready .any l.toArray listed).contains i&&Region.free .any l.toArray listed i&&((l[i]?).map rW).getD false&&uL l i zi listed)=true
  ·rw[if_pos hb]at hr;rw[Bool.and_eq_true]at hb;obtain⟨w1,w2,w3⟩:=F6 hb.2;have hb:=hb.1;simp only[Bool.and_eq_true]at hb;obtain⟨⟨eb,ag⟩,eW⟩:=hb;cases ho:l[i]? with
   | none=>rw[ho]at eW;cases eW
   | some o=>
    rw[ho]at eW;have hp:af l (i::is)=o::af l is:=by simp[af,ho]
    rw[hp]at h;have h':wpQuiet P l.toArray C (wpQuiet P l.toArray C K (af l is)) [o] a:=h;obtain⟨v,hy,hn⟩:=jk eW h';rw[show(i::is).length+fuel=(is.length+fuel)+1 by simp;omega];exact xD (by simpa using ho) hs ag eb (fun c a w hq=>hQ c _ _ w (tv _ _ _) hq) w1 w2 w3 hy hC (ih _ r _ w fuel K hr hC hn hK)
  ·rw[if_neg hb]at hr;cases hr
theorem zZ{o:Oper}{a:Act}{w:World}{next K':Act->World->Prop}(h:∀a w,wpList P l.toArray (bG C next Q) [] a w->K' a w)(hh:o.wp P a w (wpList P l.toArray (bG C next Q) []) (bG C next Q)):o.wp P a w K' Q:=by
 unfold Oper.wp at *;generalize(execOp a.eval o).run P w=r at *;cases r with
 | ok n w'=>
  cases n <;> simp only[Oper.upon]at hh ⊢ <;>
   first
    | exact h _ _ hh
    | exact Calls.mono hh (fun e w'' he=>by cases e <;> first|exact h _ _ he|exact he)
    | exact Rows.mono hh (fun _ _ he=>h _ _ he)
 | halt x w'=>cases x <;> simp only[Oper.upon]at hh ⊢ <;> exact hh
theorem Fh(hs:Region.noSelect l.toArray=true)(hQ:∀c (a b:Act) w,a.defers=b.defers->Q (.panic c) a w->Q (.panic c) b w)(segs:List (List Nat×Nat)) :
  ∀(listed:Array Bool) (a:Act) (w:World),ny l z segs listed=true->C w->ji P l C Q z segs a w->
   gc P l.toArray Q C z.2 ((segs.map (fun s=>s.1.length+1)).sum+(z.1.length+1)) listed a w:=by
 induction segs with
 | nil=>
  intro listed a w hr hC h;unfold ny at hr;cases hc:gY l z.2 z.1 listed with
  | none=>rw[hc]at hr;cases hr
  | some r=>
   rw[hc]at hr;simp only[Bool.and_eq_true,beq_iff_eq]at hr;obtain⟨eb,ci⟩:=hr;have ab:((([]:List (List Nat×Nat)).map (fun s=>s.1.length+1)).sum+(z.1.length+1))=z.1.length+(0+1):=by simp
   rw[ab];refine pX (P:=P) (C:=C) (Q:=Q) hs hQ z.1 listed r a w _ _ hc hC h fun a' ha=>?_
   refine rG eb (by simp) fun j hj=>?_
   obtain rfl:j=z.2:=by simpa using hj
   have mI:z.2∈Region.ready .any l.toArray r:=by rw[eb];simp
   obtain⟨_,o,ho,_⟩:=mem_ready.1 mI;have JT:l[z.2]?=some o:=by simpa using ho
   have hp:af l [z.2]=[o]:=by simp[af,JT]
   rw[hp]at ha;unfold wpOp;rw[ho];simp only[];unfold wpList at ha;have jb:∀a2 w2,wpList P l.toArray Q [] a2 w2->(True\/C w2)/\gc P l.toArray Q C z.2 0 (r.setIfInBounds z.2 true) a2 w2:=
    fun a2 w2 h2=>⟨.inl trivial,xC (by simpa using ci) h2 0⟩
   split
   ·rename_i hw;rw[if_pos hw]at ha;exact ha.imp (CZ jb) (fun h2=>h2)
   ·rename_i hw;rw[if_neg hw]at ha;exact jb _ _ ha
 | cons s more ih=>
  obtain⟨seg,i⟩:=s;intro listed a w hr hC h;unfold ny at hr;cases hc:gY l z.2 seg listed with
  | none=>rw[hc]at hr;cases hr
  | some r=>
   rw[hc]at hr;simp only[Bool.and_eq_true,beq_iff_eq]at hr;obtain⟨eb,EK⟩:=hr;have ab:(((seg,i)::more).map (fun s=>s.1.length+1)).sum+(z.1.length+1)=seg.length+(((more.map (fun s=>s.1.length+1)).sum+(z.1.length+1))+1):=by
    simp;omega
   rw[ab];refine pX (P:=P) (C:=C) (Q:=Q) hs hQ seg listed r a w _ _ hc hC h fun a' ha=>?_
   refine rG eb (by simp) fun j hj=>?_
   obtain rfl:j=i:=by simpa using hj
   have mI:j∈Region.ready .any l.toArray r:=by rw[eb];simp
   obtain⟨_,o,ho,_⟩:=mem_ready.1 mI;have JT:l[j]?=some o:=by simpa using ho
   have hp:af l [j]=[o]:=by simp[af,JT]
   rw[hp]at ha;unfold wpOp;rw[ho];simp only[];unfold wpList at ha;have jb:∀a2 w2,wpList P l.toArray (bG C (ji P l C Q z more) Q) [] a2 w2->(j=z.2\/C w2)/\gc P l.toArray Q C z.2 ((more.map (fun s=>s.1.length+1)).sum+(z.1.length+1)) (r.setIfInBounds j true) a2 w2:=
    fun a2 w2 h2=>⟨.inr h2.1,ih _ a2 w2 EK h2.1 h2.2⟩
   split
   ·rename_i hw;rw[if_pos hw]at ha;exact ha.imp (zZ jb) (fun h2=>h2)
   ·rename_i hw;rw[if_neg hw]at ha;exact jb _ _ ha
theorem bz{id:Nat}{a:Act}{w:World}(segs:List (List Nat×Nat))(z:List Nat×Nat)(hm:P.follows .mixedOrders=true)(hB:Fg l segs z=true)
  (hQ:∀c (a b:Act) w,a.defers=b.defers->Q (.panic c) a w->Q (.panic c) b w) (hC:C w.drew) (h:ji P l C Q z segs a w.drew):(Code.region id l.toArray true).wp P Q a w:=by
 simp only[Fg,Bool.and_eq_true,beq_iff_eq]at hB;obtain⟨⟨hs,ab⟩,aD⟩:=hB;refine wp_region_any hm (rH (S:=C) (z:=z.2) _ _ _ _ ?_);have:=Fh (P:=P) hs hQ segs _ a w.drew aD hC h;rw[ab]at this;simpa using this
end
theorem gj {P:Program}{l:List Oper}{id:Nat}{a:Act}{Q:Exit->Act->World->Prop}(gs:List Nat)(w:World)(segs:List (List Nat × Nat))(last:List Nat)(h:lI P l (cr gs w) Q segs last a w.drew)(hm:P.follows .mixedOrders=true:=by kernel_rfl)(hB:Kt l segs last=true:=by kernel_rfl)(hQ:∀c (a b:Act) w,a.defers=b.defers->Q (.panic c) a w->Q (.panic c) b w:=by exact fun _ _ _ _ e h=>⟨e.symm.trans h.1,h.2⟩):(Code.region id l.toArray true).wp P Q a w:=
 bo segs last hm hB hQ az h
theorem qY {P:Program}{l:List Oper}{id:Nat}{a:Act}{Q:Exit->Act->World->Prop}(gs:List Nat)(w:World)(segs:List (List Nat × Nat))(z:List Nat × Nat)(h:ji P l (cr gs w) Q z segs a w.drew)(hm:P.follows .mixedOrders=true:=by kernel_rfl)(hB:Fg l segs z=true:=by kernel_rfl)(hQ:∀c (a b:Act) w,a.defers=b.defers->Q (.panic c) a w->Q (.panic c) b w:=by exact fun _ _ _ _ e h=>⟨e.symm.trans h.1,h.2⟩):(Code.region id l.toArray true).wp P Q a w:=
 bz segs z hm hB hQ az h
def pV(L:List TypeId)(w:World)(j:Nat):Prop:=∃(cs:Array Value) (_:Unit) (ty:TypeId),w.heap[j]?=some (.cells cs ty (0,0))/\ty∈L
def bu(L:List TypeId)(B:Nat)(w:World)(j:Nat):Prop:=B<=j/\pV L w j
def TD:List TypeId:=[191,193,9,3]
def be(L:List TypeId)(w w':World):Prop:=∀j,pV L w j->w'.heap[j]?=w.heap[j]?
section
variable {L L':List TypeId}{B B':Nat}{w w' w'':World}{S:Nat->Prop}
theorem be.refl(L:List TypeId)(w:World):be L w w:=fun _ _=>rfl
theorem pV.move{j:Nat}(h:pV L w j)(hk:be L w w'):pV L w' j:=by
 obtain⟨cs,fz,ty,h1,h2⟩:=id h;exact⟨cs,fz,ty,(hk j h).trans h1,h2⟩
theorem be.trans(h:be L w w')(h':be L w' w''):be L w w'':=fun j hj=>(h' j (hj.move h)).trans (h j hj)
theorem be.below(h:Below w.heap.size w w'):be L w w':=fun j hj=>by
 obtain⟨cs,fz,ty,h1,_⟩:=hj;exact h.block _ (aS h1)
theorem be.grown{base size n c:Nat}{e:TypeId}{A:Option Addr}{xs:List Value}(h:w.ownsRow base e size (.slice A n c) n xs)(hg:w.grownBy w' (Value.slice A n c).ownBlock)(he:e∉L):be L w w':=fun j hj=>by
 obtain⟨cs,fz,ty,h1,h2⟩:=hj;refine hg.block j (aS h1) fun ho=>?_
 rcases h.2 with⟨h0,_⟩|⟨g',cap',cur',h0,_,yt,_⟩
 ·rw[h0]at ho;cases ho
 ·rw[h0]at ho;injection ho with ho;rw[show j=g' from ho,yt]at h1;injection h1 with h1;injection h1 with _ h1;exact he (h1▸h2)
theorem be.set{g i:Nat}{T:TypeId}{cs:Array Value}{u:Value}(hb:ay w g T cs)(hT:T∉L):be L w (w.setCell ⟨g,i,none⟩ u):=fun j hj=>by
 obtain⟨ds,fz,ty,h1,h2⟩:=hj;refine Below.heap_setCell w _ u j fun e=>?_
 have e:j=g:=e;unfold ay at hb;rw[e,hb]at h1;injection h1 with h1;injection h1 with _ h1;exact hT (h1▸h2)
theorem bu.stay(h:be L w w'):b5 (bu L B w) w w':=fun j hj _=>h j hj.2
theorem bu.moved(h:be L w w'):∀j,j<w'.heap.size->bu L B w j->bu L B w' j:=fun _ _ hj=>⟨hj.1,hj.2.move h⟩
theorem bu.wide(hL:∀t∈L,t∈L')(hB:B'<=B):∀j,j<w.heap.size->bu L B w j->bu L' B' w j:=fun _ _ hj=>⟨Nat.le_trans hB hj.1,by
 obtain⟨cs,fz,ty,h1,h2⟩:=hj.2;exact⟨cs,fz,ty,h1,hL _ h2⟩⟩
theorem fH.move{v:Value}{p:List ByteArray}(h:fH (bu L B w) w v p)(hk:be L w w'):fH (bu L B w') w' v p:=(h.keep (bu.stay hk)).mono (bu.moved hk)
theorem fu.move{v:Value}{p:List Int}(h:fu (bu L B w) w v p)(hk:be L w w'):fu (bu L B w') w' v p:=(h.keep (bu.stay hk)).mono (bu.moved hk)
theorem dt.move{v:Value}{p:List (List ByteArray)}(h:dt (bu L B w) w v p)(hk:be L w w'):dt (bu L B w') w' v p:=(h.keep (bu.stay hk)).mono (bu.moved hk)
theorem aN.move{v:Value}{p:List Fa}(h:aN (bu L B w) w v p)(hk:be L w w'):aN (bu L B w') w' v p:=(h.keep (bu.stay hk)).mono (bu.moved hk)
theorem bA.move{zs:List (Value×En)}(h:bA (bu L B w) w zs)(hk:be L w w'):bA (bu L B w') w' zs:=fun z hz=>(h z hz).move hk
theorem Sl.of_new{base size n c:Nat}{e:TypeId}{A:Option Addr}{xs:List Value}(h:w.ownsRow base e size (.slice A n c) n xs)(he:e∈L):Sl (bu L base w) w size (.slice A n c) n xs:=
 Sl.of_own h fun _ h1 _ ⟨cs,h2⟩=>⟨h1,cs,(),e,h2,he⟩
end
theorem Fv{L:List TypeId}{base size n:Nat}{e:TypeId}{v:Value}{xs:List Value}{w w':World}(h:w.ownsRow base e size v n xs)(he:e∈L)(hk:be L w w'):w'.ownsRow base e size v n xs:=by
 refine⟨h.1,?_⟩;rcases h.2 with h0|⟨g,cap,cur,h1,h2,h3,h4⟩
 ·exact .inl h0
 ·exact .inr ⟨g,cap,cur,h1,h2,(hk g ⟨cur,(),e,h3,he⟩).trans h3,h4⟩
theorem ay.stay{L:List TypeId}{g:Nat}{T:TypeId}{cs:Array Value}{w w':World}(h:ay w g T cs)(hT:T∈L)(hk:be L w w'):ay w' g T cs:=(hk g ⟨cs,(),T,h,hT⟩).trans h
theorem cj.one(w:World)(T:TypeId)(v:Value):cj (w.alloc (.cells #[v] T)) 1 (some ⟨w.heap.size,0,none⟩) 1 [v]:=by
 refine⟨rfl,fun _=>⟨_,rfl,fun j u hu=>?_⟩⟩
 match j with
 | 0=>
  simp only[List.getElem?_cons_zero,Option.some.injEq]at hu;subst hu;rw[iE];exact cell_of_row _ _ 0 _ _ _ (heap_alloc_new w _)
 | j+1=>simp at hu
theorem FR:(prog.info? 9).map (fun i=>(i.zero,i.size,i.bytes))=some (some (.string ByteArray.empty),1,16):=by kernel_rfl
theorem CJ:(prog.info? 193).map (fun i=>(i.zero,i.size,i.bytes))=some (some (.slice none 0 0),1,24):=by kernel_rfl
theorem Bi:(prog.info? 191).map (fun i=>(i.zero,i.size,i.bytes))=some (some (.agg #[.slice none 0 0,.slice none 0 0]),2,48):=by kernel_rfl
theorem yg(A:Option Addr)(n c:Nat)(l:List Int)(w:World)(hr:jK w A n l)(hn:n<=1000000) :
  Calls prog 146 #[.slice A n c] w fun e w'=>∃A' c',e=.returned (.slice A' n c')/\
   w'.ownsRow w.heap.size 3 1 (.slice A' n c') n (l.map vi)/\Below w.heap.size w w':=by
 have q30:∀(w:World) (a:Option Addr) (n c n' c':Nat),(binOp .eql 76 (.slice a n c) (.slice none n' c')).run prog w=.ok (.bool a.isNone) w:=fun w a n c n' c'=>Lib.run_eql_slice_nil w _ _ a n c n' c' underlying76
 rcases A with _|ad
 ·have h0:n=0:=by
   rcases Nat.eq_zero_or_pos n with h|h
   ·exact h
   ·obtain⟨ad,e,_⟩:=hr.at_ h;cases e
  subst h0;have hl:l=[]:=List.eq_nil_of_length_eq_zero hr.len;subst hl;go_enter func146,ntmps146
  go_wp2
  go_ret;exact⟨none,0,rfl,ek _ _,Below.refl _ _⟩
 ·have bH:Below w.heap.size w (w.alloc (.cells #[] 3)):=zb.alloc zl _;have aJ:(w.alloc (.cells #[] 3)).ownsRow w.heap.size 3 1 (.slice (some ⟨w.heap.size,0,none⟩) 0 0) 0 (([]:List Int).map vi):=pN _ [] 0 rfl zz;go_enter func146,ntmps146;go_wp2_with (first
    | (at_builtin;refine b9 rfl (.tmp 5) (.tmp 6) rfl w.heap.size rfl aJ rfl (hr.alloc _) (by omega) bH.size ?_;intro A3 c3 w3 bS ip cv;clear ip)
    | fail)
  go_ret;simp only[Nat.zero_add,List.nil_append]at bS;exact⟨A3,c3,rfl,bS,bH.trans cv⟩
theorem HV(l:List ByteArray)(u:Value)(h:u∈l.map Lr):u.oneCell'=true:=by
 obtain⟨b,_,rfl⟩:=List.mem_map.1 h;rfl
theorem yh(A:Option Addr)(n c:Nat)(l:List ByteArray)(w:World)(hr:vD w A n l)(hn:n<=1000000) :
  Calls prog 147 #[.slice A n c] w fun e w'=>∃A' c',e=.returned (.slice A' n c')/\
   w'.ownsRow w.heap.size 9 1 (.slice A' n c') n (l.map Lr)/\Below w.heap.size w w':=by
 have q30:∀(w:World) (a:Option Addr) (n c n' c':Nat),(binOp .eql 193 (.slice a n c) (.slice none n' c')).run prog w=.ok (.bool a.isNone) w:=fun w a n c n' c'=>Lib.run_eql_slice_nil w _ _ a n c n' c' underlying193
 obtain⟨i0,fT,gv,fC,fK⟩:=info_parts FR;rcases A with _|ad
 ·have h0:n=0:=by
   rcases Nat.eq_zero_or_pos n with h|h
   ·exact h
   ·obtain⟨ad,_,e,_⟩:=hr.at_ h;cases e
  subst h0;have hl:l=[]:=List.eq_nil_of_length_eq_zero hr.len;subst hl;go_enter func147,ntmps147
  go_wp2
  go_ret;exact⟨none,0,rfl,ek _ _,Below.refl _ _⟩
 ·have bH:Below w.heap.size w (w.alloc (.cells #[] 9)):=zb.alloc zl _;have aJ:(w.alloc (.cells #[] 9)).ownsRow w.heap.size 9 1 (.slice (some ⟨w.heap.size,0,none⟩) 0 0) 0 []:=pN _ [] 0 rfl zz;have gu:cj (w.alloc (.cells #[] 9)) 1 (some ad) n (l.map Lr):=cj.alloc hr _;go_enter func147,ntmps147;go_wp2_with (first
    | (at_builtin;refine bj _ rfl (.tmp 5) (.tmp 6) 193 rfl w.heap.size 9 i0 _ 1 16 underlying193 fT gv fC fK rfl (by omega) _ 0 [] rfl aJ (some ad) n c _ rfl gu (HV l) (by unfold maxLen;omega) (by omega) bH.size ?_;intro A3 c3 w3 bS ip _)
    | fail)
  have cv:=eQ aJ ip bH.size;simp only[Nat.zero_add,List.nil_append]at bS;clear ip;go_ret;exact⟨A3,c3,rfl,bS,bH.trans cv⟩
def I0:List TypeId:=[193,9,3]
def Lu:List TypeId:=[9]
def Y9:List TypeId:=[3]
def xZ(B:Nat)(w:World)(A:Option Addr)(k c:Nat)(fs:List Fa):Prop:=
 ∃ys:List (Value×Value),w.ownsRow B 191 2 (.slice A k c) k (ys.flatMap Lw)/\ys.length=k/\fs.length=k/\∀(i:Nat) f,fs[i]?=some f->∃y,ys[i]?=some y/\dt (bu I0 B w) w y.1 f.paths/\fu (bu I0 B w) w y.2 f.vals
def pT(B B':Nat)(w:World)(A:Option Addr)(k c:Nat)(ps:List (List ByteArray)):Prop:=
 ∃vs:List Value,w.ownsRow B 193 1 (.slice A k c) k vs/\ps.length=k/\∀(i:Nat) p,ps[i]?=some p->∃u,vs[i]?=some u/\fH (bu Lu B' w) w u p
section
variable {B B':Nat}{w w':World}{A:Option Addr}{k c:Nat}
theorem xZ.below{fs:List Fa}(h:xZ B w A k c fs)(hb:Below w.heap.size w w'):xZ B w' A k c fs:=by
 obtain⟨ys,h1,h2,h3,h4⟩:=h;refine⟨ys,bF h1 hb,h2,h3,fun i f hf=>?_⟩;obtain⟨y,h5,h6,h7⟩:=h4 i f hf;exact⟨y,h5,h6.move (be.below hb),h7.move (be.below hb)⟩
theorem pT.below{ps:List (List ByteArray)}(h:pT B B' w A k c ps)(hb:Below w.heap.size w w'):pT B B' w' A k c ps:=by
 obtain⟨vs,h1,h3,h4⟩:=h;refine⟨vs,bF h1 hb,h3,fun i f hf=>?_⟩;obtain⟨u,h5,h6⟩:=h4 i f hf;exact⟨u,h5,h6.move (be.below hb)⟩
theorem pT.stay{ps:List (List ByteArray)}(h:pT B B' w A k c ps)(h1:be [193] w w')(h2:be Lu w w'):pT B B' w' A k c ps:=by
 obtain⟨vs,h3,h4,h5⟩:=h;refine⟨vs,Fv h3 (by decide) h1,h4,fun i f hf=>?_⟩;obtain⟨u,h6,h7⟩:=h5 i f hf;exact⟨u,h6,h7.move h2⟩
theorem pT.paths{ps:List (List ByteArray)}(h:pT B B w A k c ps):dt (bu I0 B w) w (.slice A k c) ps:=by
 obtain⟨vs,h1,h3,h4⟩:=h;refine⟨vs,?_,fun i p hp=>?_⟩
 ·subst h3;exact Sl.of_new (L:=I0) h1 (by decide)
 ·obtain⟨u,h5,h6⟩:=h4 i p hp;exact⟨u,h5,h6.mono (bu.wide (by decide) zl)⟩
theorem xZ.facts{fs:List Fa}(h:xZ B w A k c fs):aN (bu TD B w) w (.slice A k c) fs:=by
 obtain⟨ys,h1,h2,h3,h4⟩:=h;refine⟨ys,?_,by omega,fun i f hf=>?_⟩
 ·subst h3;exact Sl.of_new (L:=TD) h1 (by decide)
 ·obtain⟨y,h5,h6,h7⟩:=h4 i f hf;exact⟨y,h5,h6.mono (bu.wide (by decide) zl),h7.mono (bu.wide (by decide) zl)⟩
end
theorem DL(S:Nat->Prop)(A:Option Addr)(n c:Nat)(fs:List Fa)(w:World)(hf:aN S w (.slice A n c) fs)(hn:n<=100000)(yU:∀f∈fs,f.paths.length<=100000/\f.vals.length<=100000/\∀p∈f.paths,p.length<=100000) :
  Calls prog 129 #[.slice A n c] w fun e w'=>∃A' c',e=.returned (.slice A' n c')/\xZ w.heap.size w' A' n c' fs/\Below w.heap.size w w':=by
 have H1:=zH (nW hf);have Hsm:=zH yU;clear yU;go_enter func129,ntmps129;go_wp2_with fail
 go_loopw [3,11] (fun o i wr=>∃(k:Nat) (A':Option Addr) (c':Nat),k<=n/\i=.int .i64 k/\o=.slice A' k c'/\xZ w.heap.size wr A' k c' (fs.take k)/\Below w.heap.size w wr) (fun _ i _=>n-(intOf i).toNat)
 case atStart=>exact⟨0,none,0,Nat.zero_le _,rfl,rfl,⟨[],ek _ _,rfl,rfl,fun i f h=>by cases h⟩,Below.refl _ _⟩
 case round=>
  obtain⟨k,A',c',hk,rfl,rfl,hO,hb⟩:=hrel;by_cases bh:k<n
  ·obtain⟨ad,f,B,mp,d,C,mv,r,rfl,Ip,c0,c1,hp,Sf,Dk,KX,jw,T6,OT,BW⟩:=(hf.keep (b5.below (S:=S) hb)).at_ bh;have OV:=Hsm.out f (List.mem_of_getElem? Ip);have Hpl:=zH jw;have Hvl:=zH BW;have Zu:mp<=100000:=by rw[<-jw];exact OV.1
   have Zv:mv<=100000:=by rw[<-BW];exact OV.2.1
   have Hsp:=zH OV.2.2;have Htk:=zH (show fs.take (k+1)=fs.take k++[f] by rw[List.take_add_one,Ip];rfl);have bi:=zH (show n-(k+1)<n-k by omega);clear jw BW OV Ip;have aU:Below wr.heap.size wr (wr.alloc (.cells #[.slice B mp d,.slice C mv r] 191)):=zb.alloc zl _;have eB:=ay.new wr 191 #[.slice B mp d,.slice C mv r];have JX:=hp.keep (b5.below (S:=S) aU);have aM:=Sf.keep (b5.below (S:=S) aU);have oc:=aj hb aU zl;have Tj:=hO.below aU;go_wp2_with fail;generalize wr.alloc (.cells #[.slice B mp d,.slice C mv r] 191)=w2 at *;generalize wr.heap.size=g at *;refine(yg _ _ _ _ _ aM.rd (by omega)).mono ?_;rintro e w3 ⟨A3,c3,rfl,bS,cv⟩;have fO:=(eB.kept cv).cell 0;simp only[List.getElem?_toArray,List.getElem?_cons_zero]at fO;have Hu:=JX.keep (b5.below (S:=S) cv);have Tk:=Tj.below cv;have eI:=aj oc cv zl;have bV:=Nat.lt_of_lt_of_le eB.lt cv.size;have eh:=oc.size;clear hO Tj hp JX hb oc;go_wp2_with fail;have xQ:w3.heap.size=w3.heap.size:=rfl;have dV:Below w3.heap.size w3 (w3.alloc (.cells #[.slice none 0 0,.slice A3 mv c3] 191)):=zb.alloc zl _;have JK:=ay.new w3 191 #[.slice none 0 0,.slice A3 mv c3];clear xQ;generalize MM:w3.heap.size=g6 at *;have JD:=zH MM;clear MM
   go_loopw [22] (fun i wr'=>∃(j:Nat) (A6:Option Addr) (c6:Nat),j<=mp/\i=.int .i64 j/\ay wr' g6 191 #[.slice A6 j c6,.slice A3 mv c3]/\pT g6 g6 wr' A6 j c6 (f.paths.take j)/\Below g6 w3 wr') (fun i _=>mp-(intOf i).toNat)
   case atStart=>exact⟨0,none,0,Nat.zero_le _,rfl,JK,⟨[],ek _ _,rfl,fun i p h=>by cases h⟩,dV⟩
   case round=>
    obtain⟨j,A6,c6,hj,rfl,jv,hP,kI⟩:=hrel;have ML:=jv.lt;by_cases sq:j<mp
    ·obtain⟨cd,p,C1,s1,t1,rfl,ww,c2,z1,z2,z3,z4⟩:=(Hu.keep (b5.below (S:=S) (by rw[JD.out];exact kI))).at_ sq;have eC:s1<=100000:=by rw[<-z4];exact Hsp.out p (List.mem_of_getElem? ww)
     have Htk':=zH (show f.paths.take (j+1)=f.paths.take j++[p] by rw[List.take_add_one,ww];rfl);have jW:=zH (show mp-(j+1)<mp-j by omega);clear ww;have q0:=jv.cell 0;simp only[List.getElem?_toArray,List.getElem?_cons_zero]at q0;have k0:=IX [g6] q0;go_wp2_with fail;refine qY [g6] wr [([0,1,2],3),([],4),([],5)] ([6],7) ?_;refine au fun K1 cF=>?_
     simp only[af,Zx];repeat go_big_quiet_step(fail)
     apply wpQuiet_nil;go_wp2_with fail;refine(yh (w:=wr.drew) _ _ _ _ z1.rd (by omega)).mono ?_;rintro e w5 ⟨A8,c8,rfl,Nw,dp⟩;have dp:Below wr.heap.size wr w5:=(aY (Below.refl wr.heap.size wr) 1).trans dp;go_wp2_with fail;refine⟨aw (by simp;exact ML) dp,cF _ _ ?_⟩;have lY:Below w5.heap.size w5 (w5.alloc (.cells #[.slice A8 s1 c8] 193)):=zb.alloc zl _;have MX:=cj.one w5 193 (.slice A8 s1 c8);have yz:=aj dp lY zl;have sd:=hP.below yz;have ns:=bF Nw lY;have OI:=jv.kept yz;have NP:g6<=(w5.alloc (.cells #[.slice A8 s1 c8] 193)).heap.size:=by have:=yz.size;omega
     refine au fun K2 jl=>?_
     simp only[af,Zx];repeat go_big_quiet_step(fail)
     apply wpQuiet_nil;go_wp2_with fail;refine⟨aw (by simp;exact ML) yz,jl _ _ ?_⟩;generalize w5.alloc (.cells #[.slice A8 s1 c8] 193)=w6 at *;obtain⟨vs6,aD,T4,kX⟩:=sd;obtain⟨i0,fT,gv,fC,fK⟩:=info_parts CJ;have Hi0:=zH fT;have Hz0:=zH gv;have Hz1:=zH fC;have Hz2:=zH fK;clear fT gv fC fK;have EA:j+1<=1000000:=by omega
     refine au fun K3 jS=>?_
     simp only[af,Zx];repeat go_big_quiet_step(fail)
     apply wpQuiet_nil;go_wp2_with (at_builtin;refine bj _ rfl (.tmp 27) (.tmp 30) 189 rfl g6 193 i0 _ 1 24 underlying189 Hi0.out Hz0.out Hz1.out Hz2.out rfl (by omega) (.slice A6 j c6) j vs6 rfl aD (some ⟨w5.heap.size,0,none⟩) 1 1 [.slice A8 s1 c8] rfl MX (fun u hu=>by rw[List.mem_singleton.1 hu];rfl) (by unfold maxLen;omega) (by omega) NP ?_;intro A9 c9 w9 EQ hg9 _);have BK:ay w9 g6 191 #[.slice A6 j c6,.slice A3 mv c3]:=OI.stay (L:=[191]) (by decide) (be.grown aD hg9 (by decide));have bP:=be.grown (L:=Lu) aD hg9 (by decide);have mV:pT g6 g6 w9 A9 (j+1) c9 (f.paths.take (j+1)):=by
      refine⟨_,EQ,by rw[Htk'.out,List.length_append,T4];rfl,fun i q hq=>?_⟩;have Sg:vs6.length=j:=by have:=aD.1;omega
      rw[Htk'.out]at hq;rcases Nat.lt_or_ge i j with hi|hi
      ·rw[List.getElem?_append_left (by omega)]at hq;obtain⟨u,hu,XH⟩:=kX i q hq;exact⟨u,by rw[List.getElem?_append_left (by omega)];exact hu,XH.move bP⟩
      ·rw[List.getElem?_append_right (by omega),T4]at hq;have fT:i=j:=by
        rcases Nat.eq_zero_or_pos (i-j)with h'|h'
        ·omega
        ·rw[List.getElem?_eq_none (by simp;omega)]at hq;cases hq
       subst fT;simp only[Nat.sub_self,List.getElem?_cons_zero,Option.some.injEq]at hq;subst hq;refine⟨_,by rw[List.getElem?_append_right (by omega),Sg,Nat.sub_self];rfl,?_⟩;have h1:=Sl.of_new (L:=Lu) ns (by decide);rw[<-z4]at h1;have h2:fH (bu Lu g6 w6) w6 (.slice A8 s1 c8) p:=Sl.mono (by rw[<-z4];exact h1) (by omega) (bu.wide (fun _ h=>h) (by show g6<=wr.heap.size;omega));exact h2.move bP
     have Qo:Below g6 w6 w9:=eQ aD hg9 NP;have L9:Below g6 w3 w9:=(kI.trans (yz.mono (by omega))).trans Qo;go_wp2_with fail;refine⟨aT (fun q hq=>by rw[List.mem_singleton.1 hq];exact Eq.trans BK jv.symm),jS _ _ ?_⟩;have f0:=BK.free 0;have r0:=BK.cell 0;simp only[List.getElem?_toArray,List.getElem?_cons_zero]at r0;clear hg9 EQ aD kX;have aO:ay (w9.setCell ⟨g6,0,none⟩ (.slice A9 (j+1) c9)) g6 191 #[.slice A9 (j+1) c9,.slice A3 mv c3]/\pT g6 g6 (w9.setCell ⟨g6,0,none⟩ (.slice A9 (j+1) c9)) A9 (j+1) c9 (f.paths.take (j+1))/\Below g6 w3 (w9.setCell ⟨g6,0,none⟩ (.slice A9 (j+1) c9)):=
      ⟨by simpa using BK.set_ 0 (.slice A9 (j+1) c9),mV.stay (be.set BK (by decide)) (be.set BK (by decide)),L9.setCell zl _⟩
     have aO:=zH aO;clear mV L9 bP;refine aE ?_;simp only[af,Zx];repeat go_big_quiet_step(fail)
     apply wpQuiet_nil;go_wp2_with fail;refine⟨⟨j+1,A9,c9,sq,by go_num,aO.out.1,aO.out.2.1,aO.out.2.2⟩,by simp[intOf];exact jW.out⟩
    ·obtain rfl:j=mp:=by omega
     obtain⟨w4,rfl⟩:∃wo:World,wo=wr:=⟨_,rfl⟩;rw[List.take_of_length_le (by rw[Hpl.out];omega)]at hP;have pu:Below w3.heap.size w3 w4:=by rw[JD.out];exact kI
     have gp:=bF bS pu;have Tl:=Tk.below pu;have Uf:=hP.paths;have TR:=Sl.of_new (L:=I0) gp (by decide);obtain⟨r0,r1,-⟩:=jv.cs [0,1];simp only[Zx]at r0 r1;have jU:=aj eI pu zl;have QS:w.heap.size<=g6:=by rw[<-JD.out];exact eI.size
     have dZ:Below w4.heap.size w4 (w4.alloc (.cells #[.slice A6 j c6,.slice A3 mv c3] 191)):=zb.alloc zl _;have eu:=ay.new w4 191 #[.slice A6 j c6,.slice A3 mv c3];have Wk:=Tl.below dZ;have RJ:=Uf.move (be.below dZ);have JJ:fu (bu I0 w2.heap.size w4) w4 (.slice A3 mv c3) f.vals:=by
      show Sl _ _ _ _ _ _;rw[Hvl.out];exact TR
     have JJ:=JJ.move (be.below dZ);have sh:=aj jU dZ zl;have BT:cj (w4.alloc (.cells #[.slice A6 j c6,.slice A3 mv c3] 191)) 2 (some ⟨w4.heap.size,0,none⟩) 1 [.slice A6 j c6,.slice A3 mv c3]:=⟨rfl,fun _=>⟨_,rfl,fun q u hu=>by
      have e:(⟨w4.heap.size,0,none⟩:Addr).add q=⟨w4.heap.size,q,none⟩:=by unfold Addr.add;split <;> simp[*]
      rw[e,eu.cell q,<-hu];simp⟩⟩
     obtain⟨ys,aD,T5,Ld,kX⟩:=Wk;obtain⟨i0,fT,gv,fC,fK⟩:=info_parts Bi;clear Tk Tl bS gp Uf TR hP kI;go_wp2_with (at_builtin;refine bj _ rfl (.tmp 34) (.tmp 36) 40 rfl w.heap.size 191 i0 _ 2 48 underlying40 fT gv fC fK rfl (by omega) (.slice A' k c') k _ rfl aD (some ⟨w4.heap.size,0,none⟩) 1 1 _ rfl BT (fun u hu=>by simp at hu;rcases hu with rfl|rfl <;> rfl) (by unfold maxLen;omega) (by omega) sh.size ?_;intro A9 c9 w9 ns hg9 _);have bP:=be.grown (L:=I0) aD hg9 (by decide);refine⟨⟨k+1,A9,c9,bh,by go_num,rfl,⟨ys++[(.slice A6 j c6,.slice A3 mv c3)],?_,by simp[T5],by rw[Htk.out,List.length_append,Ld];rfl,fun i q hq=>?_⟩,sh.trans (eQ aD hg9 sh.size)⟩,by simp[intOf];exact bi.out⟩
     ·rw[List.flatMap_append];exact ns
     ·rw[Htk.out]at hq;rcases Nat.lt_or_ge i k with hi|hi
      ·rw[List.getElem?_append_left (by omega)]at hq;obtain⟨y,hy,h1,h2⟩:=kX i q hq;exact⟨y,by rw[List.getElem?_append_left (by omega)];exact hy,h1.move bP,h2.move bP⟩
      ·rw[List.getElem?_append_right (by omega),Ld]at hq;have fT:i=k:=by
        rcases Nat.eq_zero_or_pos (i-k)with h'|h'
        ·omega
        ·rw[List.getElem?_eq_none (by simp;omega)]at hq;cases hq
       subst fT;simp only[Nat.sub_self,List.getElem?_cons_zero,Option.some.injEq]at hq;subst hq;exact⟨_,by rw[List.getElem?_append_right (by omega),T5,Nat.sub_self];rfl,(RJ.mono (bu.wide (fun _ h=>h) QS)).move bP,(JJ.mono (bu.wide (fun _ h=>h) eh)).move bP⟩
  ·obtain rfl:k=n:=by omega
   rw[List.take_of_length_le (by rw[H1.out];omega)]at hO;go_wp2_with fail;go_ret;exact⟨A',c',rfl,hO,hb⟩
def nU(fs:List Fa):Prop:=fs.length<=100000/\∀f∈fs,f.paths.length<=100000/\f.vals.length<=100000/\∀p∈f.paths,p.length<=100000
theorem zx{fs:List Fa}(h:sB fs=0):nU fs:=by
 unfold sB at h;by_cases h8:8<fs.length
 ·rw[if_pos h8]at h;cases h
 ·rw[if_neg h8]at h;cases ha:fs.any fun f=>!gN f with
  | true=>rw[ha]at h;cases h
  | false=>
   rw[List.any_eq_false]at ha;refine⟨by omega,fun f hf=>?_⟩;have hp:gN f=true:=by have:=ha f hf;simpa using this
   obtain⟨h1,h2,h3⟩:=nE hp;exact⟨by omega,by omega,fun p hp=>by have:=wW (h1 p hp);omega⟩
theorem yi{x:En}(h:rX x=0):nU x.facts:=by
 unfold rX at h;split at h
 ·cases h
 ·split at h
  ·cases h
  ·exact zx h
theorem ly{x:En}(h:di x=true):nU x.facts:=by
 have h:ph x=0:=of_decide_eq_true h;unfold ph at h;split at h
 ·cases h
 ·exact yi h
def set6(w:World)(g:Nat)(z:Value×En):World:=
 (((((w.setCell ⟨g,0,none⟩ (vi z.2.idx)).setCell ⟨g,1,none⟩ (vi z.2.term)).setCell ⟨g,2,none⟩ (vi z.2.op)).setCell ⟨g,3,none⟩ (vi z.2.sess)).setCell ⟨g,4,none⟩ (vi z.2.seq)).setCell ⟨g,5,none⟩ z.1
theorem iD{w:World}{g:Nat}{T:TypeId}{cs:Array Value}(z:Value×En)(h:ay w g T cs)(hc:cs.size=6) :
  ay (set6 w g z) g T (dE z).toArray/\(∀L,T∉L->be L w (set6 w g z))/\∀B,B<=g->Below B w (set6 w g z):=by
 have h0:=h.set_ 0 (vi z.2.idx);have h1:=h0.set_ 1 (vi z.2.term);have h2:=h1.set_ 2 (vi z.2.op);have h3:=h2.set_ 3 (vi z.2.sess);have h4:=h3.set_ 4 (vi z.2.seq);have h5:=h4.set_ 5 z.1;refine⟨?_,fun L hL=>?_,fun B hB=>?_⟩
 ·have e:((((((cs.setIfInBounds 0 (vi z.2.idx)).setIfInBounds 1 (vi z.2.term)).setIfInBounds 2 (vi z.2.op)).setIfInBounds 3 (vi z.2.sess)).setIfInBounds 4 (vi z.2.seq)).setIfInBounds 5 z.1)=(dE z).toArray:=by
   apply Array.ext
   ·simp[hc,dE]
   ·intro i xR Hh;simp[dE]at Hh;rcases(show i=0\/i=1\/i=2\/i=3\/i=4\/i=5 by omega)with rfl|rfl|rfl|rfl|rfl|rfl <;> simp[hc,dE]
  rw[<-e];exact h5
 ·exact(((((be.set h hL).trans (be.set h0 hL)).trans (be.set h1 hL)).trans (be.set h2 hL)).trans (be.set h3 hL)).trans (be.set h4 hL)
 ·exact((((((Below.refl B w).setCell hB _).setCell hB _).setCell hB _).setCell hB _).setCell hB _).setCell hB _
theorem nC(S:Nat->Prop)(x:En)(A:Option Addr)(n c:Nat)(w:World)(hf:aN S w (.slice A n c) x.facts)(hs:nU x.facts) :
  Calls prog 91 #[rN x (.slice A n c)] w fun e w'=>∃A' c',e=.returned (rN x (.slice A' n c'))/\aN (bu TD w.heap.size w') w' (.slice A' n c') x.facts/\Below w.heap.size w w':=by
 have hn:n<=100000:=by rw[<-nW hf];exact hs.1
 unfold rN;obtain⟨aU,cw,iq⟩:=iz w 59 59 #[.int .i64 x.idx,.int .i64 x.term,.int .i64 x.op,.int .i64 x.sess,.int .i64 x.seq,.slice A n c] #[.int .i64 0,.int .i64 0,.int .i64 0,.int .i64 0,.int .i64 0,.slice none 0 0];have g1:=hf.keep (b5.below (S:=S) aU);go_enter func91,ntmps91;go_wp2_with fail;generalize(w.alloc (.cells #[.int .i64 x.idx,.int .i64 x.term,.int .i64 x.op,.int .i64 x.sess,.int .i64 x.seq,.slice A n c] 59)).alloc (.cells #[.int .i64 0,.int .i64 0,.int .i64 0,.int .i64 0,.int .i64 0,.slice none 0 0] 59)=w1 at *;refine(DL S _ _ _ _ _ g1 hn hs.2).mono ?_;rintro e w2 ⟨A2,c2,rfl,hO,bU⟩;have b1:=cw.kept bU;have b2:=iq.kept bU;obtain⟨a0,a1,a2,a3,a4,a5,-⟩:=b1.cs [0,1,2,3,4,5];have f5:=b1.free 5;obtain⟨d0,d1,d2,d3,d4,d5,-⟩:=b2.cs [0,1,2,3,4,5];obtain⟨f0,f1,f2,f3,f4,f6,-⟩:=b2.fs [0,1,2,3,4,5];simp only[Zx]at a0 a1 a2 a3 a4 a5 d0 d1 d2 d3 d4 d5;go_wp2_with fail;have cH:w.heap.size+1≠w.heap.size:=by omega
 obtain⟨s1,s2,s3⟩:=iD (.slice A2 n c2,x) (b2.far (p:=⟨w.heap.size,5,none⟩) cH (.slice A2 n c2)) rfl;have yv:aN (bu TD w.heap.size (set6 (w2.setCell ⟨w.heap.size,5,none⟩ (.slice A2 n c2)) (w.heap.size+1) (.slice A2 n c2,x))) (set6 (w2.setCell ⟨w.heap.size,5,none⟩ (.slice A2 n c2)) (w.heap.size+1) (.slice A2 n c2,x)) (.slice A2 n c2) x.facts:=
  (hO.facts.mono (bu.wide (fun _ h=>h) aU.size)).move ((be.set b1 (by decide)).trans (s2 _ (by decide)))
 have Pv:Below w.heap.size w (set6 (w2.setCell ⟨w.heap.size,5,none⟩ (.slice A2 n c2)) (w.heap.size+1) (.slice A2 n c2,x)):=
  ((aj aU bU zl).setCell zl _).trans (s3 _ (by omega))
 show bodyPost _ _ _ _ _ (set6 (w2.setCell ⟨w.heap.size,5,none⟩ (.slice A2 n c2)) (w.heap.size+1) (.slice A2 n c2,x));generalize set6 (w2.setCell ⟨w.heap.size,5,none⟩ (.slice A2 n c2)) (w.heap.size+1) (.slice A2 n c2,x)=w9 at *;obtain⟨r0,r1,r2,r3,r4,r5,-⟩:=s1.cs [0,1,2,3,4,5];simp only[dE,vi,Zx]at r0 r1 r2 r3 r4 r5;exact bodyPost_ret (v:=.agg #[.int .i64 x.idx,.int .i64 x.term,.int .i64 x.op,.int .i64 x.sess,.int .i64 x.seq,.slice A2 n c2]) (by simp[results,results91,go_sem,r0,r1,r2,r3,r4,r5]) rfl ⟨A2,c2,rfl,yv,Pv⟩
structure bv where
 index:Int
 term:Int
 L:List En
def bv.lastF(t:bv):Int×Int:=match t.L.getLast? with
 | some x=>(x.idx,x.term)
 | none=>(t.index,t.term)
def jf(term:Int)(L:List En)(i:Nat):Int:=match i with
 | 0=>term
 | i+1=>match L[i]? with
  | some x=>x.term
  | none=>term
theorem dN(term:Int)(L:List En)(i:Nat):jf term L (i+1)=match L[i]? with
 | some x=>x.term
 | none=>term:=rfl
structure bv.Inv(t:bv):Prop where
 base:(t.index=0/\t.term=0)\/(1<=t.index/\t.index<=1099511627776/\1<=t.term/\t.term<=1099511627776)
 idx:∀(i:Nat) x,t.L[i]?=some x->x.idx=t.index+1+i
 plain:∀x∈t.L,di x=true
 mono:∀(i:Nat) x,t.L[i]?=some x->jf t.term t.L i<=x.term
def bv.termF(t:bv)(i:Int):Int×Int:=
 if i<t.index then(0,34)else if i=t.index then(t.term,0)else match t.L[(i-t.index-1).toNat]? with
  | some x=>(x.term,0)
  | none=>(0,33)
def bv.sliceF(t:bv)(i n:Int):List En:=if i<=t.index\/n<1 then[]else(t.L.drop (i-t.index-1).toNat).take n.toNat
def ct(index:Int):Nat->Int->List En->Bool
 | _,_,[]=>true
 | i,term,x::l=>di x&&(decide (x.idx=index+1+i)&&(decide (term<=x.term)&&ct index (i+1) x.term l))
def bv.findDiff(t:bv):List En->Option (En×List En)
 | []=>none
 | x::l=>if t.termF x.idx=(x.term,0)then t.findDiff l else some (x,l)
def bv.takeF(t:bv)(index term:Int)(l:List En):(Int×Bool)×bv:=
 if t.termF index=(term,0)/\ct index 0 term l=true then
  match t.findDiff l with
  | none=>((0,true),t)
  | some (x,r)=>((x.idx,true),{t with L:=t.L.take (x.idx-t.index-1).toNat++x::r})
 else((0,false),t)
def nc(idx term:Int)(c:En):En:=⟨idx,term,c.op,c.sess,c.seq,c.facts⟩
def bv.putF(t:bv)(term:Int)(c:En):(En×Int)×bv:=
 if 1099511627776<=t.lastF.1 then((jx,41),t)
 else if term<t.lastF.2\/di (nc (t.lastF.1+1) term c)=false then((jx,1),t)
 else((nc (t.lastF.1+1) term c,0),{t with L:=t.L++[nc (t.lastF.1+1) term c]})
def bv.dropF(t:bv)(i:Int):Int×bv:=
 if(t.termF i).2=33 then(33,t)else if(t.termF i).2=34 then(0,t)else(0,⟨i,(t.termF i).1,t.L.drop (i-t.index).toNat⟩)
def qk(i term:Int)(x:En):Bool:=decide (x.idx<i)&&decide (x.term<=term)
def bv.hintF(t:bv)(i term:Int):Int:=match(t.L.filter (qk i term)).getLast? with
 | some x=>x.idx
 | none=>t.index
theorem lQ{x:En}(h:di x=true):1<=x.idx/\x.idx<=1099511627776/\1<=x.term/\x.term<=1099511627776:=by
 have h:ph x=0:=of_decide_eq_true h;unfold ph fF at h;split at h
 ·cases h
 ·rename_i hh;simp only[Bool.not_eq_false,Bool.and_eq_true,decide_eq_true_eq]at hh;omega
theorem iG{α:Type}{l:List α}{k:Nat}{x:α}(h:l[k]?=some x):l.drop k=x::l.drop (k+1):=by
 obtain⟨hk,e⟩:=List.getElem?_eq_some_iff.1 h;rw[List.drop_eq_getElem_cons hk,e]
theorem nF{term:Int}{L R:List En}{i:Nat}(h:i<=L.length):jf term (L++R) i=jf term L i:=by
 cases i with
 | zero=>rfl
 | succ i=>
  rw[dN,dN,List.getElem?_append_left (by omega)]
theorem qS{term:Int}{L:List En}{i k:Nat}(h:i<=k):jf term (L.take k) i=jf term L i:=by
 cases i with
 | zero=>rfl
 | succ i=>
  rw[dN,dN,List.getElem?_take,if_pos (by omega)]
section
variable {t:bv}
theorem bv.Inv.b(h:t.Inv):0<=t.index/\t.index<=1099511627776/\0<=t.term/\t.term<=1099511627776:=by
 rcases h.base with⟨h1,h2⟩|⟨h1,h2,h3,h4⟩ <;> omega
theorem bv.Inv.room(h:t.Inv):t.index+t.L.length<=1099511627776:=by
 rcases Nat.eq_zero_or_pos t.L.length with h0|h0
 ·have:=h.b;omega
 ·have hx:t.L[t.L.length-1]?=some (t.L[t.L.length-1]'(by omega)):=List.getElem?_eq_getElem (by omega);have h1:=h.idx _ _ hx;have h2:=lQ (h.plain _ (List.mem_of_getElem? hx));omega
theorem bv.lastF_pos(h0:0<t.L.length):∃x,t.L[t.L.length-1]?=some x/\t.lastF=(x.idx,x.term):=by
 refine⟨t.L[t.L.length-1]'(by omega),List.getElem?_eq_getElem (by omega),?_⟩;unfold bv.lastF;rw[List.getLast?_eq_getElem?,List.getElem?_eq_getElem (by omega)]
theorem bv.lastF_nil(h0:t.L=[]):t.lastF=(t.index,t.term):=by unfold bv.lastF;rw[h0];rfl
theorem bv.Inv.last(h:t.Inv):t.lastF.1=t.index+t.L.length:=by
 rcases Nat.eq_zero_or_pos t.L.length with h0|h0
 ·rw[bv.lastF_nil (List.eq_nil_of_length_eq_zero h0),h0];simp
 ·obtain⟨x,hx,e⟩:=bv.lastF_pos h0;rw[e];have:=h.idx _ _ hx;show x.idx=_;omega
theorem bv.lastT(t:bv):t.lastF.2=jf t.term t.L t.L.length:=by
 rcases Nat.eq_zero_or_pos t.L.length with h0|h0
 ·rw[bv.lastF_nil (List.eq_nil_of_length_eq_zero h0),h0];rfl
 ·obtain⟨x,hx,e⟩:=bv.lastF_pos h0;rw[e];obtain⟨k,hk⟩:∃k,t.L.length=k+1:=⟨t.L.length-1,by omega⟩;rw[hk]at hx ⊢;rw[show k+1-1=k by omega]at hx;rw[dN,hx]
theorem bv.Inv.lastB(h:t.Inv):0<=t.lastF.2/\t.lastF.2<=1099511627776:=by
 rcases Nat.eq_zero_or_pos t.L.length with h0|h0
 ·rw[bv.lastF_nil (List.eq_nil_of_length_eq_zero h0)];have:=h.b;exact⟨this.2.2.1,this.2.2.2⟩
 ·obtain⟨x,hx,e⟩:=bv.lastF_pos h0;have:=lQ (h.plain _ (List.mem_of_getElem? hx));rw[e];exact⟨by show 0<=x.term;omega,this.2.2.2⟩
theorem bv.Inv.put(h:t.Inv){x:En}(hi:x.idx=t.lastF.1+1)(hp:di x=true)(ht:t.lastF.2<=x.term):bv.Inv {t with L:=t.L++[x]}:=by
 refine⟨h.base,fun i y hy=>?_,fun y hy=>?_,fun i y hy=>?_⟩
 ·rcases Nat.lt_or_ge i t.L.length with h1|h1
  ·exact h.idx i y (by rw[<-hy];exact(List.getElem?_append_left h1).symm)
  ·rw[show({t with L:=t.L++[x]}:bv).L=t.L++[x]from rfl,List.getElem?_append_right h1]at hy;rcases Nat.eq_zero_or_pos (i-t.L.length)with h2|h2
   ·rw[h2]at hy;simp only[List.getElem?_cons_zero,Option.some.injEq]at hy;subst hy;rw[hi,h.last];show _=t.index+1+i;omega
   ·rw[List.getElem?_eq_none (by simp;omega)]at hy;cases hy
 ·rcases List.mem_append.1 hy with h1|h1
  ·exact h.plain y h1
  ·rw[List.mem_singleton.1 h1];exact hp
 ·rcases Nat.lt_or_ge i t.L.length with h1|h1
  ·show jf t.term (t.L++[x]) i<=_;rw[nF (by omega)];exact h.mono i y (by rw[<-hy];exact(List.getElem?_append_left h1).symm)
  ·rw[show({t with L:=t.L++[x]}:bv).L=t.L++[x]from rfl,List.getElem?_append_right h1]at hy;rcases Nat.eq_zero_or_pos (i-t.L.length)with h2|h2
   ·rw[h2]at hy;simp only[List.getElem?_cons_zero,Option.some.injEq]at hy;subst hy;show jf t.term (t.L++[x]) i<=_;rw[show i=t.L.length by omega,nF zl,<-t.lastT];exact ht
   ·rw[List.getElem?_eq_none (by simp;omega)]at hy;cases hy
theorem bv.Inv.putF(h:t.Inv)(term:Int)(c:En):(t.putF term c).2.Inv:=by
 unfold bv.putF;split
 ·exact h
 ·split
  ·exact h
  ·rename_i h1;refine h.put rfl ?_ (by show _<=term;omega);cases hp:di (nc (t.lastF.1+1) term c)with
   | true=>rfl
   | false=>exact absurd (.inr hp) h1
theorem bv.Inv.cut(h:t.Inv)(k:Nat):bv.Inv {t with L:=t.L.take k}:=by
 refine⟨h.base,fun i y hy=>?_,fun y hy=>h.plain y (List.mem_of_mem_take hy),fun i y hy=>?_⟩
 ·rw[show({t with L:=t.L.take k}:bv).L=t.L.take k from rfl,List.getElem?_take]at hy;split at hy
  ·exact h.idx i y hy
  ·cases hy
 ·rw[show({t with L:=t.L.take k}:bv).L=t.L.take k from rfl,List.getElem?_take]at hy;split at hy
  ·show jf t.term (t.L.take k) i<=_;rw[qS (by omega)];exact h.mono i y hy
  ·cases hy
theorem mQ(t:bv)(i:Int):(t.termF i).2=34\/(t.termF i).2=33\/(t.termF i).2=0:=by
 unfold bv.termF;split
 ·exact .inl rfl
 ·split
  ·exact .inr (.inr rfl)
  ·cases t.L[(i-t.index-1).toNat]? with
   | none=>exact .inr (.inl rfl)
   | some x=>exact .inr (.inr rfl)
theorem xz{i term:Int}(h:t.termF i=(term,0)):(i=t.index/\term=t.term)\/(t.index<i/\∃x,t.L[(i-t.index-1).toNat]?=some x/\x.term=term):=by
 unfold bv.termF at h;split at h
 ·cases h
 ·split at h
  ·rename_i h2;injection h with h3 _;exact .inl ⟨h2,h3.symm⟩
  ·cases hx:t.L[(i-t.index-1).toNat]? with
   | none=>rw[hx]at h;cases h
   | some x=>
    rw[hx]at h;injection h with h3 _;exact .inr ⟨by omega,x,rfl,h3⟩
theorem iQ{i term:Int}(h:t.termF i=(term,0)):t.index<=i/\i<=t.index+t.L.length/\term=jf t.term t.L (i-t.index).toNat:=by
 rcases xz h with⟨h1,h2⟩|⟨h1,x,hx,h2⟩
 ·refine⟨by omega,by omega,?_⟩;rw[h2,h1,show(t.index-t.index).toNat=0 by omega];rfl
 ·have hl:=(List.getElem?_eq_some_iff.1 hx).1;refine⟨by omega,by omega,?_⟩;obtain⟨k,hk⟩:∃k,(i-t.index).toNat=k+1:=⟨(i-t.index-1).toNat,by omega⟩;rw[show(i-t.index-1).toNat=k by omega]at hx;rw[hk,dN,hx,<-h2]
theorem bv.Inv.dropF(h:t.Inv)(i:Int):(t.dropF i).2.Inv:=by
 unfold bv.dropF;split
 ·exact h
 ·rename_i h1;split
  ·exact h
  ·rename_i h2;have h3:(t.termF i).2=0:=by
    rcases mQ t i with h|h|h
    ·exact absurd h h2
    ·exact absurd h h1
    ·exact h
   have h4:t.termF i=((t.termF i).1,0):=by rw[<-h3]
   obtain⟨h5,h6,h7⟩:=iQ h4;have hr:=h.room;have hb:=h.b;refine⟨?_,fun j y hy=>?_,fun y hy=>h.plain y (List.mem_of_mem_drop hy),fun j y hy=>?_⟩
   ·rcases xz h4 with⟨h8,h9⟩|⟨h8,x,hx,h9⟩
    ·show(i=0/\(t.termF i).1=0)\/_;rw[h9,h8];exact h.base
    ·have:=lQ (h.plain _ (List.mem_of_getElem? hx));refine .inr ⟨by show 1<=i;omega,by show i<=_;omega,?_,?_⟩
     ·show 1<=(t.termF i).1;rw[<-h9];exact this.2.2.1
     ·show(t.termF i).1<=_;rw[<-h9];exact this.2.2.2
   ·rw[List.getElem?_drop]at hy;have:=h.idx _ _ hy;show y.idx=i+1+j;omega
   ·show jf (t.termF i).1 (t.L.drop (i-t.index).toNat) j<=y.term;rw[List.getElem?_drop]at hy;have h8:=h.mono _ _ hy;cases j with
    | zero=>rw[h7];exact h8
    | succ j=>
     rw[dN,List.getElem?_drop];rw[show(i-t.index).toNat+(j+1)=((i-t.index).toNat+j)+1 by omega,dN]at h8;have hn:((i-t.index).toNat+j)<t.L.length:=by have:=(List.getElem?_eq_some_iff.1 hy).1;omega
     rw[List.getElem?_eq_getElem hn]at h8 ⊢;exact h8
theorem iv{idx term:Int}{i:Nat}{x:En}{l:List En}:ct idx i term (x::l)=true↔di x=true/\x.idx=idx+1+i/\term<=x.term/\ct idx (i+1) x.term l=true:=by
 show(di x&&(decide (x.idx=idx+1+i)&&(decide (term<=x.term)&&ct idx (i+1) x.term l)))=true↔_;rw[Bool.and_eq_true,Bool.and_eq_true,Bool.and_eq_true,decide_eq_true_eq,decide_eq_true_eq]
theorem bv.lastF_put(t:bv)(x:En):bv.lastF {t with L:=t.L++[x]}=(x.idx,x.term):=by
 unfold bv.lastF;rw[show({t with L:=t.L++[x]}:bv).L=t.L++[x]from rfl,List.getLast?_append];rfl
theorem bv.Inv.puts{idx:Int}{l:List En}:∀{t:bv} {i:Nat} {term:Int},t.Inv->ct idx i term l=true->idx+i=t.lastF.1->term=t.lastF.2->bv.Inv {t with L:=t.L++l}:=by
 induction l with
 | nil=>intro t i term h _ _ _;rw[List.append_nil];exact h
 | cons x l ih=>
  intro t i term h hm hi ht;obtain⟨h1,h2,h3,h4⟩:=iv.1 hm;have hp:=h.put (x:=x) (by omega) h1 (by omega);have hl:=t.lastF_put x;have:=ih hp h4 (by rw[hl];show idx+((i+1:Nat):Int)=x.idx;omega) (by rw[hl]);have e:t.L++[x]++l=t.L++x::l:=by simp
  rw[show({t with L:=t.L++[x]}:bv).L=t.L++[x]from rfl,e]at this;exact this
theorem mn{idx:Int}{l:List En}:∀{i:Nat} {term:Int} {x:En} {r:List En},t.termF (idx+i)=(term,0)->ct idx i term l=true->t.findDiff l=some (x,r)->
  ∃(j:Nat) (term':Int),i<=j/\x.idx=idx+1+j/\t.termF (idx+j)=(term',0)/\ct idx j term' (x::r)=true/\l.drop (j-i)=x::r/\t.termF x.idx≠(x.term,0):=by
 induction l with
 | nil=>intro i term x r _ _ h;cases h
 | cons y l ih=>
  intro i term x r h1 h2 h3;obtain⟨p1,p2,p3,p4⟩:=iv.1 h2;unfold bv.findDiff at h3;by_cases hy:t.termF y.idx=(y.term,0)
  ·rw[if_pos hy]at h3;have e:idx+((i+1:Nat):Int)=y.idx:=by omega
   obtain⟨j,term',h4,h5,h6,h7,h8,h9⟩:=ih (i:=i+1) (by rw[e];exact hy) p4 h3;refine⟨j,term',by omega,h5,h6,h7,?_,h9⟩;rw[show j-i=(j-(i+1))+1 by omega,List.drop_succ_cons];exact h8
  ·rw[if_neg hy]at h3;injection h3 with h3;injection h3 with h4 h5;subst h4;subst h5;exact⟨i,term,Nat.le_refl _,p2,h1,h2,by rw[Nat.sub_self];rfl,hy⟩
theorem bv.Inv.takeF(h:t.Inv)(index term:Int)(l:List En):(t.takeF index term l).2.Inv:=by
 unfold bv.takeF;by_cases hc:t.termF index=(term,0)/\ct index 0 term l=true
 ·rw[if_pos hc];obtain⟨h1,h2⟩:=hc;cases hd:t.findDiff l with
  | none=>exact h
  | some p=>
   obtain⟨x,r⟩:=p;obtain⟨j,term',_,h5,h6,h7,_,_⟩:=mn (i:=0) (by rw[show index+((0:Nat):Int)=index by omega];exact h1) h2 hd;obtain⟨h8,h9,pE⟩:=iQ h6;have hc:=h.cut (x.idx-t.index-1).toNat;have hk:(x.idx-t.index-1).toNat<=t.L.length:=by omega
   refine hc.puts (idx:=index) h7 ?_ ?_
   ·rw[hc.last];show _=t.index+((t.L.take _).length:Int);rw[List.length_take,Nat.min_eq_left hk];omega
   ·rw[bv.lastT,pE];show _=jf t.term (t.L.take _) (t.L.take _).length;rw[List.length_take,Nat.min_eq_left hk,qS zl];congr 1;omega
 ·rw[if_neg hc];exact h
end
def FO(n:Int):Int:=if 1<=n/\n<=7 then n/2+1 else 0
theorem ry{n:Int}(h:¬(1<=n/\n<=7)):FO n=0:=if_neg h
theorem oA{n:Int}(h:1<=n/\n<=7):FO n=n/2+1:=if_pos h
theorem nK(n:Int)(w:World):Calls prog 139 #[.int .i64 n] w fun e w'=>e=.returned (.int .i64 (FO n))/\w=w':=by
 by_cases h:1<=n/\n<=7
 ·have Hs:=zH (oA h);obtain⟨h1,h2⟩:=h;go_enter func139,ntmps139
  go_wp2
  go_ret;exact⟨by rw[Hs.out];rfl,rfl⟩
 ·have Hs:=zH (ry h);rcases(show n<1\/(1<=n/\7<n) by omega)with h1|⟨h1,h2⟩
  all_goals
   clear h;go_enter func139,ntmps139
   go_wp2
   go_ret;exact⟨by rw[Hs.out];rfl,rfl⟩
def mL(i t l u:Int):Bool:=decide (u<t\/(t=u/\l<=i))
theorem Cc(i t l u:Int)(w:World):Calls prog 151 #[.int .i64 i,.int .i64 t,.int .i64 l,.int .i64 u] w fun e w'=>e=.returned (.bool (mL i t l u))/\w=w':=by
 rcases Int.lt_trichotomy u t with h|h|h
 ·have Hs:=zH (show mL i t l u=true from decide_eq_true (.inl h));go_enter func151,ntmps151
  go_wp2
  go_ret;exact⟨by rw[Hs.out];rfl,rfl⟩
 ·subst h;have E1:decide (u<u)=false:=by simp
  have E2:((u:Int)==u)=true:=by simp
  by_cases hl:l<=i
  ·have Hs:=zH (show mL i u l u=true from decide_eq_true (.inr ⟨rfl,hl⟩));go_enter func151,ntmps151
   go_wp2
   go_ret;exact⟨by rw[Hs.out];rfl,rfl⟩
  ·have Hs:=zH (show mL i u l u=false from decide_eq_false (by omega));have E3:decide (l<=i)=false:=by simp;omega
   go_enter func151,ntmps151
   go_wp2
   go_ret;exact⟨by rw[Hs.out];rfl,rfl⟩
 ·have Hs:=zH (show mL i t l u=false from decide_eq_false (by omega));have E1:decide (u<t)=false:=by simp;omega
  have E2:((t:Int)==u)=false:=by simp;omega
  have h':¬u<t:=by omega
  go_enter func151,ntmps151
  go_wp2
  go_ret;exact⟨by rw[Hs.out];rfl,rfl⟩
def I1(d:Int):Int:=if d<0 then -(d+1)else d
def lH(d:Int):Int:=10+I1 d%20
theorem Dt{d:Int}(h:d<0):I1 d=-(d+1):=if_pos h
theorem Du{d:Int}(h:¬d<0):I1 d=d:=if_neg h
theorem wH(d:Int)(h1:-9223372036854775808<=d)(h2:d<0):bits .xor .i64 (-1) d=-(d+1):=by
 show IntKind.i64.wrap ((BitVec.ofInt 64 (-1) ^^^ BitVec.ofInt 64 d).toNat:Int)=_;have h1:BitVec.ofInt 64 (-1)=BitVec.allOnes 64:=by decide
 rw[h1,BitVec.allOnes_xor,BitVec.toNat_not,BitVec.toNat_ofInt];simp[IntKind.wrap,IntKind.bits,IntKind.signed];omega
theorem F4(d:Int)(h2:d<0):wrap64 (10+(-(d+1)).tmod 20)=10+-(d+1)%20:=by
 rw[Int.tmod_eq_emod_of_nonneg (by omega)];unfold wrap64;omega
theorem F3(d:Int)(w:World)(h1:-9223372036854775808<=d)(h2:d<=9223372036854775807):Calls prog 49 #[.int .i64 d] w fun e w'=>e=.returned (.int .i64 (lH d))/\w=w':=by
 by_cases h:d<0
 ·have Hs:=zH (show lH d=wrap64 (10+(bits .xor .i64 (-1) d).tmod 20) by unfold lH;rw[Dt h,wH d h1 h,F4 d h]);go_enter func49,ntmps49
  go_wp2
  go_ret;exact⟨by rw[Hs.out];rfl,rfl⟩
 ·have Hs:=zH (Du h);go_enter func49,ntmps49
  go_wp2
  go_ret;exact⟨by unfold lH;rw[Hs.out];rfl,rfl⟩
def FB(x:Nat):Nat:=((List.range 8).filter fun i=>x.testBit i).length
def p1(x:Int):Int:=IntKind.u64.wrap (bits .and .u64 (x/2) 6148914691236517205+bits .and .u64 x 6148914691236517205)
def p2(x:Int):Int:=IntKind.u64.wrap (bits .and .u64 (x/4) 3689348814741910323+bits .and .u64 x 3689348814741910323)
def p3(x:Int):Int:=bits .and .u64 (IntKind.u64.wrap (x/16+x)) 1085102592571150095
def p4(x:Int):Int:=IntKind.u64.wrap (x+x/256)
def p5(x:Int):Int:=IntKind.u64.wrap (x+x/65536)
def p6(x:Int):Int:=IntKind.u64.wrap (x+x/4294967296)
theorem HP:∀x,x<256->bits .and .i64 (wrap64 (p6 (p5 (p4 (p3 (p2 (p1 (x:Nat)))))))) 127=(FB x:Nat):=by decide +kernel
theorem zn(x:Nat)(w:World)(hx:x<256):Calls prog 162 #[.int .u64 x] w fun e w'=>e=.returned (.int .i64 (FB x:Nat))/\w=w':=by
 have Hs:=zH (HP x hx);go_enter func162,ntmps162
 go_wp2
 go_ret;refine⟨?_,rfl⟩;rw[<-Hs.out];rfl
def lX(n:Nat)(l:List Int):Nat:=((List.range n).filter fun i=>decide (((i+1:Nat):Int)∈l)).length
def mh(n:Int)(l:List Int):Bool:=decide ((1<=n/\n<=7)/\n<2*(lX n.toNat l:Int))
theorem AZ(n:Nat)(l:List Int):lX (n+1) l=lX n l+if((n+1:Nat):Int)∈l then 1 else 0:=by
 unfold lX;rw[List.range_succ,List.filter_append,List.length_append];congr 1;by_cases h:((n+1:Nat):Int)∈l
 ·rw[if_pos h,List.filter_cons_of_pos (by exact decide_eq_true h)];rfl
 ·rw[if_neg h,List.filter_cons_of_neg (by simpa using h)];rfl
def wZ(n:Int)(x:Nat)(s:Int):Nat:=if(1<=s/\s<=n)/\s<=7 then x|||2^s.toNat else x
def Cb(n:Int)(l:List Int):Nat:=l.foldl (wZ n) 0
theorem Fj(n:Int)(l:List Int)(s:Int):Cb n (l++[s])=wZ n (Cb n l) s:=by simp[Cb]
theorem AQ(s:Int)(h1:1<=s)(h7:s<=7):2^s.toNat<2^8:=Nat.pow_lt_pow_right (by omega) (by omega)
theorem HL(n:Int)(x:Nat)(s:Int)(h:x<256):wZ n x s<256:=by
 unfold wZ;split
 ·rename_i h';exact Nat.or_lt_two_pow (n:=8) h (AQ s h'.1.1 h'.2)
 ·exact h
theorem Bk{α β:Type}(P:β->Prop)(f:β->α->β)(hf:∀b a,P b->P (f b a))(l:List α):∀b,P b->P (l.foldl f b):=by
 induction l with
 | nil=>intro b h;exact h
 | cons a l ih=>intro b h;exact ih _ (hf b a h)
theorem Fi(n:Int)(l:List Int):Cb n l<256:=Bk (· < 256) _ (fun b a h=>HL n b a h) l 0 (by omega)
theorem Bj(n:Int)(i:Nat)(l:List Int):∀x:Nat,(l.foldl (wZ n) x).testBit i=(x.testBit i||decide ((i:Int)∈l/\1<=i/\(i:Int)<=n/\i<=7)):=by
 induction l with
 | nil=>intro x;simp
 | cons s l ih=>
  intro x;rw[List.foldl_cons,ih];unfold wZ;by_cases h:(1<=s/\s<=n)/\s<=7
  ·rw[if_pos h,Nat.testBit_or,Nat.testBit_two_pow];by_cases e:s.toNat=i
   ·have e':s=(i:Int):=by omega
    subst e';have:(1<=i/\(i:Int)<=n/\i<=7):=by omega
    simp[this]
   ·have e':¬(i:Int)=s:=by omega
    simp[e,e']
  ·rw[if_neg h];by_cases e':(i:Int)=s
   ·subst e';have:¬(1<=i/\(i:Int)<=n/\i<=7):=by omega
    simp[this]
   ·simp[e']
theorem HM(n:Int)(l:List Int)(i:Nat):(Cb n l).testBit i=decide ((i:Int)∈l/\1<=i/\(i:Int)<=n/\i<=7):=by
 unfold Cb;rw[Bj];simp
theorem FC(n:Nat)(hn:n<=7)(l:List Int):FB (Cb n l)=lX n l:=by
 have key:∀k,k<=8->((List.range k).filter fun i=>(Cb n l).testBit i).length=lX (min (k-1) n) l:=by
  intro k;induction k with
  | zero=>intro _;simp[lX]
  | succ k ih=>
   intro hk;rw[List.range_succ,List.filter_append,List.length_append,ih (by omega)];simp only[List.filter_cons,List.filter_nil,HM];by_cases MU:k=0
   ·subst MU;simp
   by_cases Iw:k<=n
   ·obtain⟨j,rfl⟩:∃j,k=j+1:=⟨k-1,by omega⟩;rw[show min (j+1-1) n=j by omega,show min (j+1+1-1) n=j+1 by omega,AZ];by_cases hm:((j+1:Nat):Int)∈l
    ·rw[if_pos hm,if_pos (by simp only[decide_eq_true_eq];exact⟨hm,by omega⟩)];rfl
    ·rw[if_neg hm,if_neg (by simp only[decide_eq_true_eq];exact fun h=>hm h.1)];rfl
   ·rw[show min (k-1) n=min (k+1-1) n by omega,if_neg (by simp only[decide_eq_true_eq];omega)];rfl
 have:=key 8 (by omega);rw[show min (8-1) n=n by omega]at this;exact this
theorem Oc(x:Nat)(hx:x<256)(s:Int)(h1:1<=s)(h7:s<=7):bits .or .u64 (x:Int) (IntKind.u64.wrap (2^s.toNat))=((x|||2^s.toNat:Nat):Int):=by
 have hp:=AQ s h1 h7;have e:IntKind.u64.wrap (2^s.toNat)=((2^s.toNat:Nat):Int):=by
  rw[IntKind.wrap_u64,show((2:Int)^s.toNat)=((2^s.toNat:Nat):Int) by simp];exact Int.emod_eq_of_lt (Int.natCast_nonneg _) (by omega)
 rw[e,bits_or_u64_nat x _ (by omega) (by omega)]
theorem C0{k m c:Nat}(h:k<m)(hc:m<=c)(hm:c<=maxLen):wrap64 ((k:Int)+1)=((k+1:Nat):Int):=by
 unfold maxLen at hm;unfold wrap64;omega
theorem Fo(x:Nat)(w:World)(hx:x<256):Calls prog 150 #[.int .u64 x] w fun e w'=>e=.returned (.int .i64 (FB x:Nat))/\w=w':=by
 go_enter func150,ntmps150;go_wp2_with fail;refine(zn x _ hx).mono ?_;rintro e w' ⟨rfl,rfl⟩;go_wp2_with fail;go_ret;exact⟨rfl,rfl⟩
theorem AU(n:Int)(A:Option Addr)(m c:Nat)(l:List Int)(w:World)(hl:jK w A m l)(hm:c<=maxLen)(uY:m<=c) :
  Calls prog 132 #[.int .i64 n,.slice A m c] w fun e w'=>e=.returned (.bool (mh n l))/\w=w':=by
 have ab:=hl.len;go_enter func132,ntmps132;go_wp2_with fail
 go_loop [5,11] (fun a b=>∃k,k<=m/\a=.int .u64 ((Cb n (l.take k):Nat):Int)/\b=.int .i64 (k:Nat)) (fun a b=>(m-intOf b).toNat)
 case atStart=>exact⟨0,by omega,rfl,rfl⟩
 case round=>
  obtain⟨k,hk,rfl,rfl⟩:=hrel;by_cases bh:k<m
  ·obtain⟨ad,rfl,aQ⟩:=hl.at_ bh;have wk:=C0 bh uY hm;have hx:=Fi n (l.take k);have es:=CM l 0 k (by omega);have hn:Cb n (l.take (k+1))=wZ n (Cb n (l.take k)) (l[k]?.getD 0):=by rw[es,Fj]
   clear es;generalize l[k]?.getD 0=s at *;generalize Cb n (l.take k)=x at *;go_wp2_with fail
   all_goals
    rw[wk];refine⟨⟨k+1,by omega,?_,rfl⟩,by simp[intOf];omega⟩;rw[hn];unfold wZ
    first
     | (rw[if_pos (by omega),Oc x hx s (by omega) (by omega)];done)
     | rw[if_neg (by omega)]
  ·obtain rfl:k=m:=by omega
   rw[List.take_of_length_le (by omega:l.length<=k)];have hx:=Fi n l;by_cases h:1<=n/\n<=7
   ·have hs:=oA h;have hp:FB (Cb n l)=lX n.toNat l:=by
     have:=FC n.toNat (by omega) l
     rwa [show(n.toNat:Int)=n by omega]at this
    have hw:mh n l=decide (n/2+1<=(lX n.toNat l:Nat)):=by
     unfold mh;exact decide_eq_decide.2 (by omega)
    have Hw:=zH hw;clear hw;obtain⟨h1,h2⟩:=h;go_wp2_with fail;refine(nK n _).mono ?_;rintro e w' ⟨rfl,rfl⟩;rw[hs];clear hs;go_wp2_with fail;refine(Fo _ _ hx).mono ?_;rintro e w' ⟨rfl,rfl⟩;rw[hp];go_wp2_with fail;go_ret;exact⟨by rw[Hw.out];rfl,rfl⟩
   ·have hs:=ry h;have Hw:=zH (show mh n l=false from decide_eq_false fun h'=>h h'.1);clear h;go_wp2_with fail;refine(nK n _).mono ?_;rintro e w' ⟨rfl,rfl⟩;rw[hs];clear hs;go_wp2_with fail;go_ret;exact⟨by rw[Hw.out];rfl,rfl⟩
section
open Go.Shelf
def Oe:Go.Shelf.Ren:=⟨fun|189=>140|125=>153|257=>152|128=>172|129=>173|294=>163|295=>164|296=>165|297=>166|298=>167|299=>168|216=>169|300=>170|301=>171|328=>179|329=>180|330=>181|331=>182|332=>183|215=>184|343=>190|n=>n,fun|28=>76|3=>3|46=>197|0=>0|51=>206|53=>208|4=>4|183=>211|182=>210|131=>111|5=>5|9=>9|218=>220|222=>224|228=>227|229=>113|n=>n,fun|n=>n⟩
theorem Ky:Go.Proofs.Lays.n189 prog Oe:={
 mixed:=by kernel_rfl
 f125:=func153.trans (congrArg some (by kernel_rfl))
 f128:=func172.trans (congrArg some (by kernel_rfl))
 f129:=func173.trans (congrArg some (by kernel_rfl))
 f189:=func140.trans (congrArg some (by kernel_rfl))
 f215:=func184.trans (congrArg some (by kernel_rfl))
 f216:=func169.trans (congrArg some (by kernel_rfl))
 f257:=func152.trans (congrArg some (by kernel_rfl))
 f294:=func163.trans (congrArg some (by kernel_rfl))
 f295:=func164.trans (congrArg some (by kernel_rfl))
 f296:=func165.trans (congrArg some (by kernel_rfl))
 f297:=func166.trans (congrArg some (by kernel_rfl))
 f298:=func167.trans (congrArg some (by kernel_rfl))
 f299:=func168.trans (congrArg some (by kernel_rfl))
 f300:=func170.trans (congrArg some (by kernel_rfl))
 f301:=func171.trans (congrArg some (by kernel_rfl))
 f328:=func179.trans (congrArg some (by kernel_rfl))
 f329:=func180.trans (congrArg some (by kernel_rfl))
 f330:=func181.trans (congrArg some (by kernel_rfl))
 f331:=func182.trans (congrArg some (by kernel_rfl))
 f332:=func183.trans (congrArg some (by kernel_rfl))
 f343:=func190.trans (congrArg some (by kernel_rfl))
 t0:=underlying0
 a0:=isAgg0
 z0:=sizeOf0
 v0:=zeroValue0
 t3:=underlying3
 a3:=isAgg3
 z3:=sizeOf3
 v3:=zeroValue3
 t4:=underlying4
 a4:=isAgg4
 z4:=sizeOf4
 v4:=zeroValue4
 t5:=underlying5
 a5:=isAgg5
 z5:=sizeOf5
 v5:=zeroValue5
 t9:=underlying9
 a9:=isAgg9
 z9:=sizeOf9
 v9:=zeroValue9
 t28:=underlying76
 a28:=isAgg76
 z28:=sizeOf76
 v28:=zeroValue76
 t46:=underlying197
 a46:=isAgg197
 z46:=sizeOf197
 v46:=zeroValue197
 t51:=underlying206
 a51:=isAgg206
 z51:=sizeOf206
 v51:=zeroValue206
 t53:=underlying208
 a53:=isAgg208
 z53:=sizeOf208
 v53:=zeroValue208
 t131:=underlying111
 a131:=isAgg111
 z131:=sizeOf111
 v131:=zeroValue111
 t182:=underlying210
 a182:=isAgg210
 z182:=sizeOf210
 v182:=zeroValue210
 t183:=underlying211
 a183:=isAgg211
 z183:=sizeOf211
 v183:=zeroValue211
 t218:=underlying220
 a218:=isAgg220
 z218:=sizeOf220
 v218:=zeroValue220
 t222:=underlying224
 a222:=isAgg224
 z222:=sizeOf224
 v222:=zeroValue224
 t228:=underlying227
 a228:=isAgg227
 z228:=sizeOf227
 v228:=zeroValue227
 t229:=underlying113
 a229:=isAgg113
 z229:=sizeOf113
 v229:=zeroValue113}
end
section
open Go.Sort hiding Below
def oy(N:Nat)(l:List Int)(k:Nat):List Int:=(List.range N).map fun i=>if i<k then max 0 (l[i]?.getD 0)else 0
theorem rh(N:Nat)(l:List Int)(k:Nat):(oy N l k).length=N:=by simp[oy]
theorem lA(N:Nat)(l:List Int)(k i:Nat)(h:i<N):(oy N l k)[i]?=some (if i<k then max 0 (l[i]?.getD 0)else 0):=by
 simp[oy,h]
theorem lS(N:Nat)(l:List Int)(k i:Nat)(h:N<=i):(oy N l k)[i]?=none:=List.getElem?_eq_none (by rw[rh];exact h)
theorem FK(N:Nat)(l:List Int)(k:Nat)(h:k<N):(oy N l k).set k (max 0 (l[k]?.getD 0))=oy N l (k+1):=by
 refine List.ext_getElem? fun i=>?_
 rcases Nat.lt_or_ge i N with hi|hi
 ·rw[lA _ _ _ _ hi,List.getElem?_set];by_cases e:k=i
  ·subst e;rw[if_pos rfl,if_pos (by rw[rh];exact h),if_pos (Nat.lt_succ_self _)]
  ·rw[if_neg e,lA _ _ _ _ hi];by_cases h2:i<k
   ·rw[if_pos h2,if_pos (by omega)]
   ·rw[if_neg h2,if_neg (by omega)]
 ·rw[lS _ _ _ _ hi,List.getElem?_eq_none (by rw[List.length_set,rh];exact hi)]
theorem CA(N:Nat)(l:List Int)(k:Nat)(h:l.length<=k):oy N l (k+1)=oy N l k:=by
 refine List.ext_getElem? fun i=>?_
 rcases Nat.lt_or_ge i N with hi|hi
 ·rw[lA _ _ _ _ hi,lA _ _ _ _ hi];by_cases e:i=k
  ·subst e;rw[if_pos (Nat.lt_succ_self _),if_neg (Nat.lt_irrefl _),List.getElem?_eq_none h];rfl
  ·by_cases h2:i<k
   ·rw[if_pos h2,if_pos (by omega)]
   ·rw[if_neg h2,if_neg (by omega)]
 ·rw[lS _ _ _ _ hi,lS _ _ _ _ hi]
def mN(N:Nat)(l:List Int):List Int:=(List.range N).map fun i=>max 0 (l[i]?.getD 0)
theorem FJ(N:Nat)(l:List Int):oy N l N=mN N l:=by
 unfold oy mN;refine List.map_congr_left fun i hi=>if_pos (List.mem_range.1 hi)
def qO(l:List Int):List Int:=l.mergeSort fun x y=>decide (x<=y)
theorem nA(l:List Int):(qO l).length=l.length:=List.length_mergeSort l
def AW(N:Nat)(l:List Int):Int:=(qO (mN N l))[N-(N/2+1)]?.getD 0
def dC(n:Int)(l:List Int):Int:=if 1<=n/\n<=7 then AW n.toNat l else 0
theorem ya{n:Int}(h:¬(1<=n/\n<=7))(l:List Int):dC n l=0:=if_neg h
theorem iZ{N:Nat}(h:1<=(N:Int)/\(N:Int)<=7)(l:List Int):dC N l=AW N l:=by unfold dC;rw[if_pos h];rfl
theorem tM{g:Nat}{w:World}{xs:Array Int}{n:Nat}{os:Array Obj}(hg:g<w.heap.size):Below g w (grow (putRow (Value.int .i64) (Sort.ahead w n) g 0 xs) os):=by
 refine⟨rfl,rfl,rfl,?_,fun k hk=>?_⟩
 ·simp[grow,putRow,mapBlock,Sort.ahead]
 ·rw[heap_grow_old _ _ (by simp[putRow,mapBlock,Sort.ahead];omega)];simp only[putRow,mapBlock,Array.getElem?_modify];rw[if_neg (by omega)];rfl
theorem FP{w:World}{base g n c:Nat}{T:TypeId}{l:List Int}(h:w.ownsRow base T 1 (.slice (some ⟨g,0,none⟩) n c) n (l.map vi))(hg:g<w.heap.size)(hn:n<=1000000000) :
  Calls prog 140 #[.slice (some ⟨g,0,none⟩) n c] w fun e w'=>e=.returned (.tuple #[])/\(∀j,j<n->w'.cell? ⟨g,j,none⟩=some (.int .i64 ((qO l)[j]?.getD 0)))/\Below g w w':=by
 have hl:l.length=n:=by have:=h.1;simpa using this
 have hH:Holds (Value.int .i64) w g 0 l.toArray:=fun j hj=>by
  have It:j<l.length:=by simpa using hj
  obtain⟨g',e,_,h1,h2⟩:=lw h (k:=j) (by omega);injection e with e;injection e with e;subst e;rw[Nat.zero_add];refine⟨h1.trans ?_,h2⟩;simp[List.getElem?_eq_getElem It]
 have:=Any.slices_Sort_int Ky g 0 c l w hH hg (by omega);rw[hl]at this;refine this.mono ?_;rintro e w' ⟨rfl,q,os,rfl⟩;refine⟨rfl,fun j hj=>?_,tM hg⟩;have V8:Holds (Value.int .i64) (Sort.ahead w q) g 0 l.toArray:=holds_ahead _ _ _ _ _ _ hH;rw[cell?_grow _ _ _ (by simp[putRow,mapBlock,Sort.ahead];exact hg)];have hs:(qO l).toArray.size=l.toArray.size:=by simp[nA]
 have:=(holds_putRow (Value.int .i64) (Sort.ahead w q) g 0 l.toArray (qO l).toArray V8 hs j (by simp[nA];omega)).1;rw[Nat.zero_add]at this;refine this.trans ?_;have:j<(qO l).length:=by rw[nA];omega
 simp[List.getElem?_eq_getElem this]
theorem zf(N:Nat)(l:List Int):(madeCells (Value.int .i64 0).cells (N*1)).toList=(oy N l 0).map vi:=by
 refine List.ext_getElem? fun i=>?_
 rcases Nat.lt_or_ge i N with hi|hi
 ·rw[List.getElem?_map,lA _ _ _ _ hi];simp[madeCells,vi,hi,Value.cells,Nat.mod_one]
 ·rw[List.getElem?_map,lS _ _ _ _ hi];simp[madeCells,hi]
theorem KF{k N:Nat}(h:k<N)(h7:N<=7):wrap64 ((k:Int)+1)=((k+1:Nat):Int):=by
 unfold wrap64;omega
theorem jP(n:Int)(A:Option Addr)(m c:Nat)(l:List Int)(w:World)(hl:jK w A m l) :
  Calls prog 110 #[.int .i64 n,.slice A m c] w fun e w'=>e=.returned (.int .i64 (dC n l))/\Below w.heap.size w w':=by
 have ab:=hl.len;by_cases h:1<=n/\n<=7
 ·obtain⟨N,rfl⟩:∃N:Nat,n=N:=⟨n.toNat,by omega⟩;have Hw:=zH (iZ h l);have hs:=oA h;have Zm:1<=N:=by omega
  have Wi:N<=7:=by omega
  clear h;go_enter func110,ntmps110;go_wp2_with fail;refine(nK _ _).mono ?_;rintro e w' ⟨rfl,rfl⟩;rw[hs];clear hs;go_wp2_with fail;obtain⟨i0,fT,gv,fC,fK⟩:=info_parts qA;obtain⟨w1,kH,r1,r2⟩:=run_make_full (P:=prog) w w.heap.size 76 3 i0 _ 1 underlying76 fT gv fC .i64 .i64 N (by rw[fK];omega) (by unfold maxLen;omega) zl;rw[kH];clear kH;rw[zf N l]at r1;have bH:Below w.heap.size w w1:=zb.grown r2 zl (fun k hk=>by cases hk);go_wp2_with fail
  go_loopw [15] (fun i wr=>∃k:Nat,k<=N/\i=.int .i64 k/\wr.ownsRow w.heap.size 3 1 (.slice (some ⟨w.heap.size,0,none⟩) N N) N ((oy N l k).map vi)/\Below w.heap.size w wr) (fun i _=>N-(intOf i).toNat)
  case atStart=>exact⟨0,Nat.zero_le _,rfl,r1,bH⟩
  case round=>
   obtain⟨k,hk,rfl,aJ,hb⟩:=hrel;by_cases bh:k<N
   ·have wk:=zH (KF bh Wi);by_cases TW:k<m
    ·obtain⟨ad,rfl,fO⟩:=hl.at_ TW;have hc:=(hb.cell (aG fO)).trans fO;have bP:=aJ.stored k (vi (max 0 (l[k]?.getD 0)));rw[<-List.map_set,FK N l k bh]at bP;obtain⟨g',e,_,Nm,sr⟩:=lw aJ bh;injection e with e;injection e with e;subst e;generalize l[k]?.getD 0=x at *;go_wp2_with fail;refine⟨⟨k+1,bh,by go_num,bP.1,hb.setCell zl _⟩,by simp[intOf];omega⟩
    ·have xV:=CA N l k (by omega);go_wp2_with fail;exact⟨⟨k+1,bh,by go_num,by rw[xV];exact aJ,hb⟩,by simp[intOf];omega⟩
   ·obtain rfl:k=N:=by omega
    rw[FJ]at aJ;have gn:w.heap.size<wr.heap.size:=by
     obtain⟨g',e,_,Nm,_⟩:=lw aJ (k:=0) (by omega);injection e with e;injection e with e;subst e;exact aG Nm
    have IL:=FP aJ gn (by omega);go_wp2_with fail;refine IL.mono ?_;rintro e w2 ⟨rfl,Ug,bU⟩;clear IL;have hq:=Ug (k-(k/2+1)) (by omega);clear Ug;have cv:=hb.trans bU;generalize hr:(qO (mN k l))[k-(k/2+1)]?.getD 0=r at hq;have Hr:=zH (Hw.out.trans hr);clear hr Hw r1 r2 bH aJ gn hb bU hl bh hk;rcases(show k=1\/k=2\/k=3\/k=4\/k=5\/k=6\/k=7 by omega)with rfl|rfl|rfl|rfl|rfl|rfl|rfl
    all_goals
     simp only[Nat.reduceDiv,Nat.reduceAdd,Nat.reduceSub]at hq;go_wp2_with fail;go_ret;exact⟨by rw[Hr.out];rfl,cv⟩
 ·have Hw:=zH (ya h l);have hs:=ry h;clear h;go_enter func110,ntmps110;go_wp2_with fail;refine(nK _ _).mono ?_;rintro e w' ⟨rfl,rfl⟩;rw[hs];clear hs;go_wp2_with fail;go_ret;exact⟨by rw[Hw.out];rfl,Below.refl _ _⟩
end
def gU:Int:=1099511627776
structure Hd where
 term:Int
 vote:Int
structure x7 where
 idx:Int
 term:Int
 data:List UInt8
structure Mg where
 kind:Int
 frm:Int
 tgt:Int
 term:Int
 idx:Int
 logTerm:Int
 commit:Int
 round:Int
 reject:Bool
 offset:Int
 total:Int
 entries:List En
 data:List UInt8
structure Ot where
 save:Bool
 reset:Bool
 hard:Hd
 entries:List En
 commits:List En
 snap:Option x7
 reads:List (Int×Int)
 msgs:List Mg
structure Pr where
 next:Int
 mat:Int
 offset:Int
 round:Int
structure Wt where
 ctx:Int
 idx:Int
 round:Int
structure Gt where
 frm:Int
 idx:Int
 term:Int
 total:Int
 data:List UInt8
structure Rf where
 id:Nat
 n:Nat
 hard:Hd
 track:bv
 snap:x7
 commit:Int
 role:Int
 leader:Int
 clock:Int
 wait:Int
 yes:List Int
 peers:List Pr
 round:Int
 waits:List Wt
 gath:Gt
 out:Ot
def Ds:x7:=⟨0,0,[]⟩
def fx:Mg:=⟨0,0,0,0,0,0,0,0,false,0,0,[],[]⟩
def eO:Ot:=⟨false,false,⟨0,0⟩,[],[],none,[],[]⟩
def Dr:Pr:=⟨0,0,0,0⟩
def HZ:Gt:=⟨0,0,0,0,[]⟩
namespace Rf
variable (R:Rf)
def tell:Ot×Rf:=({R.out with hard:=if R.out.save then R.hard else R.out.hard},{R with out:=eO})
def send(m:Mg):Rf:={R with out:={R.out with msgs:=R.out.msgs++[{m with frm:=R.id,term:=if m.term=0 then R.hard.term else m.term}]}}
def save(l:List En):Rf:={R with out:={R.out with save:=true,entries:=R.out.entries++l}}
def peer(s:Nat):Pr:=R.peers[s]?.getD Dr
def setPeer(s:Nat)(p:Pr):Rf:={R with peers:=R.peers.set s p}
def others:List Nat:=(List.range' 1 R.n).filter fun s=>decide (s≠R.id)
def lacks(s:Nat):Rf:=
 if(R.peer s).next-1<R.track.index then
  R.send {fx with kind:=7,tgt:=s,idx:=R.snap.idx,logTerm:=R.snap.term,offset:=(R.peer s).offset,total:=R.snap.data.length,data:=(R.snap.data.drop (R.peer s).offset.toNat).take 160,round:=R.round}
 else R.send {fx with kind:=5,tgt:=s,idx:=(R.peer s).next-1,logTerm:=(R.track.termF ((R.peer s).next-1)).1,entries:=R.track.sliceF (R.peer s).next 6,commit:=R.commit,round:=R.round}
def all:Rf:=R.others.foldl lacks R
def commits(k:Int):Rf:=if R.commit<k then {R with commit:=k,out:={R.out with commits:=R.out.commits++R.track.sliceF (R.commit+1) (k-R.commit)}}else R
def matchL(own:Int)(f:Pr->Int):List Int:=(List.range' 1 R.n).map fun s=>if s=R.id then own else f (R.peer s)
def agreesTo:Int:=dC R.n (R.matchL R.track.lastF.1 Pr.mat)
def agrees:Rf:=if R.commit<R.agreesTo/\R.track.termF R.agreesTo=(R.hard.term,0)then R.commits R.agreesTo else R
def crown:Rf:={R with role:=3,leader:=R.id,clock:=0,peers:=List.replicate (R.n+1) ⟨R.track.lastF.1+1,0,0,0⟩,round:=1,waits:=[]}
def leads1:Rf:=let p:=R.crown.track.putF R.crown.hard.term jx;if p.1.2=0 then {R.crown with track:=p.2}.save [p.1.1]else {R.crown with track:=p.2}
def leads:Rf:=R.leads1.all.agrees
def stands1:Rf:={R with hard:=⟨R.hard.term+1,R.id⟩,role:=2,leader:=0,yes:=[],out:={R.out with save:=true}}
def stands2:Rf:=R.stands1.others.foldl (fun R' (s:Nat)=>R'.send {fx with kind:=3,tgt:=(s:Int),idx:=R.track.lastF.1,logTerm:=R.track.lastF.2}) R.stands1
def says(s:Int):Rf:={R with yes:=R.yes++[s]}
def won:Bool:=mh R.n R.yes
def stands:Rf:=if(R.stands2.says R.id).won then(R.stands2.says R.id).leads else R.stands2.says R.id
def asks1:Rf:={R with role:=1,leader:=0,yes:=[]}
def asks2:Rf:=R.asks1.others.foldl (fun R' (s:Nat)=>R'.send {fx with kind:=1,tgt:=(s:Int),term:=R.hard.term+1,idx:=R.track.lastF.1,logTerm:=R.track.lastF.2}) R.asks1
def asks:Rf:=if(R.asks2.says R.id).won then(R.asks2.says R.id).stands else R.asks2.says R.id
def rest:Rf:={R with clock:=0,wait:=0}
def beats(draw:Int):Rf:=
 let R:={R with clock:=R.clock+1}
 if R.role=3 then
  if 2<=R.clock then {R with clock:=0,round:=R.round+1}.all else R
 else
  let R:=if R.wait=0 then {R with wait:=lH draw}else R
  if R.wait<=R.clock then
   if R.hard.term<gU then R.rest.asks else R.rest
  else R
def tick(draw:Int):Ot×Rf:=(R.beats draw).tell
def numOk(k:Int):Bool:=decide (0<=k)&&decide (k<=gU)
def right(m:Mg):Bool:=(numOk m.idx&&numOk m.logTerm&&numOk m.commit&&numOk m.round&&numOk m.offset&&numOk m.total) &&
 decide ((1<=m.kind/\m.kind<=8)/\m.tgt=R.id/\(1<=m.frm/\m.frm<=R.n)/\m.frm≠R.id/\(1<=m.term/\m.term<=gU)/\m.entries.length<=6/\m.data.length<=160)
def follows(t:Int):Rf:={R with hard:=⟨t,0⟩,role:=0,leader:=0,waits:=[],out:={R.out with save:=true}}
def newer(m:Mg):Bool:=mL m.idx m.logTerm R.track.lastF.1 R.track.lastF.2
def asked(m:Mg):Rf:=
 if(R.role≠3/\(R.leader=0\/10<=R.clock))/\R.hard.term<m.term/\R.newer m=true then R.send {fx with kind:=2,tgt:=m.frm,term:=m.term}
 else R.send {fx with kind:=2,tgt:=m.frm,reject:=true}
def votes(m:Mg):Rf:=
 if(R.hard.vote=0\/R.hard.vote=m.frm)/\R.newer m=true then
  {R.rest with hard:=⟨R.hard.term,m.frm⟩,out:={R.out with save:=true}}.send {fx with kind:=4,tgt:=m.frm,reject:=false}
 else R.send {fx with kind:=4,tgt:=m.frm,reject:=true}
def hears(m:Mg):Rf:={R.rest with role:=0,leader:=m.frm}
def appends(m:Mg):Rf:=
 if m.idx<R.commit then R.send {fx with kind:=6,tgt:=m.frm,idx:=R.commit,round:=m.round}
 else
  let p:=R.track.takeF m.idx m.logTerm m.entries
  if p.1.2=false then R.send {fx with kind:=6,tgt:=m.frm,reject:=true,idx:=R.track.hintF m.idx m.logTerm,round:=m.round}
  else
   let R1:Rf:=if 0<p.1.1 then {R with track:=p.2}.save (p.2.sliceF p.1.1 m.entries.length)else {R with track:=p.2}
   (R1.commits (min m.commit (m.idx+m.entries.length))).send {fx with kind:=6,tgt:=m.frm,idx:=m.idx+m.entries.length,round:=m.round}
def install(x:x7):Rf:=
 let R1:Rf:=if R.track.termF x.idx=(x.term,0)then {R with track:=(R.track.dropF x.idx).2}else {R with track:=⟨x.idx,x.term,[]⟩,out:={R.out with reset:=true}}
 {R1 with snap:=x,commit:=x.idx,gath:=HZ,out:={R1.out with snap:=some x,save:=true}}
def gath1(m:Mg):Gt:=
 let g:=if R.gath.frm=m.frm/\R.gath.idx=m.idx/\R.gath.term=m.logTerm/\R.gath.total=m.total/\m.offset≠0 then R.gath else⟨m.frm,m.idx,m.logTerm,m.total,[]⟩
 if m.offset=g.data.length/\g.data.length+m.data.length<=m.total then {g with data:=g.data++m.data}else g
def piece(m:Mg):Rf:=
 if m.idx=0\/m.logTerm=0\/¬(1<=m.total/\m.total<=65536)then R
 else if m.idx<=R.commit then R.send {fx with kind:=8,tgt:=m.frm,idx:=R.commit,round:=m.round}
 else
  let g:=R.gath1 m
  let R1:Rf:={R with gath:=g}
  if g.data.length<m.total then R1.send {fx with kind:=8,tgt:=m.frm,idx:=m.idx,round:=m.round,offset:=g.data.length,total:=m.total}
  else(R1.install ⟨m.idx,m.logTerm,g.data⟩).send {fx with kind:=8,tgt:=m.frm,idx:=m.idx,round:=m.round}
def has(s:Nat)(index:Int):Rf:=
 let p:=R.peer s
 let last:=R.track.lastF.1
 let mat:=max p.mat (min index last)
 let next:=max p.next (mat+1)
 let R1:=(R.setPeer s ⟨next,mat,if R.track.index<=mat then 0 else p.offset,p.round⟩).agrees
 if next<=last then R1.lacks s else R1
def answered(m:Mg):Rf:=
 let s:=m.frm.toNat
 let p:=R.peer s
 let R1:=R.setPeer s {p with round:=max p.round (min m.round R.round)}
 let p:=R1.peer s
 if m.kind=8/\0<m.total then
  if m.idx=R.snap.idx/\p.next-1<R.snap.idx then(R1.setPeer s {p with offset:=min m.offset R.snap.data.length}).lacks s else R1
 else if m.kind=6/\m.reject=true then(R1.setPeer s {p with next:=max (p.mat+1) (min (p.next-1) (m.idx+1))}).lacks s
 else R1.has s m.idx
def does(m:Mg):Rf:=
 if m.kind=1 then R.asked m
 else if m.kind=2 then
  if m.reject=false/\m.term=R.hard.term+1/\R.role=1 then(if(R.says m.frm).won then(R.says m.frm).stands else R.says m.frm)else R
 else if m.kind=3 then R.votes m
 else if m.kind=4 then
  if m.reject=false/\R.role=2 then(if(R.says m.frm).won then(R.says m.frm).leads else R.says m.frm)else R
 else if m.kind=5 then(if R.role≠3 then(R.hears m).appends m else R)
 else if m.kind=7 then(if R.role≠3 then(R.hears m).piece m else R)
 else if m.kind=8/\m.reject=true then R
 else if R.role=3 then R.answered m else R
def readsTo:Int:=dC R.n (R.matchL R.round Pr.round)
def reads:Rf:={R with waits:=R.waits.filter (fun x=>decide (R.readsTo<x.round)),out:={R.out with reads:=R.out.reads++(R.waits.filter (fun x=>decide (x.round<=R.readsTo))).map fun x=>(x.ctx,x.idx)}}
def late(m:Mg):Rf:=if m.kind=3\/m.kind=5\/m.kind=7 then R.send {fx with kind:=m.kind+1,tgt:=m.frm,reject:=true,round:=m.round}else R
def step(m:Mg):Ot×Rf:=
 if R.right m=false then(eO,R)
 else
  let R1:=if R.hard.term<m.term/\m.kind≠1/\(m.kind≠2\/m.reject=true)then R.follows m.term else R
  if m.term<R1.hard.term/\m.kind≠1 then(R1.late m).tell
  else
   let R2:=R1.does m
   (if R2.role=3 then R2.reads else R2).tell
def propose(c:En):(En×Int×Ot)×Rf:=
 if R.role≠3 then((jx,40,eO),R)
 else
  let p:=R.track.putF R.hard.term c
  if p.1.2≠0 then((jx,p.1.2,eO),{R with track:=p.2})
  else
   let o:=({R with track:=p.2}.save [p.1.1]).all.agrees.tell
   ((p.1.1,0,o.1),o.2)
def read(ctx:Int):(Int×Ot)×Rf:=
 if R.role≠3\/(R.track.termF R.commit).1≠R.hard.term then((40,eO),R)
 else if numOk ctx=false then((1,eO),R)
 else if 16<=R.waits.length then((41,eO),R)
 else
  let o:=({R with round:=R.round+1,waits:=R.waits++[Wt.mk ctx R.commit (R.round+1)]:Rf}.all.reads).tell
  ((0,o.1),o.2)
def compact(index:Int)(data:List UInt8):Int×Rf:=
 if ¬(1<=data.length/\data.length<=65536)then(1,R)
 else if R.commit<index then(33,R)
 else if index<=R.track.index then(0,R)
 else(0,{R with snap:=⟨index,(R.track.termF index).1,data⟩,track:=(R.track.dropF index).2,peers:=R.peers.map fun p=>{p with offset:=0}})
end Rf
structure gk where
 hard:Hd
 snap:x7
 entries:List En
def fe(x:x7):Bool:=if x.idx=0/\x.term=0 then decide (x.data.length=0)else decide ((1<=x.idx/\x.idx<=gU)/\(1<=x.term/\x.term<=gU)/\1<=x.data.length/\x.data.length<=65536)
def Rf.new(id n:Int)(s:gk):Option Rf:=
 if ¬((1<=n/\n<=7)/\(1<=id/\id<=n)/\(0<=s.hard.term/\s.hard.term<=gU)/\(0<=s.hard.vote/\s.hard.vote<=n)/\fe s.snap=true)then none
 else
  let p:=bv.takeF (bv.mk s.snap.idx s.snap.term []) s.snap.idx s.snap.term (s.entries.filter fun x=>decide (s.snap.idx<x.idx))
  if p.1.2=false\/s.hard.term<p.2.lastF.2 then none
  else some (Rf.mk id.toNat n.toNat s.hard p.2 s.snap s.snap.idx 0 0 0 0 [] [] 0 [] HZ eO)
def F8(l:List Int)(k:Nat):Int:=max 0 (l[k]?.getD 0)
def BB(l:List Int)(v:Int)(k:Nat):List Int:=((List.range k).filter fun i=>decide (v<=F8 l i)).map fun i=>((i+1:Nat):Int)
def Ob(N:Nat)(l:List Int)(v:Int):Bool:=mh N (BB l v N)
def O9(N:Nat)(l:List Int)(k:Nat)(b:Int):Prop:=(b=0\/∃i,i<k/\Ob N l (F8 l i)=true/\b=F8 l i)/\0<=b/\∀i,i<k->Ob N l (F8 l i)=true->F8 l i<=b
theorem Cg(l:List Int):(qO l).Perm l:=List.mergeSort_perm l _
theorem xd(l:List Int):(qO l).Pairwise fun x y=>decide (x<=y)=true:=
 List.pairwise_mergeSort (le:=fun(x y:Int)=>decide (x<=y)) (fun a b c h1 h2=>decide_eq_true (Int.le_trans (of_decide_eq_true h1) (of_decide_eq_true h2))) (fun a b=>by rcases Int.le_total a b with h|h <;> simp[h]) l
theorem Dw(N:Nat)(l:List Int)(hN:1<=N):∃S:List Int,S.length=N/\S.Perm (mN N l)/\(∀i j (hi:i<S.length) (hj:j<S.length),i<j->S[i]<=S[j])/\∃h:N-(N/2+1)<S.length,AW N l=S[N-(N/2+1)]:=by
 have hl:(qO (mN N l)).length=N:=by rw[nA];simp[mN]
 refine⟨qO (mN N l),hl,Cg _,fun i j hi hj Ex=>of_decide_eq_true ((List.pairwise_iff_getElem.1 (xd (mN N l))) i j hi hj Ex),by omega,?_⟩;unfold AW;rw[List.getElem?_eq_getElem (by omega)];rfl
theorem Bd(N:Nat)(l:List Int)(v:Int):lX N (BB l v N)=(mN N l).countP fun x=>decide (v<=x):=by
 unfold lX mN;rw[List.countP_map,List.countP_eq_length_filter];refine congrArg List.length (List.filter_congr fun i hi=>?_);have hi:=List.mem_range.1 hi;rw[Bool.eq_iff_iff,decide_eq_true_eq];show _↔decide (v<=F8 l i)=true;rw[decide_eq_true_eq];unfold BB;rw[List.mem_map];constructor
 ·rintro⟨j,hj,e⟩;obtain rfl:j=i:=by omega
  exact of_decide_eq_true (List.mem_filter.1 hj).2
 ·intro h;exact⟨i,List.mem_filter.2 ⟨List.mem_range.2 hi,decide_eq_true h⟩,rfl⟩
theorem uA{N:Nat}(h:1<=N/\N<=7)(l:List Int)(v:Int):Ob N l v=true↔N/2+1<=(mN N l).countP fun x=>decide (v<=x):=by
 unfold Ob mh;rw[decide_eq_true_eq,Int.toNat_natCast,Bd];omega
theorem vO(S:List Int)(hS:∀i j (hi:i<S.length) (hj:j<S.length),i<j->S[i]<=S[j])(j:Nat)(hj:j<S.length):S.length-j<=S.countP fun x=>decide (S[j]<=x):=by
 have e:S.countP (fun x=>decide (S[j]<=x))=(S.take j).countP (fun x=>decide (S[j]<=x))+(S.drop j).countP (fun x=>decide (S[j]<=x)):=by
  rw[<-List.countP_append,List.take_append_drop]
 have h2:(S.drop j).countP (fun x=>decide (S[j]<=x))=(S.drop j).length:=by
  rw[List.countP_eq_length];intro x hx;obtain⟨i,hi,rfl⟩:=List.getElem_of_mem hx;rw[List.getElem_drop];refine decide_eq_true ?_;rcases Nat.eq_zero_or_pos i with h0|h0
  ·subst h0;exact Int.le_refl _
  ·exact hS j (j+i) hj (by rw[List.length_drop]at hi;omega) (by omega)
 rw[e,h2,List.length_drop];omega
theorem DM(S:List Int)(hS:∀i j (hi:i<S.length) (hj:j<S.length),i<j->S[i]<=S[j])(j:Nat)(hj:j<S.length)(v:Int)(hv:S[j]<v):(S.countP fun x=>decide (v<=x))<=S.length-j-1:=by
 have e:S.countP (fun x=>decide (v<=x))=(S.take (j+1)).countP (fun x=>decide (v<=x))+(S.drop (j+1)).countP (fun x=>decide (v<=x)):=by
  rw[<-List.countP_append,List.take_append_drop]
 have h1:(S.take (j+1)).countP (fun x=>decide (v<=x))=0:=by
  rw[List.countP_eq_zero];intro x hx;obtain⟨i,hi,rfl⟩:=List.getElem_of_mem hx;rw[List.getElem_take];have Ex:i<j+1:=by rw[List.length_take]at hi;omega
  have:S[i]'(by omega)<=S[j]:=by
   rcases Nat.lt_succ_iff_lt_or_eq.1 Ex with h|rfl
   ·exact hS i j (by omega) hj h
   ·exact Int.le_refl _
  simp only[decide_eq_true_eq];omega
 have h2:(S.drop (j+1)).countP (fun x=>decide (v<=x))<=(S.drop (j+1)).length:=List.countP_le_length;rw[List.length_drop]at h2;omega
theorem vJ{N:Nat}(h:1<=N/\N<=7){l:List Int}{b:Int}(hb:O9 N l N b):b=AW N l:=by
 obtain⟨S,KR,hp,hS,hj,ha⟩:=Dw N l h.1;have cnt:∀v,((mN N l).countP fun x=>decide (v<=x))=S.countP fun x=>decide (v<=x):=fun v=>(hp.countP_eq _).symm
 obtain⟨i,hi,e⟩:∃i,i<N/\F8 l i=S[N-(N/2+1)]:=by
  have:S[N-(N/2+1)]∈mN N l:=hp.mem_iff.1 (List.getElem_mem _);obtain⟨i,hi,e⟩:=List.mem_map.1 this;exact⟨i,List.mem_range.1 hi,e⟩
 have hx:Ob N l (F8 l i)=true:=by
  rw[uA h,cnt,e];have:=vO S hS _ hj;omega
 have h1:=hb.2.2 i hi hx;have h0:0<=F8 l i:=Int.le_max_left _ _;rw[ha];refine Int.le_antisymm ?_ (by omega);rcases hb.1 with hz|⟨k,hk,ho,rfl⟩
 ·omega
 ·rw[uA h,cnt]at ho;refine Int.not_lt.1 fun bh=>?_
  have:=DM S hS _ hj _ bh;omega
def Da(n:Int)(P:Nat->Prop):Prop:=∃Q:List Int,mh n Q=true/\∀s∈Q,1<=s->s<=n->P s.toNat
theorem FF(p q:Nat->Bool)(N:Nat)(h:∀i,i<N->¬(p i=true/\q i=true)):((List.range N).filter p).length+((List.range N).filter q).length<=N:=by
 induction N with
 | zero=>simp
 | succ N ih=>
  have:=ih fun i hi=>h i (by omega)
  have hN:=h N (by omega);simp only[List.range_succ,List.filter_append,List.length_append];have h1:(List.filter p [N]).length+(List.filter q [N]).length<=1:=by
   cases hp:p N <;> cases hq:q N <;> simp_all
  omega
theorem Od{n:Int}{a b:List Int}(ha:mh n a=true)(hb:mh n b=true):∃s:Int,1<=s/\s<=n/\s∈a/\s∈b:=by
 have ha:=of_decide_eq_true ha;have hb:=of_decide_eq_true hb;refine Classical.byContradiction fun hc=>?_
 have:=FF (fun i=>decide (((i+1:Nat):Int)∈a)) (fun i=>decide (((i+1:Nat):Int)∈b)) n.toNat (fun i hi h=>hc ⟨((i+1:Nat):Int),by omega,by omega,of_decide_eq_true h.1,of_decide_eq_true h.2⟩);have e1:((List.range n.toNat).filter fun i=>decide (((i+1:Nat):Int)∈a)).length=lX n.toNat a:=rfl;have e2:((List.range n.toNat).filter fun i=>decide (((i+1:Nat):Int)∈b)).length=lX n.toNat b:=rfl;rw[e1,e2]at this;omega
theorem Da.meet{n:Int}{P P':Nat->Prop}(h:Da n P)(h':Da n P'):∃s:Nat,1<=s/\(s:Int)<=n/\P s/\P' s:=by
 obtain⟨a,ha,h1⟩:=h;obtain⟨b,hb,h2⟩:=h';obtain⟨s,q1,q2,q3,q4⟩:=Od ha hb;exact⟨s.toNat,by omega,by omega,h1 s q3 q1 q2,h2 s q4 q1 q2⟩
theorem Da.mono{n:Int}{P P':Nat->Prop}(h:Da n P)(hP:∀s:Nat,1<=s->(s:Int)<=n->P s->P' s):Da n P':=by
 obtain⟨Q,h1,h2⟩:=h;exact⟨Q,h1,fun s hs q1 q2=>hP _ (by omega) (by omega) (h2 s hs q1 q2)⟩
structure Gh where
 L:Int->List En
 lead:Int->Nat
 V:Nat->Int->Nat
 A:Nat->Int->Nat
 Sd:Nat->Int->List En
 J:Nat->Int->List En
 E:Nat->Int->Prop
def lastT(l:List En):Int:=match l.getLast? with
 | some x=>x.term
 | none=>0
def qM(a b:List En):Prop:=lastT b<lastT a\/(lastT a=lastT b/\b.length<=a.length)
def mj(l:List En):Prop:=∀(i j:Nat) x y,i<=j->l[i]?=some x->l[j]?=some y->x.term<=y.term
def xF(gh:Gh)(l:List En):Prop:=∀(i:Nat) x,l[i]?=some x->gh.lead x.term≠0/\l.take (i+1)=(gh.L x.term).take (i+1)
def xX(gh:Gh)(l:List En)(t:Int)(k:Nat):Prop:=l.take k=(gh.L t).take k
def dY(gh:Gh)(v:Nat)(T:Int)(l:List En):Prop:=∀t0,t0<T->∀k,k<=gh.A v t0->xX gh l t0 k\/∃t1,t0<t1/\t1<T/\gh.lead t1≠0/\¬xX gh (gh.Sd (gh.lead t1) t1) t0 k
structure tH(n:Int)(gh:Gh):Prop where
 pos:∀t,gh.lead t≠0->1<=t
 vote:∀t,gh.lead t≠0->Da n fun v=>gh.V v t=gh.lead t/\gh.E v t
 ext:∀t,gh.lead t≠0->∃r,gh.L t=gh.Sd (gh.lead t) t++r/\∀x∈r,x.term=t
 old:∀v t,gh.V v t≠0->∀x∈gh.Sd (gh.V v t) t,x.term<t
 logS:∀v t,gh.V v t≠0->mj (gh.Sd (gh.V v t) t)/\xF gh (gh.Sd (gh.V v t) t)
 logL:∀t,gh.lead t≠0->mj (gh.L t)/\xF gh (gh.L t)
 logJ:∀v t,gh.V v t≠0->gh.E v t->mj (gh.J v t)
 newer:∀v t,gh.V v t≠0->gh.E v t->qM (gh.Sd (gh.V v t) t) (gh.J v t)
 keep:∀v t,gh.V v t≠0->gh.E v t->dY gh v t (gh.J v t)
structure cZ(n:Int)(gh:Gh)(t:Int)(k:Nat):Prop where
 lead:gh.lead t≠0
 pos:0<k
 own:∃x,(gh.L t)[k-1]?=some x/\x.term=t
 quo:Da n fun v=>k<=gh.A v t
section
variable {n t:Int}{k:Nat}{gh:Gh}
theorem dI{l:List En}{k i:Nat}(h:i<k):(l.take k)[i]?=l[i]?:=by rw[List.getElem?_take,if_pos h]
theorem xX.at_{l:List En}(h:xX gh l t k){i:Nat}(hi:i<k):l[i]?=(gh.L t)[i]?:=by
 rw[<-dI hi,h,dI hi]
theorem xX.less{l:List En}(h:xX gh l t k){j:Nat}(hj:j<=k):xX gh l t j:=by
 have e:=congrArg (List.take j) h;rw[List.take_take,List.take_take,Nat.min_eq_left hj]at e;exact e
theorem wP{l:List En}{x:En}(h:l.getLast?=some x):lastT l=x.term:=by unfold lastT;rw[h]
theorem HI{l:List En}(hm:mj l){i:Nat}{x:En}(h:l[i]?=some x):x.term<=lastT l:=by
 have hi:=(List.getElem?_eq_some_iff.1 h).1;have hl:l.getLast?=some (l[l.length-1]'(by omega)):=by rw[List.getLast?_eq_getElem?,List.getElem?_eq_getElem (by omega)]
 rw[wP hl];exact hm i (l.length-1) x _ (by omega) h (List.getElem?_eq_getElem (by omega))
theorem cZ.len(h:cZ n gh t k):k<=(gh.L t).length:=by
 obtain⟨x,hx,_⟩:=h.own;have:=(List.getElem?_eq_some_iff.1 hx).1;have:=h.pos;omega
theorem tH.complete(h:tH n gh)(hc:cZ n gh t k):∀t',t<t'->gh.lead t'≠0->xX gh (gh.Sd (gh.lead t') t') t k:=by
 have key:∀(m:Nat) (t':Int),(t'-t).toNat=m->t<t'->gh.lead t'≠0->xX gh (gh.Sd (gh.lead t') t') t k:=by
  intro m;induction m using Nat.strongRecOn with
  | _ m ih=>
   intro t' hm ht hl;obtain⟨v,aM,bE,⟨bb,Se⟩,bc⟩:=(h.vote t' hl).meet hc.quo;have ax:gh.V v t'≠0:=by rw[bb];exact hl
   have hk:=hc.pos;have ab:=hc.len;obtain⟨x,hx,Do⟩:=hc.own;have XG:=h.pos t hc.lead;rcases h.keep v t' ax Se t ht k bc with hJ|⟨t1,h1,h2,h3,h4⟩
   ·have dR:=h.newer v t' ax Se;have hold:=h.old v t' ax;obtain⟨Tu,P7⟩:=h.logS v t' ax;rw[bb]at dR hold Tu P7;obtain⟨S,hS⟩:=zN (gh.Sd (gh.lead t') t');rw[hS]at dR hold Tu P7 ⊢;have Tg:(gh.J v t')[k-1]?=some x:=(hJ.at_ (by omega)).trans hx;have Zj:k<=(gh.J v t').length:=by have:=(List.getElem?_eq_some_iff.1 Tg).1;omega
    have Wa:=HI (h.logJ v t' ax Se) Tg;rw[Do]at Wa;have Wo:t<=lastT S:=by rcases dR with h5|⟨h5,_⟩ <;> omega
    have Wm:S≠[]:=fun e=>by
     rw[e]at Wo;have:lastT []=0:=rfl;omega
    have KR:0<S.length:=List.length_pos_iff.2 Wm;obtain⟨z,hz⟩:∃z,S[S.length-1]?=some z:=⟨_,List.getElem?_eq_getElem (by omega)⟩;have E6:S.getLast?=some z:=by rw[List.getLast?_eq_getElem?];exact hz
    have ZK:=wP E6;obtain⟨fC,fK⟩:=P7 _ z hz;rw[show S.length-1+1=S.length by omega,List.take_length]at fK;have ZJ:=hold z (List.mem_of_getElem? hz);rcases Int.lt_trichotomy z.term t with h5|h5|h5
    ·omega
    ·have P8:k<=S.length:=by
      rcases dR with h6|⟨_,h6⟩
      ·omega
      ·omega
     show S.take k=_;rw[fK,h5,List.take_take,Nat.min_eq_left P8]
    ·have hu:=ih (z.term-t).toNat (by omega) z.term rfl h5 fC;obtain⟨r,hr,_⟩:=h.ext z.term fC;have Ti:(gh.L z.term).take k=(gh.L t).take k:=by
      have nb:k<=(gh.Sd (gh.lead z.term) z.term).length:=by
       have:=congrArg List.length hu;rw[List.length_take,List.length_take]at this;omega
      rw[hr,List.take_append_of_le_length nb];exact hu
     have P8:k<=S.length:=by
      refine Classical.byContradiction fun hn=>?_
      have Yb:(gh.L z.term)[k-1]?=some x:=by
       rw[<-dI (k:=k) (by omega),Ti,dI (by omega)];exact hx
      have Yk:(gh.L z.term)[S.length-1]?=some z:=by
       rw[<-dI (k:=S.length) (by omega),<-fK];exact hz
      have:=(h.logL z.term fC).1 (S.length-1) (k-1) z x (by omega) Yk Yb;omega
     show S.take k=_;rw[<-Ti,fK,List.take_take,Nat.min_eq_left P8]
   ·exact absurd (ih (t1-t).toNat (by omega) t1 rfl h1 h3) h4
 exact fun t'=>key _ t' rfl
theorem tH.completeL(h:tH n gh)(hc:cZ n gh t k){t':Int}(ht:t<=t')(hl:gh.lead t'≠0):xX gh (gh.L t') t k:=by
 rcases Int.lt_or_le t t' with h1|h1
 ·have hu:=h.complete hc t' h1 hl;obtain⟨r,hr,_⟩:=h.ext t' hl;have ab:=hc.len;have nb:k<=(gh.Sd (gh.lead t') t').length:=by
   have:=congrArg List.length hu;rw[List.length_take,List.length_take]at this;omega
  show(gh.L t').take k=_;rw[hr,List.take_append_of_le_length nb];exact hu
 ·have e:t=t':=by omega
  subst e;exact rfl
theorem tH.compat(h:tH n gh){t2:Int}{k2:Nat}(h1:cZ n gh t k)(h2:cZ n gh t2 k2){j:Nat}(hj:j<=k)(Ar:j<=k2):(gh.L t).take j=(gh.L t2).take j:=by
 rcases Int.le_total t t2 with hl|hl
 ·exact((h.completeL h1 hl h2.lead).less hj).symm
 ·exact(h.completeL h2 hl h1.lead).less Ar
end
def eo(l:List En)(i:Nat):Int:=match i with
 | 0=>0
 | i+1=>match l[i]? with
  | some x=>x.term
  | none=>0
def dq(n:Int)(gh:Gh)(T:Int)(l:List En)(c:Nat):Prop:=c=0\/∃t k,cZ n gh t k/\t<=T/\c<=k/\l.take c=(gh.L t).take c
structure eD(n:Int)(gh:Gh):Prop where
 core:tH n gh
 al:∀v t,gh.A v t<=(gh.L t).length
 l0:∀t,gh.lead t=0->gh.L t=[]
 ln:∀t,gh.lead t≠0->(gh.lead t:Int)<=n
 vv:∀v t,gh.V v t≠0->gh.V (gh.V v t) t=gh.V v t
 vp:∀v t,gh.V v t≠0->1<=t
 el:∀v t,gh.lead t=0->gh.V v t≠0->gh.E v t
 li:∀t (j:Nat) x,(gh.L t)[j]?=some x->x.idx=j+1
structure kf(gh gh':Gh):Prop where
 lead:∀t,gh.lead t≠0->gh'.lead t=gh.lead t
 L:∀t,∃r,gh'.L t=gh.L t++r
 V:∀v t,gh.V v t≠0->gh'.V v t=gh.V v t
 A:∀v t,gh.A v t<=gh'.A v t
 Sd:∀c t,gh.V c t=c->c≠0->gh'.Sd c t=gh.Sd c t
 J:∀v t,gh.V v t≠0->gh'.J v t=gh.J v t
 E:∀v t,gh.V v t≠0->(gh'.E v t↔gh.E v t)
section
variable {n T t:Int}{k c v i:Nat}{gh gh' gh2:Gh}{l F:List En}
theorem kf.refl(gh:Gh):kf gh gh:=⟨fun _ _=>rfl,fun t=>⟨[],(List.append_nil _).symm⟩,fun _ _ _=>rfl,fun _ _=>Nat.le_refl _,fun _ _ _ _=>rfl,fun _ _ _=>rfl,fun _ _ _=>Iff.rfl⟩
theorem kf.trans(h:kf gh gh')(h':kf gh' gh2):kf gh gh2 where
 lead t ht:=(h'.lead t (by rw[h.lead t ht];exact ht)).trans (h.lead t ht)
 L t:=by
  obtain⟨r,e⟩:=h.L t;obtain⟨r',e'⟩:=h'.L t;exact⟨r++r',by rw[e',e,List.append_assoc]⟩
 V v t hv:=(h'.V v t (by rw[h.V v t hv];exact hv)).trans (h.V v t hv)
 A v t:=Nat.le_trans (h.A v t) (h'.A v t)
 Sd c t hc h0:=(h'.Sd c t (by rw[h.V c t (by rw[hc];exact h0)];exact hc) h0).trans (h.Sd c t hc h0)
 J v t hv:=(h'.J v t (by rw[h.V v t hv];exact hv)).trans (h.J v t hv)
 E v t hv:=(h'.E v t (by rw[h.V v t hv];exact hv)).trans (h.E v t hv)
theorem kf.take(h:kf gh gh')(hk:k<=(gh.L t).length):(gh'.L t).take k=(gh.L t).take k:=by
 obtain⟨r,e⟩:=h.L t;rw[e,List.take_append_of_le_length hk]
theorem kf.has(h:kf gh gh')(hk:k<=(gh.L t).length):xX gh' l t k↔xX gh l t k:=by
 unfold xX;rw[h.take hk]
theorem kf.len(h:kf gh gh')(t:Int):(gh.L t).length<=(gh'.L t).length:=by
 obtain⟨r,e⟩:=h.L t;rw[e,List.length_append];omega
theorem dJ{a b:List En}{i:Nat}(h:a.take i=b.take i)(ha:i<=a.length):i<=b.length:=by
 have:=congrArg List.length h;rw[List.length_take,List.length_take]at this;omega
theorem xF.len(h:xF gh l){j:Nat}{x:En}(hx:l[j]?=some x):j+1<=(gh.L x.term).length:=
 dJ (h j x hx).2 (by have:=(List.getElem?_eq_some_iff.1 hx).1;omega)
theorem xF.ext(h:xF gh l)(e:kf gh gh'):xF gh' l:=fun j x hx=>by
 obtain⟨h1,h2⟩:=h j x hx;exact⟨by rw[e.lead _ h1];exact h1,by rw[e.take (h.len hx)];exact h2⟩
theorem xF.take(h:xF gh l)(k:Nat):xF gh (l.take k):=fun j x hx=>by
 rw[List.getElem?_take]at hx;split at hx
 ·rename_i hj;obtain⟨h1,h2⟩:=h j x hx;exact⟨h1,by rw[List.take_take,Nat.min_eq_left (by omega)];exact h2⟩
 ·cases hx
theorem mj.take(h:mj l)(k:Nat):mj (l.take k):=fun i j x y Ex hx hy=>by
 rw[List.getElem?_take]at hx hy;split at hx
 ·split at hy
  ·exact h i j x y Ex hx hy
  ·cases hy
 ·cases hx
theorem cZ.ext(h:cZ n gh t k)(e:kf gh gh'):cZ n gh' t k where
 lead:=by rw[e.lead _ h.lead];exact h.lead
 pos:=h.pos
 own:=by
  obtain⟨x,hx,ht⟩:=h.own;obtain⟨r,er⟩:=e.L t;exact⟨x,by rw[er,List.getElem?_append_left (List.getElem?_eq_some_iff.1 hx).1];exact hx,ht⟩
 quo:=h.quo.mono fun s _ _ hs=>Nat.le_trans hs (e.A s t)
theorem dq.ext(h:dq n gh T l c)(e:kf gh gh'):dq n gh' T l c:=by
 rcases h with h|⟨t,k,h1,h2,h3,h4⟩
 ·exact .inl h
 ·exact .inr ⟨t,k,h1.ext e,h2,h3,by rw[e.take (Nat.le_trans h3 h1.len)];exact h4⟩
theorem dq.up{T':Int}(h:dq n gh T l c)(hT:T<=T'):dq n gh T' l c:=by
 rcases h with h|⟨t,k,h1,h2,h3,h4⟩
 ·exact .inl h
 ·exact .inr ⟨t,k,h1,Int.le_trans h2 hT,h3,h4⟩
theorem dq.less(h:dq n gh T l c){j:Nat}(hj:j<=c):dq n gh T l j:=by
 rcases h with h|⟨t,k,h1,h2,h3,h4⟩
 ·exact .inl (by omega)
 ·refine .inr ⟨t,k,h1,h2,Nat.le_trans hj h3,?_⟩;have e:=congrArg (List.take j) h4;rw[List.take_take,List.take_take,Nat.min_eq_left hj]at e;exact e
theorem dq.len(h:dq n gh T l c):c<=l.length:=by
 rcases h with h|⟨t,k,h1,h2,h3,h4⟩
 ·omega
 ·exact dJ h4.symm (Nat.le_trans h3 h1.len)
theorem dq.leader(hc:tH n gh)(h:dq n gh T l c)(hT:gh.lead t≠0)(ht:T<=t):(gh.L t).take c=l.take c/\c<=(gh.L t).length:=by
 rcases h with h|⟨t0,k,h1,h2,h3,h4⟩
 ·subst h;exact⟨rfl,Nat.zero_le _⟩
 ·have hh:(gh.L t).take c=l.take c:=((hc.completeL h1 (Int.le_trans h2 ht) hT).less h3).trans h4.symm;exact⟨hh,dJ (h4.trans ((hc.completeL h1 (Int.le_trans h2 ht) hT).less h3).symm) (dJ h4.symm (Nat.le_trans h3 h1.len))⟩
theorem dq.compat(hc:tH n gh){T':Int}{l':List En}{c':Nat}(h:dq n gh T l c)(h':dq n gh T' l' c'){j:Nat}(hj:j<=c)(It:j<=c'):l.take j=l'.take j:=by
 rcases h with h|⟨t,k,h1,_,h3,h4⟩
 ·have:j=0:=by omega
  subst this;rfl
 ·rcases h' with h|⟨t',k',sa,_,yt,Ps⟩
  ·have:j=0:=by omega
   subst this;rfl
  ·have a:=congrArg (List.take j) h4;have b:=congrArg (List.take j) Ps;rw[List.take_take,List.take_take,Nat.min_eq_left hj]at a;rw[List.take_take,List.take_take,Nat.min_eq_left It]at b;rw[a,b];exact hc.compat h1 sa (by omega) (by omega)
theorem dY.ext(hb:eD n gh)(h:dY gh v T l)(e:kf gh gh')(hA:∀t0,t0<T->gh'.A v t0=gh.A v t0):dY gh' v T l:=fun t0 h0 k hk=>by
 rw[hA t0 h0]at hk;have hl:=Nat.le_trans hk (hb.al v t0);rcases h t0 h0 k hk with h1|⟨t1,h1,h2,h3,h4⟩
 ·exact .inl ((e.has hl).2 h1)
 ·refine .inr ⟨t1,h1,h2,by rw[e.lead _ h3];exact h3,fun h5=>h4 ?_⟩;have hv:gh.V (gh.lead t1) t1=gh.lead t1:=by
   obtain⟨s,_,_,⟨hs,_⟩,_⟩:=(hb.core.vote t1 h3).meet (hb.core.vote t1 h3);have:=hb.vv s t1 (by rw[hs];exact h3);rw[hs]at this;exact this
  rw[e.lead _ h3,e.Sd _ _ hv h3]at h5;exact(e.has hl).1 h5
end
def vq{α:Type}(f:Nat->Int->α)(i:Nat)(t:Int)(x:α):Nat->Int->α:=fun a b=>if a=i/\b=t then x else f a b
def zX{α:Type}(f:Int->α)(t:Int)(x:α):Int->α:=fun b=>if b=t then x else f b
section
variable {n T t:Int}{k c v i:Nat}{gh gh':Gh}{l F:List En}{α:Type}
theorem cS{f:Nat->Int->α}{x:α}:vq f i t x i t=x:=if_pos ⟨rfl,rfl⟩
theorem dj{f:Nat->Int->α}{x:α}{a:Nat}{b:Int}(h:¬(a=i/\b=t)):vq f i t x a b=f a b:=if_neg h
theorem dK{f:Int->α}{x:α}:zX f t x t=x:=if_pos rfl
theorem dP{f:Int->α}{x:α}{b:Int}(h:b≠t):zX f t x b=f b:=if_neg h
def Gh.stand(gh:Gh)(i:Nat)(T:Int)(F:List En):Gh:={gh with V:=vq gh.V i T i,Sd:=vq gh.Sd i T F,J:=vq gh.J i T F,E:=vq gh.E i T True}
def Gh.voted(gh:Gh)(v:Nat)(T:Int)(c:Nat)(F:List En):Gh:={gh with V:=vq gh.V v T c,J:=vq gh.J v T F,E:=vq gh.E v T (gh.lead T=0)}
def Gh.leads(gh:Gh)(i:Nat)(T:Int)(F:List En):Gh:={gh with lead:=zX gh.lead T i,L:=zX gh.L T F}
def Gh.put(gh:Gh)(i:Nat)(T:Int)(e:En):Gh:={gh with L:=zX gh.L T (gh.L T++[e])}
def Gh.took(gh:Gh)(v:Nat)(T:Int)(k:Nat):Gh:={gh with A:=vq gh.A v T (max (gh.A v T) k)}
theorem eD.self(hb:eD n gh)(h:gh.lead t≠0):gh.V (gh.lead t) t=gh.lead t:=by
 obtain⟨s,_,_,⟨hs,_⟩,_⟩:=(hb.core.vote t h).meet (hb.core.vote t h);have:=hb.vv s t (by rw[hs];exact h);rw[hs]at this;exact this
theorem zj(l:List En):qM l l:=.inr ⟨rfl,Nat.le_refl _⟩
theorem eD.stand(hb:eD n gh)(hi:i≠0)(hT:1<=T)(hV:gh.V i T=0)(hm:mj F)(ha:xF gh F)(ho:∀x∈F,x.term<T)(hk:dY gh i T F):kf gh (gh.stand i T F)/\eD n (gh.stand i T F):=by
 have dn:∀v,gh.V v T≠i:=fun v e=>by
  have:=hb.vv v T (by rw[e];exact hi);rw[e,hV]at this;exact hi this.symm
 have hl:gh.lead T≠i:=fun e=>by
  have:=hb.self (t:=T) (by rw[e];exact hi);rw[e,hV]at this;exact hi this.symm
 have e:kf gh (gh.stand i T F):={
  lead:=fun _ _=>rfl
  L:=fun _=>⟨[],(List.append_nil _).symm⟩
  V:=fun v t hv=>dj fun h=>by obtain⟨rfl,rfl⟩:=h;exact hv hV
  A:=fun _ _=>Nat.le_refl _
  Sd:=fun c t hc h0=>dj fun h=>by obtain⟨rfl,rfl⟩:=h;rw[hV]at hc;exact h0 hc.symm
  J:=fun v t hv=>dj fun h=>by obtain⟨rfl,rfl⟩:=h;exact hv hV
  E:=fun v t hv=>iff_of_eq (dj fun h=>by obtain⟨rfl,rfl⟩:=h;exact hv hV)}
 have cases_V:∀v t,(gh.stand i T F).V v t≠0->(v=i/\t=T/\(gh.stand i T F).V v t=i/\(gh.stand i T F).Sd i T=F/\(gh.stand i T F).J v t=F)\/
   (gh.V v t≠0/\(gh.stand i T F).V v t=gh.V v t/\(gh.stand i T F).Sd (gh.V v t) t=gh.Sd (gh.V v t) t/\(gh.stand i T F).J v t=gh.J v t/\(gh.stand i T F).E v t=gh.E v t):=fun v t hv=>by
  by_cases h:v=i/\t=T
  ·obtain⟨rfl,rfl⟩:=h;exact .inl ⟨rfl,rfl,cS,cS,cS⟩
  ·have h1:(gh.stand i T F).V v t=gh.V v t:=dj h;rw[h1]at hv;refine .inr ⟨hv,h1,dj fun h2=>?_,dj h,dj h⟩;obtain⟨h3,rfl⟩:=h2;exact dn v h3
 have Dg:∀{v t l},dY gh v t l->dY (gh.stand i T F) v t l:=fun h=>h.ext hb e fun _ _=>rfl
 refine⟨e,⟨⟨hb.core.pos,fun t ht=>?_,fun t ht=>?_,fun v t hv=>?_,fun v t hv=>?_,fun t ht=>?_,fun v t hv hE=>?_,fun v t hv hE=>?_,fun v t hv hE=>?_⟩,hb.al,hb.l0,hb.ln,fun v t hv=>?_,fun v t hv=>?_,fun v t ht hv=>?_,hb.li⟩⟩
 ·exact(hb.core.vote t ht).mono fun s _ _ hs=>⟨(e.V s t (by rw[hs.1];exact ht)).trans hs.1,(e.E s t (by rw[hs.1];exact ht)).2 hs.2⟩
 ·obtain⟨r,h1,h2⟩:=hb.core.ext t ht;refine⟨r,?_,h2⟩;show gh.L t=vq gh.Sd i T F (gh.lead t) t++r;rw[dj fun h=>by obtain⟨h3,rfl⟩:=h;exact hl h3];exact h1
 ·rcases cases_V v t hv with⟨rfl,rfl,h1,h2,_⟩|⟨h0,h1,h2,_⟩
  ·rw[h1,h2];exact ho
  ·rw[h1,h2];exact hb.core.old v t h0
 ·rcases cases_V v t hv with⟨rfl,rfl,h1,h2,_⟩|⟨h0,h1,h2,_⟩
  ·rw[h1,h2];exact⟨hm,ha.ext e⟩
  ·rw[h1,h2];exact⟨(hb.core.logS v t h0).1,(hb.core.logS v t h0).2.ext e⟩
 ·exact⟨(hb.core.logL t ht).1,(hb.core.logL t ht).2.ext e⟩
 ·rcases cases_V v t hv with⟨rfl,rfl,_,_,h3⟩|⟨h0,_,_,h3,h4⟩
  ·rw[h3];exact hm
  ·rw[h4]at hE;rw[h3];exact hb.core.logJ v t h0 hE
 ·rcases cases_V v t hv with⟨rfl,rfl,h1,h2,h3⟩|⟨h0,h1,h2,h3,h4⟩
  ·rw[h1,h2,h3];exact zj F
  ·rw[h4]at hE;rw[h1,h2,h3];exact hb.core.newer v t h0 hE
 ·rcases cases_V v t hv with⟨rfl,rfl,_,_,h3⟩|⟨h0,_,_,h3,h4⟩
  ·rw[h3];exact Dg hk
  ·rw[h4]at hE;rw[h3];exact Dg (hb.core.keep v t h0 hE)
 ·rcases cases_V v t hv with⟨rfl,rfl,h1,_⟩|⟨h0,h1,_⟩
  ·rw[h1];exact h1
  ·rw[h1];have:=hb.vv v t h0;exact(e.V _ t (by rw[this];exact h0)).trans this
 ·rcases cases_V v t hv with⟨rfl,rfl,_⟩|⟨h0,_⟩
  ·exact hT
  ·exact hb.vp v t h0
 ·rcases cases_V v t hv with⟨rfl,rfl,_⟩|⟨h0,_,_,_,h4⟩
  ·show vq gh.E v t True v t;rw[cS];exact trivial
  ·rw[h4];exact hb.el v t ht h0
theorem eD.voted(hb:eD n gh)(fO:c≠0)(hV:gh.V v T=0)(hc:gh.V c T=c)(hm:mj F)(hn:qM (gh.Sd c T) F)(hk:gh.lead T=0->dY gh v T F):kf gh (gh.voted v T c F)/\eD n (gh.voted v T c F):=by
 have Up:c≠v:=fun e=>by subst e;rw[hV]at hc;exact fO hc.symm
 have e:kf gh (gh.voted v T c F):={
  lead:=fun _ _=>rfl
  L:=fun _=>⟨[],(List.append_nil _).symm⟩
  V:=fun w t hw=>dj fun h=>by obtain⟨rfl,rfl⟩:=h;exact hw hV
  A:=fun _ _=>Nat.le_refl _
  Sd:=fun _ _ _ _=>rfl
  J:=fun w t hw=>dj fun h=>by obtain⟨rfl,rfl⟩:=h;exact hw hV
  E:=fun w t hw=>iff_of_eq (dj fun h=>by obtain⟨rfl,rfl⟩:=h;exact hw hV)}
 have cases_V:∀w t,(gh.voted v T c F).V w t≠0->(w=v/\t=T/\(gh.voted v T c F).V w t=c/\(gh.voted v T c F).J w t=F/\((gh.voted v T c F).E w t->gh.lead T=0))\/
   (gh.V w t≠0/\(gh.voted v T c F).V w t=gh.V w t/\(gh.voted v T c F).J w t=gh.J w t/\(gh.voted v T c F).E w t=gh.E w t):=fun w t hw=>by
  by_cases h:w=v/\t=T
  ·obtain⟨rfl,rfl⟩:=h;exact .inl ⟨rfl,rfl,cS,cS,fun h=>by rw[show(gh.voted w t c F).E w t=(gh.lead t=0)from cS]at h;exact h⟩
  ·have h1:(gh.voted v T c F).V w t=gh.V w t:=dj h;rw[h1]at hw;exact .inr ⟨hw,h1,dj h,dj h⟩
 have Dg:∀{v' t l},dY gh v' t l->dY (gh.voted v T c F) v' t l:=fun h=>h.ext hb e fun _ _=>rfl
 have Ao:gh.V c T≠0:=by rw[hc];exact fO
 have hS:=hb.core.logS c T Ao;have hO:=hb.core.old c T Ao;rw[hc]at hS hO;refine⟨e,⟨⟨hb.core.pos,fun t ht=>?_,fun t ht=>?_,fun w t hw=>?_,fun w t hw=>?_,fun t ht=>?_,fun w t hw hE=>?_,fun w t hw hE=>?_,fun w t hw hE=>?_⟩,hb.al,hb.l0,hb.ln,fun w t hw=>?_,fun w t hw=>?_,fun w t ht hw=>?_,hb.li⟩⟩
 ·exact(hb.core.vote t ht).mono fun s _ _ hs=>⟨(e.V s t (by rw[hs.1];exact ht)).trans hs.1,(e.E s t (by rw[hs.1];exact ht)).2 hs.2⟩
 ·exact hb.core.ext t ht
 ·rcases cases_V w t hw with⟨rfl,rfl,h1,_⟩|⟨h0,h1,_⟩
  ·rw[h1];exact hO
  ·rw[h1];exact hb.core.old w t h0
 ·rcases cases_V w t hw with⟨rfl,rfl,h1,_⟩|⟨h0,h1,_⟩
  ·rw[h1];exact⟨hS.1,hS.2.ext e⟩
  ·rw[h1];exact⟨(hb.core.logS w t h0).1,(hb.core.logS w t h0).2.ext e⟩
 ·exact⟨(hb.core.logL t ht).1,(hb.core.logL t ht).2.ext e⟩
 ·rcases cases_V w t hw with⟨rfl,rfl,_,h3,_⟩|⟨h0,_,h3,h4⟩
  ·rw[h3];exact hm
  ·rw[h4]at hE;rw[h3];exact hb.core.logJ w t h0 hE
 ·rcases cases_V w t hw with⟨rfl,rfl,h1,h3,_⟩|⟨h0,h1,h3,h4⟩
  ·rw[h1,h3];exact hn
  ·rw[h4]at hE;rw[h1,h3];exact hb.core.newer w t h0 hE
 ·rcases cases_V w t hw with⟨rfl,rfl,_,h3,h4⟩|⟨h0,_,h3,h4⟩
  ·rw[h3];exact Dg (hk (h4 hE))
  ·rw[h4]at hE;rw[h3];exact Dg (hb.core.keep w t h0 hE)
 ·rcases cases_V w t hw with⟨rfl,rfl,h1,_⟩|⟨h0,h1,_⟩
  ·rw[h1];exact(e.V c t Ao).trans hc
  ·rw[h1];have:=hb.vv w t h0;exact(e.V _ t (by rw[this];exact h0)).trans this
 ·rcases cases_V w t hw with⟨rfl,rfl,_⟩|⟨h0,_⟩
  ·exact hb.vp c t Ao
  ·exact hb.vp w t h0
 ·rcases cases_V w t hw with⟨rfl,rfl,_⟩|⟨h0,_,_,h4⟩
  ·rw[show(gh.voted w t c F).E w t=(gh.lead t=0)from cS];exact ht
  ·rw[h4];exact hb.el w t ht h0
theorem eD.leads(hb:eD n gh)(hi:i≠0)(kX:(i:Int)<=n)(hl:gh.lead T=0)(hV:gh.V i T=i)(hS:gh.Sd i T=F)(hq:Da n fun v=>gh.V v T=i)(ME:∀(j:Nat) x,F[j]?=some x->x.idx=j+1):kf gh (gh.leads i T F)/\eD n (gh.leads i T F):=by
 have Tv:gh.V i T≠0:=by rw[hV];exact hi
 have hL:gh.L T=[]:=hb.l0 T hl;have EE:=hb.core.logS i T Tv;rw[hV,hS]at EE;have e:kf gh (gh.leads i T F):={
  lead:=fun t ht=>dP fun h=>by subst h;exact ht hl
  L:=fun t=>by
   by_cases h:t=T
   ·subst h;exact⟨F,(show zX gh.L t F t=_ from dK).trans (by rw[hL];rfl)⟩
   ·exact⟨[],(show zX gh.L T F t=_ from dP h).trans (List.append_nil _).symm⟩
  V:=fun _ _ _=>rfl
  A:=fun _ _=>Nat.le_refl _
  Sd:=fun _ _ _ _=>rfl
  J:=fun _ _ _=>rfl
  E:=fun _ _ _=>Iff.rfl}
 have Dg:∀{v' t l},dY gh v' t l->dY (gh.leads i T F) v' t l:=fun h=>h.ext hb e fun _ _=>rfl
 refine⟨e,⟨⟨fun t ht=>?_,fun t ht=>?_,fun t ht=>?_,hb.core.old,fun w t hw=>⟨(hb.core.logS w t hw).1,(hb.core.logS w t hw).2.ext e⟩,fun t ht=>?_,hb.core.logJ,hb.core.newer,fun w t hw hE=>Dg (hb.core.keep w t hw hE)⟩,fun w t=>Nat.le_trans (hb.al w t) (e.len t),fun t ht=>?_,fun t ht=>?_,hb.vv,hb.vp,fun w t ht hw=>?_,fun t j x hx=>?_⟩⟩
 ·by_cases h:t=T
  ·subst h;exact hb.vp i t Tv
  ·exact hb.core.pos t (by rw[<-(show(gh.leads i T F).lead t=_ from dP h)];exact ht)
 ·by_cases h:t=T
  ·subst h;show Da n fun v=>gh.V v t=zX gh.lead t i t/\gh.E v t
   rw[dK];exact hq.mono fun s _ _ hs=>⟨hs,hb.el s t hl (by rw[hs];exact hi)⟩
  ·have h1:(gh.leads i T F).lead t=gh.lead t:=dP h;rw[h1]at ht ⊢;exact hb.core.vote t ht
 ·by_cases h:t=T
  ·subst h;refine⟨[],?_,fun x hx=>by cases hx⟩;show zX gh.L t F t=gh.Sd (zX gh.lead t i t) t++[];rw[dK,dK,List.append_nil,hS]
  ·have h1:(gh.leads i T F).lead t=gh.lead t:=dP h;have h2:(gh.leads i T F).L t=gh.L t:=dP h;rw[h1]at ht ⊢;rw[h2];exact hb.core.ext t ht
 ·by_cases h:t=T
  ·subst h;have h2:(gh.leads i t F).L t=F:=dK;rw[h2];exact⟨EE.1,EE.2.ext e⟩
  ·have h1:(gh.leads i T F).lead t=gh.lead t:=dP h;have h2:(gh.leads i T F).L t=gh.L t:=dP h;rw[h1]at ht;rw[h2];exact⟨(hb.core.logL t ht).1,(hb.core.logL t ht).2.ext e⟩
 ·by_cases h:t=T
  ·subst h;exact absurd ((show zX gh.lead t i t=i from dK).symm.trans ht) hi
  ·have h1:(gh.leads i T F).lead t=gh.lead t:=dP h;have h2:(gh.leads i T F).L t=gh.L t:=dP h;rw[h1]at ht;rw[h2];exact hb.l0 t ht
 ·by_cases h:t=T
  ·subst h;show((zX gh.lead t i t:Nat):Int)<=n;rw[dK];exact kX
  ·have h1:(gh.leads i T F).lead t=gh.lead t:=dP h;rw[h1]at ht ⊢;exact hb.ln t ht
 ·by_cases h:t=T
  ·subst h;exact absurd ((show zX gh.lead t i t=i from dK).symm.trans ht) hi
  ·exact hb.el w t ((show zX gh.lead T i t=gh.lead t from dP h).symm.trans ht) hw
 ·by_cases h:t=T
  ·subst h;rw[show(gh.leads i t F).L t=F from dK]at hx;exact ME j x hx
  ·rw[show(gh.leads i T F).L t=gh.L t from dP h]at hx;exact hb.li t j x hx
theorem eD.top(hb:eD n gh)(hl:gh.lead T≠0):∀x∈gh.L T,x.term<=T:=fun x hx=>by
 obtain⟨r,h1,h2⟩:=hb.core.ext T hl;have h3:=hb.self hl;have h4:=hb.core.old (gh.lead T) T (by rw[h3];exact hl);rw[h3]at h4;rw[h1]at hx;rcases List.mem_append.1 hx with h|h
 ·have:=h4 x h;omega
 ·have:=h2 x h;omega
theorem eD.put{e:En}(hb:eD n gh)(hl:gh.lead T=i)(hi:i≠0)(he:e.term=T)(hx:e.idx=((gh.L T).length:Int)+1):kf gh (gh.put i T e)/\eD n (gh.put i T e):=by
 have ir:gh.lead T≠0:=by rw[hl];exact hi
 have eL:(gh.put i T e).L T=gh.L T++[e]:=dK;have ex:kf gh (gh.put i T e):={
  lead:=fun _ _=>rfl
  L:=fun t=>by
   by_cases h:t=T
   ·subst h;exact⟨[e],dK⟩
   ·exact⟨[],(show zX gh.L T _ t=_ from dP h).trans (List.append_nil _).symm⟩
  V:=fun _ _ _=>rfl
  A:=fun _ _=>Nat.le_refl _
  Sd:=fun _ _ _ _=>rfl
  J:=fun _ _ _=>rfl
  E:=fun _ _ _=>Iff.rfl}
 have Dg:∀{v' t l},dY gh v' t l->dY (gh.put i T e) v' t l:=fun h=>h.ext hb ex fun _ _=>rfl
 refine⟨ex,⟨⟨hb.core.pos,hb.core.vote,fun t ht=>?_,hb.core.old,fun w t hw=>⟨(hb.core.logS w t hw).1,(hb.core.logS w t hw).2.ext ex⟩,fun t ht=>?_,hb.core.logJ,hb.core.newer,fun w t hw hE=>Dg (hb.core.keep w t hw hE)⟩,fun w t=>Nat.le_trans (hb.al w t) (ex.len t),fun t ht=>?_,hb.ln,hb.vv,hb.vp,hb.el,fun t j y hy=>?_⟩⟩
 ·by_cases h:t=T
  ·subst h;obtain⟨r,h1,h2⟩:=hb.core.ext t ht;refine⟨r++[e],by rw[eL,h1,List.append_assoc];rfl,fun x hx=>?_⟩;rcases List.mem_append.1 hx with h3|h3
   ·exact h2 x h3
   ·rw[List.mem_singleton.1 h3];exact he
  ·have h2:(gh.put i T e).L t=gh.L t:=dP h;rw[h2];exact hb.core.ext t ht
 ·by_cases h:t=T
  ·subst h;obtain⟨h1,h2⟩:=hb.core.logL t ht;have yV:=hb.top ht;rw[eL];refine⟨fun a b x y hab hx hy=>?_,fun j x hx=>?_⟩
   ·rcases Nat.lt_or_ge b (gh.L t).length with h3|h3
    ·rw[List.getElem?_append_left (by omega)]at hx hy;exact h1 a b x y hab hx hy
    ·have bU:b=(gh.L t).length:=by
      have:=(List.getElem?_eq_some_iff.1 hy).1;rw[List.length_append,List.length_singleton]at this;omega
     subst bU;rw[List.getElem?_append_right zl,Nat.sub_self]at hy;simp only[List.getElem?_cons_zero,Option.some.injEq]at hy;subst hy;rcases Nat.lt_or_ge a (gh.L t).length with h4|h4
     ·rw[List.getElem?_append_left h4]at hx;rw[he];exact yV x (List.mem_of_getElem? hx)
     ·have ha:a=(gh.L t).length:=by omega
      subst ha;rw[List.getElem?_append_right zl,Nat.sub_self]at hx;simp only[List.getElem?_cons_zero,Option.some.injEq]at hx;subst hx;exact Int.le_refl _
   ·rcases Nat.lt_or_ge j (gh.L t).length with h3|h3
    ·rw[List.getElem?_append_left h3]at hx;have h4:=(h2.ext ex) j x hx;refine⟨h4.1,?_⟩;rw[List.take_append_of_le_length (by omega)];exact h4.2
    ·have hj:j=(gh.L t).length:=by
      have:=(List.getElem?_eq_some_iff.1 hx).1;rw[List.length_append,List.length_singleton]at this;omega
     subst hj;rw[List.getElem?_append_right zl,Nat.sub_self]at hx;simp only[List.getElem?_cons_zero,Option.some.injEq]at hx;subst hx;rw[he];exact⟨ir,by rw[eL]⟩
  ·have h2:(gh.put i T e).L t=gh.L t:=dP h;rw[h2];exact⟨(hb.core.logL t ht).1,(hb.core.logL t ht).2.ext ex⟩
 ·by_cases h:t=T
  ·subst h;exact absurd ht ir
  ·exact(show(gh.put i T e).L t=gh.L t from dP h).trans (hb.l0 t ht)
 ·by_cases h:t=T
  ·subst h;rw[eL]at hy;rcases Nat.lt_or_ge j (gh.L t).length with h3|h3
   ·rw[List.getElem?_append_left h3]at hy;exact hb.li t j y hy
   ·have hj:j=(gh.L t).length:=by
     have:=(List.getElem?_eq_some_iff.1 hy).1;rw[List.length_append,List.length_singleton]at this;omega
    subst hj;rw[List.getElem?_append_right zl,Nat.sub_self]at hy;simp only[List.getElem?_cons_zero,Option.some.injEq]at hy;subst hy;exact hx
  ·rw[show(gh.put i T e).L t=gh.L t from dP h]at hy;exact hb.li t j y hy
theorem eD.took(hb:eD n gh)(hk:k<=(gh.L T).length)(hV:∀t,T<t->gh.V v t=0):kf gh (gh.took v T k)/\eD n (gh.took v T k):=by
 have ex:kf gh (gh.took v T k):={
  lead:=fun _ _=>rfl
  L:=fun t=>⟨[],(List.append_nil _).symm⟩
  V:=fun _ _ _=>rfl
  A:=fun w t=>by
   by_cases h:w=v/\t=T
   ·obtain⟨rfl,rfl⟩:=h;exact Nat.le_trans (Nat.le_max_left _ k) (Nat.le_of_eq (show _=vq gh.A w t (max (gh.A w t) k) w t from cS.symm))
   ·exact Nat.le_of_eq (show _=vq gh.A v T (max (gh.A v T) k) w t from(dj h).symm)
  Sd:=fun _ _ _ _=>rfl
  J:=fun _ _ _=>rfl
  E:=fun _ _ _=>Iff.rfl}
 refine⟨ex,⟨⟨hb.core.pos,hb.core.vote,hb.core.ext,hb.core.old,hb.core.logS,hb.core.logL,hb.core.logJ,hb.core.newer,fun w t hw hE=>(hb.core.keep w t hw hE).ext hb ex fun t0 h0=>dj fun h=>?_⟩,fun w t=>?_,hb.l0,hb.ln,hb.vv,hb.vp,hb.el,hb.li⟩⟩
 ·obtain⟨rfl,rfl⟩:=h;exact hw (hV t h0)
 ·by_cases h:w=v/\t=T
  ·obtain⟨rfl,rfl⟩:=h;have h1:(gh.took w t k).A w t=max (gh.A w t) k:=cS;rw[h1];exact Nat.max_le.2 ⟨hb.al w t,hk⟩
  ·have h1:(gh.took v T k).A w t=gh.A w t:=dj h;rw[h1];exact hb.al w t
end
structure gX(n:Int)(gh:Gh)(i:Nat)(R:Rf)(F:List En):Prop where
 i0:1<=i/\(i:Int)<=n
 id:R.id=i
 nn:(R.n:Int)=n
 tr:R.track.Inv
 base:R.track.index.toNat<=F.length
 trL:R.track.L=F.drop R.track.index.toNat
 trT:R.track.term=eo F R.track.index.toNat
 fm:mj F
 fa:xF gh F
 fi:∀(k:Nat) x,F[k]?=some x->x.idx=k+1
 ft:∀x∈F,1<=x.term/\x.term<=R.hard.term
 t0:0<=R.hard.term
 sn:R.snap.idx=R.track.index/\R.snap.term=R.track.term
 cm:R.track.index<=R.commit
 co:dq n gh R.hard.term F R.commit.toNat
 vh:∀t,R.hard.term<t->gh.V i t=0
 vt:(gh.V i R.hard.term:Int)=R.hard.vote
 ah:∀t,R.hard.term<t->gh.A i t=0
 kp:dY gh i (R.hard.term+1) F
 ld:∀t,gh.lead t=i->t<=R.hard.term
 rl:R.role=3->gh.lead R.hard.term=i/\gh.L R.hard.term=F/\gh.A i R.hard.term=F.length/\R.peers.length=R.n+1/\
  ∀s:Nat,1<=s->(s:Int)<=n->s≠i->(0<=(R.peer s).mat/\(R.peer s).mat.toNat<=gh.A s R.hard.term)/\1<=(R.peer s).next/\(R.peer s).next<=F.length+1
 rc:R.role=2->gh.V i R.hard.term=i/\gh.lead R.hard.term≠i/\gh.Sd i R.hard.term=F/\∀s∈R.yes,1<=s->s<=n->gh.V s.toNat R.hard.term=i
structure HW(n:Int)(gh:Gh)(N:Nat)(m:Mg):Prop where
 ld:gh.lead m.term=m.frm.toNat/\1<=m.frm
 i0:0<=m.idx
 len:m.idx.toNat+m.entries.length<=(gh.L m.term).length
 ent:m.entries=((gh.L m.term).drop m.idx.toNat).take m.entries.length
 lt:m.logTerm=eo (gh.L m.term) m.idx.toNat
 c0:0<=m.commit/\m.commit.toNat<=N
 co:dq n gh m.term (gh.L m.term) m.commit.toNat
structure H0(n:Int)(gh:Gh)(N:Nat)(m:Mg):Prop where
 ld:gh.lead m.term=m.frm.toNat/\1<=m.frm
 lt:m.logTerm=eo (gh.L m.term) m.idx.toNat
 c0:m.idx.toNat<=N
 co:dq n gh m.term (gh.L m.term) m.idx.toNat
structure eF(n:Int)(gh:Gh)(N:Nat)(m:Mg):Prop where
 vote:m.kind=3->1<=m.frm/\gh.V m.frm.toNat m.term=m.frm.toNat/\((gh.Sd m.frm.toNat m.term).length:Int)=m.idx/\lastT (gh.Sd m.frm.toNat m.term)=m.logTerm
 voted:m.kind=4->m.reject=false->1<=m.tgt/\(gh.V m.frm.toNat m.term:Int)=m.tgt
 app:m.kind=5->HW n gh N m
 appd:m.kind=6->m.reject=false->0<=m.idx/\m.idx.toNat<=gh.A m.frm.toNat m.term
 pie:m.kind=7->H0 n gh N m
 pied:m.kind=8->m.reject=false->¬0<m.total->0<=m.idx/\m.idx.toNat<=gh.A m.frm.toNat m.term
section
variable {n t T:Int}{i N N' k:Nat}{gh gh' gh2:Gh}{R R':Rf}{F F' l:List En}{m:Mg}
theorem bw(l:List En)(k:Nat):eo l (k+1)=match l[k]? with
 | some x=>x.term
 | none=>0:=rfl
theorem rD(e:kf gh gh')(hk:k<=(gh.L t).length):eo (gh'.L t) k=eo (gh.L t) k:=by
 cases k with
 | zero=>rfl
 | succ k=>
  obtain⟨r,hr⟩:=e.L t;rw[bw,bw,hr,List.getElem?_append_left (by omega)]
theorem eF.ext(h:eF n gh N m)(e:kf gh gh')(hN:N<=N'):eF n gh' N' m where
 vote hk:=by
  obtain⟨h1,h2,h3,h4⟩:=h.vote hk;have h0:m.frm.toNat≠0:=by omega
  refine⟨h1,(e.V _ _ (by rw[h2];exact h0)).trans h2,?_,?_⟩
  ·rw[e.Sd _ _ h2 h0];exact h3
  ·rw[e.Sd _ _ h2 h0];exact h4
 voted hk hr:=by
  obtain⟨h1,h2⟩:=h.voted hk hr;exact⟨h1,by rw[e.V _ _ (by omega)];exact h2⟩
 app hk:=by
  have h1:=h.app hk;have h0:gh.lead m.term≠0:=by rw[h1.ld.1];have:=h1.ld.2;omega
  have hl:=h1.len;refine⟨⟨(e.lead _ h0).trans h1.ld.1,h1.ld.2⟩,h1.i0,Nat.le_trans h1.len (e.len _),?_,?_,⟨h1.c0.1,Nat.le_trans h1.c0.2 hN⟩,?_⟩
  ·obtain⟨r,hr⟩:=e.L m.term;rw[hr,List.drop_append_of_le_length (by omega),List.take_append_of_le_length (by rw[List.length_drop];omega)];exact h1.ent
  ·rw[rD e (by omega)];exact h1.lt
  ·have:=(h1.co.ext e);rcases this with h2|⟨t,k,h2,h3,h4,h5⟩
   ·exact .inl h2
   ·exact .inr ⟨t,k,h2,h3,h4,by rw[e.take h1.co.len];exact h5⟩
 appd hk hr:=by
  obtain⟨h1,h2⟩:=h.appd hk hr;exact⟨h1,Nat.le_trans h2 (e.A _ _)⟩
 pie hk:=by
  have h1:=h.pie hk;have h0:gh.lead m.term≠0:=by rw[h1.ld.1];have:=h1.ld.2;omega
  refine⟨⟨(e.lead _ h0).trans h1.ld.1,h1.ld.2⟩,?_,Nat.le_trans h1.c0 hN,?_⟩
  ·rw[rD e h1.co.len];exact h1.lt
  ·rcases h1.co.ext e with h2|⟨t,k,h2,h3,h4,h5⟩
   ·exact .inl h2
   ·exact .inr ⟨t,k,h2,h3,h4,by rw[e.take h1.co.len];exact h5⟩
 pied hk hr ht:=by
  obtain⟨h1,h2⟩:=h.pied hk hr ht;exact⟨h1,Nat.le_trans h2 (e.A _ _)⟩
end
end Go.Proofs.YtjcninheccmpoaaGreat
