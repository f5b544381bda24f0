import Derived.Test.YtjcninheccmpoaaGreatU4
import Derived.Maps.Keyed
import Derived.Maps.RangeRun
import Derived.ChangeMaps5
import Derived.DataShut
import Derived.Lib.AppendZeros
import Derived.Lib.LazyBuf
set_option maxRecDepth 100000
set_option maxHeartbeats 8000000
set_option linter.all false
namespace Go.Proofs.YtjcninheccmpoaaGreat
open Go.RowKit Go.Proofs.Tryz
section
open Go.MapKept
open Rf (numOk)
theorem I2{a b c d e f g:Prop}[Decidable a][Decidable b][Decidable c][Decidable d][Decidable e][Decidable f][Decidable g]{r:Bool}(hr:r=decide (a/\b/\c/\d/\e/\f/\g)) :
  (decide a=false/\r=false)\/(decide a=true/\decide b=false/\r=false)\/(decide a=true/\decide b=true/\decide c=false/\r=false)\/(decide a=true/\decide b=true/\decide c=true/\decide d=false/\r=false)\/
  (decide a=true/\decide b=true/\decide c=true/\decide d=true/\decide e=false/\r=false)\/(decide a=true/\decide b=true/\decide c=true/\decide d=true/\decide e=true/\decide f=false/\r=false)\/
  (decide a=true/\decide b=true/\decide c=true/\decide d=true/\decide e=true/\decide f=true/\decide g=false/\r=false)\/(decide a=true/\decide b=true/\decide c=true/\decide d=true/\decide e=true/\decide f=true/\decide g=true/\r=true):=by
 subst hr;by_cases ha:a
 ·by_cases hb:b
  ·by_cases hc:c
   ·by_cases hd:d
    ·by_cases he:e
     ·by_cases hf:f
      ·by_cases hg:g <;> simp[ha,hb,hc,hd,he,hf,hg]
      ·simp[ha,hb,hc,hd,he,hf]
     ·simp[ha,hb,hc,hd,he]
    ·simp[ha,hb,hc,hd]
   ·simp[ha,hb,hc]
  ·simp[ha,hb]
 ·simp[ha]
theorem mg{a l m:Int}{x:Bool}(hx:decide (l<=a/\a<=m)=x)(w:World):Calls prog 36 #[.int .i64 a,.int .i64 l,.int .i64 m] w fun e w'=>e=.returned (.bool x)/\w'=w:=by
 by_cases h1:l<=a
 ·by_cases h2:a<=m
  ·have hd:=zH (show x=true by rw[<-hx];simp[h1,h2]);clear hx;go_enter func36,ntmps36;go_wp2_with fail;go_ret;exact⟨by rw[hd.out];rfl,rfl⟩
  ·have hd:=zH (show x=false by rw[<-hx];simp[h2]);clear hx;go_enter func36,ntmps36;go_wp2_with fail;go_ret;exact⟨by rw[hd.out];rfl,rfl⟩
 ·have hd:=zH (show x=false by rw[<-hx];simp[h1]);clear hx;go_enter func36,ntmps36;go_wp2_with fail;go_ret;exact⟨by rw[hd.out];rfl,rfl⟩
section
variable {aa:Nat->Nat}{b g:Nat}{w:World}{R:Rf}{v:Rw}
def iO(m:Mg):List Int:=[m.idx,m.logTerm,m.commit,m.round,m.offset,m.total]
theorem tp(m:Mg):(iO m).all numOk=(numOk m.idx&&numOk m.logTerm&&numOk m.commit&&numOk m.round&&numOk m.offset&&numOk m.total):=by
 simp[iO,List.all_cons,Bool.and_assoc]
theorem Cy{m:Mg}{k:Nat}(hk:k<6)(hf:numOk ((iO m)[k]?.getD 0)=false):R.right m=false:=by
 unfold Rf.right;have:(iO m).all numOk=false:=by
  rw[Bool.eq_false_iff];intro h;have h2:=List.all_eq_true.1 h ((iO m)[k]?.getD 0) (by
   have hl:k<(iO m).length:=hk;rw[List.getElem?_eq_getElem hl];exact List.getElem_mem hl)
  rw[hf]at h2;cases h2
 rw[<-tp,this];rfl
theorem Cz{m:Mg}(h:∀k,k<6->numOk ((iO m)[k]?.getD 0)=true):R.right m=decide ((1<=m.kind/\m.kind<=8)/\m.tgt=R.id/\(1<=m.frm/\m.frm<=R.n)/\m.frm≠R.id/\(1<=m.term/\m.term<=gU)/\m.entries.length<=6/\m.data.length<=160):=by
 unfold Rf.right;have:(iO m).all numOk=true:=by
  rw[List.all_eq_true];intro x hx;obtain⟨k,hk,rfl⟩:=List.getElem_of_mem hx;have:=h k hk;rw[List.getElem?_eq_getElem hk]at this;exact this
 rw[<-tp,this];rfl
theorem xc(x:Int):decide (0<=x/\x<=1099511627776)=numOk x:=by
 unfold numOk gU;by_cases h1:0<=x <;> by_cases h2:x<=1099511627776 <;> simp[h1,h2]
theorem Cw(m:Mg)(A1 A2:Option Addr)(n1 n2 c1 c2:Nat)(oh:n1=m.entries.length)(uZ:n2=m.data.length)(h:av aa b w g R v) :
  Calls prog 57 #[.pointer (some ⟨g,0,none⟩),iw m (.slice A1 n1 c1) (.slice A2 n2 c2)] w fun e w'=>e=.returned (.bool (R.right m))/\Below w.heap.size w w':=by
 have bV:=h.s.lt;obtain⟨ve,Kj⟩:=zN (Value.slice A1 n1 c1);obtain⟨vd,Gq⟩:=zN (Value.slice A2 n2 c2);rw[Kj,Gq];obtain⟨d4,d5,-⟩:=h.s.cs [4,5];simp only[bt,vi,Zx]at d4 d5;have aU:Below w.heap.size w (w.alloc (.cells #[.int .i64 m.kind,.int .i64 m.frm,.int .i64 m.tgt,.int .i64 m.term,.int .i64 m.idx,.int .i64 m.logTerm,.int .i64 m.commit,.int .i64 m.round,.bool m.reject,.int .i64 m.offset,.int .i64 m.total,ve,vd] 39)):=zb.alloc zl _;have cA:=ay.new w 39 #[.int .i64 m.kind,.int .i64 m.frm,.int .i64 m.tgt,.int .i64 m.term,.int .i64 m.idx,.int .i64 m.logTerm,.int .i64 m.commit,.int .i64 m.round,.bool m.reject,.int .i64 m.offset,.int .i64 m.total,ve,vd];obtain⟨w1,bM⟩:=zN (w.alloc (.cells #[.int .i64 m.kind,.int .i64 m.frm,.int .i64 m.tgt,.int .i64 m.term,.int .i64 m.idx,.int .i64 m.logTerm,.int .i64 m.commit,.int .i64 m.round,.bool m.reject,.int .i64 m.offset,.int .i64 m.total,ve,vd] 39));rw[bM]at aU cA;obtain⟨y0,y1,y2,y3,y4,y5,y6,y7,y8,y9,yA,yB,yC,-⟩:=cA.cs [0,1,2,3,4,5,6,7,8,9,10,11,12];simp only[Zx]at y0 y1 y2 y3 y4 y5 y6 y7 y8 y9 yA yB yC;obtain⟨k0,k1,k2,k3,k4,k5,k6,k7,k8,k9,kA,kB,kC⟩:=Aa [g,w.heap.size] y0 y1 y2 y3 y4 y5 y6 y7 y8 y9 yA yB yC;have d4':=(aU.cell (aG d4)).trans d4;have d5':=(aU.cell (aG d5)).trans d5;have dn:=zH (fun k (hk:k<6) (hf:numOk ((iO m)[k]?.getD 0)=false)=>Cy (R:=R) (m:=m) hk hf);have iu:=zH (fun h=>Cz (R:=R) (m:=m) h);obtain⟨w2,eh⟩:=zN (w1.alloc (.cells #[.int .i64 m.idx,.int .i64 m.logTerm,.int .i64 m.commit,.int .i64 m.round,.int .i64 m.offset,.int .i64 m.total] 3));have yT:ay w2 w1.heap.size 3 ((iO m).map vi).toArray:=by rw[<-eh];exact ay.new w1 3 ((iO m).map vi).toArray
 have iA:Below w1.heap.size w1 w2:=by rw[<-eh];exact zb.alloc zl _
 have z0:=(iA.cell (aG y0)).trans y0;have z1:=(iA.cell (aG y1)).trans y1;have z2:=(iA.cell (aG y2)).trans y2;have z3:=(iA.cell (aG y3)).trans y3;have zB:=(iA.cell (aG yB)).trans yB;have zC:=(iA.cell (aG yC)).trans yC;have zD:=(iA.cell (aG d4')).trans d4';have zE:=(iA.cell (aG d5')).trans d5';obtain⟨q0,q1,q2,q3,qB,qC,qD,qE⟩:=Uz [g,w.heap.size] z0 z1 z2 z3 zB zC zD zE;clear k0 k1 k2 k3 k4 k5 k6 k7 k8 k9 kA kB kC;have Ee:Below w.heap.size w w2.drew:=aY (aj aU iA zl) 1;have dS:Below w.heap.size w w2:=aj aU iA zl;unfold iw;simp only[vi];clear h;go_enter func57,ntmps57;go_wp2_with fail;try rw[bM]
 go_wp2_with fail;try rw[eh]
 go_loopw [21] (fun i wr=>∃k:Nat,k<=6/\i=.int .i64 k/\(∀j,j<k->numOk ((iO m)[j]?.getD 0)=true)/\wr=w2) (fun i _=>6-(intOf i).toNat)
 case atStart=>exact⟨0,Nat.zero_le _,rfl,fun j hj=>absurd hj (Nat.not_lt_zero _),rfl⟩
 case round=>
  obtain⟨k,hk,rfl,cz,rfl⟩:=hrel;replace cz:=zH cz;by_cases bh:k<6
  ·obtain⟨x,hx⟩:=zN ((iO m)[k]?.getD 0);have nb:k<(iO m).length:=bh;have c0:wr.cell? ⟨w1.heap.size,k,none⟩=some (.int .i64 x):=(yT.cell k).trans (by rw[List.getElem?_toArray,List.getElem?_map,List.getElem?_eq_getElem nb,<-hx,List.getElem?_eq_getElem nb];rfl);have aP:=mg (xc x) wr;replace hx:=zH hx;cases dM:numOk x with
   | false=>
    rw[dM]at aP;have hf:=zH (dn.out k bh (by rw[hx.out];exact dM));go_wp2_with fail;refine aP.mono ?_;rintro e w4 ⟨rfl,rfl⟩;go_wp2_with fail;go_ret;exact⟨by rw[hf.out];rfl,dS⟩
   | true=>
    rw[dM]at aP;have BP:=zH (show ∀j,j<k+1->numOk ((iO m)[j]?.getD 0)=true from fun j hj=>by
     rcases Nat.lt_or_ge j k with h1|h1
     ·exact cz.out j h1
     ·obtain rfl:j=k:=by omega
      rw[hx.out];exact dM)
    go_wp2_with fail;refine aP.mono ?_;rintro e w4 ⟨rfl,rfl⟩;go_wp2_with fail;exact⟨⟨k+1,bh,by go_num,BP.out,trivial⟩,by simp[intOf];omega⟩
  ·obtain rfl:k=6:=by omega
   have hR:=iu.out cz.out;unfold gU at hR;clear yT iA;have e3:(gU:Int)=1099511627776:=rfl;have bH:∃x,decide (1<=m.kind/\m.kind<=8)=x:=⟨_,rfl⟩;have bU:∃x,decide (1<=m.frm/\m.frm<=(R.n:Int))=x:=⟨_,rfl⟩;have cv:∃x,decide (1<=m.term/\m.term<=1099511627776)=x:=⟨_,rfl⟩;obtain⟨x1,bH⟩:=bH;obtain⟨x2,bU⟩:=bU;obtain⟨x3,cv⟩:=cv;have fA:=I2 hR;rw[bH,bU,cv,<-oh,<-uZ]at fA;have t1:decide (m.tgt=(R.id:Int))=(m.tgt==(R.id:Int)):=rfl;have t2:decide (m.frm≠(R.id:Int))=(m.frm !=(R.id:Int)):=by by_cases h:m.frm=R.id <;> simp[h]
   have t3:decide (n1<=6)=decide ((n1:Int)<=6):=by by_cases h:n1<=6 <;> simp <;> omega
   have t4:decide (n2<=160)=decide ((n2:Int)<=160):=by by_cases h:n2<=160 <;> simp <;> omega
   rw[t1,t2,t3,t4]at fA;have fP:=fun w=>mg bH w
   have kE:=fun w=>mg bU w
   have BD:=fun w=>mg cv w
   replace fP:=zH fP;replace kE:=zH kE;replace BD:=zH BD;clear bH bU cv hR oh uZ e3 t1 t2 t3 t4;rcases fA with⟨rfl,hr⟩|⟨rfl,e2,hr⟩|⟨rfl,e2,rfl,hr⟩|⟨rfl,e2,rfl,e4,hr⟩|⟨rfl,e2,rfl,e4,rfl,hr⟩|⟨rfl,e2,rfl,e4,rfl,e6,hr⟩|⟨rfl,e2,rfl,e4,rfl,e6,e7,hr⟩|⟨rfl,e2,rfl,e4,rfl,e6,e7,hr⟩
   all_goals
    replace hr:=zH hr;rw[<-Kj]at qB;rw[<-Gq]at qC;clear Kj Gq;go_wp2_with fail;refine gj [g,w.heap.size] wr [([0,1],2),([3,4,5,6,7,8,9,10,11,12,13,14,15,16,17,18],19),([20,21,22,23,24,25,26,27,28,29,30,31,32],33)] [34,35,36,37,38,39,40,41,42,43,44,45,46,47] ?_;refine aC fun K1 cF=>?_
    simp only[af,Zx];repeat go_big_quiet_step(fail)
    apply wpQuiet_nil;go_wp2_with fail;refine(fP.out _).mono ?_;rintro e w4 ⟨rfl,rfl⟩;go_wp2_with fail;refine⟨az,cF _ _ ?_⟩;refine aC fun K2 jl=>?_
    simp only[af,Zx];repeat go_big_quiet_step(fail)
    apply wpQuiet_nil;go_wp2_with fail;try(refine(kE.out _).mono ?_;rintro e w4 ⟨rfl,rfl⟩;go_wp2_with fail)
    refine⟨az,jl _ _ ?_⟩;refine aC fun K3 jS=>?_
    simp only[af,Zx];repeat go_big_quiet_step(fail)
    apply wpQuiet_nil;go_wp2_with fail;try(refine(BD.out _).mono ?_;rintro e w4 ⟨rfl,rfl⟩;go_wp2_with fail)
    refine⟨az,jS _ _ ?_⟩;refine an ?_;simp only[af,Zx];repeat go_big_quiet_step(fail)
    apply wpQuiet_nil;go_wp2_with fail;go_ret;exact⟨by rw[hr.out];rfl,Ee⟩
end
end
section
open Go.Maps Go.MapKept Go.WideMaps
open Go.ChangeMaps (setBlock modify_eq_set heap_setBlock_same heap_setBlock_other)
theorem jd{L:List MapEntry}(hn:(L.map (·.key)).Nodup){j:Nat}{e0:MapEntry}(h:L[j]?=some e0)(y x:MapEntry):x∈L.set j y↔x=y\/(x∈L/\x.key≠e0.key):=by
 obtain⟨hj,ej⟩:=List.getElem?_eq_some_iff.1 h;have inj:∀i (hi:i<L.length),L[i].key=e0.key->i=j:=fun i hi e=>by
  have h1:i<(L.map (·.key)).length:=by simpa using hi
  have h2:j<(L.map (·.key)).length:=by simpa using hj
  refine(List.getElem_inj (h₀:=h1) (h₁:=h2) hn).1 ?_;simp only[List.getElem_map];rw[e,ej]
 constructor
 ·intro hx;obtain⟨i,hi,ex⟩:=List.getElem_of_mem hx;rw[List.getElem_set]at ex;split at ex
  ·exact .inl ex.symm
  ·rename_i cH;have OG:i<L.length:=by simpa using hi
   refine .inr ⟨ex▸List.getElem_mem OG,fun e=>cH ?_⟩;exact(inj i OG (by rw[ex];exact e)).symm
 ·rintro(rfl|⟨hx,cH⟩)
  ·exact List.mem_iff_getElem.2 ⟨j,by simpa using hj,by simp⟩
  ·obtain⟨i,hi,rfl⟩:=List.getElem_of_mem hx;have Ex:j≠i:=fun e=>cH (by subst e;rw[ej])
   exact List.mem_iff_getElem.2 ⟨i,by simpa using hi,by rw[List.getElem_set_ne Ex]⟩
def eE(w:World)(b:Nat)(l:List Int):Prop:=
 ∃es clock,w.heap[b]?=some (.map es clock)/\Stamped es clock/\(∀x∈es.toList,∃k:Int,x.key=.int .i64 k/\0<=k/\k<=1000)/\∀k:Int,k∈l↔∃x∈es.toList,x.key=.int .i64 k
theorem AK:prog.underlying 3=some (.int .i64):=underlying3
theorem jY:Keyed prog 3:=int_keyed AK
theorem oW{s:Int}(h0:0<=s)(h1:s<=1000):keyOf prog 3 (.int .i64 s)=some (.int .i64 s):=keyOf_int_mk AK (by rw[Lit.wf_int_iff];simp only[IntKind.min,IntKind.max,IntKind.signed,IntKind.bits];simp;omega)
section
variable {w w':World}{b:Nat}{l:List Int}
theorem eE.lt(h:eE w b l):b<w.heap.size:=by
 obtain⟨es,clock,hb,_⟩:=h;exact aS hb
theorem eE.keep(h:eE w b l)(hk:w'.heap[b]?=w.heap[b]?):eE w' b l:=by
 obtain⟨es,clock,hb,h'⟩:=h;exact⟨es,clock,hk.trans hb,h'⟩
theorem eE.made(w:World):eE (w.alloc (.map #[] 0)) w.heap.size []:=
 ⟨#[],0,heap_alloc_new w _,stamped_empty 0,fun x hx=>by simp at hx,fun k=>by simp⟩
theorem HE{es:Array MapEntry}(h:∀x∈es.toList,∃k:Int,x.key=.int .i64 k/\0<=k/\k<=1000):∀x∈es.toList,∃l,keyOf prog 3 x.key=some l:=fun x hx=>by
 obtain⟨s,e,h0,h1⟩:=h x hx;exact⟨_,by rw[e];exact oW h0 h1⟩
theorem sL{es:Array MapEntry}{clock:Nat}(hb:w.heap[b]?=some (.map es clock))(o:Obj):w.grownBy (setBlock w b o) (some b):=
 ⟨rfl,rfl,rfl,by simp[setBlock],fun j _ cH=>heap_setBlock_other hb o (fun e=>cH (by rw[e]))⟩
theorem tn{α:Type}[DecidableEq α]:∀{l l':List α},l.Nodup->l ⊆ l'->l.length<=l'.length
 | [],l',_,_=>Nat.zero_le _
 | x::l,l',hn,hs=>by
  have hx:x∈l':=hs (List.mem_cons_self ..);have h1:=List.nodup_cons.1 hn;have:=tn h1.2 (l':=l'.erase x) fun y hy=>(List.mem_erase_of_ne fun(e:y=x)=>h1.1 (by rw[<-e];exact hy)).2 (hs (List.mem_cons_of_mem _ hy))
  have h3:=List.length_erase_of_mem hx;have h4:=List.length_pos_of_mem hx;simp only[List.length_cons];omega
theorem eE.size(h:eE w b l):∃es clock,w.heap[b]?=some (.map es clock)/\es.size<=l.length:=by
 obtain⟨es,clock,h1,h2,h3,h4⟩:=h;refine⟨es,clock,h1,?_⟩;have hn:(es.toList.map (·.key)).Nodup:=h2.2.2;obtain⟨ks,BL⟩:∃ks:List Int,es.toList.map (·.key)=ks.map (Value.int .i64):=by
  have:∀L:List MapEntry,(∀x∈L,∃k:Int,x.key=.int .i64 k/\0<=k/\k<=1000)->∃ks:List Int,L.map (·.key)=ks.map (Value.int .i64):=fun L=>by
   induction L with
   | nil=>exact fun _=>⟨[],rfl⟩
   | cons x L ih=>
    intro hL;obtain⟨k,e,_⟩:=hL x (List.mem_cons_self ..);obtain⟨ks,e2⟩:=ih fun y hy=>hL y (List.mem_cons_of_mem _ hy)
    exact⟨k::ks,by rw[List.map_cons,List.map_cons,e,e2]⟩
  exact this _ h3
 rw[BL]at hn;have ab:es.size=ks.length:=by
  have:=congrArg List.length BL;simpa using this
 have mH:ks.Nodup:=List.Pairwise.imp (fun {a b} h e=>h (by rw[e])) (List.pairwise_map.1 hn);rw[ab];refine tn mH fun k hk=>(h4 k).2 ?_
 have:Value.int .i64 k∈es.toList.map (·.key):=by rw[BL];exact List.mem_map.2 ⟨k,hk,rfl⟩
 obtain⟨x,hx,e⟩:=List.mem_map.1 this;exact⟨x,hx,e⟩
theorem rj(h:eE w b l){t e:TypeId}(ht:prog.underlying t=some (.map 3 e)){s:Int}(h0:0<=s)(qe:s<=1000)(v:Value) :
  ∃w',(Instr.mapUpdate t (.map (some b)) (.int .i64 s) v).run prog w=.ok () w'/\eE w' b (l++[s])/\w.grownBy w' (some b):=by
 obtain⟨es,clock,hb,bP,BL,hF⟩:=h;have Ho:=oW h0 qe;have Iy:∀e0:MapEntry,∀j,es.toList[j]?=some e0->(es.modify j (fun e'=>{e' with key:=.int .i64 s,val:=v})).toList=es.toList.set j {e0 with key:=.int .i64 s,val:=v}:=fun e0 j h2=>by rw[Array.toList_modify,modify_eq_set _ _ _ _ h2]
 rcases jY.find w Ho es.toList (HE BL)with⟨h1,h2⟩|⟨j,e0,h1,h2,h3⟩
 ·refine⟨setBlock w b (.map (es.push ⟨.int .i64 s,v,clock⟩) (clock+1)),?_,⟨_,_,heap_setBlock_same hb _,stamped_push bP h2,?_,?_⟩,sL hb _⟩
  ·simp[Instr.mapUpdate,run_underlying ht,MapKept.run_getObj_map hb,jY.check w false Ho,h1,MapKept.run_setObj_map _ hb,Result.andThen,setBlock]
  ·intro x hx;simp only[Array.toList_push,List.mem_append,List.mem_singleton]at hx;rcases hx with hx|rfl
   ·exact BL x hx
   ·exact⟨s,rfl,h0,qe⟩
  ·intro t;simp only[Array.toList_push,List.mem_append,List.mem_singleton];constructor
   ·rintro(ht|rfl)
    ·obtain⟨x,hx,hk⟩:=(hF t).1 ht;exact⟨x,.inl hx,hk⟩
    ·exact⟨_,.inr rfl,rfl⟩
   ·rintro⟨x,hx|rfl,hk⟩
    ·exact .inl ((hF t).2 ⟨x,hx,hk⟩)
    ·injection hk with _ hk;exact .inr hk.symm
 ·have hj:es[j]?=some e0:=by simpa using h2
  have MZ:∀e',es[j]?=some e'->({e' with key:=.int .i64 s,val:=v}:MapEntry).key=e'.key:=fun e' Ju=>by rw[hj]at Ju;cases Ju;exact h3.symm
  refine⟨setBlock w b (.map (es.modify j (fun e'=>{e' with key:=.int .i64 s,val:=v})) clock),?_,⟨_,_,heap_setBlock_same hb _,stamped_modify bP _ _ (fun _ _=>rfl) (fun e' _ Ju=>MZ e' Ju),?_,?_⟩,sL hb _⟩
  ·simp[Instr.mapUpdate,run_underlying ht,MapKept.run_getObj_map hb,jY.check w false Ho,h1,hj,h3,jY.stays w Ho,MapKept.run_setObj_map _ hb,Result.andThen,setBlock]
  ·intro x hx;rw[Iy e0 j h2,jd bP.2.2 h2]at hx;rcases hx with rfl|⟨hx,_⟩
   ·exact⟨s,rfl,h0,qe⟩
   ·exact BL x hx
  ·intro t;rw[Iy e0 j h2];simp only[List.mem_append,List.mem_singleton];have hs:s∈l:=(hF s).2 ⟨e0,List.mem_of_getElem? h2,h3⟩;constructor
   ·intro ht;have Kg:t∈l:=by
     rcases ht with ht|rfl
     ·exact ht
     ·exact hs
    obtain⟨x,hx,hk⟩:=(hF t).1 Kg;by_cases e:t=s
    ·exact⟨_,(jd bP.2.2 h2 _ _).2 (.inl rfl),by rw[e]⟩
    ·refine⟨x,(jd bP.2.2 h2 _ _).2 (.inr ⟨hx,fun e'=>e ?_⟩),hk⟩;have:=(hk.symm.trans e').trans h3;injection this
   ·rintro⟨x,hx,hk⟩;rcases(jd bP.2.2 h2 _ _).1 hx with rfl|⟨hx,_⟩
    ·injection hk with _ hk;exact .inr hk.symm
    ·exact .inl ((hF t).2 ⟨x,hx,hk⟩)
end
structure kK(w:World)(r b:Nat)(l:List Int)(hU:Int->Prop)(n:Nat)(last:Option Int):Prop where
 m:eE w b l
 it:∃es clock since c0 seen,w.heap[r]?=some (.mapIter (some b) since seen c0)/\w.heap[b]?=some (.map es clock)/\Stamped es clock/\
  (∀x∈es.toList,x.born<since)/\since<=c0/\n=(leftOf es seen).size/\(∀s,hU s↔∃x∈(leftOf es seen).toList,x.key=.int .i64 s)/\
  (∀x∈es.toList,∃s:Int,x.key=.int .i64 s/\0<=s/\s<=1000)/\since<=clock/\
  (∀s,last=some s->∃(e:MapEntry) (seen0:Array Nat),e∈es.toList/\e.key=.int .i64 s/\seen=seen0.push e.born/\c0=clock)
section
variable {w w':World}{r b n:Nat}{l:List Int}{hU:Int->Prop}{last:Option Int}
theorem kK.keep(h:kK w r b l hU n last)(hr:w'.heap[r]?=w.heap[r]?)(hb:w'.heap[b]?=w.heap[b]?):kK w' r b l hU n last:=by
 obtain⟨es,clock,since,c0,seen,h1,h2,h3⟩:=h.it;exact⟨h.m.keep hb,es,clock,since,c0,seen,hr.trans h1,hb.trans h2,h3⟩
theorem wR(es:Array MapEntry):leftOf es #[]=es:=by
 unfold leftOf;exact Array.filter_eq_self.2 (fun x _=>by simp)
theorem xo(h:eE w b l){t e:TypeId}(ht:prog.underlying t=some (.map 3 e)) :
  ∃w' n,(Instr.range t (.map (some b))).run prog w=.ok (.pointer (some ⟨w.heap.size,0,none⟩)) w'/\n<=l.length/\kK w' w.heap.size b l (fun s=>s∈l) n none/\∃o,w'=w.alloc o:=by
 have bh:=h.lt;obtain⟨es,clock,hb,bP,BL,hF⟩:=id h;have gn:es.size<=l.length:=by
  obtain⟨es',clock',e1,e2⟩:=h.size;rw[hb]at e1;cases e1;exact e2
 have kI:(w.alloc (.mapIter (some b) clock #[] clock)).heap[b]?=some (.map es clock):=((MapKept.heap_alloc w _).2 b bh).trans hb;refine⟨_,es.size,run_range_map w t 3 e b es clock ht hb,gn,⟨h.keep (((MapKept.heap_alloc w _).2 b bh)),es,clock,clock,clock,#[],(MapKept.heap_alloc w _).1,kI,bP,bP.1,Nat.le_refl _,by rw[wR],?_,BL,Nat.le_refl _,fun s h=>by cases h⟩,_,rfl⟩;intro s;rw[wR];exact hF s
theorem mz(h:kK w r b l hU n last)(yS:r≠b)(ty:TypeId) :
  (n=0/\(∀s,¬hU s)/\(Instr.next (.pointer (some ⟨r,0,none⟩)) false ty).run prog w=.ok (.tuple #[.bool false]) w)\/
  ∃s v w1 o n',n'<n/\hU s/\(w1=w\/w1=w.drew)/\(Instr.next (.pointer (some ⟨r,0,none⟩)) false ty).run prog w=.ok (.tuple #[.bool true,.int .i64 s,v]) (setBlock w1 r o)/\
   kK (setBlock w1 r o) r b l (fun t=>hU t/\t≠s) n' (some s):=by
 obtain⟨es,clock,since,c0,seen,h1,h2,bP,hold,RX,hn,wl,BL,J9,_⟩:=h.it;rcases run_next_at (P:=prog) w ty r b since c0 seen es clock h1 h2 hold RX with⟨h0,kH⟩|⟨e,he,w1,bM,kH⟩
 ·refine .inl ⟨hn.trans h0,fun s hs=>?_,kH⟩;obtain⟨x,hx,_⟩:=(wl s).1 hs;have:=Array.eq_empty_of_size_eq_zero h0;rw[this]at hx;simp at hx
 ·have Jw:e∈es.toList:=by
   unfold leftOf at he;simp at he ⊢;exact he.1
  obtain⟨s,hk,hs⟩:=BL e Jw;have NV:w1.heap=w.heap:=by rcases bM with rfl|rfl <;> rfl
  have NH:r<w1.heap.size:=by
   rw[NV];rcases Nat.lt_or_ge r w.heap.size with bh|ud
   ·exact bh
   ·rw[Array.getElem?_eq_none ud]at h1;cases h1
  have OS:(setBlock w1 r (.mapIter (some b) since (seen.push e.born) clock)).heap[r]?=some (.mapIter (some b) since (seen.push e.born) clock):=by
   simp[setBlock,NH]
  have kI:(setBlock w1 r (.mapIter (some b) since (seen.push e.born) clock)).heap[b]?=w.heap[b]?:=by
   simp only[setBlock];rw[Array.getElem?_setIfInBounds_ne yS,NV]
  refine .inr ⟨s,e.val,w1,_,_,?_,(wl s).2 ⟨e,he,hk⟩,bM,by rw[<-hk];exact kH,⟨h.m.keep kI,es,clock,since,clock,seen.push e.born,OS,kI.trans h2,bP,hold,J9,rfl,?_,BL,J9,?_⟩⟩
  ·rw[hn];exact left_shrinks es seen e he
  ·intro t;have inj:∀x,x∈es.toList->(x.born=e.born↔x.key=e.key):=fun x hx=>by
    obtain⟨i,hi,rfl⟩:=List.getElem_of_mem hx;obtain⟨j,hj,rfl⟩:=List.getElem_of_mem Jw;constructor
    ·intro e1;have:=(List.getElem_inj (h₀:=by simpa using hi) (h₁:=by simpa using hj) bP.2.1).1 (by simpa using e1);subst this;rfl
    ·intro e1;have:=(List.getElem_inj (h₀:=by simpa using hi) (h₁:=by simpa using hj) bP.2.2).1 (by simpa using e1);subst this;rfl
   have memL:∀x,x∈(leftOf es (seen.push e.born)).toList↔x∈(leftOf es seen).toList/\x.born≠e.born:=fun x=>by
    unfold leftOf;simp[and_assoc]
   constructor
   ·rintro⟨hl,cH⟩;obtain⟨x,hx,NX⟩:=(wl t).1 hl;refine⟨x,(memL x).2 ⟨hx,fun e1=>cH ?_⟩,NX⟩;have:=(inj x (mem_left hx).1).1 e1;rw[NX,hk]at this;injection this
   ·rintro⟨x,hx,NX⟩;obtain⟨hx,cH⟩:=(memL x).1 hx;refine⟨(wl t).2 ⟨x,hx,NX⟩,fun e1=>cH ((inj x (mem_left hx).1).2 ?_)⟩;rw[NX,hk,e1]
  ·intro s' e1;injection e1 with e1;subst e1;exact⟨e,seen,Jw,hk,rfl,rfl⟩
theorem lE{s:Int}(h:kK w r b l hU n (some s)):∃v,(Instr.entry (.pointer (some ⟨r,0,none⟩))).run prog w=.ok (.tuple #[.int .i64 s,v]) w:=by
 obtain⟨es,clock,since,c0,seen,h1,h2,bP,hold,RX,hn,wl,BL,J9,hl⟩:=h.it;obtain⟨e,seen0,he,hk,rfl,rfl⟩:=hl s rfl;have:=run_entry_at (P:=prog) w r b since seen0 es c0 e h1 h2 he bP.2.1;rw[hk]at this;exact⟨_,this⟩
end
end
section
open Go.MapKept
section
variable {aa ac:Nat->Nat}{b g:Nat}{w w':World}{R R':Rf}{v v':Rw}
theorem av.turn(X:List Nat)(h:av aa b w g R v)(hs:ay w' g 107 (bt R' v'))(hl:∀i j,0<i->i<=13->i∉X->j<w.heap.size->aa j=b+i->ac j=b+i)
  (h1:1∉X) (hF:Fr (fun j=>j=g\/∃i,i∈X/\aa j=b+i) w w')
  (t:rL ac (b+2) w' v'.trk R'.track\/(2∉X/\v'.trk=v.trk/\R'.track=R.track))
  (p:aX ac (b+3) w' 163 4 v'.peers R'.peers.length (R'.peers.flatMap xh)\/(3∉X/\v'.peers=v.peers/\R'.peers=R.peers))
  (q:aX ac (b+4) w' 167 3 v'.waits R'.waits.length (R'.waits.flatMap mA)\/(4∉X/\v'.waits=v.waits/\R'.waits=R.waits))
  (y:rV ac (b+5) w' v'.yes R'.yes\/(5∉X/\v'.yes=v.yes/\R'.yes=R.yes))
  (d:cT ac (b+6) w' v'.dat R'.snap.data\/(6∉X/\v'.dat=v.dat/\R'.snap.data=R.snap.data))
  (gd:aX ac (b+7) w' 5 1 v'.gat R'.gath.data.length (R'.gath.data.map vb)\/(7∉X/\v'.gat=v.gat/\R'.gath.data=R.gath.data))
  (e:ee ac (b+8) (b+13) w' v'.ent R'.out.entries\/((8∉X/\13∉X)/\v'.ent=v.ent/\R'.out.entries=R.out.entries))
  (c:ee ac (b+9) (b+13) w' v'.com R'.out.commits\/((9∉X/\13∉X)/\v'.com=v.com/\R'.out.commits=R.out.commits))
  (n:rU ac (b+13) w' v'.snp R'.out.snap\/(13∉X/\v'.snp=v.snp/\R'.out.snap=R.out.snap))
  (r:aX ac (b+11) w' 134 2 v'.rds R'.out.reads.length (R'.out.reads.flatMap Cr)\/(11∉X/\v'.rds=v.rds/\R'.out.reads=R.out.reads))
  (m:gW ac (b+12) (b+13) w' v'.mgs R'.out.msgs\/((12∉X/\13∉X)/\v'.mgs=v.mgs/\R'.out.msgs=R.out.msgs)):av ac b w' g R' v':=by
 have h0:=h.relabel (ac:=relab aa w.heap.size b) fun j hj _=>ae hj
 have B:∀i j,0<i->relab aa w.heap.size b j=b+i->j<w.heap.size/\aa j=b+i:=fun i j hi e=>by
  rcases Nat.lt_or_ge j w.heap.size with hj|hj
  ·exact⟨hj,(ae hj).symm.trans e⟩
  ·rw[aA hj]at e;omega
 have L:∀i,0<i->i<=13->i∉X->∀j,j<w'.heap.size->relab aa w.heap.size b j=b+i->ac j=b+i:=fun i h1 h2 hX j _ e=>hl i j h1 h2 hX (B i j h1 e).1 (B i j h1 e).2
 have K:∀i,1<i->i<=13->i∉X->∀j,relab aa w.heap.size b j=b+i->j<w.heap.size->w'.heap[j]?=w.heap[j]?:=fun i h0 h1 hX j hj bh=>hF.block j bh fun hh=>by
  have hj:=(B i j (by omega) hj).2;rcases hh with rfl|⟨k,hk,hh⟩
  ·have:=h.sl;omega
  ·have:k=i:=by omega
   rw[this]at hk;exact hX hk
 refine⟨hs,hl 1 g (by omega) (by omega) h1 h.s.lt h.sl,?_,?_,?_,?_,?_,?_,?_,?_,?_,?_,?_⟩
 ·rcases t with t|⟨hX,e1,e2⟩
  ·exact t
  ·rw[e1,e2];exact(h0.t.keep (K 2 (by omega) (by omega) hX)).relabel (L 2 (by omega) (by omega) hX)
 ·rcases p with p|⟨hX,e1,e2⟩
  ·exact p
  ·rw[e1,e2];exact(h0.p.keep (K 3 (by omega) (by omega) hX)).relabel (L 3 (by omega) (by omega) hX)
 ·rcases q with q|⟨hX,e1,e2⟩
  ·exact q
  ·rw[e1,e2];exact(h0.q.keep (K 4 (by omega) (by omega) hX)).relabel (L 4 (by omega) (by omega) hX)
 ·rcases y with y|⟨hX,e1,e2⟩
  ·exact y
  ·rw[e1,e2];exact(h0.y.keep (K 5 (by omega) (by omega) hX)).relabel (L 5 (by omega) (by omega) hX)
 ·rcases d with d|⟨hX,e1,e2⟩
  ·exact d
  ·rw[e1,e2];exact(h0.d.keep (K 6 (by omega) (by omega) hX)).relabel (L 6 (by omega) (by omega) hX)
 ·rcases gd with gd|⟨hX,e1,e2⟩
  ·exact gd
  ·rw[e1,e2];exact(h0.gd.keep (K 7 (by omega) (by omega) hX)).relabel (L 7 (by omega) (by omega) hX)
 ·rcases e with e|⟨⟨hX,hY⟩,e1,e2⟩
  ·exact e
  ·rw[e1,e2];exact(h0.e.keep (K 8 (by omega) (by omega) hX) (K 13 (by omega) (by omega) hY)).relabel (L 8 (by omega) (by omega) hX) (L 13 (by omega) (by omega) hY)
 ·rcases c with c|⟨⟨hX,hY⟩,e1,e2⟩
  ·exact c
  ·rw[e1,e2];exact(h0.c.keep (K 9 (by omega) (by omega) hX) (K 13 (by omega) (by omega) hY)).relabel (L 9 (by omega) (by omega) hX) (L 13 (by omega) (by omega) hY)
 ·rcases n with n|⟨hX,e1,e2⟩
  ·exact n
  ·rw[e1,e2];exact(h0.n.keep (K 13 (by omega) (by omega) hX)).relabel (L 13 (by omega) (by omega) hX)
 ·rcases r with r|⟨hX,e1,e2⟩
  ·exact r
  ·rw[e1,e2];exact(h0.r.keep (K 11 (by omega) (by omega) hX)).relabel (L 11 (by omega) (by omega) hX)
 ·rcases m with m|⟨⟨hX,hY⟩,e1,e2⟩
  ·exact m
  ·rw[e1,e2];exact(h0.m.keep (K 12 (by omega) (by omega) hX) (K 13 (by omega) (by omega) hY)).relabel (L 12 (by omega) (by omega) hX) (L 13 (by omega) (by omega) hY)
theorem aq.turn(X:List Nat)(h:av aa b w g R v)(hs:ay w' g 107 (bt R' v'))(hl:∀j,j<w.heap.size->ac j=aa j)
  (h1:∀i,i∈X->1<i/\i<=12) (hF:Fr (fun j=>j=g\/∃i,i∈X/\aa j=b+i) w w')
  (t:rL ac (b+2) w' v'.trk R'.track\/(2∉X/\v'.trk=v.trk/\R'.track=R.track))
  (p:aX ac (b+3) w' 163 4 v'.peers R'.peers.length (R'.peers.flatMap xh)\/(3∉X/\v'.peers=v.peers/\R'.peers=R.peers))
  (q:aX ac (b+4) w' 167 3 v'.waits R'.waits.length (R'.waits.flatMap mA)\/(4∉X/\v'.waits=v.waits/\R'.waits=R.waits))
  (y:rV ac (b+5) w' v'.yes R'.yes\/(5∉X/\v'.yes=v.yes/\R'.yes=R.yes))
  (d:cT ac (b+6) w' v'.dat R'.snap.data\/(6∉X/\v'.dat=v.dat/\R'.snap.data=R.snap.data))
  (gd:aX ac (b+7) w' 5 1 v'.gat R'.gath.data.length (R'.gath.data.map vb)\/(7∉X/\v'.gat=v.gat/\R'.gath.data=R.gath.data))
  (e:ee ac (b+8) (b+13) w' v'.ent R'.out.entries\/((8∉X/\13∉X)/\v'.ent=v.ent/\R'.out.entries=R.out.entries))
  (c:ee ac (b+9) (b+13) w' v'.com R'.out.commits\/((9∉X/\13∉X)/\v'.com=v.com/\R'.out.commits=R.out.commits))
  (n:rU ac (b+13) w' v'.snp R'.out.snap\/(13∉X/\v'.snp=v.snp/\R'.out.snap=R.out.snap))
  (r:aX ac (b+11) w' 134 2 v'.rds R'.out.reads.length (R'.out.reads.flatMap Cr)\/(11∉X/\v'.rds=v.rds/\R'.out.reads=R.out.reads))
  (m:gW ac (b+12) (b+13) w' v'.mgs R'.out.msgs\/((12∉X/\13∉X)/\v'.mgs=v.mgs/\R'.out.msgs=R.out.msgs)):aq aa b w g R' w':=by
 refine⟨ac,v',h.turn X hs (fun i j _ _ _ hj e=>(hl j hj).trans e) (fun hh=>by have:=h1 1 hh;omega) hF t p q y d gd e c n r m,fun j hj _=>hl j hj,fun j hj hm=>?_,hF.mono fun j hj=>?_⟩
 ·unfold aH at hm ⊢;rw[hl j hj];exact hm
 ·have:=h.sl;rcases hj with rfl|⟨i,hi,e⟩
  ·exact⟨by omega,by omega⟩
  ·have:=h1 i hi;exact⟨by omega,by omega⟩
theorem Fr.map{b:Nat}(hg:w.grownBy w' (some b)):Fr (fun j=>j=b) w w':=
 have h:=(Below.refl 0 w).grown hg zz (fun _ _=>Nat.zero_le _)
 ⟨h.os,h.tape,h.output,h.size,fun k hk hn=>hg.block k hk fun e=>hn (Option.some.inj e)⟩
theorem Fr.two{X Y Z:Nat->Prop}{w1 w2 w3:World}(h:Fr X w1 w2)(h':Fr Y w2 w3)(hX:∀j,X j->Z j\/w1.heap.size<=j)(hY:∀j,Y j->Z j\/w1.heap.size<=j):Fr Z w1 w3:=
 ⟨h'.os.trans h.os,h'.tape.trans h.tape,h'.output.trans h.output,Nat.le_trans h.size h'.size,fun k hk hn=>
  (h'.block k (Nat.lt_of_lt_of_le hk h.size) fun hx=>(hY k hx).elim hn fun h0=>absurd h0 (by omega)).trans (h.block k hk fun hx=>(hX k hx).elim hn fun h0=>absurd h0 (by omega))⟩
theorem sE(role:Int)(h:av aa b w g R v)(nS:R.id<=1000) :
  Calls prog 96 #[.pointer (some ⟨g,0,none⟩),.int .i64 role] w fun e w'=>e=.returned (.tuple #[])/\aq aa b w g {R with role:=role,leader:=0,yes:=[(R.id:Int)]} w':=by
 have bV:=h.s.lt;obtain⟨c3,c4,c13,c14,-⟩:=h.s.cs [3,4,13,14];obtain⟨f3,f13,f14,-⟩:=h.s.fs [3,13,14];simp only[bt,vi,Zx]at c3 c4 c13 c14;have Bs:Fr (fun j=>j=g) w ((w.setCell ⟨g,13,none⟩ (.int .i64 role)).setCell ⟨g,14,none⟩ (.int .i64 0)):=(Fr.set g 13 _).trans (Fr.set g 14 _) fun _ h=>.inl h
 have gn:((w.setCell ⟨g,13,none⟩ (.int .i64 role)).setCell ⟨g,14,none⟩ (.int .i64 0)).heap.size=w.heap.size:=by simp[World.setCell]
 have uT:ay ((w.setCell ⟨g,13,none⟩ (.int .i64 role)).setCell ⟨g,14,none⟩ (.int .i64 0)) g 107 (bt {R with role:=role,leader:=0} v):=by
  have s:=(h.s.set_ 13 (.int .i64 role)).set_ 14 (.int .i64 0);simp only[bt,Zy]at s;exact s
 have iq:=eE.made ((w.setCell ⟨g,13,none⟩ (.int .i64 role)).setCell ⟨g,14,none⟩ (.int .i64 0));rw[gn]at iq;have iA:Below _ ((w.setCell ⟨g,13,none⟩ (.int .i64 role)).setCell ⟨g,14,none⟩ (.int .i64 0)) (((w.setCell ⟨g,13,none⟩ (.int .i64 role)).setCell ⟨g,14,none⟩ (.int .i64 0)).alloc (.map #[] 0)):=(Below.refl ((w.setCell ⟨g,13,none⟩ (.int .i64 role)).setCell ⟨g,14,none⟩ (.int .i64 0)).heap.size _).alloc zl _;obtain⟨wa,X7⟩:=zN (((w.setCell ⟨g,13,none⟩ (.int .i64 role)).setCell ⟨g,14,none⟩ (.int .i64 0)));rw[X7]at Bs gn uT iq iA;obtain⟨w2,eh⟩:=zN (wa.alloc (.map #[] 0));rw[eh]at iq iA;obtain⟨w3,NK,mu,ip⟩:=rj iq underlying101 (s:=(R.id:Int)) (by omega) (by omega) (.bool true);have kh:=uT.kept iA;have pH:ay w3 g 107 (bt {R with role:=role,leader:=0} v):=((Fr.map ip).block g kh.lt (by omega)).trans kh;have c4':=kh.cell 4;have d3:=pH.cell 3;have e3:=pH.free 3;simp only[bt,vi,Zx]at d3 c4';have JK:eE (w3.setCell ⟨g,3,none⟩ (.map (some w.heap.size))) w.heap.size [(R.id:Int)]:=mu.keep ((Fr.set g 3 _).block _ mu.lt (by omega));have hF:Fr (fun j=>j=g\/∃i,i∈[5]/\aa j=b+i) w (w3.setCell ⟨g,3,none⟩ (.map (some w.heap.size))):=
  (((Bs.two (Fr.of_below (X:=fun j=>j=g) iA) (fun j e=>.inl (.inl e)) fun j e=>.inl (.inl e)).two (Fr.map ip) (fun j e=>.inl e) fun j e=>.inr (by omega)).two (Fr.set g 3 _) (fun j e=>.inl e) fun j e=>.inl (.inl e))
 have Dd:ay (w3.setCell ⟨g,3,none⟩ (.map (some w.heap.size))) g 107 (bt {R with role:=role,leader:=0,yes:=[(R.id:Int)]} {v with yes:=.map (some w.heap.size)}):=by
  have s:=pH.set_ 3 (.map (some w.heap.size));simp only[bt,Zy]at s;exact s
 have hy:rV (relab aa w.heap.size (b+5)) (b+5) (w3.setCell ⟨g,3,none⟩ (.map (some w.heap.size))) (.map (some w.heap.size)) [(R.id:Int)]:=by
  obtain⟨es,clock,q1,q2,q3,q4⟩:=JK;exact .inr ⟨_,es,clock,rfl,aA zl,q1,q2,q3,q4⟩
 have hP:=zH (show aq aa b w g {R with role:=role,leader:=0,yes:=[(R.id:Int)]} (w3.setCell ⟨g,3,none⟩ (.map (some w.heap.size)))from aq.turn (ac:=relab aa w.heap.size (b+5)) [5] h Dd (fun j hj=>ae hj) (by simp) hF
  tI tI tI (.inl hy) tI tI tI tI tI tI tI)
 clear h iq mu JK hF Bs uT kh pH Dd hy ip iA;go_enter func96,ntmps96;go_wp2_with fail;rw[show ∀w,(Instr.makeMap 101 none).run prog w=.ok (.map (some w.heap.size)) (w.alloc (.map #[] 0))from fun _=>rfl];go_wp2_with fail;exact ai rfl rfl ⟨rfl,hP.out⟩
end
end
section
open Go.Maps Go.MapKept Go.WideMaps
open Go.ChangeMaps (setBlock)
theorem lV{n:Int}{l l':List Int}(h:∀s,s∈l↔s∈l'):mh n l=mh n l':=by
 have:lX n.toNat l=lX n.toNat l':=by
  unfold lX;congr 1;apply List.filter_congr;intro i _;exact decide_eq_decide.2 (h _)
 unfold mh;rw[this]
def tg(w:World)(r b:Nat):Nat:=match w.heap[r]?,w.heap[b]? with
 | some (.mapIter _ _ seen _),some (.map es _)=>(leftOf es seen).size
 | _,_=>0
section
variable {w w':World}{r b n:Nat}{l:List Int}{hU:Int->Prop}{last:Option Int}
theorem kK.n_eq(h:kK w r b l hU n last):tg w r b=n:=by
 obtain⟨es,clock,since,c0,seen,h1,h2,bP,hold,RX,hn,_⟩:=h.it;unfold tg;rw[h1,h2];exact hn.symm
theorem kK.iter(h:kK w r b l hU n last):∃x s y z,w.heap[r]?=some (.mapIter x s y z):=by
 obtain⟨es,clock,since,c0,seen,h1,_⟩:=h.it;exact⟨_,_,_,_,h1⟩
theorem oR{B:Nat}{row:Option Nat}(h:w.grownBy w' row)(hB:B<=w.heap.size)(aD:∀g,row=some g->B<=g):Below B w w':=
 zb.grown h hB (fun g hg=>aD g hg)
theorem xe{base:Nat}{e:TypeId}{size n:Nat}{v:Value}{xs:List Value}(h:w.ownsRow base e size v n xs)(hk:∀(j:Nat) (cs:Array Value),w.heap[j]?=some (Obj.cells cs e)->w'.heap[j]?=some (Obj.cells cs e)):w'.ownsRow base e size v n xs:=by
 refine⟨h.1,?_⟩;rcases h.2 with h0|⟨g,cap,cur,h1,h2,h3,h4⟩
 ·exact .inl h0
 ·exact .inr ⟨g,cap,cur,h1,h2,hk _ _ h3,h4⟩
theorem nD{base:Nat}{e:TypeId}{size n m j:Nat}{A:Option Addr}{xs:List Value}{o:Obj}(h:w.ownsRow base e size (.slice A n m) n xs)(hg:w.grownBy w' (Value.slice A n m).ownBlock)(hj:w.heap[j]?=some o)(cH:∀cs,o≠.cells cs e (0,0)):w'.heap[j]?=some o:=by
 rw[<-hj];refine hg.block j (aS hj) fun e1=>?_
 rcases h.2 with⟨h0,_⟩|⟨g,cap,cur,h1,_,h3,_⟩
 ·rw[h0]at e1;simp[Value.ownBlock]at e1
 ·rw[h1]at e1;have e2:j=g:=by simpa[Value.ownBlock]using e1
  rw[<-e2,hj]at h3;exact cH _ (Option.some.inj h3)
end
section
variable {aa:Nat->Nat}{b g:Nat}{w:World}{R:Rf}{v:Rw}
theorem aq.below{w1 w2:World}{R1:Rf}(h:aq aa b w g R1 w1)(hb:Below w1.heap.size w1 w2):aq aa b w g R1 w2:=by
 obtain⟨ac,v',h1,h2,h3,h4⟩:=h;exact⟨ac,v',h1.below hb,h2,h3,h4.trans (Fr.of_below (X:=aH aa b) hb) fun j hj=>.inl hj⟩
theorem rk(s:Int)(h:av aa b w g R v)(h0:0<=s)(qe:s<=1000)(iu:R.yes≠[])(ab:R.yes.length<=10000000000) :
  Calls prog 98 #[.pointer (some ⟨g,0,none⟩),.int .i64 s] w fun e w'=>e=.returned (.bool (R.says s).won)/\aq aa b w g (R.says s) w':=by
 have bV:=h.s.lt;obtain⟨bm,hv,g9,hk⟩:∃bm,v.yes=.map (some bm)/\aa bm=b+5/\eE w bm R.yes:=by
  rcases h.y with⟨_,hn⟩|⟨bm,es,clock,h1,h2,h3,h4,h5,h6⟩
  ·exact absurd hn iu
  ·exact⟨bm,h1,h2,es,clock,h3,h4,h5,h6⟩
 obtain⟨c3,c5,-⟩:=h.s.cs [3,5];simp only[bt,vi,Zx]at c3 c5;rw[hv]at c3;have KZ:g≠bm:=fun e=>by
  have:=h.sl;rw[e,g9]at this;omega
 obtain⟨w1,NK,cw,g4⟩:=rj hk underlying101 h0 qe (.bool true);have pG:=Fr.map g4;have uT:ay w1 g 107 (bt R v):=(pG.block g bV KZ).trans h.s;obtain⟨d3,d5,-⟩:=uT.cs [3,5];simp only[bt,vi,Zx]at d3 d5;rw[hv]at d3;have xM:aq aa b w g (R.says s) w1:=by
  obtain⟨es,clock,q1,q2,q3,q4⟩:=cw;refine aq.turn (v':=v) (ac:=aa) [5] h uT (fun j _=>rfl) (by simp) (pG.mono fun j e=>.inr ⟨5,by simp,by rw[e];exact g9⟩)
   tI tI tI (.inl ?_) tI tI tI tI tI tI tI
  rw[hv];exact .inr ⟨bm,es,clock,rfl,g9,q1,q2,q3,q4⟩
 have dm:(R.yes++[s]).length<=10000000001:=by simp;exact ab
 have uq:(R.says s).won=mh R.n (R.yes++[s]):=rfl;obtain⟨l,hl⟩:=zN (R.yes++[s]);rw[hl]at cw dm uq;obtain⟨w2,nn,kH,Ub,hR,o,eh⟩:=xo cw underlying101;have cI:Below w1.heap.size w1 w2:=by rw[eh];exact zb.alloc zl o
 have yS:w1.heap.size≠bm:=by have:=cw.lt;omega
 have QW:g<w1.heap.size:=uT.lt;replace xM:=zH xM;replace uq:=zH uq;clear h hk cw pG hl eh g9 iu;obtain⟨r,hr⟩:=zN (w1.heap.size);rw[hr]at hR cI yS kH;go_enter func98,ntmps98;go_wp2_with fail
 go_loopw [5] (fun v wr=>∃(hU:Int->Prop) (q:Nat) (last:Option Int) (K:List Int) (A:Option Addr) (m cc:Nat),v=.slice A m cc/\wr.ownsRow r 3 1 (.slice A m cc) m (K.map vi)/\(∀s,s∈K↔(s∈l/\¬hU s))/\kK wr r bm l hU q last/\m+q<=l.length/\Below r w1 wr) (fun _ wr=>tg wr r bm)
 case atStart=>exact⟨_,nn,_,[],none,0,0,rfl,ek _ _,fun s=>⟨fun h=>(by cases h),fun h=>absurd h.1 h.2⟩,hR,by omega,cI⟩
 case round=>
  clear hR cI;obtain⟨hU,q,last,K,A,m,cc,rfl,aJ,hK,hR,Rs,bH⟩:=hrel;have PU:K.length=m:=by have:=aJ.1;simpa using this
  have BI:g<r:=by omega
  have d5w:=(bH.cell (p:=⟨g,5,none⟩) BI).trans d5;rcases mz hR yS 0 with⟨h0,hl,dM⟩|⟨s',v',w2',o2,q',xU,Xj,eh,dM,wb⟩
  ·have aO:∀s,s∈K↔s∈l:=fun s=>by
    rw[hK];exact⟨fun h=>h.1,fun h=>⟨h,hl s⟩⟩
   have sX:=aZ aJ;have aP:=AU R.n A m cc K wr (jK.of_own aJ) sX.2 sX.1;rw[lV aO]at aP;have hQ:=zH (show aq aa b w g (R.says s) wr from xM.out.below (by rw[hr];exact bH));clear aO hK hR aJ Rs PU h0 hl;go_wp2_with fail;refine aP.mono ?_;rintro e w9 ⟨rfl,rfl⟩;go_wp2_with fail;go_ret;exact⟨by rw[uq.out];rfl,hQ.out⟩
  ·have pw:=lE wb;obtain⟨ve,pw⟩:=pw;have J5:r<wr.heap.size:=by
    obtain⟨x,y,z,t,h1⟩:=hR.iter;exact aS h1
   have yL:wr.grownBy (setBlock w2' r o2) (some r):=by
    rcases eh with rfl|rfl
    ·exact⟨rfl,rfl,rfl,by simp[setBlock],fun j _ cH=>by simp only[setBlock];rw[Array.getElem?_setIfInBounds_ne (fun e=>cH (by rw[e]))]⟩
    ·exact⟨rfl,rfl,rfl,by show wr.heap.size<=(wr.heap.setIfInBounds r o2).size;simp,fun j _ cH=>by show(wr.heap.setIfInBounds r o2)[j]?=_;rw[Array.getElem?_setIfInBounds_ne (fun e=>cH (by rw[e]))]⟩
   have bS:(setBlock w2' r o2).ownsRow r 3 1 (.slice A m cc) m (K.map vi):=xe aJ fun j cs hj=>(yL.block j (aS hj) (fun e=>by
    injection e with e;obtain⟨x,y,z,t,h1⟩:=hR.iter;rw[e,h1]at hj;cases hj)).trans hj
   have cv:=bH.trans (oR yL (by have:=bH.size;omega) (fun x hx=>by cases hx;exact Nat.le_refl _));have ug:tg wr r bm=q:=hR.n_eq;clear yL hR bH eh J5 aJ;generalize fX:setBlock w2' r o2=w3 at *;clear fX;have dV:Below w3.heap.size w3 (w3.alloc (.cells #[.int .i64 s'] 3)):=zb.alloc zl _;have gu:=jK.one w3 s';have gp:=bF bS dV;have rO:kK (w3.alloc (.cells #[.int .i64 s'] 3)) r bm l (fun t=>hU t/\t≠s') q' (some s'):=wb.keep (dV.block r (by
    obtain⟨x,y,z,t,h1⟩:=wb.iter;exact aS h1)) (dV.block bm wb.m.lt)
   have iH:=aj cv dV (by have:=cv.size;omega);have bD:r<=(w3.alloc (.cells #[.int .i64 s'] 3)).heap.size:=by have:=iH.size;omega
   have jV:m+1<=1000000000000:=by omega
   go_wp2_with (at_builtin;refine b9 rfl (.tmp 23) (.tmp 25) rfl r rfl gp rfl gu jV bD ?_;intro A5 c5 w5 cX lN dp);have uS:kK w5 r bm l (fun t=>hU t/\t≠s') q' (some s'):=by
    refine rO.keep ?_ ?_
    ·obtain⟨x,y,z,t,h1⟩:=rO.iter;rw[h1];exact nD gp lN h1 (fun cs e=>by cases e)
    ·obtain⟨es,clock,h1,_⟩:=rO.m;rw[h1];exact nD gp lN h1 (fun cs e=>by cases e)
   have vg:=uS.n_eq;have mf:s'∈l:=by
    obtain⟨es,clock,h1,h2,h3,h4⟩:=wb.m;obtain⟨es',clock',since,c0,seen,k1,k2,k3,k4,k5,k6,k7,k8,k9,k10⟩:=wb.it;obtain⟨e,seen0,q1,q2,_⟩:=k10 s' rfl;rw[h1]at k2;cases k2;exact(h4 s').2 ⟨e,q1,q2⟩
   refine⟨⟨_,q',_,K++[s'],A5,m+1,c5,rfl,cX,fun t=>?_,uS,by omega,iH.trans dp⟩,by rw[vg,ug];exact xU⟩;rw[List.mem_append,List.mem_singleton,hK];constructor
   ·rintro(h|rfl)
    ·exact⟨h.1,fun h2=>h.2 h2.1⟩
    ·exact⟨mf,fun h2=>h2.2 rfl⟩
   ·rintro⟨h1,h2⟩;by_cases e:t=s'
    ·exact .inr e
    ·exact .inl ⟨h1,fun h3=>h2 ⟨h3,e⟩⟩
end
end
section
open Go.MapKept
theorem pA{w:World}{ops:Array Oper}{rest:List Oper}{o:Oper}{a:Act}{Q:Exit->Act->World->Prop}(iJ:o.guard=none)(s x:Operand)
  (ho:o.op=.call {callee:=.builtin .append,args:=#[s,x],argTypes:=#[24,24]})
  (base:Nat) {v:Value} {n:Nat} {l:List UInt8} (hs:a.eval s=v) (aJ:w.ownsRow base 5 1 v n (l.map vb))
  {A:Option Addr} {m c:Nat} {r:List UInt8} (hx:a.eval x=.slice A m c) (hr:Rd w A m r) (hb:n+m<=1000000000000) (bD:base<=w.heap.size)
  (h:∀A' c' w',w'.ownsRow base 5 1 (.slice A' (n+m) c') (n+m) ((l++r).map vb)->w.grownBy w' v.ownBlock->Below base w w'->wpList prog ops Q rest (a.put o.dst (.slice A' (n+m) c')) w'):wpList prog ops Q (o::rest) a w:=by
 obtain⟨i0,fT,gv,fC,fK⟩:=info_parts nP;refine bj w iJ s x 24 ho base 5 i0 _ 1 1 underlying24 fT gv fC fK rfl (by omega) v n _ hs aJ A m c _ hx hr (fun u hu=>zY u hu) (by unfold maxLen;omega) (by omega) bD ?_;intro A' c' w' h1 h2 _;exact h A' c' w' (by rw[List.map_append];exact h1) h2 (eQ aJ h2 bD)
theorem Cj(w:World):(w.alloc (.cells #[] 5)).ownsRow w.heap.size 5 1 (.slice (some ⟨w.heap.size,0,none⟩) 0 0) 0 (([]:List UInt8).map vb):=pN 5 [] 0 rfl zz
theorem nV(A:Option Addr)(n c:Nat)(l:List UInt8)(w:World)(hl:Rd w A n l)(hn:n<=1000000000000) :
  Calls prog 87 #[.slice A n c] w fun e w'=>∃A' c',e=.returned (.slice A' n c')/\w'.ownsRow w.heap.size 5 1 (.slice A' n c') n (l.map vb)/\Below w.heap.size w w':=by
 have ab:=hl.len;cases A with
 | none=>
  obtain rfl:n=0:=by
   rcases Nat.eq_zero_or_pos n with h|h
   ·exact h
   ·obtain⟨ad,h,_⟩:=hl.2 h;cases h
  obtain rfl:l=[]:=List.eq_nil_of_length_eq_zero ab;go_enter func87,ntmps87;go_wp2_with fail;rw[run_eql_slice_nil _ 24 5 none 0 c underlying24];go_wp2_with fail;go_ret;exact⟨none,0,rfl,ek _ _,Below.refl _ _⟩
 | some ad=>
  have hb:=(Below.refl w.heap.size w).alloc zl (.cells #[] 5);have dm:=hl.below hb;have ho:=Cj w;go_enter func87,ntmps87;go_wp2_with fail;rw[run_eql_slice_nil _ 24 5 (some ad) n c underlying24];go_wp2_with (at_builtin;refine pA rfl (.tmp 5) (.tmp 6) rfl w.heap.size rfl ho rfl dm (by omega) hb.size ?_;intro A3 c3 w3 bS ip cv);go_ret;rw[Nat.zero_add,List.nil_append]at bS;refine⟨A3,c3,?_,bS,hb.trans cv⟩;rfl
section
variable {aa:Nat->Nat}{b g:Nat}{w w1 w2:World}{R R1:Rf}{v:Rw}
theorem aq.fresh'{i:Nat}(h:aq (relab aa w.heap.size i) b w1 g R1 w2)(hb:Below w.heap.size w w1):aq aa b w g R1 w2:=by
 obtain⟨ac,v',h1,h2,h3,h4⟩:=h;have hs:=hb.size;have hm:∀j,j<w.heap.size->(aH (relab aa w.heap.size i) b j↔aH aa b j):=fun j hj=>by
  unfold aH;rw[ae hj]
 refine⟨ac,v',h1,fun j hj hn=>?_,fun j hj hn=>h3 j (by omega) ((hm j hj).2 hn),(Fr.of_below (X:=aH aa b) hb).trans h4 fun j hj=>?_⟩
 ·rw[h2 j (by omega) fun h=>hn ((hm j hj).1 h)];exact ae hj
 ·rcases Nat.lt_or_ge j w.heap.size with hl|hl
  ·exact .inl ((hm j hl).1 hj)
  ·exact .inr hl
theorem av.fresh'(i:Nat)(h:av aa b w g R v)(hb:Below w.heap.size w w1):av (relab aa w.heap.size i) b w1 g R v:=
 (h.relabel (ac:=relab aa w.heap.size i) fun _ hj _=>ae hj).below hb
theorem aX.at_{i n size:Nat}{T:TypeId}{x:Value}{xs:List Value}(h:aX aa i w T size x n xs)(hn:0<n):∃q c,x=.slice (some ⟨q,0,none⟩) n c/\n<=c/\aa q=i/\q<w.heap.size/\(∀j u,xs[j]?=some u->w.cell? ⟨q,j,none⟩=some u)/\∀j,w.frozen? ⟨q,j,none⟩=false:=by
 obtain⟨A,c,rfl,h1,h2⟩:=h;obtain⟨q,cap,hv,hb,_⟩:=h1.form hn;injection hv with hA _ hc;subst hA;subst hc;have bh:=(aI h1 _ c rfl q ⟨_,rfl,rfl⟩).1;refine⟨q,c,rfl,(aZ h1).1,h2 q ⟨_,rfl,rfl⟩,bh,fun j u hu=>?_,h1.frozenAt⟩;have hl:=(List.getElem?_eq_some_iff.1 hu).1;rw[h1.1]at hl;rw[h1.cellAt j hl];exact hu
theorem lR(p:Pr):(xh p).length=4:=rfl
theorem av.peer_at(h:av aa b w g R v){s:Nat}(hs:s<R.peers.length):∃q c,v.peers=.slice (some ⟨q,0,none⟩) R.peers.length c/\aa q=b+3/\q<w.heap.size/\
  w.cell? ⟨q,s*4,none⟩=some (.int .i64 (R.peer s).next)/\w.cell? ⟨q,s*4+1,none⟩=some (.int .i64 (R.peer s).mat)/\w.cell? ⟨q,s*4+2,none⟩=some (.int .i64 (R.peer s).offset)/\w.cell? ⟨q,s*4+3,none⟩=some (.int .i64 (R.peer s).round)/\
  ∀j,w.frozen? ⟨q,j,none⟩=false:=by
 obtain⟨q,c,h1,h2,h3,h4,h5,h6⟩:=h.p.at_ (by omega);have hp:R.peers[s]?=some (R.peer s):=by unfold Rf.peer;rw[List.getElem?_eq_getElem hs];rfl
 have key:∀j u,j<4->(xh (R.peer s))[j]?=some u->w.cell? ⟨q,s*4+j,none⟩=some u:=fun j u hj hu=>h5 _ _ ((cB lR hj hp).trans hu)
 exact⟨q,c,h1,h3,h4,key 0 _ (by omega) rfl,key 1 _ (by omega) rfl,key 2 _ (by omega) rfl,key 3 _ (by omega) rfl,h6⟩
theorem tf(s:Nat)(h:av aa b w g R v)(hs:s<R.peers.length)(hn:R.out.msgs.length<=10000000000)(hN:R.track.L.length<=100000000000)
  (wG:1<=(R.peer s).next) (yW:(R.peer s).next<=4000000000000) (RC:0<=(R.peer s).offset) (Nm:(R.peer s).offset<=R.snap.data.length) (hd:R.snap.data.length<=65536) (BF:0<R.track.index->0<R.snap.data.length) :
  Calls prog 95 #[.pointer (some ⟨g,0,none⟩),.int .i64 s] w fun e w'=>e=.returned (.tuple #[])/\aq aa b w g (R.lacks s) w':=by
 have bV:=h.s.lt;obtain⟨q,c,hv,fR,yR,p0,p1,p2,p3,_⟩:=h.peer_at hs;obtain⟨d0,d8,-⟩:=h.s.cs [0,8];simp only[bt,vi,Zx]at d0 d8;rw[hv]at d0;have bD:=nM h.t;obtain⟨p,hp⟩:=zN (R.peer s);rw[hp]at p0 p1 p2 p3 wG yW RC Nm;go_enter func95,ntmps95;go_wp2_with fail;refine bD.mono ?_;rintro e w1 ⟨rfl,bH⟩;have h1:=h.below bH;have p0':=(bH.cell yR).trans p0;have p2':=(bH.cell yR).trans p2;have d1':=h1.s.cell 1;have d8':=h1.s.cell 8;have d9':=h1.s.cell 9;have d10':=h1.s.cell 10;have d11':=h1.s.cell 11;have d12':=h1.s.cell 12;simp only[bt,vi,Zx]at d1' d8' d9' d10' d11' d12';have bY:∀x∈[g,q],x<w1.heap.size:=by simp;exact⟨by have:=bH.size;omega,by have:=bH.size;omega⟩
 obtain⟨kp0,kp2,kd1,kd8,kd9,kdA,kdB⟩:=O8 [g,q] p0' p2' d1' d8' d9' d10' d11';have H:=zH h;have H1:=zH h1;by_cases bh:p.next-1<R.track.index
 ·have Mu:=h1.d;clear h h1 bD;obtain⟨Ad,cd,Gq,eb,Mo,Xm,TX⟩:∃A c,v.dat=.slice A R.snap.data.length c/\Rd w1 A R.snap.data.length R.snap.data/\R.snap.data.length<=c/\c<=maxLen/\(0<R.snap.data.length->∀ad,A=some ad->aa ad.block=b+6):=by
   obtain⟨A,c,h1,h2,h3,h4,h5⟩:=Mu;exact⟨A,c,h1,h2,h3,h4,fun h0 ad e=>h5 h0 ad e⟩
  have WP:=BF (by omega);obtain⟨ad,rfl,qi⟩:=eb.2 WP;obtain⟨o,ho⟩:∃o:Nat,p.offset=o:=⟨p.offset.toNat,by omega⟩;rw[ho]at RC Nm p2' kp2;have Xu:o<=R.snap.data.length:=by omega
  obtain⟨N,Wj⟩:=zN ((min (R.snap.data.length:Int) ((o:Int)+160)).toNat-o);obtain⟨l,hl⟩:=zN ((R.snap.data.drop o).take 160);have Lc:l.length=N:=by rw[<-hl,List.length_take,List.length_drop];omega
  have gE:Rd w1 (some (ad.add o)) N l:=by
   refine⟨by rw[List.length_map,Lc,Nat.mul_one],fun _=>⟨_,rfl,fun j u hu=>?_⟩⟩;rw[Addr.add_add];refine qi (o+j) u ?_;rw[<-hl,List.map_take,List.map_drop,List.getElem?_take]at hu;split at hu
   ·rw[List.getElem?_drop]at hu;exact hu
   ·cases hu
  have hL:=zH (show R.lacks s=R.send {fx with kind:=7,tgt:=(s:Int),idx:=R.snap.idx,logTerm:=R.snap.term,offset:=(o:Int),total:=R.snap.data.length,data:=l,round:=R.round} by unfold Rf.lacks;rw[hp,if_pos bh,ho,<-hl];rfl);obtain⟨va,Uo,Tr⟩:∃va:Option Addr,(if cd=o then some ad else some (ad.add o))=va/\Rd w1 va N l:=by
   by_cases Ej:cd=o
   ·rw[if_pos Ej];refine⟨_,rfl,?_⟩;have Wh:N=0:=by omega
    rw[Wh]at Lc ⊢;rw[List.eq_nil_of_length_eq_zero Lc];exact⟨rfl,fun h=>absurd h (by omega)⟩
   ·rw[if_neg Ej];exact⟨_,rfl,gE⟩
  replace hl:=zH hl;rw[Gq]at kdB;go_wp2_with fail;refine gj [g,q] w1 [([0,1,2,3,4,5,6,7,8,9,10,11,12,13,14,15,16,17,18,19],20)] [21,22] ?_;refine aC fun K1 cF=>?_
  simp only[af,Zx];repeat go_big_quiet_step(fail)
  apply wpQuiet_nil;go_wp2_with fail;refine⟨az,cF _ _ ?_⟩;refine an ?_;simp only[af,Zx];repeat go_big_quiet_step(fail)
  apply wpQuiet_nil;try rw[Uo]
  have Ur:Below w1.heap.size w1 w1.drew.drew:=aY zb 2;have Ei:=nV va N (cd-o) l w1.drew.drew (cj.below Tr Ur) (by omega);have kp2:=ak (w:=w1.drew) (gs:=[g,q]) p2' (by simp);have kd1:=ak (w:=w1.drew) (gs:=[g,q]) d1' (by simp);have kd9:=ak (w:=w1.drew) (gs:=[g,q]) d9' (by simp);have kdA:=ak (w:=w1.drew) (gs:=[g,q]) d10' (by simp);rw[Gq]at d11';have kdB:=ak (w:=w1.drew) (gs:=[g,q]) d11' (by simp);clear Uo Gq Wj Tr gE Mu;go_wp2_with fail;refine bz (C:=cr [g,q] w1.drew) [([0,1,2,3,4,5,6,7,8,9,10,11,12,13,14,15,16,17,18,19,20,21,22,24,25,26,27,28],23)] ([29],30) (by kernel_rfl) (by kernel_rfl) (fun _ _ _ _ e h=>⟨e.symm.trans h.1,h.2⟩) az ?_;refine au fun K2 jl=>?_
  simp only[af,Zx];repeat go_big_quiet_step(fail)
  apply wpQuiet_nil;go_wp2_with fail;refine Ei.mono ?_;rintro e w3 ⟨A3,c3,rfl,bS,cv⟩;go_wp2_with fail;have kw:Below w1.heap.size w1 w3:=Ur.trans cv;have eI:=aj bH kw zl;refine⟨aw (w:=w1.drew) bY ((aY zb 1).trans cv),jl _ _ ?_⟩;refine aE ?_;simp only[af,Zx];repeat go_big_quiet_step(fail)
  apply wpQuiet_nil;have hm:eA (relab aa w.heap.size (b+13)) (b+13) w3 ((.slice none 0 0,.slice A3 N c3),{fx with kind:=7,tgt:=(s:Int),idx:=R.snap.idx,logTerm:=R.snap.term,offset:=(o:Int),total:=R.snap.data.length,data:=l,round:=R.round}):=by
   refine⟨pQ.nil _ _ _,?_,Aj.of_own bS⟩;have sX:=aZ bS;refine⟨A3,c3,by show Value.slice A3 N c3=Value.slice A3 l.length c3;rw[Lc],by show cj w3 1 A3 l.length _;rw[Lc];exact cj.of_own bS,by show l.length<=c3;rw[Lc];exact sX.1,sX.2,fun _ ad e=>?_⟩;have:=aI bS A3 c3 rfl ad.block ⟨ad,e,rfl⟩;exact aA (by have:=bH.size;have:w1.drew.drew.heap.size=w1.heap.size:=rfl;omega)
  have fV:=rm _ _ _ (H.out.fresh' (b+13) eI) hm ⟨rfl,rfl⟩ hn;unfold iw at fV;simp only[vi]at fV;clear Ei hm bS;go_wp2_with fail;refine fV.mono ?_;rintro e w4 ⟨rfl,hP⟩;have hQ:=zH (show aq aa b w g (R.lacks s) w4 by rw[hL.out];exact hP.fresh' eI);go_wp2_with fail;exact bf rfl rfl ⟨rfl,hQ.out⟩
 ·have cl:=lG (p.next-1) (h1.below (w':=w1.drew) (zb.drew)).t hN;obtain⟨tt,pM⟩:∃x,R.track.termF (p.next-1)=x:=⟨_,rfl⟩;rw[pM]at cl;have fQ:=Int.not_lt.1 bh;have hL:=zH (show R.lacks s=R.send {fx with kind:=5,tgt:=(s:Int),idx:=p.next-1,logTerm:=tt.1,entries:=R.track.sliceF p.next 6,commit:=R.commit,round:=R.round} by unfold Rf.lacks;rw[hp,if_neg bh,pM]);replace pM:=zH pM;clear h h1 bD;go_wp2_with fail;refine gj [g,q] w1 [([0,1,2,3,4,5,6,7,8],9)] [10,11,12,13,14] ?_;refine aC fun K1 cF=>?_
  simp only[af,Zx];repeat go_big_quiet_step(fail)
  apply wpQuiet_nil;go_wp2_with fail;refine cl.mono ?_;rintro e w2 ⟨rfl,bU⟩;go_wp2_with fail;have cI:Below w1.heap.size w1 w2:=(zb.drew).trans bU;have dS:=aj bH cI zl;refine⟨aw bY cI,cF _ _ ?_⟩;refine an ?_;simp only[af,Zx];repeat go_big_quiet_step(fail)
  apply wpQuiet_nil;have h2:=H1.out.below cI;have p0w:=(cI.cell (aG p0')).trans p0';obtain⟨d1w,d8w,d12w,-⟩:=h2.s.cs [1,8,12];simp only[bt,vi,Zx]at d1w d8w d12w;obtain⟨qp0,qd1,qd8,qd12⟩:=IY [g,q] p0w d1w d8w d12w;have Q5:∀x∈[g,q],x<w2.heap.size:=fun x hx=>Nat.lt_of_lt_of_le (bY x hx) cI.size
  have ul:=oB p.next 6 (h2.below (w':=w2.drew) (zb.drew)).t hN;clear h2 cl kp0 kp2 kd1 kd8 kd9 kdA kdB;go_wp2_with fail;refine qY [g,q] w2 [([0,1,2,3,4,5,6,7,8,9,10,11,12,13,14,15,17,18,19,20,21,22,23,24,25],16)] ([26],27) ?_;refine au fun K2 jl=>?_
  simp only[af,Zx];repeat go_big_quiet_step(fail)
  apply wpQuiet_nil;go_wp2_with fail;refine ul.mono ?_;rintro e w3 ⟨A3,n3,c3,zs3,rfl,LF,cv⟩;go_wp2_with fail;have Ma:Below w2.heap.size w2 w3:=(zb.drew).trans cv;have eI:=aj dS Ma zl;refine⟨aw Q5 Ma,jl _ _ ?_⟩;refine aE ?_;simp only[af,Zx];repeat go_big_quiet_step(fail)
  apply wpQuiet_nil;have hm:eA (relab aa w.heap.size (b+13)) (b+13) w3 ((.slice A3 n3 c3,.slice none 0 0),{fx with kind:=5,tgt:=(s:Int),idx:=p.next-1,logTerm:=tt.1,entries:=R.track.sliceF p.next 6,commit:=R.commit,round:=R.round}):=
   ⟨⟨da.of_new LF fun j hj _=>aA (by have:=dS.size;have:w2.drew.heap.size=w2.heap.size:=rfl;omega),Aj.of_own LF.1⟩,pc.nil _ _ _⟩
  have fV:=rm _ _ _ (H.out.fresh' (b+13) eI) hm ⟨rfl,rfl⟩ hn;unfold iw at fV;simp only[vi]at fV;clear ul hm LF;go_wp2_with fail;refine fV.mono ?_;rintro e w4 ⟨rfl,hP⟩;have hQ:=zH (show aq aa b w g (R.lacks s) w4 by rw[hL.out];exact hP.fresh' eI);go_wp2_with fail;exact ai rfl rfl ⟨rfl,hQ.out⟩
end
end
section
open Go.MapKept
structure gQ(R:Rf):Prop where
 len:R.peers.length=R.n+1
 n7:R.n<=7
 nx:∀s,s<=R.n->1<=(R.peer s).next/\(R.peer s).next<=4000000000000
 off:∀s,s<=R.n->0<=(R.peer s).offset/\(R.peer s).offset<=R.snap.data.length
 dat:R.snap.data.length<=65536
 dat0:0<R.track.index->0<R.snap.data.length
 trk:R.track.L.length<=100000000000
theorem gQ.out{R:Rf}(h:gQ R)(o:Ot):gQ {R with out:=o}:=⟨h.len,h.n7,h.nx,h.off,h.dat,h.dat0,h.trk⟩
theorem B4(R:Rf)(s:Nat):∃m,R.lacks s={R with out:={R.out with msgs:=R.out.msgs++[m]}}:=by
 unfold Rf.lacks;split
 ·exact⟨_,rfl⟩
 ·exact⟨_,rfl⟩
theorem iB(l:List Nat):∀R:Rf,∃ms,l.foldl Rf.lacks R={R with out:={R.out with msgs:=R.out.msgs++ms}}/\ms.length=l.length:=by
 induction l with
 | nil=>intro R;exact⟨[],by rw[List.append_nil];rfl,rfl⟩
 | cons s l ih=>
  intro R;obtain⟨m,hm⟩:=B4 R s;obtain⟨ms,h1,h2⟩:=ih (R.lacks s);refine⟨m::ms,?_,by simp[h2]⟩;show l.foldl Rf.lacks (R.lacks s)=_;rw[h1,hm];simp
theorem zt{R:Rf}{s:Nat}(h:s∈R.others):1<=s/\s<=R.n/\s≠R.id:=by
 unfold Rf.others at h;rw[List.mem_filter,List.mem_range'_1]at h;have:=of_decide_eq_true h.2;omega
theorem gK(R:Rf):R.others.length<=R.n:=by
 unfold Rf.others;refine Nat.le_trans (List.length_filter_le _ _) ?_;rw[List.length_range'];exact Nat.le_refl _
theorem uD{w:World}{base n c:Nat}{A:Option Addr}{l:List Int}(h:w.ownsRow base 3 1 (.slice A n c) n (l.map vi)){k:Nat}(hk:k<n) :
  ∃q x,A=some ⟨q,0,none⟩/\base<=q/\q<w.heap.size/\l[k]?=some x/\w.cell? ⟨q,k,none⟩=some (.int .i64 x):=by
 obtain⟨q,cap,hv,hb,_⟩:=h.form (by omega);injection hv with hA _ hc;subst hA;subst hc;have hl:l.length=n:=by have:=h.1;simpa using this
 refine⟨q,l[k]'(by omega),rfl,hb,(aI h _ c rfl q ⟨_,rfl,rfl⟩).1,List.getElem?_eq_getElem (by omega),?_⟩;rw[h.cellAt k (by omega),List.getElem?_map,List.getElem?_eq_getElem (by omega)];rfl
section
variable {aa:Nat->Nat}{b g:Nat}{w:World}{R:Rf}{v:Rw}
theorem jR(h:av aa b w g R v)(hP:gQ R)(hn:R.out.msgs.length<=9000000000) :
  Calls prog 48 #[.pointer (some ⟨g,0,none⟩)] w fun e w'=>e=.returned (.tuple #[])/\aq aa b w g R.all w':=by
 have Nt:=mM h hP.n7;have eS:R.all=R.others.foldl Rf.lacks R:=rfl;have dv:=fun s (hs:s∈R.others)=>zt hs
 have EP:=gK R;have gg:=hP.n7;obtain⟨l,hl⟩:=zN (R.others);rw[hl]at Nt eS dv EP;replace eS:=zH eS;go_enter func48,ntmps48;go_wp2_with fail;refine Nt.mono ?_;rintro e w1 ⟨A,c,rfl,aJ,bH⟩;have h1:=h.fresh bH;have Wy:=bH.size;obtain⟨n,iW⟩:=zN (l.length);rw[iW]at aJ EP;go_wp2_with fail;try rw[iW]
 replace iW:=zH iW
 go_loopw [7] (fun i wr=>∃k:Nat,k<=n/\i=.int .i64 k/\aq (relab aa w.heap.size b) b w1 g ((l.take k).foldl Rf.lacks R) wr) (fun i _=>n-(intOf i).toNat)
 case atStart=>exact⟨0,Nat.zero_le _,rfl,⟨_,_,h1,fun _ _ _=>rfl,fun _ _ h=>h,Fr.refl _ _⟩⟩
 case round=>
  obtain⟨k,hk,rfl,hQ⟩:=hrel;by_cases bh:k<n
  ·obtain⟨q,x,rfl,ww,BS,hx,c0⟩:=uD aJ bh;obtain⟨s,hs,rfl⟩:∃s:Nat,l[k]?=some s/\(s:Int)=x:=by
    unfold wM at hx;rw[List.getElem?_map]at hx;cases nb:l[k]? with
    | none=>rw[nb]at hx;cases hx
    | some s=>rw[nb]at hx;exact⟨s,rfl,Option.some.inj hx⟩
   have c1:=(World.cell?_of_block (a:=⟨q,k,none⟩) (hQ.new ww BS)).trans c0;have yU:=dv s (List.mem_of_getElem? hs);obtain⟨ms,e1,e2⟩:=iB (l.take k) R;have Zt:ms.length<=k:=by rw[e2,List.length_take];omega
   have eX:(l.take (k+1)).foldl Rf.lacks R=((l.take k).foldl Rf.lacks R).lacks s:=by
    rw[List.take_add_one,hs,List.foldl_append];rfl
   rw[e1]at hQ eX;have yx:=hP.out {R.out with msgs:=R.out.msgs++ms};have aP:=hQ.call (fun bK v2 h2=>tf s h2 (by rw[yx.len];show s<R.n+1;omega) (by show(R.out.msgs++ms).length<=_;rw[List.length_append];omega) yx.trk (yx.nx s yU.2.1).1 (yx.nx s yU.2.1).2 (yx.off s yU.2.1).1 (yx.off s yU.2.1).2 yx.dat yx.dat0);rw[<-eX]at aP;clear hQ eX e1 yx hx hs aJ;go_wp2_with fail;refine aP.mono ?_;rintro e w4 ⟨rfl,hQ⟩;clear aP;go_wp2_with fail;exact⟨⟨k+1,bh,by go_num,hQ⟩,by simp[intOf];omega⟩
  ·obtain rfl:k=n:=by omega
   have hF:=zH (show aq aa b w g R.all wr by
    rw[List.take_of_length_le (by rw[iW.out];exact Nat.le_refl _),<-eS.out]at hQ;exact hQ.fresh bH)
   clear hQ;go_wp2_with fail;exact ai rfl rfl ⟨rfl,hF.out⟩
end
end
section
open Go.MapKept
def Lq(p:Pr):Value:=.agg #[.int .i64 p.next,.int .i64 p.mat,.int .i64 p.offset,.int .i64 p.round]
theorem xg(p:Pr)(w:World):Calls prog 122 #[Lq p] w fun e w'=>e=.returned (.int .i64 p.mat)/\Below w.heap.size w w':=by
 have hb:=(Below.refl w.heap.size w).alloc zl (.cells #[.int .i64 p.next,.int .i64 p.mat,.int .i64 p.offset,.int .i64 p.round] 163);unfold Lq;go_enter func122,ntmps122;go_wp2_with fail;go_ret;exact⟨rfl,hb⟩
theorem sA(p:Pr)(w:World):Calls prog 112 #[Lq p] w fun e w'=>e=.returned (.int .i64 p.round)/\Below w.heap.size w w':=by
 have hb:=(Below.refl w.heap.size w).alloc zl (.cells #[.int .i64 p.next,.int .i64 p.mat,.int .i64 p.offset,.int .i64 p.round] 163);unfold Lq;go_enter func112,ntmps112;go_wp2_with fail;go_ret;exact⟨rfl,hb⟩
def jZ(R:Rf)(own:Int)(f:Pr->Int)(k:Nat):List Int:=(List.range' 1 k).map fun s=>if s=R.id then own else f (R.peer s)
theorem nv(R:Rf)(own:Int)(f:Pr->Int)(k:Nat):jZ R own f (k+1)=jZ R own f k++[if k+1=R.id then own else f (R.peer (k+1))]:=by
 unfold jZ;rw[List.range'_concat,List.map_append];simp only[Nat.one_mul,Nat.add_comm 1 k];rfl
section
variable {aa:Nat->Nat}{b g:Nat}{w:World}{R:Rf}{v:Rw}
theorem uw(own:Int)(h:av aa b w g R v)(hp:R.peers.length=R.n+1)(gg:R.n<=7) :
  Calls prog 111 #[.pointer (some ⟨g,0,none⟩),.int .i64 own,.func (.func 122) #[] #[]] w fun e w'=>∃A c,e=.returned (.slice A R.n c)/\w'.ownsRow w.heap.size 3 1 (.slice A R.n c) R.n ((R.matchL own Pr.mat).map vi)/\Below w.heap.size w w':=by
 have bV:=h.s.lt;have hM:R.matchL own Pr.mat=jZ R own Pr.mat R.n:=rfl;replace hM:=zH hM;go_enter func111,ntmps111;go_wp2_with fail
 go_loopw [7,8] (fun o s' wr=>∃(k:Nat) (A:Option Addr) (c:Nat),k<=R.n/\s'=.int .i64 ((k:Int)+1)/\o=.slice A k c/\wr.ownsRow w.heap.size 3 1 (.slice A k c) k ((jZ R own Pr.mat k).map vi)/\Below w.heap.size w wr) (fun _ s' _=>R.n+1-(intOf s').toNat)
 case atStart=>exact⟨0,none,0,Nat.zero_le _,rfl,rfl,(ek _ _:w.ownsRow w.heap.size 3 1 (.slice none 0 0) 0 []),Below.refl _ _⟩
 case round=>
  obtain⟨k,A,c,hk,rfl,rfl,aJ,hb⟩:=hrel;have h':=h.below hb;obtain⟨c4,c5,-⟩:=h'.s.cs [4,5];simp only[bt,vi,Zx]at c4 c5;by_cases bh:k<R.n
  ·have bi:=zH (show R.n+1-(k+1+1)<R.n+1-(k+1) by omega);have fQ:(k:Int)+1<=R.n:=by omega
   have dM:=nv R own Pr.mat k;have jV:k+1<=1000000000000:=by omega
   by_cases nS:k+1=R.id
   ·rw[if_pos nS]at dM;have wi:(R.id:Int)=(k:Int)+1:=by omega
    rw[wi]at c4;have gu:=jK.one wr own;have aU:Below wr.heap.size wr (wr.alloc (.cells #[.int .i64 own] 3)):=zb.alloc zl _;have eJ:=bF aJ aU;have bU:=aj hb aU zl;replace dM:=zH dM;clear wi nS h' aJ;go_wp2_with (at_builtin;refine b9 rfl (.tmp 23) (.tmp 25) rfl w.heap.size rfl eJ rfl gu jV bU.size ?_;intro A3 c3 w3 bS ip cv);exact⟨⟨k+1,A3,c3,bh,by go_num,rfl,by rw[dM.out];exact bS,bU.trans cv⟩,by simp[intOf];have:=bi.out;omega⟩
   ·rw[if_neg nS]at dM;have i1:(((k:Int)+1)==(R.id:Int))=false:=beq_eq_false_iff_ne.2 (by omega);obtain⟨q,cq,hv,fR,yR,p0,p1,p2,p3,_⟩:=h'.peer_at (s:=k+1) (by rw[hp];omega);have c0:=h'.s.cell 0;simp only[bt,List.getElem?_toArray,List.getElem?_cons_zero]at c0;rw[hv]at c0;have jw:k+1<R.peers.length:=by omega
    have aP:=xg (R.peer (k+1)) wr;obtain⟨p,Gn⟩:=zN (R.peer (k+1));rw[Gn]at p0 p1 p2 p3 aP dM;replace dM:=zH dM;unfold Lq at aP;have eJ:=fun w2 (bU:Below wr.heap.size wr w2)=>bF aJ bU
    replace eJ:=zH eJ;clear Gn nS h' hv aJ;go_wp2_with fail;refine aP.mono ?_;rintro e w2 ⟨rfl,bU⟩;have gu:=jK.one w2 p.mat;have aU:Below w2.heap.size w2 (w2.alloc (.cells #[.int .i64 p.mat] 3)):=zb.alloc zl _;have dV:=aj bU aU zl;have gp:=eJ.out _ dV;have dp:=aj hb dV zl;clear aP;go_wp2_with (at_builtin;refine b9 rfl (.tmp 27) (.tmp 38) rfl w.heap.size rfl gp rfl gu jV dp.size ?_;intro A3 c3 w3 bS ip cv);exact⟨⟨k+1,A3,c3,bh,by go_num,rfl,by rw[dM.out];exact bS,dp.trans cv⟩,by simp[intOf];have:=bi.out;omega⟩
  ·obtain rfl:k=R.n:=by omega
   go_wp2_with fail;go_ret;exact⟨A,c,rfl,by rw[hM.out];exact aJ,hb⟩
theorem qI(own:Int)(h:av aa b w g R v)(hp:R.peers.length=R.n+1)(gg:R.n<=7) :
  Calls prog 111 #[.pointer (some ⟨g,0,none⟩),.int .i64 own,.func (.func 112) #[] #[]] w fun e w'=>∃A c,e=.returned (.slice A R.n c)/\w'.ownsRow w.heap.size 3 1 (.slice A R.n c) R.n ((R.matchL own Pr.round).map vi)/\Below w.heap.size w w':=by
 have bV:=h.s.lt;have hM:R.matchL own Pr.round=jZ R own Pr.round R.n:=rfl;replace hM:=zH hM;go_enter func111,ntmps111;go_wp2_with fail
 go_loopw [7,8] (fun o s' wr=>∃(k:Nat) (A:Option Addr) (c:Nat),k<=R.n/\s'=.int .i64 ((k:Int)+1)/\o=.slice A k c/\wr.ownsRow w.heap.size 3 1 (.slice A k c) k ((jZ R own Pr.round k).map vi)/\Below w.heap.size w wr) (fun _ s' _=>R.n+1-(intOf s').toNat)
 case atStart=>exact⟨0,none,0,Nat.zero_le _,rfl,rfl,(ek _ _:w.ownsRow w.heap.size 3 1 (.slice none 0 0) 0 []),Below.refl _ _⟩
 case round=>
  obtain⟨k,A,c,hk,rfl,rfl,aJ,hb⟩:=hrel;have h':=h.below hb;obtain⟨c4,c5,-⟩:=h'.s.cs [4,5];simp only[bt,vi,Zx]at c4 c5;by_cases bh:k<R.n
  ·have bi:=zH (show R.n+1-(k+1+1)<R.n+1-(k+1) by omega);have fQ:(k:Int)+1<=R.n:=by omega
   have dM:=nv R own Pr.round k;have jV:k+1<=1000000000000:=by omega
   by_cases nS:k+1=R.id
   ·rw[if_pos nS]at dM;have wi:(R.id:Int)=(k:Int)+1:=by omega
    rw[wi]at c4;have gu:=jK.one wr own;have aU:Below wr.heap.size wr (wr.alloc (.cells #[.int .i64 own] 3)):=zb.alloc zl _;have eJ:=bF aJ aU;have bU:=aj hb aU zl;replace dM:=zH dM;clear wi nS h' aJ;go_wp2_with (at_builtin;refine b9 rfl (.tmp 23) (.tmp 25) rfl w.heap.size rfl eJ rfl gu jV bU.size ?_;intro A3 c3 w3 bS ip cv);exact⟨⟨k+1,A3,c3,bh,by go_num,rfl,by rw[dM.out];exact bS,bU.trans cv⟩,by simp[intOf];have:=bi.out;omega⟩
   ·rw[if_neg nS]at dM;have i1:(((k:Int)+1)==(R.id:Int))=false:=beq_eq_false_iff_ne.2 (by omega);obtain⟨q,cq,hv,fR,yR,p0,p1,p2,p3,_⟩:=h'.peer_at (s:=k+1) (by rw[hp];omega);have c0:=h'.s.cell 0;simp only[bt,List.getElem?_toArray,List.getElem?_cons_zero]at c0;rw[hv]at c0;have jw:k+1<R.peers.length:=by omega
    have aP:=sA (R.peer (k+1)) wr;obtain⟨p,Gn⟩:=zN (R.peer (k+1));rw[Gn]at p0 p1 p2 p3 aP dM;replace dM:=zH dM;unfold Lq at aP;have eJ:=fun w2 (bU:Below wr.heap.size wr w2)=>bF aJ bU
    replace eJ:=zH eJ;clear Gn nS h' hv aJ;go_wp2_with fail;refine aP.mono ?_;rintro e w2 ⟨rfl,bU⟩;have gu:=jK.one w2 p.round;have aU:Below w2.heap.size w2 (w2.alloc (.cells #[.int .i64 p.round] 3)):=zb.alloc zl _;have dV:=aj bU aU zl;have gp:=eJ.out _ dV;have dp:=aj hb dV zl;clear aP;go_wp2_with (at_builtin;refine b9 rfl (.tmp 27) (.tmp 38) rfl w.heap.size rfl gp rfl gu jV dp.size ?_;intro A3 c3 w3 bS ip cv);exact⟨⟨k+1,A3,c3,bh,by go_num,rfl,by rw[dM.out];exact bS,dp.trans cv⟩,by simp[intOf];have:=bi.out;omega⟩
  ·obtain rfl:k=R.n:=by omega
   go_wp2_with fail;go_ret;exact⟨A,c,rfl,by rw[hM.out];exact aJ,hb⟩
end
end
section
open Go.MapKept
section
variable {aa:Nat->Nat}{b g:Nat}{w:World}{R:Rf}{v:Rw}
theorem kT(k:Int)(h:av aa b w g R v)(MU:-4000000000000<=k)(cw:k<=4000000000000)(fO:0<=R.commit)(fP:R.commit<=4000000000000)(hN:R.track.L.length<=100000000000)(hn:R.out.commits.length<=100000000000) :
  Calls prog 123 #[.pointer (some ⟨g,0,none⟩),.int .i64 k] w fun e w'=>e=.returned (.tuple #[])/\aq aa b w g (R.commits k) w'/\Fr (fun j=>j=g\/aa j=b+9) w w':=by
 have bV:=h.s.lt;obtain⟨d8,d12,d27,-⟩:=h.s.cs [8,12,27];simp only[bt,vi,Zx]at d8 d12 d27;by_cases bh:R.commit<k
 ·have hC:=zH (show R.commits k={R with commit:=k,out:={R.out with commits:=R.out.commits++R.track.sliceF (R.commit+1) (k-R.commit)}}from if_pos bh);have ul:=oB (R.commit+1) (k-R.commit) (h.below (w':=w.drew) (zb.drew)).t hN;obtain⟨zs,⟨Ac,cc,Up,aD,wj⟩,Ij,oV⟩:=id h.c;rw[Up]at d27;obtain⟨k8,k12,k27⟩:=C3 [g] d8 d12 d27;have bY:∀x∈[g],x<w.heap.size:=by simp;exact bV
  have hH:=zH h;clear h;go_enter func123,ntmps123;go_wp2_with fail;refine qY [g] w [([0,1,2,3,4,5,6,7,8,9,10,11,12,13,14,15,16,17,18,19,20],21),([],22)] ([23,24,25],26) ?_;refine au fun K1 cF=>?_
  simp only[af,Zx];repeat go_big_quiet_step(fail)
  apply wpQuiet_nil;go_wp2_with fail;refine ul.mono ?_;rintro e w2 ⟨A2,n2,c2,ys,rfl,Ga,bU⟩;go_wp2_with fail;have dS:Below w.heap.size w w2:=(zb.drew).trans bU;refine⟨aw bY dS,cF _ _ ?_⟩;refine au fun K2 jl=>?_
  simp only[af,Zx];apply wpQuiet_nil;have jc:=bF aD dS;have vj:im w2 A2 n2 ys:=cj.of_own Ga.1;have Gr:=vj.len;have jp:=Ga.2.1.one;have Ss:n2<=100000000000:=by
   have e:=congrArg List.length Ga.2.2;rw[List.length_map]at e;have e2:(R.track.sliceF (R.commit+1) (k-R.commit)).length<=R.track.L.length:=by
    unfold bv.sliceF;split
    ·exact Nat.zero_le _
    ·rw[List.length_take,List.length_drop];omega
   omega
  have jV:R.out.commits.length+n2<=1000000000000:=by omega
  have aO:∀(A3:Option Addr) (c3:Nat) (w3:World),w3.ownsRow 0 59 6 (.slice A3 (R.out.commits.length+n2) c3) (R.out.commits.length+n2) ((zs++ys).flatMap dE)->Fr (aR Ac) w2 w3->(∀j,aR A3 j->aR Ac j\/w2.heap.size<=j)->
    w3.heap[g]?=w.heap[g]?/\ay w3 g 107 (bt R v)/\aq aa b w g (R.commits k) ((w3.setCell ⟨g,27,none⟩ (.slice A3 (R.out.commits.length+n2) c3)).setCell ⟨g,12,none⟩ (.int .i64 k))/\Fr (fun j=>j=g\/aa j=b+9) w ((w3.setCell ⟨g,27,none⟩ (.slice A3 (R.out.commits.length+n2) c3)).setCell ⟨g,12,none⟩ (.int .i64 k)):=fun A3 c3 w3 bg iI Lm=>by
   have h:=hH.out;have TM:¬aR Ac g:=fun hh=>by have:=wj g hh;have:=h.sl;omega
   have MN:g<w2.heap.size:=by have:=dS.size;omega
   have eg:w3.heap[g]?=w.heap[g]?:=(iI.block g MN TM).trans (dS.block g bV);have pH:ay w3 g 107 (bt R v):=eg.trans h.s;refine⟨eg,pH,?_⟩;have du:Fr (fun j=>j=g) w3 ((w3.setCell ⟨g,27,none⟩ (.slice A3 (R.out.commits.length+n2) c3)).setCell ⟨g,12,none⟩ (.int .i64 k)):=(Fr.set g 27 _).trans (Fr.set g 12 _) fun _ h=>.inl h
   obtain⟨w5,IR⟩:=zN (((w3.setCell ⟨g,27,none⟩ (.slice A3 (R.out.commits.length+n2) c3)).setCell ⟨g,12,none⟩ (.int .i64 k)));have uU:ay w5 g 107 (bt {R with commit:=k,out:={R.out with commits:=R.out.commits++R.track.sliceF (R.commit+1) (k-R.commit)}} {v with com:=.slice A3 (R.out.commits.length+n2) c3}):=by
    rw[<-IR];have s:=(pH.set_ 27 (.slice A3 (R.out.commits.length+n2) c3)).set_ 12 (.int .i64 k);simp only[bt,Zy]at s;exact s
   rw[IR]at du ⊢;rw[hC.out];have EE:relab (relab aa w.heap.size (b+13)) w2.heap.size (b+9) g=b+1:=(ae MN).trans ((ae bV).trans h.sl);have XP:=dS.size;have XS:=iI.size;have Bs:Fr (fun j=>j=g\/aa j=b+9) w w5:=(((Fr.of_below (X:=fun j=>j=g) dS).two iI (fun j e=>.inl (.inl e)) fun j e=>.inl (.inr (wj j e))).two du (fun j e=>.inl e) fun j e=>.inl (.inl e));refine⟨?_,Bs⟩;refine aq.turn (v':={v with com:=.slice A3 (R.out.commits.length+n2) c3}) (ac:=relab (relab aa w.heap.size (b+13)) w2.heap.size (b+9)) [9] h uU (fun j hj=>(ae (by omega)).trans (ae hj)) (by simp)
    (((Fr.of_below (X:=fun j=>j=g) dS).two iI (fun j e=>.inl (.inl e)) fun j e=>.inl (.inr ⟨9,by simp,wj j e⟩)).two du (fun j e=>.inl e) fun j e=>.inl (.inl e))
    tI tI tI tI tI tI tI (.inl ?_) tI tI tI
   have iK:∀j,j≠g->j<w3.heap.size->w5.heap[j]?=w3.heap[j]?:=fun j hj hl=>du.block j hl hj
   refine ee.keep (w:=w3) ⟨zs++ys,?_,?_,?_⟩ (fun j hj hl=>iK j (fun e=>by rw[e,EE]at hj;omega) hl) (fun j hj hl=>iK j (fun e=>by rw[e,EE]at hj;omega) hl)
   ·rw[List.length_append,<-Ga.2.2,List.length_map,Gr];refine⟨A3,c3,rfl,bg,fun j hj=>?_⟩;rcases Lm j hj with h6|h6
    ·have h7:=wj j h6;have h8:j<w.heap.size:=(aI aD Ac cc rfl j h6).1;exact(ae (by omega)).trans ((ae h8).trans h7)
    ·exact aA h6
   ·have hold:∀j,j<w2.heap.size->aL (relab aa w.heap.size (b+13)) (b+13) j->aL (relab (relab aa w.heap.size (b+13)) w2.heap.size (b+9)) (b+13) j:=fun j hj e=>(ae hj).trans e
    have bP:b5 (aL (relab aa w.heap.size (b+13)) (b+13)) w2 w3:=fun j e hj=>iI.block j hj fun hh=>by
     have h7:=wj j hh;have h8:j<w.heap.size:=(aI aD Ac cc rfl j hh).1;have e:relab aa w.heap.size (b+13) j=b+13:=e;rw[ae h8]at e;omega
    have sM:bA (aL (relab aa w.heap.size (b+13)) (b+13)) w2 (zs++ys):=by
     refine bA.append ((Ij.mono fun j hj e=>(ae hj).trans e).keep (b5.below dS)) (Ga.2.1.mono fun j hj e=>aA ?_);exact e.1
    exact(sM.mono hold).keep fun j e hj=>bP j ((ae hj).symm.trans e) hj
   ·rw[List.map_append,oV,Ga.2.2]
  clear Ij oV aD;go_wp2_with (at_builtin;refine dg rfl (.tmp 15) (.tmp 31) rfl 0 rfl jc rfl vj jp jV zz ?_;intro A3 c3 w3 bg iI cv hrw3;obtain⟨ip,pH,hP⟩:=aO A3 c3 w3 bg iI hrw3;replace hP:=zH hP;clear aO bg iI cv hrw3);obtain⟨f27,f12,-⟩:=pH.fs [27,12];obtain⟨e27,e12,-⟩:=pH.cs [27,12];simp only[bt,vi,Zx]at e27 e12;refine⟨aT (by simp;exact ip),jl _ _ ?_⟩;refine aE ?_;simp only[af,Zx];repeat go_big_quiet_step(fail)
  apply wpQuiet_nil;go_wp2_with fail;exact ai rfl rfl ⟨rfl,hP.out⟩
 ·have hC:=zH (show R.commits k=R from if_neg bh);have hP:=zH (show aq aa b w g R w/\Fr (fun j=>j=g\/aa j=b+9) w w from⟨⟨aa,v,h,fun _ _ _=>rfl,fun _ _ h=>h,Fr.refl _ _⟩,Fr.refl _ _⟩);have fQ:=Int.not_lt.1 bh;clear h bh;go_enter func123,ntmps123;go_wp2_with fail;exact ai rfl rfl ⟨rfl,by rw[hC.out];exact hP.out⟩
end
end
section
open Go.MapKept
theorem rL.inv{aa:Nat->Nat}{i:Nat}{w:World}{x:Value}{t:bv}(h:rL aa i w x t):t.Inv:=by
 obtain⟨g,S,A,n,c,zs,h1,h2,h3⟩:=h;exact h2.i
section
variable {aa:Nat->Nat}{b g:Nat}{w:World}{R:Rf}{v:Rw}
theorem jQ(h:av aa b w g R v)(hp:R.peers.length=R.n+1)(gg:R.n<=7)(fO:0<=R.commit)(fP:R.commit<=4000000000000)(hN:R.track.L.length<=100000000000)(hn:R.out.commits.length<=100000000000) :
  Calls prog 68 #[.pointer (some ⟨g,0,none⟩)] w fun e w'=>e=.returned (.tuple #[])/\aq aa b w g R.agrees w'/\Fr (fun j=>j=g\/aa j=b+9) w w':=by
 have bV:=h.s.lt;have d8:=h.s.cell 8;simp only[bt,Zx]at d8;have ci:=iy h.t hN;have iV:=h.t.inv;obtain⟨l1,dm⟩:∃l,R.track.lastF.1=l:=⟨_,rfl⟩;obtain⟨k,hk⟩:=zN (R.agreesTo);obtain⟨tt,pM⟩:∃x,R.track.termF k=x:=⟨_,rfl⟩;have hA:R.agrees=if R.commit<k/\tt=(R.hard.term,0)then R.commits k else R:=by unfold Rf.agrees;rw[hk,pM]
 have sT:dC R.n (R.matchL l1 Pr.mat)=k:=by rw[<-hk,<-dm];rfl
 rw[dm]at ci;have hH:=zH h;have uW:tt.2=0->0<=k/\k<=4000000000000:=fun e=>by
  have e2:R.track.termF k=(tt.1,0):=by rw[pM,<-e]
  have:=iQ e2;have h1:=iV.b;omega
 replace uW:=zH uW;replace hA:=zH hA;clear h dm hk iV;go_enter func68,ntmps68;go_wp2_with fail;refine ci.mono ?_;rintro e w1 ⟨rfl,bH⟩;have h1:=hH.out.below bH;have d5:=h1.s.cell 5;simp only[bt,vi,Zx]at d5;have k5:=IX [g] d5;have bY:∀x∈[g],x<w1.heap.size:=by simp;exact h1.s.lt
 have BM:=uw l1 (h1.below (w':=w1.drew) (zb.drew)) hp gg;clear ci h1;go_wp2_with fail;refine gj [g] w1 [([0,1,2,3,4,5],6),([],7)] [8] ?_;refine aC fun K1 cF=>?_
 simp only[af,Zx];repeat go_big_quiet_step(fail)
 apply wpQuiet_nil;go_wp2_with fail;refine BM.mono ?_;rintro e w2 ⟨A2,c2,rfl,eJ,bU⟩;have ki:=jP (R.n:Int) A2 R.n c2 _ w2 (jK.of_own eJ);rw[sT]at ki;go_wp2_with fail;have cI:Below w1.heap.size w1 w2:=(zb.drew).trans bU;refine⟨aw bY cI,cF _ _ ?_⟩;refine aC fun K2 jl=>?_
 simp only[af,Zx];apply wpQuiet_nil;clear BM eJ;go_wp2_with fail;refine ki.mono ?_;rintro e w3 ⟨rfl,cv⟩;go_wp2_with fail;have kw:Below w1.heap.size w1 w3:=aj cI cv zl;refine⟨aw bY kw,jl _ _ ?_⟩;refine an ?_;simp only[af,Zx];repeat go_big_quiet_step(fail)
 apply wpQuiet_nil;have eI:=aj bH kw zl;have h3:=hH.out.below eI;have d8w:=h3.s.cell 8;simp only[bt,vi,Zx]at d8w;have cl:=lG k h3.t hN;rw[pM]at cl;clear h3 ki pM;go_wp2_with fail;refine cl.mono ?_;rintro e w4 ⟨rfl,dV⟩;have jU:=aj eI dV zl;have h4:=hH.out.below jU;obtain⟨d12,d6,-⟩:=h4.s.cs [12,6];simp only[bt,vi,Zx]at d12 d6;clear cl;have lp:=zH (show aq aa b w g R w4/\Fr (fun j=>j=g\/aa j=b+9) w w4 from⟨⟨aa,v,h4,fun _ _ _=>rfl,fun _ _ h=>h,Fr.of_below jU⟩,Fr.of_below jU⟩);by_cases c1:R.commit<k
 ·by_cases c2:tt.2=0
  ·by_cases c3:tt.1=R.hard.term
   ·have hR:=zH (show R.agrees=R.commits k by rw[hA.out,if_pos ⟨c1,by rw[<-c3,<-c2]⟩]);have Df:=uW.out c2;have aP:=kT k h4 (by omega) Df.2 fO fP hN hn;have e2:(tt.2==0)=true:=by simp[c2]
    have e3:(tt.1==R.hard.term)=true:=by simp[c3]
    clear h4 c2 c3 Df;go_wp2_with fail;refine aP.mono ?_;rintro e w5 ⟨rfl,hP⟩;have hQ:=zH (show aq aa b w g R.agrees w5/\Fr (fun j=>j=g\/aa j=b+9) w w5 by rw[hR.out];exact⟨hP.1.behind jU,(Fr.of_below (X:=fun j=>j=g\/aa j=b+9) jU).trans hP.2 fun j e=>.inl e⟩);clear aP hP;go_wp2_with fail;exact ai rfl rfl ⟨rfl,hQ.out⟩
   ·have hR:=zH (show R.agrees=R by rw[hA.out,if_neg fun h=>c3 (by rw[h.2])]);have e2:(tt.2==0)=true:=by simp[c2]
    have e3:(tt.1==R.hard.term)=false:=by simp[c3]
    clear h4 c2 c3;go_wp2_with fail;exact ai rfl rfl ⟨rfl,by rw[hR.out];exact lp.out⟩
  ·have hR:=zH (show R.agrees=R by rw[hA.out,if_neg fun h=>c2 (by rw[h.2])]);have e2:(tt.2==0)=false:=by simp[c2]
   clear h4 c2;go_wp2_with fail;exact ai rfl rfl ⟨rfl,by rw[hR.out];exact lp.out⟩
 ·have hR:=zH (show R.agrees=R by rw[hA.out,if_neg fun h=>c1 h.1]);clear h4;go_wp2_with fail;exact ai rfl rfl ⟨rfl,by rw[hR.out];exact lp.out⟩
end
end
section
open Go.MapKept
theorem tQ:59∉TD:=by simp[TD]
theorem nN{aa:Nat->Nat}{i q:Nat}{S:Nat->Prop}{w w':World}{g n c M:Nat}{t t':bv}{A:Option Addr}{zs:List (Value×En)}(hT:cy 0 S w g t A n c zs)(hl:∀j,(j=g\/aR A j\/S j)->aa j=i)(hP:ie 0 S w g A t' M w')(hM:w.heap.size<=M) :
  ∃ac:Nat->Nat,(∀j,j<w.heap.size->ac j=aa j)/\(∀vy fs,aN (bu TD M w') w' vy fs->aN (aL ac q) w' vy fs)/\rL ac i w' (.pointer (some ⟨g,0,none⟩)) t'/\Fr (aL aa i) w w':=by
 obtain⟨A',n',c',zs',S',D1,Ts,xL,Zl,hF⟩:=hP;have bV:=hT.b.lt
 classical
 refine⟨fun j=>if j<w.heap.size then aa j else if aR A' j\/S' j then i else q,fun j hj=>if_pos hj,fun vy fs hf=>hf.mono fun j hj hn=>?_,⟨g,S',A',n',c',zs',rfl,D1,fun j hj=>?_⟩,hF.mono fun j hj=>hl j (hj.elim .inl fun h=>.inr (.inl h))⟩
 ·obtain⟨h1,cs,fz,ty,h2,h3⟩:=hn;show(if j<w.heap.size then aa j else if aR A' j\/S' j then i else q)=q;rw[if_neg (by omega),if_neg];rintro(h|h)
  ·obtain⟨_,_,cs',h4⟩:=aI D1.o A' c' rfl j h;rw[h2]at h4;injection h4 with h4;injection h4 with _ h4;rw[h4]at h3;exact tQ h3
  ·rcases Ts j h with h5|h5
   ·obtain⟨_,_,_,e,_⟩:=hT.s j h5;have:=aS e;omega
   ·omega
 ·show(if j<w.heap.size then aa j else if aR A' j\/S' j then i else q)=i;by_cases uf:j<w.heap.size
  ·rw[if_pos uf];refine hl j ?_;rcases hj with h|h|h
   ·exact .inl h
   ·exact .inr (.inl ((xL j h).resolve_right (by omega)))
   ·exact .inr (.inr ((Ts j h).resolve_right (by omega)))
  ·rw[if_neg uf,if_pos];rcases hj with h|h|h
   ·omega
   ·exact .inl h
   ·exact .inr h
section
variable {aa:Nat->Nat}{b g:Nat}{w:World}{R:Rf}{v:Rw}
theorem av.track{ac:Nat->Nat}{w':World}{t':bv}(h:av aa b w g R v)(hl:∀j,j<w.heap.size->ac j=aa j)(hT:rL ac (b+2) w' v.trk t')(hF:Fr (aL aa (b+2)) w w') :
  av ac b w' g {R with track:=t'} v/\Fr (aH aa b) w w':=by
 have hs:ay w' g 107 (bt {R with track:=t'} v):=(hF.block g h.s.lt fun e=>by have e:aa g=b+2:=e;have:=h.sl;omega).trans h.s;refine⟨h.turn [2] hs (fun i j _ _ _ hj e=>(hl j hj).trans e) (by simp) (hF.mono fun j e=>.inr ⟨2,by simp,e⟩) (.inl hT)
  tI tI tI tI tI tI tI tI tI tI,hF.mono fun j e=>?_⟩
 have e:aa j=b+2:=e;exact⟨by omega,by omega⟩
def kN(aa:Nat->Nat)(b:Nat)(w:World)(g:Nat)(R':Rf)(v:Rw)(w':World)(vy:Value)(fs:List Fa):Prop:=
 ∃ac:Nat->Nat,av ac b w' g R' v/\(∀j,j<w.heap.size->ac j=aa j)/\Fr (aH aa b) w w'/\aN (aL ac (b+13)) w' vy fs
theorem CS(S2:Nat->Prop)(tm:Int)(x:En)(V:Option Addr)(m d:Nat)(h:av aa b w g R v)(hN:R.track.L.length<=100000000000)(hf:aN S2 w (.slice V m d) x.facts)(hm:m<=maxLen)(kh:∀j,S2 j->aa j≠b+2) :
  Calls prog 66 #[v.trk,.int .i64 tm,vK x (.slice V m d)] w fun e w'=>∃vy,e=.returned (.tuple #[rN (R.track.putF tm x).1.1 vy,.int .i64 (R.track.putF tm x).1.2])/\kN aa b w g {R with track:=(R.track.putF tm x).2} v w' vy (R.track.putF tm x).1.1.facts:=by
 obtain⟨gt,S,A,n,c,zs,hv,hT,hl⟩:=id h.t;rw[hv];refine(FX S2 tm x V m d hT (by have:=hT.len.1;omega) zz hf hm fun j hj hh=>kh j hj (hl j (hh.elim .inl fun h=>.inr (.inl h)))).mono ?_;rintro e w' ⟨vy,rfl,M,WW,hM,hP⟩;obtain⟨ac,q1,q2,q3,q4⟩:=nN (q:=b+13) hT hl hP hM;rw[<-hv]at q3;obtain⟨h1,h2⟩:=h.track q1 q3 q4;exact⟨vy,rfl,ac,h1,q1,h2,q2 _ _ WW⟩
theorem zU(i:Int)(h:av aa b w g R v)(hN:R.track.L.length<=100000000000) :
  Calls prog 127 #[v.trk,.int .i64 i] w fun e w'=>e=.returned (.int .i64 (R.track.dropF i).1)/\aq aa b w g {R with track:=(R.track.dropF i).2} w':=by
 obtain⟨gt,S,A,n,c,zs,hv,hT,hl⟩:=id h.t;rw[hv];refine(tD i hT (by have:=hT.len.1;omega) zz).mono ?_;rintro e w' ⟨rfl,hP⟩;obtain⟨ac,q1,q2,q3,q4⟩:=nN (q:=b) hT hl hP (by obtain⟨_,_,_,_,_,_,_,_,_,hF⟩:=hP;exact hF.size);rw[<-hv]at q3;obtain⟨h1,h2⟩:=h.track q1 q3 q4;exact⟨rfl,ac,v,h1,fun j hj _=>q1 j hj,fun j hj hm=>by unfold aH at hm ⊢;rw[q1 j hj];exact hm,h2⟩
end
end
section
variable {P:Program}{l:List Oper}{C:World->Prop}{Q:Exit->Act->World->Prop}
def IW(P:Program)(l:List Oper)(C:World->Prop)(Q:Exit->Act->World->Prop)(next:Act->World->Prop):Nat->List Nat->Act->World->Prop
 | 0,_,a,w=>next a w
 | n+1,g,a,w=>∀i∈g,wpList P l.toArray (bG C (IW P l C Q next n (g.erase i)) Q) (af l [i]) a w
def KE(P:Program)(l:List Oper)(C:World->Prop)(Q:Exit->Act->World->Prop):List (List Nat×List Nat)->List Nat->Act->World->Prop
 | [],last,a,w=>wpQuiet P l.toArray C (fun a'=>Q .normal a' w) (af l last) a
 | (seg,g)::more,last,a,w=>wpQuiet P l.toArray C (fun a'=>IW P l C Q (KE P l C Q more last) g.length g a' w) (af l seg) a
def DU(l:List Oper)(k:Array Bool->Bool):Nat->List Nat->Array Bool->Bool
 | 0,_,listed=>k listed
 | n+1,g,listed=>(!g.isEmpty)&&Region.ready .any l.toArray listed==g&&g.all fun i=>DU l k n (g.erase i) (listed.setIfInBounds i true)
def Al(l:List Oper):List (List Nat×List Nat)->List Nat->Array Bool->Bool
 | [],last,listed=>match ch l last listed with
  | some r=>(Region.ready .any l.toArray r).isEmpty
  | none=>false
 | (seg,g)::more,last,listed=>match ch l seg listed with
  | some r=>DU l (Al l more last) g.length g r
  | none=>false
def Ak:List (List Nat×List Nat)->Nat
 | []=>0
 | s::more=>s.1.length+(s.2.length+Ak more)
def S3(l:List Oper)(segs:List (List Nat×List Nat))(last:List Nat):Bool:=
 Region.noSelect l.toArray&&(Ak segs+last.length==l.length)&&Al l segs last (Array.replicate l.length false)
end
inductive kM where
 | last (seg:List Nat)
 | one (seg:List Nat) (i:Nat) (p:kM)
 | two (seg:List Nat) (i j:Nat) (p q:kM)
def kM.len:kM->Nat
 | .last seg=>seg.length
 | .one seg _ p=>seg.length+(p.len+1)
 | .two seg _ _ p _=>seg.length+(p.len+1)
def kM.row(l:List Oper):kM->Array Bool->Bool
 | .last seg,listed=>match ch l seg listed with
  | some r=>(Region.ready .any l.toArray r).isEmpty
  | none=>false
 | .one seg i p,listed=>match ch l seg listed with
  | some r=>Region.ready .any l.toArray r==[i]&&p.row l (r.setIfInBounds i true)
  | none=>false
 | .two seg i j p q,listed=>match ch l seg listed with
  | some r=>Region.ready .any l.toArray r==[i,j]&&(p.len==q.len)&&p.row l (r.setIfInBounds i true)&&q.row l (r.setIfInBounds j true)
  | none=>false
def Fz(l:List Oper)(p:kM):Bool:=Region.noSelect l.toArray&&(p.len==l.length)&&p.row l (Array.replicate l.length false)
section
variable {P:Program}{l:List Oper}{C:World->Prop}{Q:Exit->Act->World->Prop}
def fj(P:Program)(l:List Oper)(C:World->Prop)(Q:Exit->Act->World->Prop):kM->Act->World->Prop
 | .last seg,a,w=>wpQuiet P l.toArray C (fun a'=>Q .normal a' w) (af l seg) a
 | .one seg i p,a,w=>wpQuiet P l.toArray C (fun a'=>wpList P l.toArray (bG C (fj P l C Q p) Q) (af l [i]) a' w) (af l seg) a
 | .two seg i j p q,a,w=>wpQuiet P l.toArray C (fun a'=>wpList P l.toArray (bG C (fj P l C Q p) Q) (af l [i]) a' w/\wpList P l.toArray (bG C (fj P l C Q q) Q) (af l [j]) a' w) (af l seg) a
theorem eN{seg:List Nat}{a:Act}{w:World}(h:wpQuiet P l.toArray C (fun a'=>Q .normal a' w) (af l seg) a):fj P l C Q (.last seg) a w:=h
theorem bZ{seg:List Nat}{i:Nat}{p:kM}{a:Act}{w:World}
  (h:∀K:Act->World->Prop,(∀a w,fj P l C Q p a w->K a w)->wpQuiet P l.toArray C (fun a'=>wpList P l.toArray (bG C K Q) (af l [i]) a' w) (af l seg) a):fj P l C Q (.one seg i p) a w:=
 h _ fun _ _ h=>h
theorem ke{seg:List Nat}{i j:Nat}{p q:kM}{a:Act}{w:World}
  (h:∀K K':Act->World->Prop,(∀a w,fj P l C Q p a w->K a w)->(∀a w,fj P l C Q q a w->K' a w)->
   wpQuiet P l.toArray C (fun a'=>wpList P l.toArray (bG C K Q) (af l [i]) a' w/\wpList P l.toArray (bG C K' Q) (af l [j]) a' w) (af l seg) a):fj P l C Q (.two seg i j p q) a w:=
 h _ _ (fun _ _ h=>h) fun _ _ h=>h
theorem eU{next:Act->World->Prop}{m i:Nat}{listed:Array Bool}{a:Act}{w:World}(mI:i∈Region.ready .any l.toArray listed)
  (ha:wpList P l.toArray (bG C next Q) (af l [i]) a w) (hk:∀a w,next a w->C w->wpAnyH P .any l.toArray Q C m (listed.setIfInBounds i true) a w) :
  wpOp P l.toArray Q i (fun a2 w2=>C w2/\wpAnyH P .any l.toArray Q C m (listed.setIfInBounds i true) a2 w2) a w:=by
 obtain⟨_,o,ho,_⟩:=mem_ready.1 mI;have JT:l[i]?=some o:=by simpa using ho
 have hp:af l [i]=[o]:=by simp[af,JT]
 rw[hp]at ha;unfold wpOp;rw[ho];simp only[];unfold wpList at ha;have jb:∀a2 w2,wpList P l.toArray (bG C next Q) [] a2 w2->C w2/\wpAnyH P .any l.toArray Q C m (listed.setIfInBounds i true) a2 w2:=
  fun a2 w2 h2=>⟨h2.1,hk a2 w2 h2.2 h2.1⟩
 split
 ·rename_i hw;rw[if_pos hw]at ha;exact ha.imp (tF jb) (fun h2=>h2)
 ·rename_i hw;rw[if_neg hw]at ha;exact jb _ _ ha
theorem FA(hs:Region.noSelect l.toArray=true)(hQ:∀c (a b:Act) w,a.defers=b.defers->Q (.panic c) a w->Q (.panic c) b w)(p:kM) :
  ∀(listed:Array Bool) (a:Act) (w:World),p.row l listed=true->C w->fj P l C Q p a w->wpAnyH P .any l.toArray Q C p.len listed a w:=by
 induction p with
 | last seg=>
  intro listed a w hr hC h;unfold kM.row at hr;cases hc:ch l seg listed with
  | none=>rw[hc]at hr;cases hr
  | some r=>
   rw[hc]at hr;have:=eR (P:=P) (C:=C) (Q:=Q) hs hQ seg listed r a w 0 (fun a'=>Q .normal a' w) hc hC h (fun a' ha=>wpAnyH_done (by simpa using hr) ha 0);simpa[kM.len]using this
 | one seg i p ih=>
  intro listed a w hr hC h;unfold kM.row at hr;cases hc:ch l seg listed with
  | none=>rw[hc]at hr;cases hr
  | some r=>
   rw[hc]at hr;simp only[Bool.and_eq_true,beq_iff_eq]at hr;refine eR (P:=P) (C:=C) (Q:=Q) hs hQ seg listed r a w _ _ hc hC h fun a' ha=>?_
   refine wpAnyH_all hr.1 (by simp) fun k hk=>?_
   obtain rfl:k=i:=by simpa using hk
   exact eU (by rw[hr.1];exact hk) ha fun a w h1 h2=>ih _ a w hr.2 h2 h1
 | two seg i j p q ihp ihq=>
  intro listed a w hr hC h;unfold kM.row at hr;cases hc:ch l seg listed with
  | none=>rw[hc]at hr;cases hr
  | some r=>
   rw[hc]at hr;simp only[Bool.and_eq_true,beq_iff_eq]at hr;obtain⟨⟨⟨h1,h2⟩,h3⟩,h4⟩:=hr;refine eR (P:=P) (C:=C) (Q:=Q) hs hQ seg listed r a w _ _ hc hC h fun a' ha=>?_
   refine wpAnyH_all h1 (by simp) fun k hk=>?_
   have sT:k=i\/k=j:=by simpa using hk
   rcases sT with rfl|rfl
   ·exact eU (by rw[h1];exact hk) ha.1 fun a w h5 h6=>ihp _ a w h3 h6 h5
   ·exact eU (by rw[h1];exact hk) ha.2 fun a w h5 h6=>by have:=ihq _ a w h4 h6 h5;rw[<-h2]at this;exact this
theorem rI{id:Nat}{a:Act}{w:World}(p:kM)(hm:P.follows .mixedOrders=true)(hB:Fz l p=true)
  (hQ:∀c (a b:Act) w,a.defers=b.defers->Q (.panic c) a w->Q (.panic c) b w) (hC:C w.drew) (h:fj P l C Q p a w.drew):(Code.region id l.toArray true).wp P Q a w:=by
 simp only[Fz,Bool.and_eq_true,beq_iff_eq]at hB;obtain⟨⟨hs,ab⟩,aD⟩:=hB;refine wp_region_held (S:=C) hm ?_;have:=FA (P:=P) hs hQ p _ a w.drew aD hC h;rw[ab]at this;simpa using this
end
theorem SP {P:Program}{l:List Oper}{id:Nat}{a:Act}{Q:Exit->Act->World->Prop}(gs:List Nat)(w:World)(p:kM)(h:fj P l (cr gs w) Q p a w.drew)(hm:P.follows .mixedOrders=true:=by kernel_rfl)(hB:Fz l p=true:=by kernel_rfl)(hQ:∀c (a b:Act) w,a.defers=b.defers->Q (.panic c) a w->Q (.panic c) b w:=by exact fun _ _ _ _ e h=>⟨e.symm.trans h.1,h.2⟩):(Code.region id l.toArray true).wp P Q a w:=
 rI p hm hB hQ az h
section
open Go.MapKept
theorem Cl:(prog.info? 163).map (fun i=>(i.zero,i.size,i.bytes))=some (some (.agg #[.int .i64 0,.int .i64 0,.int .i64 0,.int .i64 0]),4,32):=by kernel_rfl
def lB(n k:Nat)(x:Int):List Pr:=(List.range n).map fun i=>if i<k then⟨x,0,0,0⟩else Dr
theorem CB(n:Nat)(x:Int):lB n n x=List.replicate n ⟨x,0,0,0⟩:=by
 unfold lB;apply List.ext_getElem
 ·simp
 ·intro i h1 h2;have:i<n:=by simpa using h1
  simp[this]
theorem lD(n k:Nat)(x:Int):(lB n k x).length=n:=by unfold lB;simp
theorem lC(n k i:Nat)(x:Int)(h:i<n):(lB n k x)[i]?=some (if i<k then⟨x,0,0,0⟩else Dr):=by
 unfold lB;rw[List.getElem?_map,List.getElem?_range h];rfl
theorem FL(n k:Nat)(x:Int)(h:k<n):(lB n k x).set k ⟨x,0,0,0⟩=lB n (k+1) x:=by
 apply List.ext_getElem?;intro i;rw[List.getElem?_set];rcases Nat.lt_or_ge i n with hi|hi
 ·rw[lC n (k+1) i x hi,lC n k i x hi];by_cases e:k=i
  ·rw[if_pos e,if_pos (by rw[lD];omega),if_pos (by omega)]
  ·rw[if_neg e];by_cases hk:i<k
   ·rw[if_pos hk,if_pos (by omega)]
   ·rw[if_neg hk,if_neg (by omega)]
 ·rw[if_neg (by omega),List.getElem?_eq_none (by rw[lD];exact hi),List.getElem?_eq_none (by rw[lD];exact hi)]
theorem jA{α:Type}{f:α->List Value}{k:Nat}(hf:∀z,(f z).length=k){z z':α}{j:Nat}{u:Value}(hj:j<k)(hz:f z'=(f z).set j u):∀{l:List α} {i:Nat},l[i]?=some z->(l.flatMap f).set (i*k+j) u=(l.set i z').flatMap f
 | [],_,h=>by simp at h
 | a::l,0,h=>by
  obtain rfl:a=z:=by simpa using h
  rw[List.flatMap_cons,List.set_cons_zero,List.flatMap_cons,Nat.zero_mul,Nat.zero_add,List.set_append_left _ _ (by rw[hf];exact hj),hz]
 | a::l,i+1,h=>by
  have h':l[i]?=some z:=by simpa using h
  have ih:=jA hf hj hz h';rw[List.flatMap_cons,List.set_cons_succ,List.flatMap_cons,List.set_append_right _ _ (by rw[hf,Nat.succ_mul];omega),hf,<-ih];congr 2;rw[Nat.succ_mul];omega
theorem zG(n k:Nat)(x:Int)(h:k<n):((lB n k x).flatMap xh).set (k*4) (vi x)=(lB n (k+1) x).flatMap xh:=by
 rw[<-FL n k x h];have h0:(lB n k x)[k]?=some Dr:=by rw[lC n k k x h,if_neg (Nat.lt_irrefl k)]
 exact jA lR (z:=Dr) (z':=⟨x,0,0,0⟩) (j:=0) (by omega) rfl h0
theorem ze(n:Nat)(x:Int):(madeCells (Value.agg #[.int .i64 0,.int .i64 0,.int .i64 0,.int .i64 0]).cells (n*4)).toList=(lB n 0 x).flatMap xh:=by
 refine List.ext_getElem? fun i=>?_
 rcases Nat.lt_or_ge i (n*4)with hi|hi
 ·have h1:((lB n 0 x).flatMap xh)[i/4*4+i%4]?=(xh Dr)[i%4]?:=cB lR (Nat.mod_lt _ (by omega)) (lC n 0 (i/4) x (by omega));rw[show i/4*4+i%4=i by omega]at h1;rw[h1];have h4:i%4=0\/i%4=1\/i%4=2\/i%4=3:=by omega
  rcases h4 with h4|h4|h4|h4 <;> simp[madeCells,hi,Value.cells,h4,xh,Dr,vi]
 ·rw[List.getElem?_eq_none (by rw[Array.length_toList,size_madeCells];exact hi),List.getElem?_eq_none (by rw[eG lR,lD];exact hi)]
section
variable {aa:Nat->Nat}{b g p:Nat}{w w':World}{R R':Rf}{v:Rw}{vy:Value}{fs:List Fa}{cs:Array Value}
def gB(aa:Nat->Nat)(b:Nat)(w:World)(g:Nat)(R':Rf)(v:Rw)(w':World)(p:Nat)(vy:Value)(fs:List Fa)(cs:Array Value):Prop:=
 ∃ac:Nat->Nat,av ac b w' g R' v/\(∀j,j<w.heap.size->ac j=aa j)/\Fr (aH aa b) w w'/\aN (aL ac (b+13)) w' vy fs/\ay w' p 59 cs/\¬ba ac b p/\w.heap.size<=p
theorem kN.boxed(cs:Array Value)(h:kN aa b w g R' v w' vy fs):gB aa b w g R' v (w'.alloc (.cells cs 59)) w'.heap.size vy fs cs:=by
 obtain⟨ac,h1,h2,h3,h4⟩:=h;have hb:Below w'.heap.size w' (w'.alloc (.cells cs 59)):=(Below.refl w'.heap.size w').alloc zl _;have hs:=h3.size;refine⟨relab ac w'.heap.size b,h1.fresh hb,fun j hj=>(ae (by omega)).trans (h2 j hj),h3.trans (Fr.of_below (X:=aH aa b) hb) fun j hj=>.inl hj,?_,ay.new _ _ _,?_,hs⟩
 ·exact(h4.mono fun j hj e=>(ae hj).trans e).keep (b5.below hb)
 ·unfold ba;rw[aA zl];omega
theorem kN.box(h:kN (relab aa w.heap.size b) b (w.alloc (.cells cs 59)) g R' v w' vy fs):gB aa b w g R' v w' w.heap.size vy fs cs:=by
 obtain⟨ac,h1,h2,h3,h4⟩:=h;have hb:Below w.heap.size w (w.alloc (.cells cs 59)):=(Below.refl w.heap.size w).alloc zl _;have hk:=ay.new w 59 cs;have hl:=hk.lt;have e1:ac w.heap.size=b:=(h2 _ hl).trans (aA zl);refine⟨ac,h1,fun j hj=>(h2 j (by omega)).trans (ae hj),(Fr.of_below (X:=aH aa b) hb).trans h3 fun j hj=>?_,h4,(h3.block _ hl ?_).trans hk,?_,Nat.le_refl _⟩
 ·rcases Nat.lt_or_ge j w.heap.size with h|h
  ·unfold aH at hj;rw[ae h]at hj;exact .inl hj
  ·exact .inr h
 ·unfold aH;rw[aA zl];omega
 ·unfold ba;rw[e1];omega
theorem gB.set(x:En)(h:gB aa b w g R' v w' p vy fs cs)(hc:cs.size=6):gB aa b w g R' v (set6 w' p (vy,x)) p vy fs (dE (vy,x)).toArray:=by
 obtain⟨ac,h1,h2,h3,h4,h5,h6,h7⟩:=h;have hF:=Fr.set6 w' p (vy,x);refine⟨ac,h1.keep fun j hj hl=>hF.block j hl fun e=>h6 (e▸hj),h2,h3.trans hF fun j e=>.inr (by omega),h4.keep (hF.stay fun j hj _ e=>h6 ?_),(iD (vy,x) h5 hc).1,h6,h7⟩;rw[<-e];have hj:ac j=b+13:=hj;exact⟨by omega,by omega⟩
theorem gB.post(h:gB aa b w g R' v w' p vy fs cs):aq aa b w g R' w':=by
 obtain⟨ac,h1,h2,h3,h4,h5,h6,h7⟩:=h;exact⟨ac,v,h1,fun j hj _=>h2 j hj,fun j hj hm=>by unfold aH at hm ⊢;rw[h2 j hj];exact hm,h3⟩
theorem gB.saves(x:En)(h:gB aa b w g R' v w' p vy x.facts cs)(hN:R'.out.entries.length<=10000000000) :
  Calls prog 67 #[.pointer (some ⟨g,0,none⟩),.slice (some ⟨w'.heap.size,0,none⟩) 1 1] (w'.alloc (.cells (dE (vy,x)).toArray 59)) fun e w2=>e=.returned (.tuple #[])/\aq aa b w g (R'.save [x]) w2:=by
 obtain⟨ac,h1,h2,h3,h4,h5,h6,h7⟩:=h;have hb:Below w'.heap.size w' (w'.alloc (.cells (dE (vy,x)).toArray 59)):=(Below.refl w'.heap.size w').alloc zl _;have hf:=(h4.mono (S':=aL (relab ac w'.heap.size b) (b+13)) fun j hj e=>(ae hj).trans e).keep (b5.below hb);have bV:=h1.s.lt;refine(oz (some ⟨w'.heap.size,0,none⟩) 1 1 [(vy,x)] (h1.fresh hb) (im.one (ay.new _ _ _)) (fun z hz=>?_) (fun _ j hj e=>?_) (by omega) hN).mono ?_
 ·rw[List.mem_singleton.1 hz];exact hf
 ·obtain⟨ad,e1,e2⟩:=hj;cases e1;have e2:w'.heap.size=j:=e2;omega
 ·rintro e w2 ⟨rfl,hP⟩;refine⟨rfl,(hP.fresh hb).next (fun j hj _=>h2 j hj) (fun j hj hm=>?_) h3⟩;unfold aH at hm ⊢;rw[h2 j hj];exact hm
end
theorem db{w w':World}{g:Nat}(h:w'.heap[g]?=w.heap[g]?):cr [g] w w':=aT fun q hq=>by
 obtain rfl:q=g:=by simpa using hq
 exact h
section
variable {aa:Nat->Nat}{b g p:Nat}{w w':World}{R R':Rf}{v:Rw}{vy:Value}{fs:List Fa}{cs:Array Value}
theorem gB.blk(h:gB aa b w g R' v w' p vy fs cs):ay w' p 59 cs/\p≠g/\ay w' g 107 (bt R' v):=by
 obtain⟨ac,h1,h2,h3,h4,h5,h6,h7⟩:=h;refine⟨h5,fun e=>h6 ?_,h1.s⟩;rw[e];have:=h1.sl;exact⟨by omega,by omega⟩
theorem nO(S2:Nat->Prop)(tm:Int)(x:En)(V:Option Addr)(m d:Nat)(h:av aa b w g R v)(hN:R.track.L.length<=100000000000)(hf:aN S2 w (.slice V m d) x.facts)(hm:m<=maxLen)(kh:∀j,S2 j->aa j≠b+2) :
  Calls prog 66 #[v.trk,.int .i64 tm,.agg #[.int .i64 x.op,.int .i64 x.sess,.int .i64 x.seq,.slice V m d]] w fun e w'=>∃A1 n1 c1,e=.returned (.tuple #[.agg #[.int .i64 (R.track.putF tm x).1.1.idx,.int .i64 (R.track.putF tm x).1.1.term,.int .i64 (R.track.putF tm x).1.1.op,.int .i64 (R.track.putF tm x).1.1.sess,.int .i64 (R.track.putF tm x).1.1.seq,.slice A1 n1 c1],.int .i64 (R.track.putF tm x).1.2])/\
   kN aa b w g {R with track:=(R.track.putF tm x).2} v w' (.slice A1 n1 c1) (R.track.putF tm x).1.1.facts:=by
 refine(CS S2 tm x V m d h hN hf hm kh).mono ?_;rintro e w' ⟨vy,rfl,hT⟩;obtain⟨ac,h1,h2,h3,h4⟩:=hT;obtain⟨A,n,c,rfl,_⟩:=h4.form;exact⟨A,n,c,rfl,ac,h1,h2,h3,h4⟩
end
theorem qT(t:bv)(tm:Int)(x:En):(t.putF tm x).2.index=t.index/\(t.putF tm x).2.L.length<=t.L.length+1:=by
 unfold bv.putF;split
 ·exact⟨rfl,Nat.le_succ _⟩
 ·split
  ·exact⟨rfl,Nat.le_succ _⟩
  ·exact⟨rfl,by simp⟩
theorem DN{R:Rf}(gg:R.n<=7)(hN:R.track.L.length<=90000000000)(h0:0<=R.track.lastF.1)(h1:R.track.lastF.1<=1099511627776)(hd:R.snap.data.length<=65536)(BF:0<R.track.index->0<R.snap.data.length):gQ R.crown:=by
 have hp:∀s,s<=R.n->R.crown.peer s=⟨R.track.lastF.1+1,0,0,0⟩:=fun s hs=>by
  show((List.replicate (R.n+1) (⟨R.track.lastF.1+1,0,0,0⟩:Pr))[s]?).getD Dr=_;rw[List.getElem?_replicate,if_pos (by omega)];rfl
 refine⟨by show(List.replicate _ _).length=_;rw[List.length_replicate];rfl,gg,fun s hs=>?_,fun s hs=>?_,hd,BF,by show R.track.L.length<=_;omega⟩
 ·rw[hp s hs];exact⟨by show 1<=R.track.lastF.1+1;omega,by show R.track.lastF.1+1<=_;omega⟩
 ·rw[hp s hs];exact⟨Int.le_refl 0,Int.natCast_nonneg _⟩
theorem gQ.track{R:Rf}(h:gQ R)(t:bv)(hi:0<t.index->0<R.snap.data.length)(hl:t.L.length<=100000000000):gQ {R with track:=t}:=⟨h.len,h.n7,h.nx,h.off,h.dat,hi,hl⟩
section
variable {aa:Nat->Nat}{b g:Nat}{w:World}{R:Rf}{v:Rw}
theorem B5(h:av aa b w g R v)(gg:R.n<=7)(hN:R.track.L.length<=90000000000)(hm:R.out.msgs.length<=8000000000)(he:R.out.entries.length<=9000000000)(hc:R.out.commits.length<=100000000000)(fO:0<=R.commit)(fP:R.commit<=4000000000000)
  (hd:R.snap.data.length<=65536) (BF:0<R.track.index->0<R.snap.data.length) :
  Calls prog 105 #[.pointer (some ⟨g,0,none⟩)] w fun e w'=>e=.returned (.tuple #[])/\aq aa b w g R.leads w':=by
 have bV:=h.s.lt;have d8:=h.s.cell 8;simp only[bt,Zx]at d8;have ci:=iy h.t (by omega);have iV:=h.t.inv;have qm:=iV.last;have jE:=iV.room;have kF:=iV.b;obtain⟨l1,dm⟩:∃l,R.track.lastF.1=l:=⟨_,rfl⟩;rw[dm]at ci qm;have Hp:0<=l1/\l1<=1099511627776:=by omega
 have hH:=zH h;replace dm:=zH dm;clear h iV qm jE kF;go_enter func105,ntmps105;go_wp2_with fail;refine ci.mono ?_;rintro e w1 ⟨rfl,bH⟩;have h1:=hH.out.fresh bH;obtain⟨e4,e5,e13,e14,e15,-⟩:=h1.s.cs [4,5,13,14,15];obtain⟨g13,g14,g15,-⟩:=h1.s.fs [13,14,15];simp only[bt,vi,Zx]at e4 e5 e13 e14 e15;obtain⟨w2,eh⟩:=zN (((w1.setCell ⟨g,13,none⟩ (.int .i64 3)).setCell ⟨g,14,none⟩ (.int .i64 R.id)).setCell ⟨g,15,none⟩ (.int .i64 0));have pj:Fr (fun j=>j=g) w1 w2:=by rw[<-eh];exact((Fr.set g 13 _).trans (Fr.set g 14 _) fun _ h=>.inl h).trans (Fr.set g 15 _) fun _ h=>.inl h
 have kh:ay w2 g 107 (bt {R with role:=3,leader:=R.id,clock:=0} v):=by
  rw[<-eh];have s:=((h1.s.set_ 13 (.int .i64 3)).set_ 14 (.int .i64 R.id)).set_ 15 (.int .i64 0);simp only[bt,Zy]at s;exact s
 have h2:=h1.nums (R':={R with role:=3,leader:=R.id,clock:=0}) kh pj rfl rfl rfl rfl rfl rfl rfl rfl rfl rfl rfl;obtain⟨N,P0⟩:∃N:Nat,N=R.n+1:=⟨_,rfl⟩;have PZ:(R.n:Int)+1=(N:Int):=by omega
 have Zn:N<=8:=by omega
 obtain⟨i0,fT,gv,fC,fK⟩:=info_parts Cl;obtain⟨w3,kH,r1,r2⟩:=run_make_full (P:=prog) w2 w2.heap.size 97 163 i0 _ 4 underlying97 fT gv fC .i64 .i64 N (by rw[fK];omega) (by unfold maxLen;omega) zl;rw[ze N (l1+1)]at r1;have cv:Below w2.heap.size w2 w3:=zb.grown r2 zl (fun k hk=>by cases hk);obtain⟨q,hq⟩:=zN (w2.heap.size);have XN:w.heap.size<=q:=by have:=bH.size;have:=pj.size;omega
 have K0:g<q:=by have:=kh.lt;omega
 have pH:=kh.kept cv;have e5':=kh.cell 5;rw[hq]at r1 kH;obtain⟨e0,e1,e2,-⟩:=pH.cs [0,1,2];obtain⟨g0,g1,g2,-⟩:=pH.fs [0,1,2];simp only[bt,vi,Zx]at e0 e1 e2 e5';replace h2:=zH h2;replace pj:=zH pj;clear ci h1 fT gv fC fK kh r2;replace P0:=zH P0;replace PZ:=zH PZ;go_wp2_with fail;rw[PZ.out,kH];clear kH;go_wp2_with fail;obtain⟨w4,gi⟩:=zN ((((w3.setCell ⟨g,0,none⟩ (.slice (some ⟨q,0,none⟩) N N)).setCell ⟨g,1,none⟩ (.int .i64 1)).setCell ⟨g,2,none⟩ (.slice none 0 0)));try rw[gi]
 have mo:Fr (fun j=>j=g) w3 w4:=by rw[<-gi];exact((Fr.set g 0 _).trans (Fr.set g 1 _) fun _ h=>.inl h).trans (Fr.set g 2 _) fun _ h=>.inl h
 have Dd:ay w4 g 107 (bt {R with role:=3,leader:=R.id,clock:=0,round:=1} {v with peers:=.slice (some ⟨q,0,none⟩) N N,waits:=.slice none 0 0}):=by
  rw[<-gi];have s:=((pH.set_ 0 (.slice (some ⟨q,0,none⟩) N N)).set_ 1 (.int .i64 1)).set_ 2 (.slice none 0 0);simp only[bt,Zy]at s;exact s
 have r4:w4.ownsRow q 163 4 (.slice (some ⟨q,0,none⟩) N N) N ((lB N 0 (l1+1)).flatMap xh):=dG r1 fun j hj hl=>mo.block j hl (by
  have:=(aI r1 _ N rfl j hj).2.1;omega)
 have XI:q<w4.heap.size:=by
  have:=(aI r4 _ N rfl q ⟨_,rfl,rfl⟩).1;exact this
 clear pH r1 e0 e1 e2 g0 g1 g2 e4 e5 e5' e13 e14 e15 g13 g14 g15 eh;replace mo:=zH mo
 go_loopw [44] (fun i wr=>∃k:Nat,k<=N/\i=.int .i64 k/\wr.ownsRow q 163 4 (.slice (some ⟨q,0,none⟩) N N) N ((lB N k (l1+1)).flatMap xh)/\Fr (fun j=>j=q) w4 wr) (fun i _=>N-(intOf i).toNat)
 case atStart=>exact⟨0,Nat.zero_le _,rfl,r4,Fr.refl _ _⟩
 case round=>
  clear r4;obtain⟨k,hk,rfl,aJ,DY⟩:=hrel;have Oy:ay wr g 107 (bt {R with role:=3,leader:=R.id,clock:=0,round:=1} {v with peers:=.slice (some ⟨q,0,none⟩) N N,waits:=.slice none 0 0}):=(DY.block g Dd.lt (by omega)).trans Dd;by_cases bh:k<N
  ·have e0:=Oy.cell 0;simp only[bt,List.getElem?_toArray,List.getElem?_cons_zero]at e0;have bP:=(aJ.stored (k*4) (vi (l1+1))).1;rw[zG N k (l1+1) bh]at bP;have ck:=aJ.cellAt (k*4) (by omega);have fk:=aJ.frozenAt (k*4);have hold:((lB N k (l1+1)).flatMap xh)[k*4]?=some (.int .i64 0):=(cB lR (j:=0) (by omega) (lC N k k (l1+1) bh)).trans (by rw[if_neg (Nat.lt_irrefl k)];rfl);rw[hold]at ck;have V6:Fr (fun j=>j=q) w4 (wr.setCell ⟨q,k*4,none⟩ (.int .i64 (l1+1))):=DY.trans (Fr.set q (k*4) _) fun _ h=>.inl h
   have bi:=zH (show N-(k+1)<N-k by omega);clear aJ hold Oy DY;go_wp2_with fail;exact⟨⟨k+1,bh,by go_num,bP,V6⟩,by simp[intOf];exact bi.out⟩
  ·obtain rfl:N=k:=by omega
   have h1:=hH.out.fresh bH;have I7:=P0.out;have ww:w1.heap.size<=q:=by have:=pj.out.size;omega
   have Ia:aq (relab aa w.heap.size b) b w1 g R.crown wr:=by
    refine aq.turn (v':={v with peers:=.slice (some ⟨q,0,none⟩) N N,waits:=.slice none 0 0}) (ac:=relab (relab aa w.heap.size b) w1.heap.size (b+3)) [3,4] h1 Oy (fun j hj=>ae hj) (by simp)
     ((((pj.out.two (Fr.of_below (X:=fun j=>j=g) cv) (fun j e=>.inl (.inl e)) fun j e=>.inl (.inl e)).two mo.out (fun j e=>.inl e) fun j e=>.inl (.inl e))).two DY (fun j e=>.inl e) fun j e=>.inr (by omega))
     tI (.inl ?_) (.inl ?_) tI tI tI tI tI tI tI tI
    ·have e:R.crown.peers=lB N N (l1+1):=by rw[CB,<-dm.out,I7];rfl
     rw[e,lD];refine⟨_,_,rfl,fY aJ zz,fun j hj=>?_⟩;obtain⟨ad,e1,rfl⟩:=hj;cases e1;exact aA ww
    ·exact aX.nil _ _ _ _ _
   have cz:=DN gg hN (by rw[dm.out];exact Hp.1) (by rw[dm.out];exact Hp.2) hd BF;obtain⟨HH,vc,hC,q1,q2,q3⟩:=Ia;clear h1 Oy Dd aJ DY;obtain⟨d8,d6,-⟩:=hC.s.cs [8,6];simp only[bt,vi,Zx]at d8 d6;obtain⟨k8,k6⟩:=rQ [g] d8 d6;obtain⟨pf,oT⟩:=zN (R.crown.track.putF R.crown.hard.term jx);have pm:R.leads1=if pf.1.2=0 then({R.crown with track:=pf.2}:Rf).save [pf.1.1]else {R.crown with track:=pf.2}:=by unfold Rf.leads1;rw[<-oT]
   have OO:=qT R.crown.track R.crown.hard.term jx;have lj:=nO (fun _=>False) R.crown.hard.term jx none 0 0 (hC.below (w':=wr.drew) (zb.drew)) (by show R.track.L.length<=_;omega) (aN.nil _ _) zz (fun _ h=>h.elim);have np:Below wr.drew.heap.size wr.drew (wr.drew.alloc (.cells #[.int .i64 0,.int .i64 0,.int .i64 0,.int .i64 0,.int .i64 0,.slice none 0 0] 59)):=zb.alloc zl _;have lm:=nO (fun _=>False) R.crown.hard.term jx none 0 0 ((hC.below (w':=wr.drew) (zb.drew)).fresh np) (by show R.track.L.length<=_;omega) (aN.nil _ _) zz (fun _ h=>h.elim);rw[oT]at lj lm OO;simp only[jx]at lj lm;have ui:gQ R.leads1:=by
    have hx:=(cz.track pf.2 (fun e=>BF (by rw[OO.1]at e;exact e)) (by have h1:=OO.2;have h2:R.crown.track.L.length<=90000000000:=hN;omega));rw[pm];split
    ·exact hx.out _
    ·exact hx
   have At:R.leads1.out.msgs.length<=9000000000:=by rw[pm];split <;> (show R.out.msgs.length<=_;omega)
   have WF:R.leads1.out.commits.length<=100000000000:=by rw[pm];split <;> exact hc
   have eW:R.leads1.commit=R.commit:=by rw[pm];split <;> rfl
   have GQ:=zH (show ∀w9 ar v1,av ar b w9 g R.leads1.all v1->Calls prog 68 #[.pointer (some ⟨g,0,none⟩)] w9 fun e w'=>e=.returned (.tuple #[])/\aq ar b w9 g R.leads1.all.agrees w' from fun w9 ar v1 h=>by
    obtain⟨ms,e,_⟩:=iB R.leads1.others R.leads1;have e':R.leads1.all=_:=e;rw[e']at h ⊢;refine(jQ h ui.len ui.n7 (by show 0<=R.leads1.commit;rw[eW];exact fO) (by show R.leads1.commit<=_;rw[eW];exact fP) ui.trk WF).mono ?_;rintro e w' ⟨h1,h2,_⟩;exact⟨h1,h2⟩)
   replace ui:=zH ui;have NL:wr.heap[g]?=some (.cells (bt R.crown vc) 107 (0,0)):=hC.s;have BI:=hC.s.lt;have Ju:R.crown.out.entries.length<=10000000000:=by show R.out.entries.length<=_;omega
   go_wp2_with fail;refine SP [g] wr (.two [0,1,2,3,4,5,6,7,8,9] 10 14 (.one [11,12,13] 14 (.one [] 15 (.last [16]))) (.one [] 10 (.one [11,12,13] 15 (.last [16])))) ?_;refine ke fun K1 K2 cF jl=>?_
   simp only[af,Zx];repeat go_big_quiet_step(fail)
   apply wpQuiet_nil;constructor
   ·go_wp2_with fail;refine lj.mono ?_;rintro e w5 ⟨A1,n1,c1,rfl,hT⟩;go_wp2_with fail;have lN:w5.heap[g]?=wr.heap[g]?:=by obtain⟨dz,h5,_⟩:=id hT;exact h5.s.trans NL.symm
    refine⟨db lN,cF _ _ ?_⟩;clear lj lm;refine bZ fun K3 jS=>?_
    simp only[af,Zx];repeat go_big_quiet_step(fail)
    apply wpQuiet_nil;go_wp2_with fail;have hM:=hT.boxed #[.int .i64 0,.int .i64 0,.int .i64 0,.int .i64 0,.int .i64 0,.slice none 0 0];generalize mJ:w5.alloc (.cells #[.int .i64 0,.int .i64 0,.int .i64 0,.int .i64 0,.int .i64 0,.slice none 0 0] 59)=w6 at *;generalize w5.heap.size=p at *;have xQ:w6.heap[g]?=wr.heap[g]?:=by rw[NL];exact hM.blk.2.2
    refine⟨db xQ,jS _ _ ?_⟩;refine bZ fun K4 tW=>?_
    simp only[af,Zx];apply wpQuiet_nil;obtain⟨jv,ER,yT⟩:=hM.blk;obtain⟨z0,z1,z2,z3,z4,z5,-⟩:=jv.cs [0,1,2,3,4,5];simp only[Zx]at z0 z1 z2 z3 z4 z5;obtain⟨y0,y1,y2,y3,y4,y5,-⟩:=jv.fs [0,1,2,3,4,5];have du:=Fr.set6 w6 p (.slice A1 n1 c1,pf.1.1);have Ha:(set6 w6 p (.slice A1 n1 c1,pf.1.1)).heap[g]?=wr.heap[g]?:=(du.block g yT.lt fun e=>ER e.symm).trans xQ;have vZ:=hM.set pf.1.1 rfl;go_wp2_with fail;refine⟨db Ha,tW _ _ ?_⟩;show fj _ _ _ _ _ _ (set6 w6 p (.slice A1 n1 c1,pf.1.1));generalize set6 w6 p (.slice A1 n1 c1,pf.1.1)=w7 at *;clear hM jv z0 z1 z2 z3 z4 z5 y0 y1 y2 y3 y4 y5 du yT;refine eN ?_;simp only[af,Zx];repeat go_big_quiet_step(fail)
    apply wpQuiet_nil;obtain⟨nr,_,_⟩:=vZ.blk;obtain⟨z0,z1,z2,z3,z4,z5,-⟩:=nr.cs [0,1,2,3,4,5];simp only[dE,vi,Zx]at z0 z1 z2 z3 z4 z5;by_cases hz:pf.1.2=0
    ·rw[if_pos hz]at pm;have iS:=vZ.saves pf.1.1 Ju;have NY:(pf.1.2==0)=true:=by simp[hz]
     simp only[dE,vi]at iS;replace pm:=zH pm;clear vZ nr hz;go_wp2_with fail;refine iS.mono ?_;rintro e w8 ⟨rfl,hP⟩;clear iS;go_wp2_with fail;have eS:=(show aq HH b wr.drew g R.leads1 w8 by rw[pm.out];exact hP).call (fun ar v1 h=>jR h ui.out At);refine eS.mono ?_;rintro e w9 ⟨rfl,mV⟩;have ki:=mV.call (fun ar v1 h=>GQ.out w9 ar v1 h);clear eS mV;go_wp2_with fail;refine ki.mono ?_;rintro e wE ⟨rfl,D0⟩;have hQ:=zH (show aq aa b w g R.leads wE from((D0.behind (w:=wr) (zb.drew)).next q1 q2 q3).fresh bH);clear ki D0;go_wp2_with fail;exact ai rfl rfl ⟨rfl,hQ.out⟩
    ·rw[if_neg hz]at pm;have hP:=vZ.post;have NY:(pf.1.2==0)=false:=by simp[hz]
     replace pm:=zH pm;clear vZ nr hz;go_wp2_with fail;have eS:=(show aq HH b wr.drew g R.leads1 w7 by rw[pm.out];exact hP).call (fun ar v1 h=>jR h ui.out At);refine eS.mono ?_;rintro e w9 ⟨rfl,mV⟩;have ki:=mV.call (fun ar v1 h=>GQ.out w9 ar v1 h);clear eS mV;go_wp2_with fail;refine ki.mono ?_;rintro e wE ⟨rfl,D0⟩;have hQ:=zH (show aq aa b w g R.leads wE from((D0.behind (w:=wr) (zb.drew)).next q1 q2 q3).fresh bH);clear ki D0;go_wp2_with fail;exact ai rfl rfl ⟨rfl,hQ.out⟩
   ·go_wp2_with fail;refine⟨db (np.block g BI),jl _ _ ?_⟩;refine bZ fun K3 jS=>?_
    simp only[af,Zx];apply wpQuiet_nil;go_wp2_with fail;refine lm.mono ?_;rintro e w6 ⟨A1,n1,c1,rfl,hT⟩;go_wp2_with fail;have hM:=hT.box;have sY:wr.drew.heap.size=wr.heap.size:=rfl;rw[sY]at hM;generalize wr.heap.size=p at *;have xQ:w6.heap[g]?=wr.heap[g]?:=by rw[NL];exact hM.blk.2.2
    refine⟨db xQ,jS _ _ ?_⟩;clear lj lm;refine bZ fun K4x I5=>?_
    simp only[af,Zx];repeat go_big_quiet_step(fail)
    apply wpQuiet_nil;obtain⟨jv,ER,yT⟩:=hM.blk;obtain⟨z0,z1,z2,z3,z4,z5,-⟩:=jv.cs [0,1,2,3,4,5];simp only[Zx]at z0 z1 z2 z3 z4 z5;obtain⟨y0,y1,y2,y3,y4,y5,-⟩:=jv.fs [0,1,2,3,4,5];have du:=Fr.set6 w6 p (.slice A1 n1 c1,pf.1.1);have Ha:(set6 w6 p (.slice A1 n1 c1,pf.1.1)).heap[g]?=wr.heap[g]?:=(du.block g yT.lt fun e=>ER e.symm).trans xQ;have vZ:=hM.set pf.1.1 rfl;go_wp2_with fail;refine⟨db Ha,I5 _ _ ?_⟩;show fj _ _ _ _ _ _ (set6 w6 p (.slice A1 n1 c1,pf.1.1));generalize set6 w6 p (.slice A1 n1 c1,pf.1.1)=w7 at *;clear hM jv z0 z1 z2 z3 z4 z5 y0 y1 y2 y3 y4 y5 du yT;refine eN ?_;simp only[af,Zx];repeat go_big_quiet_step(fail)
    apply wpQuiet_nil;obtain⟨nr,_,_⟩:=vZ.blk;obtain⟨z0,z1,z2,z3,z4,z5,-⟩:=nr.cs [0,1,2,3,4,5];simp only[dE,vi,Zx]at z0 z1 z2 z3 z4 z5;by_cases hz:pf.1.2=0
    ·rw[if_pos hz]at pm;have iS:=vZ.saves pf.1.1 Ju;have NY:(pf.1.2==0)=true:=by simp[hz]
     simp only[dE,vi]at iS;replace pm:=zH pm;clear vZ nr hz;go_wp2_with fail;refine iS.mono ?_;rintro e w8 ⟨rfl,hP⟩;clear iS;go_wp2_with fail;have eS:=(show aq HH b wr.drew g R.leads1 w8 by rw[pm.out];exact hP).call (fun ar v1 h=>jR h ui.out At);refine eS.mono ?_;rintro e w9 ⟨rfl,mV⟩;have ki:=mV.call (fun ar v1 h=>GQ.out w9 ar v1 h);clear eS mV;go_wp2_with fail;refine ki.mono ?_;rintro e wE ⟨rfl,D0⟩;have hQ:=zH (show aq aa b w g R.leads wE from((D0.behind (w:=wr) (zb.drew)).next q1 q2 q3).fresh bH);clear ki D0;go_wp2_with fail;exact ai rfl rfl ⟨rfl,hQ.out⟩
    ·rw[if_neg hz]at pm;have hP:=vZ.post;have NY:(pf.1.2==0)=false:=by simp[hz]
     replace pm:=zH pm;clear vZ nr hz;go_wp2_with fail;have eS:=(show aq HH b wr.drew g R.leads1 w7 by rw[pm.out];exact hP).call (fun ar v1 h=>jR h ui.out At);refine eS.mono ?_;rintro e w9 ⟨rfl,mV⟩;have ki:=mV.call (fun ar v1 h=>GQ.out w9 ar v1 h);clear eS mV;go_wp2_with fail;refine ki.mono ?_;rintro e wE ⟨rfl,D0⟩;have hQ:=zH (show aq aa b w g R.leads wE from((D0.behind (w:=wr) (zb.drew)).next q1 q2 q3).fresh bH);clear ki D0;go_wp2_with fail;exact ai rfl rfl ⟨rfl,hQ.out⟩
end
end
structure Ok(K M:Nat)(R:Rf):Prop where
 id:1<=R.id/\R.id<=R.n/\R.n<=7
 tm:0<=R.hard.term/\R.hard.term<=1099511627776
 tr:R.track.Inv
 cm:0<=R.commit/\R.commit<=1099511627776
 dat:R.snap.data.length<=65536
 dat0:0<R.track.index->0<R.snap.data.length
 gat:R.gath.data.length<=65536
 trk:R.track.L.length<=K
 ws:R.waits.length<=16
 yl:R.yes.length<=K
 ck:0<=R.clock/\R.clock<=K/\0<=R.round/\R.round<=K
 ms:R.out.msgs.length<=M
 es:R.out.entries.length<=M
 cs:R.out.commits.length<=M
 rs:R.out.reads.length<=M
 ys:R.role=1\/R.role=2->R.yes≠[]
 ld:R.role=3->R.peers.length=R.n+1/\∀p∈R.peers,(0<=p.mat/\p.mat<=1099511627776)/\(1<=p.next/\p.next<=1099511627777)/\0<=p.offset/\p.offset<=R.snap.data.length
section
variable {K K' M M':Nat}{R:Rf}
theorem Ok.mono(h:Ok K M R)(hK:K<=K')(hM:M<=M'):Ok K' M' R where
 id:=h.id
 tm:=h.tm
 tr:=h.tr
 cm:=h.cm
 dat:=h.dat
 dat0:=h.dat0
 gat:=h.gat
 trk:=Nat.le_trans h.trk hK
 ws:=h.ws
 yl:=Nat.le_trans h.yl hK
 ck:=by have:=h.ck;omega
 ms:=Nat.le_trans h.ms hM
 es:=Nat.le_trans h.es hM
 cs:=Nat.le_trans h.cs hM
 rs:=Nat.le_trans h.rs hM
 ys:=h.ys
 ld:=h.ld
theorem Ok.peers(h:Ok K M R)(hr:R.role=3)(hK:K<=100000000000):gQ R:=by
 obtain⟨h1,h2⟩:=h.ld hr;have hp:∀s,s<=R.n->R.peer s∈R.peers:=fun s hs=>by
  unfold Rf.peer;rw[List.getElem?_eq_getElem (by omega)];exact List.getElem_mem _
 exact⟨h1,h.id.2.2,fun s hs=>by have:=(h2 _ (hp s hs)).2.1;omega,fun s hs=>(h2 _ (hp s hs)).2.2,h.dat,h.dat0,Nat.le_trans h.trk hK⟩
theorem Ok.outs(h:Ok K M R){o:Ot}(h1:o.msgs.length<=M)(h2:o.entries.length<=M)(h3:o.commits.length<=M)(h4:o.reads.length<=M):Ok K M {R with out:=o}:=
 {h with ms:=h1,es:=h2,cs:=h3,rs:=h4}
theorem Ok.send(h:Ok K M R)(m:Mg):Ok K (M+1) (R.send m):=by
 have h':=h.mono (Nat.le_refl K) (Nat.le_succ M);exact h'.outs (by simp;exact h.ms) h'.es h'.cs h'.rs
theorem Ok.lacks(h:Ok K M R)(s:Nat):Ok K (M+1) (R.lacks s):=by
 unfold Rf.lacks;split
 ·exact h.send _
 ·exact h.send _
theorem Ok.all(h:Ok K M R):Ok K (M+7) R.all:=by
 obtain⟨ms,e,hl⟩:=iB R.others R;have ho:=gK R;have h7:=h.id.2.2;have h':=h.mono (Nat.le_refl K) (Nat.le_add_right M 7);have e2:R.all={R with out:={R.out with msgs:=R.out.msgs++ms}}:=e;rw[e2];exact h'.outs (by have:=h.ms;simp;omega) h'.es h'.cs h'.rs
theorem zP(t:bv)(i n:Int):(t.sliceF i n).length<=t.L.length:=by
 unfold bv.sliceF;split
 ·exact Nat.zero_le _
 ·rw[List.length_take,List.length_drop];omega
theorem Ok.save(h:Ok K M R)(l:List En):Ok K (M+l.length) (R.save l):=by
 have h':=h.mono (Nat.le_refl K) (Nat.le_add_right M l.length);exact h'.outs h'.ms (by have:=h.es;simp;omega) h'.cs h'.rs
theorem Ok.commits(h:Ok K M R){k:Int}(hk:k<=1099511627776):Ok K (M+K) (R.commits k):=by
 have h':=h.mono (Nat.le_refl K) (Nat.le_add_right M K);unfold Rf.commits;split
 ·have hc:=h.cm;have h2:Ok K (M+K) {R with commit:=k}:={h' with cm:=⟨by show 0<=k;omega,hk⟩};refine h2.outs h'.ms h'.es ?_ h'.rs;have:=zP R.track (R.commit+1) (k-R.commit);have:=h.trk;have:=h.cs;simp;omega
 ·exact h'
theorem Ok.agrees(h:Ok K M R):Ok K (M+K) R.agrees:=by
 unfold Rf.agrees;split
 ·rename_i hc;have h1:=iQ hc.2;have h2:=h.tr.room;exact h.commits (by omega)
 ·exact h.mono (Nat.le_refl K) (Nat.le_add_right M K)
theorem Ok.crown(h:Ok K M R)(hK:1<=K):Ok K M R.crown:=
 {h with
  ws:=Nat.zero_le _
  ck:=⟨Int.le_refl 0,Int.natCast_nonneg _,by show(0:Int)<=1;omega,by show(1:Int)<=K;omega⟩
  ys:=fun e=>by rcases e with e|e <;> cases e
  ld:=fun _=>by
   refine⟨by show(List.replicate _ _).length=_;rw[List.length_replicate];rfl,fun p hp=>?_⟩;have e:=List.eq_of_mem_replicate (show p∈List.replicate _ _ from hp);have h1:=h.tr.last;have h2:=h.tr.room;have h3:=h.tr.b;rw[e];exact⟨⟨Int.le_refl 0,by show(0:Int)<=_;omega⟩,⟨by show 1<=R.track.lastF.1+1;omega,by show R.track.lastF.1+1<=_;omega⟩,Int.le_refl 0,Int.natCast_nonneg _⟩}
theorem Ok.put(h:Ok K M R)(tm:Int)(x:En):Ok (K+1) M {R with track:=(R.track.putF tm x).2}:=by
 have h':=h.mono (Nat.le_succ K) (Nat.le_refl M);have hi:=qT R.track tm x;exact {h' with
  tr:=h.tr.putF tm x
  trk:=by show(R.track.putF tm x).2.L.length<=_;have:=hi.2;have:=h.trk;omega
  dat0:=fun e=>h.dat0 (by have e:0<(R.track.putF tm x).2.index:=e;rw[hi.1]at e;exact e)}
theorem Ok.leads1(h:Ok K M R)(hK:1<=K):Ok (K+1) (M+1) R.leads1:=by
 have h1:=(h.crown hK).put R.crown.hard.term jx;unfold Rf.leads1;simp only;split
 ·exact h1.save [(R.crown.track.putF R.crown.hard.term jx).1.1]
 ·exact h1.mono zl (Nat.le_succ M)
theorem Ok.leads(h:Ok K M R)(hK:1<=K):Ok (K+1) (M+K+20) R.leads:=
 ((h.leads1 hK).all.agrees).mono zl (by omega)
theorem Ok.says(h:Ok K M R)(s:Int):Ok (K+1) M (R.says s):=by
 have h':=h.mono (Nat.le_succ K) (Nat.le_refl M);exact {h' with
  yl:=by show(R.yes++[s]).length<=_;have:=h.yl;simp;exact this
  ys:=fun _=>by show R.yes++[s]≠[];simp}
end
def mD(id:Nat)(T:Int)(m:Mg):Mg:={m with frm:=id,term:=if m.term=0 then T else m.term}
theorem lT(f:Nat->Mg)(l:List Nat):∀R:Rf,l.foldl (fun R' (s:Nat)=>R'.send (f s)) R={R with out:={R.out with msgs:=R.out.msgs++l.map fun s=>mD R.id R.hard.term (f s)}}:=by
 induction l with
 | nil=>intro R;rw[List.map_nil,List.append_nil];rfl
 | cons s l ih=>
  intro R;have e:R.send (f s)={R with out:={R.out with msgs:=R.out.msgs++[mD R.id R.hard.term (f s)]}}:=rfl;rw[List.foldl_cons,ih,e];simp only[List.map_cons,List.append_assoc,List.singleton_append]
def gz(RB:Rf)(f:Nat->Mg)(k:Nat):Rf:={RB with out:={RB.out with msgs:=RB.out.msgs++(RB.others.take k).map fun s=>mD RB.id RB.hard.term (f s)}}
theorem rp(RB:Rf)(f:Nat->Mg):gz RB f 0=RB:=by
 unfold gz;rw[List.take_zero,List.map_nil,List.append_nil]
theorem ro{RB:Rf}{f:Nat->Mg}{k s:Nat}(hs:RB.others[k]?=some s):(gz RB f k).send (f s)=gz RB f (k+1):=by
 have e:(gz RB f k).send (f s)={RB with out:={RB.out with msgs:=(RB.out.msgs++(RB.others.take k).map fun s=>mD RB.id RB.hard.term (f s))++[mD RB.id RB.hard.term (f s)]}}:=rfl;rw[e];unfold gz;rw[List.take_add_one,hs,List.map_append,List.append_assoc];rfl
theorem lU(RB:Rf)(f:Nat->Mg)(k:Nat):(gz RB f k).out.msgs.length<=RB.out.msgs.length+k:=by
 unfold gz;simp;omega
def ic(R:Rf):Rf:={R with hard:=⟨R.hard.term+1,R.id⟩,role:=2,leader:=0,yes:=[(R.id:Int)],out:={R.out with save:=true}}
def pe(R:Rf):Rf:={R with role:=1,leader:=0,yes:=[(R.id:Int)]}
def kt(l1 l2:Int)(s:Nat):Mg:={fx with kind:=3,tgt:=(s:Int),idx:=l1,logTerm:=l2}
def pg(T l1 l2:Int)(s:Nat):Mg:={fx with kind:=1,tgt:=(s:Int),term:=T+1,idx:=l1,logTerm:=l2}
theorem o7(R:Rf):R.stands2.says R.id=
  {R with hard:=⟨R.hard.term+1,R.id⟩,role:=2,leader:=0,yes:=[(R.id:Int)],out:={R.out with save:=true,msgs:=R.out.msgs++R.others.map fun s=>mD R.id (R.hard.term+1) (kt R.track.lastF.1 R.track.lastF.2 s)}}:=by
 have h:=lT (kt R.track.lastF.1 R.track.lastF.2) R.stands1.others R.stands1;have h2:R.stands2=R.stands1.others.foldl (fun R' (s:Nat)=>R'.send (kt R.track.lastF.1 R.track.lastF.2 s)) R.stands1:=rfl;unfold Rf.says;rw[h2,h];rfl
theorem lK(R:Rf):R.asks2.says R.id=
  {R with role:=1,leader:=0,yes:=[(R.id:Int)],out:={R.out with msgs:=R.out.msgs++R.others.map fun s=>mD R.id R.hard.term (pg R.hard.term R.track.lastF.1 R.track.lastF.2 s)}}:=by
 have h:=lT (pg R.hard.term R.track.lastF.1 R.track.lastF.2) R.asks1.others R.asks1;have h2:R.asks2=R.asks1.others.foldl (fun R' (s:Nat)=>R'.send (pg R.hard.term R.track.lastF.1 R.track.lastF.2 s)) R.asks1:=rfl;unfold Rf.says;rw[h2,h];rfl
theorem zQ(R:Rf){l1 l2:Int}{k:Nat}(h1:R.track.lastF.1=l1)(h2:R.track.lastF.2=l2)(hk:R.others.length<=k):({(gz (ic R) (kt l1 l2) k).says R.id with yes:=[(R.id:Int)]}:Rf)=R.stands2.says R.id:=by
 rw[o7,h1,h2];unfold gz;rw[show(ic R).others=R.others from rfl,List.take_of_length_le hk];rfl
theorem Dz(R:Rf){l1 l2:Int}{k:Nat}(h1:R.track.lastF.1=l1)(h2:R.track.lastF.2=l2)(hk:R.others.length<=k):({(gz (pe R) (pg R.hard.term l1 l2) k).says R.id with yes:=[(R.id:Int)]}:Rf)=R.asks2.says R.id:=by
 rw[lK,h1,h2];unfold gz;rw[show(pe R).others=R.others from rfl,List.take_of_length_le hk];rfl
section
variable {K K' M M':Nat}{R:Rf}
theorem Ok.standing(h:Ok K M R)(ht:R.hard.term<1099511627776):Ok (K+1) (M+7) (R.stands2.says R.id):=by
 rw[o7];have h':=h.mono (Nat.le_succ K) (Nat.le_add_right M 7);have ho:=gK R;have h7:=h.id.2.2;have h0:=h.tm;exact {h' with
  tm:=⟨by show 0<=R.hard.term+1;omega,by show R.hard.term+1<=_;omega⟩
  yl:=by show 1<=K+1;omega
  ms:=by have:=h.ms;simp;omega
  ys:=fun _=>by simp
  ld:=fun e=>by cases e}
theorem Ok.stands(h:Ok K M R)(ht:R.hard.term<1099511627776):Ok (K+2) (M+K+30) R.stands:=by
 unfold Rf.stands;split
 ·exact((h.standing ht).leads (by omega)).mono (by omega) (by omega)
 ·exact(h.standing ht).mono (by omega) (by omega)
theorem Ok.asking(h:Ok K M R):Ok (K+1) (M+7) (R.asks2.says R.id):=by
 rw[lK];have h':=h.mono (Nat.le_succ K) (Nat.le_add_right M 7);have ho:=gK R;have h7:=h.id.2.2;exact {h' with
  yl:=by show 1<=K+1;omega
  ms:=by have:=h.ms;simp;omega
  ys:=fun _=>by simp
  ld:=fun e=>by cases e}
theorem Ok.asks(h:Ok K M R)(ht:R.hard.term<1099511627776):Ok (K+3) (M+K+40) R.asks:=by
 unfold Rf.asks;split
 ·exact(h.asking.stands (by rw[lK];exact ht)).mono (by omega) (by omega)
 ·exact h.asking.mono (by omega) (by omega)
end
def Vt(R:Rf):Prop:=R.id<=R.n/\0<=R.hard.vote/\R.hard.vote<=R.n
def dB(R:Rf):Prop:=R.out.snap=none/\Vt R
def Ol(m:Mg)(R:Rf):Prop:=(R.out.snap=none\/(m.kind=7/\m.idx≠0/\∃x,R.out.snap=some x/\x.idx=m.idx))/\Vt R
section
variable {R:Rf}{m:Mg}
theorem dB.all(h:dB R):dB R.all:=by
 obtain⟨ms,e,_⟩:=iB R.others R;have e':R.all=_:=e;rw[e'];exact h
theorem dB.lacks(h:dB R)(s:Nat):dB (R.lacks s):=by
 unfold Rf.lacks;split
 ·exact h
 ·exact h
theorem dB.commits(h:dB R)(k:Int):dB (R.commits k):=by
 unfold Rf.commits;split
 ·exact h
 ·exact h
theorem dB.agrees(h:dB R):dB R.agrees:=by
 unfold Rf.agrees;split
 ·exact h.commits _
 ·exact h
theorem dB.leads1(h:dB R):dB R.leads1:=by
 unfold Rf.leads1;simp only;split
 ·exact h
 ·exact h
theorem dB.leads(h:dB R):dB R.leads:=h.leads1.all.agrees
theorem dB.standing(h:dB R):dB (R.stands2.says R.id):=by
 have e:R.stands2=_:=lT (fun s:Nat=>{fx with kind:=3,tgt:=(s:Int),idx:=R.track.lastF.1,logTerm:=R.track.lastF.2}) R.stands1.others R.stands1;rw[e];have h2:=h.2.1;exact⟨h.1,h2,by show(0:Int)<=(R.id:Int);omega,by show(R.id:Int)<=(R.n:Int);omega⟩
theorem dB.stands(h:dB R):dB R.stands:=by
 unfold Rf.stands;split
 ·exact h.standing.leads
 ·exact h.standing
theorem dB.asking(h:dB R):dB (R.asks2.says R.id):=by
 have e:R.asks2=_:=lT (fun s:Nat=>{fx with kind:=1,tgt:=(s:Int),term:=R.hard.term+1,idx:=R.track.lastF.1,logTerm:=R.track.lastF.2}) R.asks1.others R.asks1;rw[e];exact h
theorem dB.asks(h:dB R):dB R.asks:=by
 unfold Rf.asks;split
 ·exact h.asking.stands
 ·exact h.asking
theorem dB.beats(h:dB R)(draw:Int):dB (R.beats draw):=by
 unfold Rf.beats;simp only;split
 ·split
  ·exact dB.all (R:={R with clock:=0,round:=R.round+1}) h
  ·exact h
 ·by_cases hw:R.wait=0
  ·simp only[hw,if_true];have h1:dB {R with clock:=R.clock+1,wait:=lH draw}:=h;split
   ·split
    ·exact dB.asks (R:={R with clock:=0,wait:=0}) h
    ·exact h
   ·exact h1
  ·simp only[hw,if_false];have h1:dB {R with clock:=R.clock+1}:=h;split
   ·split
    ·exact dB.asks (R:={R with clock:=0,wait:=0}) h
    ·exact h
   ·exact h1
theorem CR(ho:R.out=eO)(hv:Vt R)(draw:Int):(R.tick draw).1.snap=none/\Vt (R.tick draw).2:=by
 have h:=dB.beats (R:=R) ⟨by rw[ho];rfl,hv⟩ draw;exact⟨h.1,h.2⟩
theorem uF(ho:R.out=eO)(hv:Vt R)(x:En):(R.propose x).1.2.2.snap=none/\Vt (R.propose x).2:=by
 unfold Rf.propose;split
 ·exact⟨rfl,hv⟩
 ·simp only;split
  ·exact⟨rfl,hv⟩
  ·have h:=dB.agrees (dB.all (R:=({R with track:=(R.track.putF R.hard.term x).2}:Rf).save [(R.track.putF R.hard.term x).1.1]) ⟨by show R.out.snap=none;rw[ho];rfl,hv⟩);exact⟨h.1,h.2⟩
theorem Ct(ho:R.out=eO)(hv:Vt R)(ctx:Int):(R.read ctx).1.2.snap=none/\Vt (R.read ctx).2:=by
 unfold Rf.read;split
 ·exact⟨rfl,hv⟩
 ·split
  ·exact⟨rfl,hv⟩
  ·split
   ·exact⟨rfl,hv⟩
   ·have h:=dB.all (R:={R with round:=R.round+1,waits:=R.waits++[Wt.mk ctx R.commit (R.round+1)]}) ⟨by show R.out.snap=none;rw[ho];rfl,hv⟩;exact⟨h.1,h.2⟩
theorem yj(hv:Vt R)(i:Int)(data:List UInt8):Vt (R.compact i data).2:=by
 unfold Rf.compact;split
 ·exact hv
 ·split
  ·exact hv
  ·split
   ·exact hv
   ·exact hv
theorem dB.setPeer(h:dB R)(s:Nat)(p:Pr):dB (R.setPeer s p):=h
theorem dB.has(h:dB R)(s:Nat)(i:Int):dB (R.has s i):=by
 unfold Rf.has;simp only;split
 ·exact(dB.agrees (dB.setPeer h s _)).lacks s
 ·exact dB.agrees (dB.setPeer h s _)
theorem dB.answered(h:dB R)(m:Mg):dB (R.answered m):=by
 obtain⟨R1,gE⟩:=zN (R.setPeer m.frm.toNat {R.peer m.frm.toNat with round:=max (R.peer m.frm.toNat).round (min m.round R.round)});have h1:dB R1:=by rw[<-gE];exact dB.setPeer h _ _
 have e:R.answered m=if m.kind=8/\0<m.total then
   if m.idx=R.snap.idx/\(R1.peer m.frm.toNat).next-1<R.snap.idx then(R1.setPeer m.frm.toNat {R1.peer m.frm.toNat with offset:=min m.offset R.snap.data.length}).lacks m.frm.toNat else R1
  else if m.kind=6/\m.reject=true then(R1.setPeer m.frm.toNat {R1.peer m.frm.toNat with next:=max ((R1.peer m.frm.toNat).mat+1) (min ((R1.peer m.frm.toNat).next-1) (m.idx+1))}).lacks m.frm.toNat
  else R1.has m.frm.toNat m.idx:=by
  rw[<-gE];rfl
 rw[e];split
 ·split
  ·exact(dB.setPeer h1 _ _).lacks _
  ·exact h1
 ·split
  ·exact(dB.setPeer h1 _ _).lacks _
  ·exact h1.has _ _
theorem dB.appends(h:dB R)(m:Mg):dB (R.appends m):=by
 unfold Rf.appends;split
 ·exact h
 ·simp only;split
  ·exact h
  ·split
   ·exact dB.commits (R:=({R with track:=(R.track.takeF m.idx m.logTerm m.entries).2}:Rf).save ((R.track.takeF m.idx m.logTerm m.entries).2.sliceF (R.track.takeF m.idx m.logTerm m.entries).1.1 m.entries.length)) h _
   ·exact dB.commits (R:=({R with track:=(R.track.takeF m.idx m.logTerm m.entries).2}:Rf)) h _
theorem dB.votes(h:dB R)(m:Mg)(h0:0<=m.frm)(h1:m.frm<=R.n):dB (R.votes m):=by
 unfold Rf.votes;split
 ·exact⟨h.1,h.2.1,h0,h1⟩
 ·exact h
theorem dB.asked(h:dB R)(m:Mg):dB (R.asked m):=by
 unfold Rf.asked;split
 ·exact h
 ·exact h
theorem dB.sn(h:dB R):Ol m R:=⟨.inl h.1,h.2⟩
theorem dB.piece(h:dB R)(hk:m.kind=7):Ol m (R.piece m):=by
 unfold Rf.piece;split
 ·exact h.sn
 ·rename_i hc;split
  ·exact dB.sn h
  ·simp only;split
   ·exact dB.sn h
   ·refine⟨.inr ⟨hk,fun e=>hc (.inl e),⟨m.idx,m.logTerm,(R.gath1 m).data⟩,?_,rfl⟩,?_⟩
    ·unfold Rf.install;simp only;split
     ·rfl
     ·rfl
    ·unfold Rf.install;simp only;split
     ·exact h.2
     ·exact h.2
theorem dB.does(h:dB R)(m:Mg)(h0:0<=m.frm)(h1:m.frm<=R.n):Ol m (R.does m):=by
 unfold Rf.does;split
 ·exact(h.asked m).sn
 ·split
  ·split
   ·split
    ·exact dB.sn (dB.stands h)
    ·exact dB.sn h
   ·exact h.sn
  ·split
   ·exact(h.votes m h0 h1).sn
   ·split
    ·split
     ·split
      ·exact dB.sn (dB.leads h)
      ·exact dB.sn h
     ·exact h.sn
    ·split
     ·split
      ·exact dB.sn (dB.appends (R:=R.hears m) h m)
      ·exact h.sn
     ·split
      ·rename_i hk;split
       ·exact dB.piece (R:=R.hears m) h hk
       ·exact h.sn
      ·split
       ·exact h.sn
       ·split
        ·exact(h.answered m).sn
        ·exact h.sn
theorem CI(ho:R.out=eO)(hv:Vt R)(m:Mg):Vt (R.step m).2/\∀x,(R.step m).1.snap=some x->m.kind=7/\m.idx≠0/\x.idx=m.idx/\R.right m=true:=by
 unfold Rf.step;split
 ·exact⟨hv,fun x hx=>by cases hx⟩
 ·rename_i hr;have hr:R.right m=true:=by
   cases vj:R.right m
   ·exact absurd vj hr
   ·rfl
  obtain⟨_,_,_,_,r5,_⟩:=rb hr;simp only;obtain⟨R1,gE⟩:=zN ((if R.hard.term<m.term/\m.kind≠1/\(m.kind≠2\/m.reject=true)then R.follows m.term else R));rw[gE];have h1:dB R1/\R1.n=R.n:=by
   rw[<-gE];split
   ·exact⟨⟨by show R.out.snap=none;rw[ho];rfl,hv.1,Int.le_refl 0,Int.natCast_nonneg _⟩,rfl⟩
   ·exact⟨⟨by rw[ho];rfl,hv⟩,rfl⟩
  split
  ·have h2:dB (R1.late m):=by
    unfold Rf.late;split
    ·exact h1.1
    ·exact h1.1
   refine⟨h2.2,fun x hx=>?_⟩;have:(R1.late m).tell.1.snap=none:=h2.1;rw[this]at hx;cases hx
  ·have h2:=h1.1.does m (by omega) (by rw[h1.2];omega);have h3:Ol m (if(R1.does m).role=3 then(R1.does m).reads else R1.does m):=by
    split
    ·exact h2
    ·exact h2
   refine⟨h3.2,fun x hx=>?_⟩;rcases h3.1 with h3|⟨a,b,y,c,d⟩
   ·have h3:(if(R1.does m).role=3 then(R1.does m).reads else R1.does m).tell.1.snap=none:=h3;rw[h3]at hx;cases hx
   ·have c:(if(R1.does m).role=3 then(R1.does m).reads else R1.does m).tell.1.snap=some y:=c;rw[c]at hx;injection hx with hx;subst hx;exact⟨a,b,d,hr⟩
end
end Go.Proofs.YtjcninheccmpoaaGreat
