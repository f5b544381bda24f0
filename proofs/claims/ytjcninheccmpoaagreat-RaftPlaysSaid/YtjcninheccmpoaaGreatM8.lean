import Derived.Test.YtjcninheccmpoaaGreatM7
set_option maxRecDepth 100000
set_option maxHeartbeats 8000000
set_option linter.all false
namespace Go.Proofs.YtjcninheccmpoaaGreat
open Go.RowKit Go.Proofs.Tryz
def jT(id n:Int)(s:qm):Prop:=(1<=n/\n<=7)/\(1<=id/\id<=n)/\(0<=s.hard.term/\s.hard.term<=1099511627776)/\(0<=s.hard.vote/\s.hard.vote<=n)/\fe s.snap=true
def fL(id n:Nat)(s:qm)(t:bB):Rf:=Rf.mk id n s.hard t s.snap s.snap.idx 0 0 0 0 [] [] 0 [] F2 dZ
theorem tl{id n:Int}{s:qm}(h:¬jT id n s):Rf.new id n s=none:=if_pos h
theorem wY{id n:Nat}{s:qm}(h:jT id n s){p:(Int×Bool)×bB}(hp:bB.takeF (bB.mk s.snap.idx s.snap.term []) s.snap.idx s.snap.term (s.entries.filter fun x=>decide (s.snap.idx<x.idx))=p) :
  Rf.new id n s=if p.1.2=false\/s.hard.term<p.2.lastF.2 then none else some (fL id n s p.2):=by
 unfold Rf.new;rw[if_neg (fun hn=>hn h)];simp only[hp];rfl
theorem rC(k:Int):∀zs:List (Value×En),(bU k zs).map (·.2)=(zs.map (·.2)).filter fun x=>decide (k<x.idx)
 | []=>rfl
 | z::l=>by
  have ih:=rC k l;unfold bU at ih ⊢;by_cases h:k<z.2.idx
  ·rw[List.filter_cons,if_pos (by simp[h]),List.map_cons,ih,List.map_cons,List.filter_cons,if_pos (by simp[h])]
  ·rw[List.filter_cons,if_neg (by simp[h]),ih,List.map_cons,List.filter_cons,if_neg (by simp[h])]
theorem nt{i t:Int}{l:List UInt8}(h:fe ⟨i,t,l⟩=true):iR i t=true/\l.length<=65536/\(0<i->0<l.length):=by
 unfold fe i9 at h;unfold iR eC;by_cases h0:i=0/\t=0
 ·rw[if_pos h0]at h;have h:=of_decide_eq_true h;simp only at h;obtain⟨rfl,rfl⟩:=h0;exact⟨by simp,by omega,by omega⟩
 ·rw[if_neg h0]at h;have h:=of_decide_eq_true h;simp only at h;refine⟨?_,by omega,by omega⟩;simp only[Bool.or_eq_true,Bool.and_eq_true,decide_eq_true_eq];exact .inr ⟨⟨by omega,by omega⟩,by omega,by omega⟩
def mu(aa:Nat->Nat)(b:Nat)(w:World)(o:Option Rf)(e:Ending)(w':World):Prop:=
 Below w.heap.size w w'/\((o=none/\e=.returned (.pointer none))\/∃(R:Rf) (g:Nat) (ak:Nat->Nat) (v':Rw),o=some R/\e=.returned (.pointer (some ⟨g,0,none⟩))/\ax ak b w' g R v'/\(∀j,j<w.heap.size->ak j=aa j)/\w.heap.size<=g)
section
variable {aa:Nat->Nat}{w:World}
theorem Jz(b:Nat)(id n:Int)(s:qm)(Ad A1:Option Addr)(md cd m1 c1:Nat)(lD:s.snap.data.length=md)(dt:¬jT id n s) :
  Calls prog 13 #[.int .i64 id,.int .i64 n,.agg #[.int .i64 s.hard.term,.int .i64 s.hard.vote,.int .i64 s.snap.idx,.int .i64 s.snap.term,.slice Ad md cd,.slice A1 m1 c1]] w fun e w'=>mu aa b w (Rf.new id n s) e w':=by
 have nV:=zH (tl dt);have aI:Below w.heap.size w (w.alloc (.cells #[.int .i64 s.hard.term,.int .i64 s.hard.vote,.int .i64 s.snap.idx,.int .i64 s.snap.term,.slice Ad md cd,.slice A1 m1 c1] 29)):=zb.alloc zl _;have gN:=ar.new w 29 #[.int .i64 s.hard.term,.int .i64 s.hard.vote,.int .i64 s.snap.idx,.int .i64 s.snap.term,.slice Ad md cd,.slice A1 m1 c1];obtain⟨w1,bV⟩:=zN (w.alloc (.cells #[.int .i64 s.hard.term,.int .i64 s.hard.vote,.int .i64 s.snap.idx,.int .i64 s.snap.term,.slice Ad md cd,.slice A1 m1 c1] 29));rw[bV]at aI gN;obtain⟨y0,y1,y2,y3,y4,y5,-⟩:=gN.cs [0,1,2,3,4,5];simp only[Zx]at y0 y1 y2 y3 y4 y5;have h1:=ro (lo:=1) (hi:=7) (x:=n) w1;have h2:=ro (lo:=1) (hi:=n) (x:=id) w1;have h3:=ro (lo:=0) (hi:=1099511627776) (x:=s.hard.term) w1;have h4:=ro (lo:=0) (hi:=n) (x:=s.hard.vote) w1;have h5:=uK s.snap.idx s.snap.term Ad md cd s.snap.data w1 lD;obtain⟨x1,om⟩:∃x,decide (1<=n/\n<=7)=x:=⟨_,rfl⟩;obtain⟨x2,zm⟩:∃x,decide (1<=id/\id<=n)=x:=⟨_,rfl⟩;obtain⟨x3,GV⟩:∃x,decide (0<=s.hard.term/\s.hard.term<=1099511627776)=x:=⟨_,rfl⟩;obtain⟨x4,KO⟩:∃x,decide (0<=s.hard.vote/\s.hard.vote<=n)=x:=⟨_,rfl⟩;obtain⟨x5,Tt⟩:∃x,fe s.snap=x:=⟨_,rfl⟩;rw[om]at h1;rw[zm]at h2;rw[GV]at h3;rw[KO]at h4;rw[show fe ⟨s.snap.idx,s.snap.term,s.snap.data⟩=x5 from Tt]at h5;have eq:¬(x1=true/\x2=true/\x3=true/\x4=true/\x5=true):=by
  rintro⟨rfl,rfl,rfl,rfl,rfl⟩;exact dt ⟨of_decide_eq_true om,of_decide_eq_true zm,of_decide_eq_true GV,of_decide_eq_true KO,Tt⟩
 replace bV:=zH bV;replace lD:=zH lD;clear om zm GV KO Tt dt;cases x1
 ·clear eq;go_enter func13,ntmps13;go_wp2_with fail;rw[bV.out];try go_wp2_with fail
  refine h1.mono ?_;rintro e wA ⟨rfl,rfl⟩;go_wp2_with fail;go_ret;exact⟨aI,.inl ⟨nV.out,rfl⟩⟩
 ·skip
  cases x2
  ·clear eq;go_enter func13,ntmps13;go_wp2_with fail;rw[bV.out];try go_wp2_with fail
   refine h1.mono ?_;rintro e wA ⟨rfl,rfl⟩;go_wp2_with fail;refine h2.mono ?_;rintro e wA ⟨rfl,rfl⟩;go_wp2_with fail;go_ret;exact⟨aI,.inl ⟨nV.out,rfl⟩⟩
  ·skip
   cases x3
   ·clear eq;go_enter func13,ntmps13;go_wp2_with fail;rw[bV.out];try go_wp2_with fail
    refine h1.mono ?_;rintro e wA ⟨rfl,rfl⟩;go_wp2_with fail;refine h2.mono ?_;rintro e wA ⟨rfl,rfl⟩;go_wp2_with fail;refine h3.mono ?_;rintro e wA ⟨rfl,rfl⟩;go_wp2_with fail;go_ret;exact⟨aI,.inl ⟨nV.out,rfl⟩⟩
   ·skip
    cases x4
    ·clear eq;go_enter func13,ntmps13;go_wp2_with fail;rw[bV.out];try go_wp2_with fail
     refine h1.mono ?_;rintro e wA ⟨rfl,rfl⟩;go_wp2_with fail;refine h2.mono ?_;rintro e wA ⟨rfl,rfl⟩;go_wp2_with fail;refine h3.mono ?_;rintro e wA ⟨rfl,rfl⟩;go_wp2_with fail;refine h4.mono ?_;rintro e wA ⟨rfl,rfl⟩;go_wp2_with fail;go_ret;exact⟨aI,.inl ⟨nV.out,rfl⟩⟩
    ·skip
     cases x5
     ·clear eq;go_enter func13,ntmps13;go_wp2_with fail;rw[bV.out];try go_wp2_with fail
      refine h1.mono ?_;rintro e wA ⟨rfl,rfl⟩;go_wp2_with fail;refine h2.mono ?_;rintro e wA ⟨rfl,rfl⟩;go_wp2_with fail;refine h3.mono ?_;rintro e wA ⟨rfl,rfl⟩;go_wp2_with fail;refine h4.mono ?_;rintro e wA ⟨rfl,rfl⟩;go_wp2_with fail;refine h5.mono ?_;rintro e w5 ⟨rfl,cD⟩;go_wp2_with fail;go_ret;exact⟨ab aI cD zl,.inl ⟨nV.out,rfl⟩⟩
     ·skip
      exact absurd ⟨rfl,rfl,rfl,rfl,rfl⟩ eq
end
section
variable {aa:Nat->Nat}{w:World}
theorem HQ(b mi:Nat)(id n:Nat)(s:qm)(Ad A1:Option Addr)(md cd m1 c1:Nat)(hE:cN aa mi w (.slice A1 m1 c1) s.entries)(hD:bM aa mi w (.slice Ad md cd) s.snap.data)(uM:mi<=b\/b+13<mi)(qy:m1<=100000)(lD:s.snap.data.length=md)(gT:∀j,j<w.heap.size->¬bv aa b j)(mO:jT id n s) :
  Calls prog 13 #[.int .i64 id,.int .i64 n,.agg #[.int .i64 s.hard.term,.int .i64 s.hard.vote,.int .i64 s.snap.idx,.int .i64 s.snap.term,.slice Ad md cd,.slice A1 m1 c1]] w fun e w'=>mu aa b w (Rf.new id n s) e w':=by
 obtain⟨p,hp⟩:=zN (bB.takeF (bB.mk s.snap.idx s.snap.term []) s.snap.idx s.snap.term (s.entries.filter fun x=>decide (s.snap.idx<x.idx)));have gp:=wY mO hp;have aI:Below w.heap.size w (w.alloc (.cells #[.int .i64 s.hard.term,.int .i64 s.hard.vote,.int .i64 s.snap.idx,.int .i64 s.snap.term,.slice Ad md cd,.slice A1 m1 c1] 29)):=zb.alloc zl _;have gN:=ar.new w 29 #[.int .i64 s.hard.term,.int .i64 s.hard.vote,.int .i64 s.snap.idx,.int .i64 s.snap.term,.slice Ad md cd,.slice A1 m1 c1];obtain⟨w1,bV⟩:=zN (w.alloc (.cells #[.int .i64 s.hard.term,.int .i64 s.hard.vote,.int .i64 s.snap.idx,.int .i64 s.snap.term,.slice Ad md cd,.slice A1 m1 c1] 29));rw[bV]at aI gN;obtain⟨y0,y1,y2,y3,y4,y5,-⟩:=gN.cs [0,1,2,3,4,5];simp only[Zx]at y0 y1 y2 y3 y4 y5;have h1:=mP (show decide (1<=(n:Int)/\(n:Int)<=7)=true from decide_eq_true mO.1) w1;have h2:=mP (show decide (1<=(id:Int)/\(id:Int)<=n)=true from decide_eq_true mO.2.1) w1;have h3:=mP (show decide (0<=s.hard.term/\s.hard.term<=1099511627776)=true from decide_eq_true mO.2.2.1) w1;have h4:=mP (show decide (0<=s.hard.vote/\s.hard.vote<=n)=true from decide_eq_true mO.2.2.2.1) w1;have h5:=uK s.snap.idx s.snap.term Ad md cd s.snap.data w1 lD;have uY:fe ⟨s.snap.idx,s.snap.term,s.snap.data⟩=true:=mO.2.2.2.2;rw[uY]at h5;obtain⟨bl,PT,IM⟩:=nt uY;have jg:=mO.2.1;have qk:=mO.1;obtain⟨Ae,ne,ce,zs,pY,EZ,IS,Df,AB,oX,bP⟩:=hE;injection pY with e1 e2 e3;subst e1;subst e2;subst e3;obtain⟨Ab,cb,YM,E5,oo,bN,WS⟩:=hD;injection YM with e1 e2 e3;subst e1;subst e3;rw[lD]at E5;replace bV:=zH bV;replace hp:=zH hp;replace gp:=zH gp;replace mO:=zH mO;replace jg:=zH jg;replace qk:=zH qk;replace PT:=zH PT;replace lD:=zH lD;clear uY e2;go_enter func13,ntmps13;go_wp2_with fail;rw[bV.out];try go_wp2_with fail
 refine h1.mono ?_;rintro e wA ⟨rfl,rfl⟩;go_wp2_with fail;refine h2.mono ?_;rintro e wA ⟨rfl,rfl⟩;go_wp2_with fail;refine h3.mono ?_;rintro e wA ⟨rfl,rfl⟩;go_wp2_with fail;refine h4.mono ?_;rintro e wA ⟨rfl,rfl⟩;go_wp2_with fail;refine h5.mono ?_;rintro e w5 ⟨rfl,cD⟩;clear h1 h2 h3 h4 h5 y0 y1 y2 y3 y4 y5;have kw:=ab aI cD zl;have yV:=gN.kept cD;go_wp2_with fail;obtain⟨y0,y1,y2,y3,y4,y5,-⟩:=yV.cs [0,1,2,3,4,5];simp only[Zx]at y0 y1 y2 y3 y4 y5;obtain⟨k0,k1,k2,k3,k4⟩:=MZ [w.heap.size] y0 y1 y2 y3 y4;have OT:=yV.lt;have Ja:=CD bl (ai aa w.heap.size b) (b+2) w5.drew;refine dV [w.heap.size] w5 [([0,1,2,3,4,5,6,7,8,9,11,12,14,15,16],10),([],13),([17],18)] [19] ?_;refine av fun K1 ct=>?_
 simp only[af,Zx];repeat go_big_quiet_step(fail)
 apply wpQuiet_nil;go_wp2_with fail;refine Ja.mono ?_;rintro e w6 ⟨rfl,VR,gz⟩;have cT:∀q∈[w.heap.size],q<w5.heap.size:=by simp;exact OT
 have IL:Below w5.heap.size w5 w6:=(zb.drew).trans gz;clear Ja;go_wp2_with fail;refine⟨aq cT IL,ct _ _ ?_⟩;refine av fun K2 ge=>?_
 simp only[af,Zx];apply wpQuiet_nil;have Ky:=nv s.snap.idx s.snap.term Ad md cd s.snap.data w6 (cn.below (cn.below E5 kw) IL) (by have:=PT.out;have:=lD.out;omega);go_wp2_with fail;refine Ky.mono ?_;rintro e w7 ⟨A7,c7,rfl,eM,io⟩;have OC:Below w5.heap.size w5 w7:=ab IL io zl;clear Ky;go_wp2_with fail;refine⟨aq cT OC,ge _ _ ?_⟩;refine av fun K3 jx=>?_
 simp only[af,Zx];repeat go_big_quiet_step(fail)
 apply wpQuiet_nil;go_wp2_with fail;have IY:Below w7.heap.size w7 (w7.alloc (.cells #[.slice none 0 0,.int .i64 0,.slice none 0 0,.map none,.int .i64 id,.int .i64 n,.int .i64 s.hard.term,.int .i64 s.hard.vote,.pointer (some ⟨w5.heap.size,0,none⟩),.int .i64 s.snap.idx,.int .i64 s.snap.term,.slice A7 md c7,.int .i64 s.snap.idx,.int .i64 0,.int .i64 0,.int .i64 0,.int .i64 0,.int .i64 0,.int .i64 0,.int .i64 0,.int .i64 0,.slice none 0 0,.bool false,.bool false,.int .i64 0,.int .i64 0,.slice none 0 0,.slice none 0 0,.pointer none,.slice none 0 0,.slice none 0 0] 107)):=zb.alloc zl _;have KB:=ar.new w7 107 #[.slice none 0 0,.int .i64 0,.slice none 0 0,.map none,.int .i64 id,.int .i64 n,.int .i64 s.hard.term,.int .i64 s.hard.vote,.pointer (some ⟨w5.heap.size,0,none⟩),.int .i64 s.snap.idx,.int .i64 s.snap.term,.slice A7 md c7,.int .i64 s.snap.idx,.int .i64 0,.int .i64 0,.int .i64 0,.int .i64 0,.int .i64 0,.int .i64 0,.int .i64 0,.int .i64 0,.slice none 0 0,.bool false,.bool false,.int .i64 0,.int .i64 0,.slice none 0 0,.slice none 0 0,.pointer none,.slice none 0 0,.slice none 0 0];have I9:=ab OC IY zl;refine⟨aq cT I9,jx _ _ ?_⟩;obtain⟨w8,RI⟩:=zN (w7.alloc (.cells #[.slice none 0 0,.int .i64 0,.slice none 0 0,.map none,.int .i64 id,.int .i64 n,.int .i64 s.hard.term,.int .i64 s.hard.vote,.pointer (some ⟨w5.heap.size,0,none⟩),.int .i64 s.snap.idx,.int .i64 s.snap.term,.slice A7 md c7,.int .i64 s.snap.idx,.int .i64 0,.int .i64 0,.int .i64 0,.int .i64 0,.int .i64 0,.int .i64 0,.int .i64 0,.int .i64 0,.slice none 0 0,.bool false,.bool false,.int .i64 0,.int .i64 0,.slice none 0 0,.slice none 0 0,.pointer none,.slice none 0 0,.slice none 0 0] 107));rw[RI]at IY KB I9;replace RI:=zH RI;obtain⟨g,hg⟩:=zN (w7.heap.size);have ZK:=IL.size;have XA:=io.size;have YL:=kw.size;have Xw:w7.heap.size<w8.heap.size:=KB.lt;have Np:tE (ai (ai aa w.heap.size b) w5.heap.size (b+2)) (b+2) w6 (.pointer (some ⟨w5.heap.size,0,none⟩)) ⟨s.snap.idx,s.snap.term,[]⟩:=VR;have h8:ax (ai (ai (ai (ai aa w.heap.size b) w5.heap.size (b+2)) w6.heap.size (b+6)) w7.heap.size (b+1)) b w8 g (fL id n s ⟨s.snap.idx,s.snap.term,[]⟩)
   ⟨.slice none 0 0,.slice none 0 0,.map none,.pointer (some ⟨w5.heap.size,0,none⟩),.slice A7 md c7,.slice none 0 0,.slice none 0 0,.slice none 0 0,.pointer none,.slice none 0 0,.slice none 0 0⟩:=by
  refine⟨by rw[<-hg];exact KB,by rw[<-hg];exact ay zl,?_,bQ.nil _ _ _ _ _,bQ.nil _ _ _ _ _,.inl ⟨rfl,rfl⟩,?_,bQ.nil _ _ _ _ _,dU.nil _ _ _ _,dU.nil _ _ _ _,rfl,bQ.nil _ _ _ _ _,iE.nil _ _ _ _⟩
  ·refine tE.keep (Np.relabel fun j hj e=>?_) fun j _ hl=>(ab io IY zl).block j hl
   rw[ac (by omega),ac hj];exact e
  ·have zd:=bA eM;have h9:bM (ai (ai (ai (ai aa w.heap.size b) w5.heap.size (b+2)) w6.heap.size (b+6)) w7.heap.size (b+1)) (b+6) w7 (.slice A7 md c7) s.snap.data:=by
    refine⟨A7,c7,by rw[lD.out],by rw[lD.out];exact cn.of_own eM,by rw[lD.out];exact zd.1,zd.2,fun _ ad e=>?_⟩;have:=aB eM A7 c7 rfl ad.block ⟨ad,e,rfl⟩;show ai _ _ _ _=_;rw[ac this.1];exact ay this.2.1
   exact h9.keep fun j _ hl=>IY.block j hl
 rw[RI.out];refine aj ?_;simp only[af,Zx];repeat go_big_quiet_step(fail)
 apply wpQuiet_nil;have xO:=ab kw I9 zl;have cl:ar w8 w.heap.size 29 #[.int .i64 s.hard.term,.int .i64 s.hard.vote,.int .i64 s.snap.idx,.int .i64 s.snap.term,.slice Ad md cd,.slice A1 m1 c1]:=yV.kept I9;obtain⟨z2,z5,-⟩:=cl.cs [2,5];simp only[Zx]at z2 z5;have PS:=cl.lt;have eB:=Bl (S:=aQ aa mi) A1 m1 c1 zs (fu.below EZ xO) (IS.keep (bz.below xO)) (by omega);replace Np:=zH Np;replace h8:=zH h8;clear VR eM k0 k1 k2 k3 k4 y0 y1 y2 y3 y4 y5;try rw[hg]
 go_wp2_with fail;refine eB.mono ?_;rintro e w9 ⟨A9,c9,rfl,oC,my⟩;clear eB;have gL:=(my.cell (p:=⟨w.heap.size,2,none⟩) PS).trans z2;have GF:=ya (S:=fun j=>aa j=mi/\j<w.heap.size) s.snap.idx w8.heap.size w.heap.size m1 c9 A9 zs oC my.size ((IS.mono (S':=fun j=>aa j=mi/\j<w.heap.size) fun j hj e=>⟨e,hj⟩).keep fun j hj hl=>(ab xO my zl).block j hj.2) (fun j hj=>by have:=hj.2;omega) PS gL (by omega);go_wp2_with fail;refine GF.mono ?_;rintro e w10 ⟨A10,c10,rfl,QQ,OQ,Ou,Gh,xe⟩;clear GF oC;have HT:Below w8.heap.size w8 w10:=my.trans xe;have nz:=h8.out.fresh HT;obtain⟨yr,vz⟩:=zN (ai (ai (ai (ai (ai aa w.heap.size b) w5.heap.size (b+2)) w6.heap.size (b+6)) w7.heap.size (b+1)) w8.heap.size b);rw[vz]at nz;have S6:∀j,j<w.heap.size->yr j=aa j:=fun j hj=>by
  rw[<-vz,ac (by omega),ac (by omega),ac (by omega),ac (by omega),ac hj]
 have hXq:yr w.heap.size=b:=by
  rw[<-vz,ac (by omega),ac (by omega),ac (by omega),ac OT];exact ay zl
 have X4:∀j,w8.heap.size<=j->yr j=b:=fun j hj=>by rw[<-vz];exact ay hj
 replace vz:=zH vz;have GG:=ab xO HT zl;have Iq:ar w10 w.heap.size 29 #[.int .i64 s.hard.term,.int .i64 s.hard.vote,.int .i64 s.snap.idx,.int .i64 s.snap.term,.slice Ad md cd,.slice A1 m1 c1]:=cl.kept HT;have xb:(bU s.snap.idx zs).length<=m1:=by have:=DE s.snap.idx zs;have:=EZ.len;omega
 have oO:(bU s.snap.idx zs).map (·.2)=s.entries.filter fun x=>decide (s.snap.idx<x.idx):=by rw[rC,Df]
 have cf:=Ak (S2:=aQ yr mi) s.snap.idx s.snap.term A10 (bU s.snap.idx zs).length c10 (bU s.snap.idx zs) (nz.below (w':=w10.drew) (zb.drew)) zz (fu.below QQ (zb.drew))
  ((((IS.mono (S':=aQ yr mi) fun j hj e=>(S6 j hj).trans e).sub fun z hz=>(List.mem_filter.1 hz).1).mono (S':=fun j=>yr j=mi/\j<w.heap.size) fun j hj e=>⟨e,hj⟩).keep (w':=w10.drew) (fun j hj hl=>GG.block j hj.2) |>.mono fun j _ e=>e.1) (by omega) OQ Ou (fun j e=>by have e:yr j=mi:=e;omega) (fun _ j hj=>by rw[X4 j (Gh j hj)];omega)
 have jv:=hp.out;rw[oO]at cf;have Qt:(fL id n s ⟨s.snap.idx,s.snap.term,[]⟩).track=bB.mk s.snap.idx s.snap.term []:=rfl;rw[Qt,jv]at cf;have RW:({fL id n s ⟨s.snap.idx,s.snap.term,[]⟩with track:=p.2}:Rf)=fL id n s p.2:=rfl;rw[RW]at cf;have ye:p.2.L.length<=1000000:=by
  have hf:=eJ (bB.mk s.snap.idx s.snap.term []) s.snap.idx s.snap.term (s.entries.filter fun x=>decide (s.snap.idx<x.idx));rw[jv]at hf;have h1:=hf.2.1;have h2:(s.entries.filter fun x=>decide (s.snap.idx<x.idx)).length<=s.entries.length:=List.length_filter_le _ _;have h3:s.entries.length=m1:=by rw[<-Df,List.length_map];exact EZ.len
  have h4:(bB.mk s.snap.idx s.snap.term []).L.length=0:=rfl;omega
 obtain⟨z0,z2,z3,-⟩:=Iq.cs [0,2,3];simp only[Zx]at z0 z2 z3;have d8:=nz.s.cell 8;simp only[bE,vi,Zx]at d8;have Xh:=Iq.lt;have xB:=nz.s.lt;obtain⟨t2,t3,t8⟩:=sD [g,w.heap.size] z2 z3 d8;have qQ:w10.heap[g]?=some (.cells (bE (fL id n s ⟨s.snap.idx,s.snap.term,[]⟩) ⟨.slice none 0 0,.slice none 0 0,.map none,.pointer (some ⟨w5.heap.size,0,none⟩),.slice A7 md c7,.slice none 0 0,.slice none 0 0,.slice none 0 0,.pointer none,.slice none 0 0,.slice none 0 0⟩) 107 (0,0)):=nz.s;have Bd:=zH gT;replace oO:=zH oO;replace jv:=zH jv;clear nz QQ OQ Ou Gh RW Qt gT;simp only at cf;go_wp2_with fail;refine dV [g,w.heap.size] w10 [([0,1,2,3,4,5,6,7,8,9,10],11)] [12,13,14,15,16] ?_;refine av fun K4 tj=>?_
 simp only[af,Zx];repeat go_big_quiet_step(fail)
 apply wpQuiet_nil;go_wp2_with fail;refine cf.mono ?_;rintro e w11 ⟨rfl,Q7,CP,FI,DQ⟩;have Pp:w11.heap[w.heap.size]?=w10.heap[w.heap.size]?:=DQ.block w.heap.size Xh fun hm=>by unfold aN at hm;omega
 have Q3:w.heap.size<=w10.heap.size:=GG.size;have Gj:Below w.heap.size w w11:=GG.trans (Fr.below (X:=aN yr b) ⟨DQ.os,DQ.tape,DQ.output,DQ.size,DQ.block⟩ (fun j hj=>by
  rcases Nat.lt_or_ge j w.heap.size with h|h
  ·have:=Bd.out j h;unfold aN at hj;unfold bv at this;rw[S6 j h]at hj;omega
  ·exact h) Q3)
 have UB:w11.heap[g]?=w10.heap[g]?:=CP.s.trans qQ.symm;clear cf;go_wp2_with fail;refine⟨bO UB Pp,tj _ _ ?_⟩;refine aj ?_;simp only[af,Zx];repeat go_big_quiet_step(fail)
 apply wpQuiet_nil;have rH:ar w11 w.heap.size 29 #[.int .i64 s.hard.term,.int .i64 s.hard.vote,.int .i64 s.snap.idx,.int .i64 s.snap.term,.slice Ad md cd,.slice A1 m1 c1]:=Pp.trans Iq;by_cases cB:p.1.2=false
 ·have dt:=zH (show Rf.new id n s=none by rw[gp.out,if_pos (.inl cB)]);clear CP;go_wp2_with fail;go_ret;exact⟨Gj,.inl ⟨dt.out,rfl⟩⟩
 ·replace cB:p.1.2=true:=by simpa using cB
  have bI:=iW CP.t (by exact ye);have d8:=CP.s.cell 8;simp only[bE,vi,Zx]at d8;obtain⟨l1,cy⟩:∃l,p.2.lastF.1=l:=⟨_,rfl⟩;obtain⟨l2,dM⟩:∃l,p.2.lastF.2=l:=⟨_,rfl⟩;have KT:Calls prog 44 #[.pointer (some ⟨w5.heap.size,0,none⟩)] w11 fun e w'=>e=.returned (.tuple #[.int .i64 l1,.int .i64 l2])/\Below w11.heap.size w11 w':=by
   rw[<-cy,<-dM];exact bI
  replace cy:=zH cy;replace dM:=zH dM;have TW:=zH CP;clear bI CP;go_wp2_with fail;refine KT.mono ?_;rintro e w12 ⟨rfl,bR⟩;have YU:=rH.kept bR;have c0:=YU.cell 0;simp only[Zx]at c0;have KX:Below w.heap.size w w12:=Gj.trans (bR.mono Gj.size);clear KT;by_cases SB:s.hard.term<l2
  ·have dt:=zH (show Rf.new id n s=none by rw[gp.out,if_pos (.inr (by rw[dM.out];exact SB))]);go_wp2_with fail;go_ret;exact⟨KX,.inl ⟨dt.out,rfl⟩⟩
  ·have gB:=zH (show Rf.new id n s=some (fL id n s p.2) by
    rw[gp.out,if_neg];rintro(h|h)
    ·rw[cB]at h;cases h
    ·rw[dM.out]at h;exact SB h)
   go_wp2_with fail;go_ret;exact⟨KX,.inr ⟨fL id n s p.2,g,Q7,_,gB.out,rfl,TW.out.below bR,fun j hj=>(FI j (Nat.lt_of_lt_of_le hj Q3)).trans (S6 j hj),by have:=io.size;omega⟩⟩
theorem C4(b mi:Nat)(id n:Int)(s:qm)(Ad A1:Option Addr)(md cd m1 c1:Nat)(hE:cN aa mi w (.slice A1 m1 c1) s.entries)(hD:bM aa mi w (.slice Ad md cd) s.snap.data)(uM:mi<=b\/b+13<mi)(qy:m1<=100000)(lD:s.snap.data.length=md)(gT:∀j,j<w.heap.size->¬bv aa b j) :
  Calls prog 13 #[.int .i64 id,.int .i64 n,.agg #[.int .i64 s.hard.term,.int .i64 s.hard.vote,.int .i64 s.snap.idx,.int .i64 s.snap.term,.slice Ad md cd,.slice A1 m1 c1]] w fun e w'=>mu aa b w (Rf.new id n s) e w':=by
 by_cases h:jT id n s
 ·have h1:=h.1;have h2:=h.2.1;obtain⟨N,rfl⟩:∃N:Nat,n=N:=⟨n.toNat,by omega⟩;obtain⟨I,rfl⟩:∃I:Nat,id=I:=⟨id.toNat,by omega⟩;exact HQ b mi I N s Ad A1 md cd m1 c1 hE hD uM qy lD gT h
 ·exact Jz b id n s Ad A1 md cd m1 c1 lD h
end
theorem yZ{i tm:Int}(hb:iR i tm=true):bB.Inv ⟨i,tm,[]⟩:=by
 refine⟨?_,fun j x h=>(by cases h),fun x h=>(by cases h),fun j x h=>(by cases h)⟩;unfold iR eC at hb;simp only[Bool.or_eq_true,Bool.and_eq_true,decide_eq_true_eq]at hb;show(i=0/\tm=0)\/_;rcases hb with h|⟨h1,h2⟩
 ·exact .inl h
 ·exact .inr ⟨h1.1,h1.2,h2.1,h2.2⟩
theorem yT{id n:Nat}{s:qm}(h:jT id n s){p:(Int×Bool)×bB}(hp:bB.takeF (bB.mk s.snap.idx s.snap.term []) s.snap.idx s.snap.term (s.entries.filter fun x=>decide (s.snap.idx<x.idx))=p) :
  Ok (s.entries.length+1) 0 (fL id n s p.2)/\(fL id n s p.2).track.index<=(fL id n s p.2).commit:=by
 obtain⟨hn,jg,qX,gM,hk⟩:=h;obtain⟨hb,hd,IM⟩:=nt (i:=s.snap.idx) (t:=s.snap.term) (l:=s.snap.data) hk;have PA:(bB.mk s.snap.idx s.snap.term []).Inv:=yZ hb;have dG:=PA.takeF s.snap.idx s.snap.term (s.entries.filter fun x=>decide (s.snap.idx<x.idx));have hf:=eJ (bB.mk s.snap.idx s.snap.term []) s.snap.idx s.snap.term (s.entries.filter fun x=>decide (s.snap.idx<x.idx));rw[hp]at dG hf;have hi:p.2.index=s.snap.idx:=hf.1;have hl:p.2.L.length<=s.entries.length:=by
  have h1:p.2.L.length<=([]:List En).length+_:=hf.2.1;have h2:=List.length_filter_le (fun x:En=>decide (s.snap.idx<x.idx)) s.entries;simp only[List.length_nil]at h1;omega
 have jH:0<=s.snap.idx/\s.snap.idx<=1099511627776:=by
  unfold iR eC at hb;simp only[Bool.or_eq_true,Bool.and_eq_true,decide_eq_true_eq]at hb;omega
 refine⟨{id:=⟨?_,?_,?_⟩,tm:=qX,tr:=dG,cm:=jH,dat:=hd,dat0:=?_,gat:=Nat.zero_le _,trk:=?_,ws:=Nat.zero_le _,yl:=Nat.zero_le _,ck:=⟨Int.le_refl _,?_,Int.le_refl _,?_⟩,ms:=Nat.le_refl _,es:=Nat.le_refl _,cs:=Nat.le_refl _,rs:=Nat.le_refl _,ys:=?_,ld:=?_},?_⟩
 ·show 1<=id;omega
 ·show id<=n;omega
 ·show n<=7;omega
 ·intro h;refine IM ?_;rw[<-hi];exact h
 ·show p.2.L.length<=_;omega
 ·show(0:Int)<=_;omega
 ·show(0:Int)<=_;omega
 ·intro h;exact absurd (show(0:Int)=1\/(0:Int)=2 from h) (by omega)
 ·intro h;exact absurd (show(0:Int)=3 from h) (by omega)
 ·show p.2.index<=s.snap.idx;omega
def cW(R:Rf):Prop:=R.track.index<=R.commit
section
variable {R:Rf}
theorem cW.of{R':Rf}(h:cW R)(e1:R'.track.index=R.track.index)(e2:R.commit<=R'.commit):cW R':=by
 unfold cW at h ⊢;omega
theorem cW.all(h:cW R):cW R.all:=by
 obtain⟨ms,e,_⟩:=ev R.others R;have e':R.all=_:=e;rw[e'];exact h
theorem cW.lacks(h:cW R)(s:Nat):cW (R.lacks s):=by
 unfold Rf.lacks;split
 ·exact h
 ·exact h
theorem cW.commits(h:cW R)(k:Int):cW (R.commits k):=by
 unfold Rf.commits;split
 ·exact h.of rfl (by show R.commit<=k;omega)
 ·exact h
theorem cW.agrees(h:cW R):cW R.agrees:=by
 unfold Rf.agrees;split
 ·exact h.commits _
 ·exact h
theorem cW.leads1(h:cW R):cW R.leads1:=by
 have hp:=(iv R.crown.track R.crown.hard.term gk).1;unfold Rf.leads1;simp only;split
 ·exact h.of (show(R.crown.track.putF R.crown.hard.term gk).2.index=R.track.index from hp) (Int.le_refl R.commit)
 ·exact h.of (show(R.crown.track.putF R.crown.hard.term gk).2.index=R.track.index from hp) (Int.le_refl R.commit)
theorem cW.leads(h:cW R):cW R.leads:=h.leads1.all.agrees
theorem cW.standing(h:cW R):cW (R.stands2.says R.id):=by
 have e:R.stands2=_:=gh (fun s:Nat=>{cZ with kind:=3,tgt:=(s:Int),idx:=R.track.lastF.1,logTerm:=R.track.lastF.2}) R.stands1.others R.stands1;rw[e];exact h
theorem cW.stands(h:cW R):cW R.stands:=by
 unfold Rf.stands;split
 ·exact h.standing.leads
 ·exact h.standing
theorem cW.asking(h:cW R):cW (R.asks2.says R.id):=by
 have e:R.asks2=_:=gh (fun s:Nat=>{cZ with kind:=1,tgt:=(s:Int),term:=R.hard.term+1,idx:=R.track.lastF.1,logTerm:=R.track.lastF.2}) R.asks1.others R.asks1;rw[e];exact h
theorem cW.asks(h:cW R):cW R.asks:=by
 unfold Rf.asks;split
 ·exact h.asking.stands
 ·exact h.asking
theorem cW.beats(h:cW R)(draw:Int):cW (R.beats draw):=by
 unfold Rf.beats;simp only;split
 ·split
  ·exact cW.all (R:={R with clock:=0,round:=R.round+1}) h
  ·exact h
 ·by_cases hw:R.wait=0
  ·simp only[hw,if_true];split
   ·split
    ·exact cW.asks (R:=Rf.rest {R with clock:=R.clock+1,wait:=gG draw}) h
    ·exact h
   ·exact h
  ·simp only[hw,if_false];split
   ·split
    ·exact cW.asks (R:=Rf.rest {R with clock:=R.clock+1}) h
    ·exact h
   ·exact h
theorem cW.tick(h:cW R)(draw:Int):cW (R.tick draw).2:=h.beats draw
theorem cW.propose(h:cW R)(x:En):cW (R.propose x).2:=by
 have hp:=(iv R.track R.hard.term x).1;unfold Rf.propose;split
 ·exact h
 ·simp only;split
  ·exact h.of hp (Int.le_refl _)
  ·exact cW.agrees (cW.all (R:=({R with track:=(R.track.putF R.hard.term x).2}:Rf).save [(R.track.putF R.hard.term x).1.1]) (h.of hp (Int.le_refl _)))
theorem cW.follows(h:cW R)(t:Int):cW (R.follows t):=h
theorem cW.reads(h:cW R):cW R.reads:=h
theorem cW.read(h:cW R)(ctx:Int):cW (R.read ctx).2:=by
 unfold Rf.read;split
 ·exact h
 ·split
  ·exact h
  ·split
   ·exact h
   ·exact cW.all (R:={R with round:=R.round+1,waits:=R.waits++[Wt.mk ctx R.commit (R.round+1)]}) h
theorem cW.setPeer(h:cW R)(s:Nat)(p:Pr):cW (R.setPeer s p):=h
theorem cW.has(h:cW R)(s:Nat)(i:Int):cW (R.has s i):=by
 unfold Rf.has;simp only;split
 ·exact((h.setPeer s _).agrees).lacks s
 ·exact(h.setPeer s _).agrees
theorem cW.answered(h:cW R)(m:Mg):cW (R.answered m):=by
 obtain⟨R1,gZ⟩:=zN (R.setPeer m.frm.toNat {R.peer m.frm.toNat with round:=max (R.peer m.frm.toNat).round (min m.round R.round)});have h1:cW R1:=by rw[<-gZ];exact h
 have e:R.answered m=if m.kind=8/\0<m.total then
   if m.idx=R.snap.idx/\(R1.peer m.frm.toNat).next-1<R.snap.idx then(R1.setPeer m.frm.toNat {R1.peer m.frm.toNat with offset:=min m.offset R.snap.data.length}).lacks m.frm.toNat else R1
  else if m.kind=6/\m.reject=true then(R1.setPeer m.frm.toNat {R1.peer m.frm.toNat with next:=max ((R1.peer m.frm.toNat).mat+1) (min ((R1.peer m.frm.toNat).next-1) (m.idx+1))}).lacks m.frm.toNat
  else R1.has m.frm.toNat m.idx:=by
  rw[<-gZ];rfl
 rw[e];split
 ·split
  ·exact(h1.setPeer _ _).lacks _
  ·exact h1
 ·split
  ·exact(h1.setPeer _ _).lacks _
  ·exact h1.has _ _
theorem cW.appends(h:cW R)(m:Mg):cW (R.appends m):=by
 have ht:=(eJ R.track m.idx m.logTerm m.entries).1;unfold Rf.appends;split
 ·exact h
 ·simp only;split
  ·exact h
  ·split
   ·exact cW.commits (R:=({R with track:=(R.track.takeF m.idx m.logTerm m.entries).2}:Rf).save ((R.track.takeF m.idx m.logTerm m.entries).2.sliceF (R.track.takeF m.idx m.logTerm m.entries).1.1 m.entries.length)) (h.of (R':=({R with track:=(R.track.takeF m.idx m.logTerm m.entries).2}:Rf).save ((R.track.takeF m.idx m.logTerm m.entries).2.sliceF (R.track.takeF m.idx m.logTerm m.entries).1.1 m.entries.length)) ht (Int.le_refl _)) _
   ·exact cW.commits (R:=({R with track:=(R.track.takeF m.idx m.logTerm m.entries).2}:Rf)) (h.of (R':=({R with track:=(R.track.takeF m.idx m.logTerm m.entries).2}:Rf)) ht (Int.le_refl _)) _
theorem yw(t:bB)(i:Int):(t.dropF i).2.index=t.index\/(t.dropF i).2.index=i:=by
 unfold bB.dropF;split
 ·exact .inl rfl
 ·split
  ·exact .inl rfl
  ·exact .inr rfl
theorem cW.compact(h:cW R)(i:Int)(data:List UInt8):cW (R.compact i data).2:=by
 have hd:=yw R.track i;unfold Rf.compact;split
 ·exact h
 ·split
  ·exact h
  ·rename_i hc;split
   ·exact h
   ·show(R.track.dropF i).2.index<=R.commit;unfold cW at h;omega
theorem cW.install(R:Rf)(x:uw):cW (R.install x):=by
 unfold Rf.install;simp only;split
 ·rename_i ht;show(R.track.dropF x.idx).2.index<=x.idx;unfold bB.dropF;rw[if_neg (by rw[ht];show ¬(0:Int)=33;omega),if_neg (by rw[ht];show ¬(0:Int)=34;omega)];exact Int.le_refl _
 ·exact Int.le_refl x.idx
theorem cW.send(h:cW R)(m:Mg):cW (R.send m):=h
theorem cW.piece(h:cW R)(m:Mg):cW (R.piece m):=by
 unfold Rf.piece;split
 ·exact h
 ·split
  ·exact h.send _
  ·simp only;split
   ·exact cW.send (R:={R with gath:=R.gath1 m}) h _
   ·exact(cW.install _ _).send _
theorem cW.votes(h:cW R)(m:Mg):cW (R.votes m):=by
 unfold Rf.votes;split
 ·exact h
 ·exact h
theorem cW.asked(h:cW R)(m:Mg):cW (R.asked m):=by
 unfold Rf.asked;split
 ·exact h
 ·exact h
theorem cW.says(h:cW R)(s:Int):cW (R.says s):=h
theorem cW.hears(h:cW R)(m:Mg):cW (R.hears m):=h
theorem cW.does(h:cW R)(m:Mg):cW (R.does m):=by
 unfold Rf.does;split
 ·exact h.asked m
 ·split
  ·split
   ·split
    ·exact(h.says _).stands
    ·exact h.says _
   ·exact h
  ·split
   ·exact h.votes m
   ·split
    ·split
     ·split
      ·exact(h.says _).leads
      ·exact h.says _
     ·exact h
    ·split
     ·split
      ·exact(h.hears m).appends m
      ·exact h
     ·split
      ·split
       ·exact(h.hears m).piece m
       ·exact h
      ·split
       ·exact h
       ·split
        ·exact h.answered m
        ·exact h
theorem cW.late(h:cW R)(m:Mg):cW (R.late m):=by
 unfold Rf.late;split
 ·exact h
 ·exact h
theorem cW.step(h:cW R)(m:Mg):cW (R.step m).2:=by
 unfold Rf.step;split
 ·exact h
 ·simp only;generalize gZ:(if R.hard.term<m.term/\m.kind≠1/\(m.kind≠2\/m.reject=true)then R.follows m.term else R)=R1;have h1:cW R1:=by
   rw[<-gZ];split
   ·exact h.follows _
   ·exact h
  split
  ·exact h1.late m
  ·generalize jR:R1.does m=R2;have h2:cW R2:=by rw[<-jR];exact h1.does m
   split
   ·exact h2.reads
   ·exact h2
end
def cX(R:Rf):Prop:=(0<=R.wait/\R.wait<=100)/\R.peers.length<=8/\R.n<=7
section
variable {R:Rf}
theorem H0(d:Int):0<=gG d/\gG d<=100:=by unfold gG;omega
theorem cX.all(h:cX R):cX R.all:=by
 obtain⟨ms,e,_⟩:=ev R.others R;have e':R.all=_:=e;rw[e'];exact h
theorem cX.lacks(h:cX R)(s:Nat):cX (R.lacks s):=by
 unfold Rf.lacks;split
 ·exact h
 ·exact h
theorem cX.commits(h:cX R)(k:Int):cX (R.commits k):=by
 unfold Rf.commits;split
 ·exact h
 ·exact h
theorem cX.agrees(h:cX R):cX R.agrees:=by
 unfold Rf.agrees;split
 ·exact h.commits _
 ·exact h
theorem cX.crown(h:cX R):cX R.crown:=⟨h.1,by show(List.replicate (R.n+1) _).length<=8;rw[List.length_replicate];have:=h.2.2;omega,h.2.2⟩
theorem cX.leads1(h:cX R):cX R.leads1:=by
 have hc:=h.crown;unfold Rf.leads1;simp only;split
 ·exact hc
 ·exact hc
theorem cX.rest(h:cX R):cX R.rest:=⟨⟨Int.le_refl 0,by show(0:Int)<=100;omega⟩,h.2⟩
theorem cX.leads(h:cX R):cX R.leads:=h.leads1.all.agrees
theorem cX.standing(h:cX R):cX (R.stands2.says R.id):=by
 have e:R.stands2=_:=gh (fun s:Nat=>{cZ with kind:=3,tgt:=(s:Int),idx:=R.track.lastF.1,logTerm:=R.track.lastF.2}) R.stands1.others R.stands1;rw[e];exact h
theorem cX.stands(h:cX R):cX R.stands:=by
 unfold Rf.stands;split
 ·exact h.standing.leads
 ·exact h.standing
theorem cX.asking(h:cX R):cX (R.asks2.says R.id):=by
 have e:R.asks2=_:=gh (fun s:Nat=>{cZ with kind:=1,tgt:=(s:Int),term:=R.hard.term+1,idx:=R.track.lastF.1,logTerm:=R.track.lastF.2}) R.asks1.others R.asks1;rw[e];exact h
theorem cX.asks(h:cX R):cX R.asks:=by
 unfold Rf.asks;split
 ·exact h.asking.stands
 ·exact h.asking
theorem cX.beats(h:cX R)(draw:Int):cX (R.beats draw):=by
 have cw:=H0 draw;unfold Rf.beats;simp only;split
 ·split
  ·exact cX.all (R:={R with clock:=0,round:=R.round+1}) h
  ·exact h
 ·by_cases hw:R.wait=0
  ·simp only[hw,if_true];have h1:cX {R with clock:=R.clock+1,wait:=gG draw}:=⟨cw,h.2⟩;split
   ·split
    ·exact h1.rest.asks
    ·exact h1.rest
   ·exact h1
  ·simp only[hw,if_false];have h1:cX {R with clock:=R.clock+1}:=h;split
   ·split
    ·exact h1.rest.asks
    ·exact h1.rest
   ·exact h1
theorem cX.tick(h:cX R)(draw:Int):cX (R.tick draw).2:=h.beats draw
theorem cX.propose(h:cX R)(x:En):cX (R.propose x).2:=by
 unfold Rf.propose;split
 ·exact h
 ·simp only;split
  ·exact h
  ·exact cX.agrees (cX.all (R:=({R with track:=(R.track.putF R.hard.term x).2}:Rf).save [(R.track.putF R.hard.term x).1.1]) h)
theorem cX.follows(h:cX R)(t:Int):cX (R.follows t):=h
theorem cX.reads(h:cX R):cX R.reads:=h
theorem cX.read(h:cX R)(ctx:Int):cX (R.read ctx).2:=by
 unfold Rf.read;split
 ·exact h
 ·split
  ·exact h
  ·split
   ·exact h
   ·exact cX.all (R:={R with round:=R.round+1,waits:=R.waits++[Wt.mk ctx R.commit (R.round+1)]}) h
theorem cX.setPeer(h:cX R)(s:Nat)(p:Pr):cX (R.setPeer s p):=⟨h.1,by show(R.peers.set s p).length<=8;rw[List.length_set];exact h.2.1,h.2.2⟩
theorem cX.has(h:cX R)(s:Nat)(i:Int):cX (R.has s i):=by
 unfold Rf.has;simp only;split
 ·exact((h.setPeer s _).agrees).lacks s
 ·exact(h.setPeer s _).agrees
theorem cX.answered(h:cX R)(m:Mg):cX (R.answered m):=by
 obtain⟨R1,gZ⟩:=zN (R.setPeer m.frm.toNat {R.peer m.frm.toNat with round:=max (R.peer m.frm.toNat).round (min m.round R.round)});have h1:cX R1:=by rw[<-gZ];exact h.setPeer _ _
 have e:R.answered m=if m.kind=8/\0<m.total then
   if m.idx=R.snap.idx/\(R1.peer m.frm.toNat).next-1<R.snap.idx then(R1.setPeer m.frm.toNat {R1.peer m.frm.toNat with offset:=min m.offset R.snap.data.length}).lacks m.frm.toNat else R1
  else if m.kind=6/\m.reject=true then(R1.setPeer m.frm.toNat {R1.peer m.frm.toNat with next:=max ((R1.peer m.frm.toNat).mat+1) (min ((R1.peer m.frm.toNat).next-1) (m.idx+1))}).lacks m.frm.toNat
  else R1.has m.frm.toNat m.idx:=by
  rw[<-gZ];rfl
 rw[e];split
 ·split
  ·exact(h1.setPeer _ _).lacks _
  ·exact h1
 ·split
  ·exact(h1.setPeer _ _).lacks _
  ·exact h1.has _ _
theorem cX.appends(h:cX R)(m:Mg):cX (R.appends m):=by
 unfold Rf.appends;split
 ·exact h
 ·simp only;split
  ·exact h
  ·split
   ·exact cX.commits (R:=({R with track:=(R.track.takeF m.idx m.logTerm m.entries).2}:Rf).save ((R.track.takeF m.idx m.logTerm m.entries).2.sliceF (R.track.takeF m.idx m.logTerm m.entries).1.1 m.entries.length)) h _
   ·exact cX.commits (R:=({R with track:=(R.track.takeF m.idx m.logTerm m.entries).2}:Rf)) h _
theorem cX.compact(h:cX R)(i:Int)(data:List UInt8):cX (R.compact i data).2:=by
 unfold Rf.compact;split
 ·exact h
 ·split
  ·exact h
  ·split
   ·exact h
   ·exact⟨h.1,by show(R.peers.map _).length<=8;rw[List.length_map];exact h.2.1,h.2.2⟩
theorem cX.install(h:cX R)(x:uw):cX (R.install x):=by
 unfold Rf.install;simp only;split
 ·exact h
 ·exact h
theorem cX.send(h:cX R)(m:Mg):cX (R.send m):=h
theorem cX.piece(h:cX R)(m:Mg):cX (R.piece m):=by
 unfold Rf.piece;split
 ·exact h
 ·split
  ·exact h.send _
  ·simp only;split
   ·exact cX.send (R:={R with gath:=R.gath1 m}) h _
   ·exact(cX.install (R:={R with gath:=R.gath1 m}) h _).send _
theorem cX.votes(h:cX R)(m:Mg):cX (R.votes m):=by
 unfold Rf.votes;split
 ·exact h.rest
 ·exact h
theorem cX.asked(h:cX R)(m:Mg):cX (R.asked m):=by
 unfold Rf.asked;split
 ·exact h
 ·exact h
theorem cX.says(h:cX R)(s:Int):cX (R.says s):=h
theorem cX.hears(h:cX R)(m:Mg):cX (R.hears m):=h.rest
theorem cX.does(h:cX R)(m:Mg):cX (R.does m):=by
 unfold Rf.does;split
 ·exact h.asked m
 ·split
  ·split
   ·split
    ·exact(h.says _).stands
    ·exact h.says _
   ·exact h
  ·split
   ·exact h.votes m
   ·split
    ·split
     ·split
      ·exact(h.says _).leads
      ·exact h.says _
     ·exact h
    ·split
     ·split
      ·exact(h.hears m).appends m
      ·exact h
     ·split
      ·split
       ·exact(h.hears m).piece m
       ·exact h
      ·split
       ·exact h
       ·split
        ·exact h.answered m
        ·exact h
theorem cX.late(h:cX R)(m:Mg):cX (R.late m):=by
 unfold Rf.late;split
 ·exact h
 ·exact h
theorem cX.step(h:cX R)(m:Mg):cX (R.step m).2:=by
 unfold Rf.step;split
 ·exact h
 ·simp only;generalize gZ:(if R.hard.term<m.term/\m.kind≠1/\(m.kind≠2\/m.reject=true)then R.follows m.term else R)=R1;have h1:cX R1:=by
   rw[<-gZ];split
   ·exact h.follows _
   ·exact h
  split
  ·exact h1.late m
  ·generalize jR:R1.does m=R2;have h2:cX R2:=by rw[<-jR];exact h1.does m
   split
   ·exact h2.reads
   ·exact h2
theorem DS{id n:Nat}{s:qm}(h:jT id n s)(t:bB):cX (fL id n s t):=
 ⟨⟨Int.le_refl 0,by show(0:Int)<=100;omega⟩,Nat.zero_le 8,by have:=h.1;show n<=7;omega⟩
end
section
variable {K M:Nat}{R:Rf}
theorem Ok.told(h:Ok K M R):Ok K 0 R.tell.2:=
 {h with ms:=Nat.le_refl 0,es:=Nat.le_refl 0,cs:=Nat.le_refl 0,rs:=Nat.le_refl 0}
theorem Ok.clocked(h:Ok K M R)(t w:Int)(ht:t=0\/t=R.clock\/t=R.clock+1):Ok (K+1) M {R with clock:=t,wait:=w}:=
 {h.mono (Nat.le_succ K) (Nat.le_refl M)with
  ck:=have:=h.ck
   ⟨by show 0<=t;omega,by show t<=((K+1:Nat):Int);omega,this.2.2.1,by show R.round<=((K+1:Nat):Int);omega⟩}
theorem Ok.rounded(h:Ok K M R)(ws:List Wt)(hw:ws.length<=16):Ok (K+1) M {R with clock:=0,round:=R.round+1,waits:=ws}:=
 {h.mono (Nat.le_succ K) (Nat.le_refl M)with
  ws:=hw
  ck:=have:=h.ck
   ⟨Int.le_refl 0,Int.natCast_nonneg _,by show 0<=R.round+1;omega,by show R.round+1<=((K+1:Nat):Int);omega⟩}
theorem Ok.rounded'(h:Ok K M R)(ws:List Wt)(hw:ws.length<=16):Ok (K+1) M {R with round:=R.round+1,waits:=ws}:=
 {h.mono (Nat.le_succ K) (Nat.le_refl M)with
  ws:=hw
  ck:=have:=h.ck
   ⟨this.1,by show R.clock<=((K+1:Nat):Int);omega,by show 0<=R.round+1;omega,by show R.round+1<=((K+1:Nat):Int);omega⟩}
theorem Ok.asks'(h:Ok K M R)(ht:R.hard.term<i9):Ok (K+3) (M+K+40) R.asks:=h.asks ht
theorem Ok.beats(h:Ok K M R)(draw:Int):Ok (K+4) (M+K+60) (R.beats draw):=by
 unfold Rf.beats;simp only;split
 ·split
  ·exact((h.rounded R.waits h.ws).all).mono (by omega) (by omega)
  ·exact(h.clocked (R.clock+1) R.wait (.inr (.inr rfl))).mono (by omega) (by omega)
 ·have e:∀w:Int,Ok (K+4) (M+K+60) (if w<=R.clock+1 then if R.hard.term<i9 then Rf.asks {R with clock:=0,wait:=0}else {R with clock:=0,wait:=0}else {R with clock:=R.clock+1,wait:=w}):=by
   intro w;split
   ·split
    ·exact(Ok.asks' (R:={R with clock:=0,wait:=0}) (h.clocked 0 0 (.inl rfl)) (by assumption)).mono (by omega) (by omega)
    ·exact(h.clocked 0 0 (.inl rfl)).mono (by omega) (by omega)
   ·exact(h.clocked (R.clock+1) w (.inr (.inr rfl))).mono (by omega) (by omega)
  by_cases hw:R.wait=0
  ·simp only[hw,if_true];exact e (gG draw)
  ·simp only[hw,if_false];exact e R.wait
theorem Ok.ticked(h:Ok K 0 R)(draw:Int):Ok (K+11) 0 (R.tick draw).2:=((h.beats draw).told).mono (by omega) (by omega)
theorem Ok.reads(h:Ok K M R):Ok K (M+16) R.reads:=by
 have h':=h.mono (Nat.le_refl K) (Nat.le_add_right M 16);refine {h' with ws:=?_,rs:=?_}
 ·exact Nat.le_trans (List.length_filter_le _ _) h.ws
 ·have h1:=List.length_filter_le (fun x:Wt=>decide (x.round<=R.readsTo)) R.waits;have h2:=h.ws;have h3:=h.rs;show(R.out.reads++List.map (fun x:Wt=>(x.ctx,x.idx)) (R.waits.filter (fun x=>decide (x.round<=R.readsTo)))).length<=M+16;rw[List.length_append,List.length_map];omega
theorem Ok.late(h:Ok K M R)(m:Mg):Ok K (M+1) (R.late m):=by
 unfold Rf.late;split
 ·exact h.send _
 ·exact h.mono (Nat.le_refl K) (Nat.le_succ M)
theorem Ok.stepped(h:Ok K 0 R)(hK:1<=K)(m:Mg):Ok (K+11) 0 (R.step m).2:=by
 unfold Rf.step;split
 ·exact h.mono (by omega) (by omega)
 ·rename_i hr;have js:xP R m:=tp (by cases hx:R.right m <;> simp_all);simp only;generalize gZ:(if R.hard.term<m.term/\m.kind≠1/\(m.kind≠2\/m.reject=true)then R.follows m.term else R)=R1;have h1:Ok K 0 R1:=by
   rw[<-gZ];split
   ·exact h.follows (by have:=js.term;omega) (by have:=js.term;omega)
   ·exact h
  have Mb:R1.n=R.n:=by rw[<-gZ];split <;> rfl
  have BS:xP R1 m:=⟨js.kind,by rw[Mb];exact js.frm,js.term,js.idx,js.lgt,js.cmt,js.rnd,js.off,js.tot,js.el,js.dl⟩;split
  ·exact((h1.late m).told).mono (by omega) (by omega)
  ·have h2:=h1.does hK BS;split
   ·exact(h2.reads.told).mono (by omega) (by omega)
   ·exact(h2.told).mono (by omega) (by omega)
theorem Ok.proposed(h:Ok K 0 R)(x:En):Ok (K+11) 0 (R.propose x).2:=by
 have hp:=h.put R.hard.term x;unfold Rf.propose;split
 ·exact h.mono (by omega) (by omega)
 ·simp only;split
  ·exact hp.mono (by omega) (by omega)
  ·exact(((hp.save [(R.track.putF R.hard.term x).1.1]).all).agrees.told).mono (by omega) (by omega)
theorem Ok.readed(h:Ok K 0 R)(ctx:Int):Ok (K+11) 0 (R.read ctx).2:=by
 unfold Rf.read;split
 ·exact h.mono (by omega) (by omega)
 ·split
  ·exact h.mono (by omega) (by omega)
  ·split
   ·exact h.mono (by omega) (by omega)
   ·exact(((h.rounded' (R.waits++[Wt.mk ctx R.commit (R.round+1)]) (by rw[List.length_append];show R.waits.length+1<=16;omega)).all).reads.told).mono (by omega) (by omega)
theorem Ok.compacted(h:Ok K 0 R)(i:Int)(d:List UInt8):Ok (K+11) 0 (R.compact i d).2:=by
 unfold Rf.compact;split
 ·exact h.mono (by omega) (by omega)
 ·rename_i hd;have hd:=Classical.not_not.1 hd;split
  ·exact h.mono (by omega) (by omega)
  ·split
   ·exact h.mono (by omega) (by omega)
   ·have hl:(R.track.dropF i).2.L.length<=R.track.L.length:=by
     unfold bB.dropF;split
     ·exact Nat.le_refl _
     ·split
      ·exact Nat.le_refl _
      ·show(R.track.L.drop _).length<=_;rw[List.length_drop];omega
    have h':=h.mono (Nat.le_add_right K 11) (Nat.le_refl 0);exact {h' with
     tr:=h.tr.dropF i
     dat:=hd.2
     dat0:=fun _=>hd.1
     trk:=Nat.le_trans hl (by have:=h.trk;omega)
     ld:=fun e=>by
      obtain⟨h1,h2⟩:=h.ld e;refine⟨by show(R.peers.map _).length=_;rw[List.length_map];exact h1,fun p hp=>?_⟩;obtain⟨p0,Bh,rfl⟩:=List.mem_map.1 hp;obtain⟨q1,q2,q3⟩:=h2 p0 Bh;exact⟨q1,q2,Int.le_refl 0,Int.natCast_nonneg _⟩}
end
structure Aw where
 trk:Value
 dat:Value
 yes:Value
 peers:Value
 waits:Value
 gat:Value
 ent:Value
 com:Value
 sd:Value
 rds:Value
 mgs:Value
def ju(x:Option uw):Int:=match x with|none=>0|some s=>s.idx
def jt(x:Option uw):Int:=match x with|none=>0|some s=>s.term
def ns(x:Option uw):List UInt8:=match x with|none=>[] | some s=>s.data
def bj(R:Rf)(v:Aw):Array Value:=
 #[vi R.id,vi R.n,vi R.hard.term,vi R.hard.vote,v.trk,vi R.snap.idx,vi R.snap.term,v.dat,vi R.commit,vi R.role,vi R.leader,vi R.clock,vi R.wait,v.yes,v.peers,vi R.round,v.waits,
  vi R.gath.frm,vi R.gath.idx,vi R.gath.term,vi R.gath.total,v.gat,.bool R.out.save,.bool R.out.reset,vi R.out.hard.term,vi R.out.hard.vote,v.ent,v.com,.bool R.out.snap.isSome,vi (ju R.out.snap),vi (jt R.out.snap),v.sd,v.rds,v.mgs]
def pH(x:Wt):List Value:=[vi x.ctx,vi x.round,vi x.idx]
def AM(aa:Nat->Nat)(i q:Nat)(w:World)(v:Value)(t:bB):Prop:=
 ∃(g:Nat) (A:Option Addr) (n c:Nat) (zs:List (Value×En)),v=.pointer (some ⟨g,0,none⟩)/\cG (aQ aa q) w g t A n c zs/\∀j,(j=g\/az A j)->aa j=i
theorem AM.keep{aa:Nat->Nat}{i q:Nat}{w w':World}{v:Value}{t:bB}(h:AM aa i q w v t)(hk:∀j,aa j=i->j<w.heap.size->w'.heap[j]?=w.heap[j]?)(hq:∀j,aa j=q->j<w.heap.size->w'.heap[j]?=w.heap[j]?):AM aa i q w' v t:=by
 obtain⟨g,A,n,c,zs,h1,h2,h3⟩:=h;refine⟨g,A,n,c,zs,h1,h2.keep fun j hj hl=>?_,h3⟩;rcases hj with hj|hj|hj
 ·exact hk j (h3 j (.inl hj)) hl
 ·exact hk j (h3 j (.inr hj)) hl
 ·exact hq j hj hl
theorem AM.relabel{aa ak:Nat->Nat}{i q k r:Nat}{w:World}{v:Value}{t:bB}(h:AM aa i q w v t)(hl:∀j,j<w.heap.size->aa j=i->ak j=k)(hq:∀j,j<w.heap.size->aa j=q->ak j=r):AM ak k r w v t:=by
 obtain⟨g,A,n,c,zs,h1,h2,h3⟩:=h;refine⟨g,A,n,c,zs,h1,h2.mono hq,fun j hj=>hl j ?_ (h3 j hj)⟩;rcases hj with rfl|hj
 ·exact h2.b.lt
 ·exact h2.rowlt j hj
structure aJ(aa:Nat->Nat)(c q:Nat)(w:World)(g:Nat)(R:Rf)(v:Aw):Prop where
 s:ar w g 122 (bj R v)
 sl:aa g=c+1
 t:AM aa (c+2) q w v.trk R.track
 y:bQ aa (c+3) w 3 1 v.yes R.yes.length (R.yes.map vi)
 p:bQ aa (c+4) w 171 4 v.peers R.peers.length (R.peers.flatMap mK)
 x:bQ aa (c+5) w 173 3 v.waits R.waits.length (R.waits.flatMap pH)
 d:bM aa q w v.dat R.snap.data
 gd:bM aa q w v.gat R.gath.data
 e:dU aa (c+6) q w v.ent R.out.entries
 co:dU aa (c+7) q w v.com R.out.commits
 sd:bM aa q w v.sd (ns R.out.snap)
 r:bQ aa (c+8) w 135 2 v.rds R.out.reads.length (R.out.reads.flatMap qW)
 m:iE aa (c+9) q w v.mgs R.out.msgs
def dC(aa:Nat->Nat)(c q j:Nat):Prop:=(c<aa j/\aa j<=c+9)\/aa j=q
def aT(aa:Nat->Nat)(c j:Nat):Prop:=c<aa j/\aa j<=c+9
def aL(c q:Nat):Prop:=q<=c\/c+9<q
section
variable {aa ak ag:Nat->Nat}{c q g:Nat}{w w' w1 w2:World}{R R' R1 R2:Rf}{v v':Aw}
theorem aJ.keep(h:aJ aa c q w g R v)(hk:∀j,dC aa c q j->j<w.heap.size->w'.heap[j]?=w.heap[j]?):aJ aa c q w' g R v:=by
 have k:∀i,0<i->i<=9->∀j,aa j=c+i->j<w.heap.size->w'.heap[j]?=w.heap[j]?:=fun i h0 h1 j hj hl=>hk j (.inl ⟨by omega,by omega⟩) hl
 have kq:∀j,aa j=q->j<w.heap.size->w'.heap[j]?=w.heap[j]?:=fun j hj hl=>hk j (.inr hj) hl
 exact⟨(k 1 (by omega) (by omega) g h.sl h.s.lt).trans h.s,h.sl,h.t.keep (k 2 (by omega) (by omega)) kq,h.y.keep (k 3 (by omega) (by omega)),h.p.keep (k 4 (by omega) (by omega)),h.x.keep (k 5 (by omega) (by omega)),
  h.d.keep kq,h.gd.keep kq,h.e.keep (k 6 (by omega) (by omega)) kq,h.co.keep (k 7 (by omega) (by omega)) kq,h.sd.keep kq,h.r.keep (k 8 (by omega) (by omega)),h.m.keep (k 9 (by omega) (by omega)) kq⟩
theorem aJ.below(h:aJ aa c q w g R v)(hb:Below w.heap.size w w'):aJ aa c q w' g R v:=h.keep fun j _ hl=>hb.block j hl
theorem aJ.relabel(h:aJ aa c q w g R v)(hl:∀j,j<w.heap.size->dC aa c q j->ak j=aa j):aJ ak c q w g R v:=by
 have k:∀i,0<i->i<=9->∀j,j<w.heap.size->aa j=c+i->ak j=c+i:=fun i h0 h1 j hj e=>(hl j hj (.inl ⟨by omega,by omega⟩)).trans e
 have kq:∀j,j<w.heap.size->aa j=q->ak j=q:=fun j hj e=>(hl j hj (.inr e)).trans e
 exact⟨h.s,k 1 (by omega) (by omega) g h.s.lt h.sl,h.t.relabel (k 2 (by omega) (by omega)) kq,h.y.relabel (k 3 (by omega) (by omega)),h.p.relabel (k 4 (by omega) (by omega)),h.x.relabel (k 5 (by omega) (by omega)),
  h.d.relabel kq,h.gd.relabel kq,h.e.relabel (k 6 (by omega) (by omega)) kq,h.co.relabel (k 7 (by omega) (by omega)) kq,h.sd.relabel kq,h.r.relabel (k 8 (by omega) (by omega)),h.m.relabel (k 9 (by omega) (by omega)) kq⟩
theorem aJ.fresh(i:Nat)(h:aJ aa c q w g R v)(hb:Below w.heap.size w w'):aJ (ai aa w.heap.size i) c q w' g R v:=(h.relabel fun _ hj _=>ac hj).keep fun j hj hl=>hb.block j hl
def au(aa:Nat->Nat)(c q:Nat)(w:World)(g:Nat)(R':Rf)(w':World):Prop:=
 ∃(ak:Nat->Nat) (v':Aw),aJ ak c q w' g R' v'/\(∀j,j<w.heap.size->ak j=aa j)/\Fr (aT aa c) w w'
theorem fH(hl:∀j,j<w.heap.size->ag j=aa j){j:Nat}(h:aT ag c j):aT aa c j\/w.heap.size<=j:=by
 rcases Nat.lt_or_ge j w.heap.size with hj|hj
 ·unfold aT at h ⊢;rw[hl j hj]at h;exact .inl h
 ·exact .inr hj
theorem au.next(h:au ag c q w1 g R2 w2)(hl:∀j,j<w.heap.size->ag j=aa j)(hF:Fr (aT aa c) w w1):au aa c q w g R2 w2:=by
 obtain⟨bu,v2,q1,q2,q3⟩:=h;have hs:=hF.size;exact⟨bu,v2,q1,fun j hj=>(q2 j (by omega)).trans (hl j hj),hF.trans q3 fun j hj=>fH hl hj⟩
theorem au.behind(h:au aa c q w1 g R2 w2)(hb:Below w.heap.size w w1):au aa c q w g R2 w2:=h.next (fun _ _=>rfl) (Fr.of_below hb)
theorem au.fresh(i:Nat)(h:au (ai aa w.heap.size i) c q w1 g R2 w2)(hb:Below w.heap.size w w1):au aa c q w g R2 w2:=h.next (fun _ hj=>ac hj) (Fr.of_below hb)
theorem au.refl(h:aJ aa c q w g R v):au aa c q w g R w:=⟨aa,v,h,fun _ _=>rfl,Fr.refl _ _⟩
theorem au.below(h:au aa c q w g R1 w1)(hb:Below w1.heap.size w1 w2):au aa c q w g R1 w2:=by
 obtain⟨ag,v1,h1,h2,h3⟩:=h;exact⟨ag,v1,h1.below hb,h2,h3.trans (Fr.of_below (X:=aT aa c) hb) fun _ h=>.inl h⟩
theorem au.call{f:Nat}{args:Array Value}{E:Ending}(h:au aa c q w g R1 w1)(hc:∀ag v1,aJ ag c q w1 g R1 v1->Calls prog f args w1 fun e w'=>e=E/\au ag c q w1 g R2 w') :
  Calls prog f args w1 fun e w'=>e=E/\au aa c q w g R2 w':=by
 obtain⟨ag,v1,h1,h2,h3⟩:=h;exact(hc ag v1 h1).mono fun e w' r=>⟨r.1,r.2.next h2 h3⟩
theorem au.blk{T:TypeId}{cs:Array Value}{p:Nat}(h:au aa c q w g R1 w1)(hn:¬aT aa c p)(hk:ar w p T cs):ar w1 p T cs:=by
 obtain⟨ag,v1,h1,h2,h3⟩:=h;exact(h3.block p hk.lt hn).trans hk
theorem aJ.turn(X:List Nat)(ha:aL c q)(h:aJ aa c q w g R v)(hs:ar w' g 122 (bj R' v'))(hl:∀j,j<w.heap.size->ak j=aa j)(hX:∀i∈X,1<i/\i<=9)(hF:Fr (fun j=>j=g\/∃i,i∈X/\aa j=c+i) w w')
  (t:AM ak (c+2) q w' v'.trk R'.track\/(2∉X/\v'.trk=v.trk/\R'.track=R.track))
  (y:bQ ak (c+3) w' 3 1 v'.yes R'.yes.length (R'.yes.map vi)\/(3∉X/\v'.yes=v.yes/\R'.yes=R.yes))
  (p:bQ ak (c+4) w' 171 4 v'.peers R'.peers.length (R'.peers.flatMap mK)\/(4∉X/\v'.peers=v.peers/\R'.peers=R.peers))
  (x:bQ ak (c+5) w' 173 3 v'.waits R'.waits.length (R'.waits.flatMap pH)\/(5∉X/\v'.waits=v.waits/\R'.waits=R.waits))
  (d:bM ak q w' v'.dat R'.snap.data\/(v'.dat=v.dat/\R'.snap.data=R.snap.data))
  (gd:bM ak q w' v'.gat R'.gath.data\/(v'.gat=v.gat/\R'.gath.data=R.gath.data))
  (e:dU ak (c+6) q w' v'.ent R'.out.entries\/(6∉X/\v'.ent=v.ent/\R'.out.entries=R.out.entries))
  (co:dU ak (c+7) q w' v'.com R'.out.commits\/(7∉X/\v'.com=v.com/\R'.out.commits=R.out.commits))
  (sd:bM ak q w' v'.sd (ns R'.out.snap)\/(v'.sd=v.sd/\R'.out.snap=R.out.snap))
  (r:bQ ak (c+8) w' 135 2 v'.rds R'.out.reads.length (R'.out.reads.flatMap qW)\/(8∉X/\v'.rds=v.rds/\R'.out.reads=R.out.reads))
  (m:iE ak (c+9) q w' v'.mgs R'.out.msgs\/(9∉X/\v'.mgs=v.mgs/\R'.out.msgs=R.out.msgs)):aJ ak c q w' g R' v':=by
 have h0:=h.relabel (ak:=ai aa w.heap.size (q+c+10)) fun j hj _=>ac hj
 have B:∀i j,i≠q+c+10->ai aa w.heap.size (q+c+10) j=i->j<w.heap.size/\aa j=i:=fun i j hi e=>by
  rcases Nat.lt_or_ge j w.heap.size with hj|hj
  ·exact⟨hj,(ac hj).symm.trans e⟩
  ·rw[ay hj]at e;omega
 have L:∀i,i≠q+c+10->∀j,j<w'.heap.size->ai aa w.heap.size (q+c+10) j=i->ak j=i:=fun i hi j _ e=>(hl j (B i j hi e).1).trans (B i j hi e).2
 have K:∀i,1<i->i<=9->i∉X->∀j,ai aa w.heap.size (q+c+10) j=c+i->j<w.heap.size->w'.heap[j]?=w.heap[j]?:=fun i h0 h1 hX' j hj aU=>hF.block j aU fun hh=>by
  have hj:=(B (c+i) j (by omega) hj).2;rcases hh with rfl|⟨k,hk,hh⟩
  ·have:=h.sl;omega
  ·have:k=i:=by omega
   rw[this]at hk;exact hX' hk
 have KQ:∀j,ai aa w.heap.size (q+c+10) j=q->j<w.heap.size->w'.heap[j]?=w.heap[j]?:=fun j hj aU=>hF.block j aU fun hh=>by
  have hj:=(B q j (by omega) hj).2;unfold aL at ha;rcases hh with rfl|⟨k,hk,hh⟩
  ·have:=h.sl;omega
  ·have:=hX k hk;omega
 have LQ:=L q (by omega);refine⟨hs,(hl g h.s.lt).trans h.sl,?_,?_,?_,?_,?_,?_,?_,?_,?_,?_,?_⟩
 ·rcases t with t|⟨hX,e1,e2⟩
  ·exact t
  ·rw[e1,e2];exact(h0.t.keep (K 2 (by omega) (by omega) hX) KQ).relabel (L _ (by omega)) LQ
 ·rcases y with y|⟨hX,e1,e2⟩
  ·exact y
  ·rw[e1,e2];exact(h0.y.keep (K 3 (by omega) (by omega) hX)).relabel (L _ (by omega))
 ·rcases p with p|⟨hX,e1,e2⟩
  ·exact p
  ·rw[e1,e2];exact(h0.p.keep (K 4 (by omega) (by omega) hX)).relabel (L _ (by omega))
 ·rcases x with x|⟨hX,e1,e2⟩
  ·exact x
  ·rw[e1,e2];exact(h0.x.keep (K 5 (by omega) (by omega) hX)).relabel (L _ (by omega))
 ·rcases d with d|⟨e1,e2⟩
  ·exact d
  ·rw[e1,e2];exact(h0.d.keep KQ).relabel LQ
 ·rcases gd with gd|⟨e1,e2⟩
  ·exact gd
  ·rw[e1,e2];exact(h0.gd.keep KQ).relabel LQ
 ·rcases e with e|⟨hX,e1,e2⟩
  ·exact e
  ·rw[e1,e2];exact(h0.e.keep (K 6 (by omega) (by omega) hX) KQ).relabel (L _ (by omega)) LQ
 ·rcases co with co|⟨hX,e1,e2⟩
  ·exact co
  ·rw[e1,e2];exact(h0.co.keep (K 7 (by omega) (by omega) hX) KQ).relabel (L _ (by omega)) LQ
 ·rcases sd with sd|⟨e1,e2⟩
  ·exact sd
  ·rw[e1,e2];exact(h0.sd.keep KQ).relabel LQ
 ·rcases r with r|⟨hX,e1,e2⟩
  ·exact r
  ·rw[e1,e2];exact(h0.r.keep (K 8 (by omega) (by omega) hX)).relabel (L _ (by omega))
 ·rcases m with m|⟨hX,e1,e2⟩
  ·exact m
  ·rw[e1,e2];exact(h0.m.keep (K 9 (by omega) (by omega) hX) KQ).relabel (L _ (by omega)) LQ
theorem gD{X:List Nat}(h:aJ aa c q w g R v)(hX:∀i∈X,1<i/\i<=9)(hF:Fr (fun j=>j=g\/∃i,i∈X/\aa j=c+i) w w'):Fr (aT aa c) w w':=hF.mono fun j hj=>by
 have:=h.sl;rcases hj with rfl|⟨i,hi,e⟩
 ·exact⟨by omega,by omega⟩
 ·have:=hX i hi;exact⟨by omega,by omega⟩
theorem aJ.nums(ha:aL c q)(h:aJ aa c q w g R v)(hs:ar w' g 122 (bj R' v))(hF:Fr (fun j=>j=g) w w')(e1:R'.track=R.track)(e2:R'.peers=R.peers)(e3:R'.waits=R.waits)(e4:R'.yes=R.yes)(e5:R'.snap.data=R.snap.data)(e6:R'.gath.data=R.gath.data)
  (e7:R'.out.entries=R.out.entries) (e8:R'.out.commits=R.out.commits) (e9:R'.out.snap=R.out.snap) (e10:R'.out.reads=R.out.reads) (e11:R'.out.msgs=R.out.msgs):aJ aa c q w' g R' v:=
 h.turn [] ha hs (fun _ _=>rfl) (by simp) (hF.mono fun j e=>.inl e) (.inr ⟨by simp,rfl,e1⟩) (.inr ⟨by simp,rfl,e4⟩) (.inr ⟨by simp,rfl,e2⟩) (.inr ⟨by simp,rfl,e3⟩) (.inr ⟨rfl,e5⟩) (.inr ⟨rfl,e6⟩) (.inr ⟨by simp,rfl,e7⟩) (.inr ⟨by simp,rfl,e8⟩) (.inr ⟨rfl,e9⟩) (.inr ⟨by simp,rfl,e10⟩) (.inr ⟨by simp,rfl,e11⟩)
theorem aJ.nums_post(ha:aL c q)(h:aJ aa c q w g R v)(h':aJ aa c q w' g R' v')(hF:Fr (fun j=>j=g) w w'):au aa c q w g R' w':=
 ⟨aa,v',h',fun _ _=>rfl,hF.mono fun j e=>by rw[e];have:=h.sl;exact⟨by omega,by omega⟩⟩
end
theorem cL{P:Program}{fn:Func}{R:Ending->World->Prop}{a:Act}{w:World}(hr:fn.results=#[])(hd:a.defers=[])(hR:R (.returned (.tuple #[])) w):bodyPost P fn R .normal a w:=
 bodyPost_end (by simp[results,hr]) hd hR
section
variable {aa:Nat->Nat}{c q g:Nat}{w:World}{R:Rf}{v:Aw}
theorem aJ.setMsgs{w3:World}{v':Value}{ms:List Mg}(ha:aL c q)(h:aJ aa c q w g R v)(hF:Fr (aQ aa (c+9)) w w3)(hm:iE (ai aa w.heap.size (c+9)) (c+9) q w3 v' ms) :
  aJ (ai aa w.heap.size (c+9)) c q (w3.setCell ⟨g,33,none⟩ v') g {R with out:={R.out with msgs:=ms}} {v with mgs:=v'}/\Fr (aT aa c) w (w3.setCell ⟨g,33,none⟩ v')/\ar w3 g 122 (bj R v):=by
 have mJ:ar w3 g 122 (bj R v):=(hF.other (k:=c+1) (by omega) g h.sl h.s.lt).trans h.s;have eQ:=Fr.set (w:=w3) g 33 v';have hS:=mJ.set_ 33 v';simp only[bj,Zy]at hS;have di:Fr (fun j=>j=g\/∃i,i∈[9]/\aa j=c+i) w (w3.setCell ⟨g,33,none⟩ v'):=(hF.mono (X':=fun j=>j=g\/∃i,i∈[9]/\aa j=c+i) fun j hj=>.inr ⟨9,by simp,hj⟩).trans eQ fun j e=>.inl (.inl e)
 have hX:∀i∈[9],1<i/\i<=9:=by simp
 refine⟨h.turn [9] ha hS (fun j hj=>ac hj) hX di tI tI tI tI (.inr ⟨rfl,rfl⟩) (.inr ⟨rfl,rfl⟩) tI tI (.inr ⟨rfl,rfl⟩) tI
  (.inl (hm.keep (fun j hj hl=>eQ.block j hl fun e=>?_) fun j hj hl=>eQ.block j hl fun e=>?_)),gD h hX di,mJ⟩
 ·rw[e,ac h.s.lt]at hj;have:=h.sl;omega
 ·rw[e,ac h.s.lt]at hj;have:=h.sl;unfold aL at ha;omega
theorem pz(m:Mg)(ve vd:Value)(ha:aL c q)(h:aJ aa c q w g R v)(hm:kJ aa q w ((ve,vd),m))(h1:ve.oneCell'=true/\vd.oneCell'=true)(hn:R.out.msgs.length<=100000) :
  Calls prog 63 #[.pointer (some ⟨g,0,none⟩),eH m ve vd] w fun e w'=>e=.returned (.tuple #[])/\au aa c q w g (R.send m) w':=by
 obtain⟨c0,c2,c33,-⟩:=h.s.cs [0,2,33];simp only[bj,vi,Zx]at c0 c2 c33;have cQ:=h.s.lt;obtain⟨T,hT⟩:=zN ((if m.term=0 then R.hard.term else m.term));have dW:=zH (show R.send m={R with out:={R.out with msgs:=R.out.msgs++[{m with frm:=R.id,term:=T}]}} by unfold Rf.send;rw[hT]);have aI:Below w.heap.size w (w.alloc (.cells #[.int .i64 m.kind,.int .i64 R.id,.int .i64 m.tgt,.int .i64 T,.int .i64 m.idx,.int .i64 m.logTerm,.int .i64 m.commit,.int .i64 m.round,.bool m.reject,.int .i64 m.offset,.int .i64 m.total,ve,vd] 39)):=zb.alloc zl _;have bN:=ar.new w 39 #[.int .i64 m.kind,.int .i64 R.id,.int .i64 m.tgt,.int .i64 T,.int .i64 m.idx,.int .i64 m.logTerm,.int .i64 m.commit,.int .i64 m.round,.bool m.reject,.int .i64 m.offset,.int .i64 m.total,ve,vd];obtain⟨w1,bV⟩:=zN (w.alloc (.cells #[.int .i64 m.kind,.int .i64 R.id,.int .i64 m.tgt,.int .i64 T,.int .i64 m.idx,.int .i64 m.logTerm,.int .i64 m.commit,.int .i64 m.round,.bool m.reject,.int .i64 m.offset,.int .i64 m.total,ve,vd] 39));rw[bV]at aI bN;have dH:Below w1.drew.heap.size w1.drew (w1.drew.alloc (.cells #[.int .i64 m.kind,.int .i64 R.id,.int .i64 m.tgt,.int .i64 T,.int .i64 m.idx,.int .i64 m.logTerm,.int .i64 m.commit,.int .i64 m.round,.bool m.reject,.int .i64 m.offset,.int .i64 m.total,ve,vd] 39)):=zb.alloc zl _;have Ii:=ar.new w1.drew 39 (yL ((ve,vd),{m with frm:=R.id,term:=T})).toArray;have du:Below w.heap.size w (w1.drew.alloc (.cells #[.int .i64 m.kind,.int .i64 R.id,.int .i64 m.tgt,.int .i64 T,.int .i64 m.idx,.int .i64 m.logTerm,.int .i64 m.commit,.int .i64 m.round,.bool m.reject,.int .i64 m.offset,.int .i64 m.total,ve,vd] 39)):=ab (aA aI 1) dH zl;have h2:=h.fresh (q+c+10) du;have ui:kJ (ai aa w.heap.size (q+c+10)) q _ ((ve,vd),{m with frm:=R.id,term:=T}):=(hm.relabel (ak:=ai aa w.heap.size (q+c+10)) (k:=q) fun j hj e=>(ac hj).trans e).keep fun j hj hl=>du.block j hl
 obtain⟨zs,bP,cB,tB⟩:=id h2.m;obtain⟨y0,y1,y2,y3,y4,y5,y6,y7,y8,y9,y10,y11,y12,-⟩:=bN.cs [0,1,2,3,4,5,6,7,8,9,10,11,12];simp only[Zx]at y0 y1 y2 y3 y4 y5 y6 y7 y8 y9 y10 y11 y12;have c33':=(aI.cell (aw c33)).trans c33;obtain⟨k0,k1,k2,k3,k4,k5,k6,k7,k8,k9,kA,kB,kC⟩:=vV [g,w.heap.size] y0 y1 y2 y3 y4 y5 y6 y7 y8 y9 y10 y11 y12;have kD:=CV [g,w.heap.size] c33';have cT:∀q∈[g,w.heap.size],q<w1.heap.size:=by simp;exact⟨by have:=aI.size;omega,bN.lt⟩
 unfold eH;simp only[vi];rcases(show(m.term=0/\R.hard.term=T)\/(m.term≠0/\m.term=T) by
  by_cases h0:m.term=0
  ·rw[if_pos h0]at hT;exact .inl ⟨h0,hT⟩
  ·rw[if_neg h0]at hT;exact .inr ⟨h0,hT⟩)with⟨ht,tC⟩|⟨ht,tC⟩
 all_goals
  clear hT;go_enter func63,ntmps63;go_wp2_with fail;try simp only[tC]
  try rw[bV]
  refine mI [g,w.heap.size] w1 [([0,1,2,3,4,5,6],7),([],8)] ([9,10,11],12) ?_;refine ap fun K1 ct=>?_
  simp only[af,Zx];repeat go_big_quiet_step(fail)
  apply wpQuiet_nil;go_wp2_with fail;refine⟨aq cT (zb.drew.trans dH),ct _ _ ?_⟩;refine ap fun K2 ge=>?_
  simp only[af,Zx];repeat go_big_quiet_step(fail)
  apply wpQuiet_nil;go_wp2_with (at_builtin;refine kf rfl (.tmp 23) (.tmp 25) rfl rfl bP rfl Ii h1 (Nat.le_trans hn (by omega)) ?_;intro A3 c3 w3 cM cE dg hlab3);have iQ:ai aa w.heap.size (q+c+10) g=c+1:=(ac cQ).trans h.sl;have KR:ai aa w.heap.size (q+c+10) w.heap.size=q+c+10:=ay zl;have gK:w3.heap[g]?=w1.heap[g]?:=(dg.other (k:=c+1) (by omega) g iQ h2.s.lt).trans ((zb.drew.trans dH).block g (cT g (by simp)));have Lz:w3.heap[w.heap.size]?=w1.heap[w.heap.size]?:=(dg.other (k:=q+c+10) (by omega) w.heap.size KR (by have:=bN.lt;have:=dH.size;exact Nat.lt_of_lt_of_le bN.lt this)).trans ((zb.drew.trans dH).block _ bN.lt);refine⟨bO gK Lz,ge _ _ ?_⟩;subst hlab3;obtain⟨w2,cw⟩:=zN ((w1.drew.alloc (.cells #[.int .i64 m.kind,.int .i64 R.id,.int .i64 m.tgt,.int .i64 T,.int .i64 m.idx,.int .i64 m.logTerm,.int .i64 m.commit,.int .i64 m.round,.bool m.reject,.int .i64 m.offset,.int .i64 m.total,ve,vd] 39)));have cE:bQ (ai (ai aa w.heap.size (q+c+10)) w2.heap.size (c+9)) (c+9) w3 39 13 (.slice A3 (R.out.msgs.length+1) c3) (R.out.msgs.length+1) ((zs++[((ve,vd),{m with frm:=R.id,term:=T})]).flatMap yL):=by rw[<-cw];exact cE
  rw[cw]at du h2 ui cB;have dg:Fr (aQ (ai aa w.heap.size (q+c+10)) (c+9)) w2 w3:=by rw[<-cw];exact dg
  have Vs:q≠c+9:=by unfold aL at ha;omega
  have kr:∀j,j<w3.heap.size->ai aa w.heap.size (q+c+10) j=q->ai (ai aa w.heap.size (q+c+10)) w2.heap.size (c+9) j=q:=fun j hj e=>by
   have hs:=du.size;rcases Nat.lt_or_ge j w2.heap.size with hj|hj
   ·exact(ac hj).trans e
   ·rw[ay (by omega)]at e;omega
  have FN:∀z∈zs++[((ve,vd),{m with frm:=R.id,term:=T})],kJ (ai (ai aa w.heap.size (q+c+10)) w2.heap.size (c+9)) q w3 z:=fun z hz=>by
   rcases List.mem_append.1 hz with hz|hz
   ·exact((cB z hz).keep (dg.other (k:=q) Vs)).relabel kr
   ·rw[List.mem_singleton.1 hz];exact(ui.keep (dg.other (k:=q) Vs)).relabel kr
  have pJ:iE (ai (ai aa w.heap.size (q+c+10)) w2.heap.size (c+9)) (c+9) q w3 (.slice A3 (R.out.msgs.length+1) c3) (R.out.msgs++[{m with frm:=R.id,term:=T}]):=⟨_,by rw[List.length_append];exact cE,FN,by rw[List.map_append,tB];rfl⟩;obtain⟨PX,lu,QR⟩:=h2.setMsgs ha dg pJ;have hP:=zH (show au aa c q w g (R.send m) (w3.setCell ⟨g,33,none⟩ (.slice A3 (R.out.msgs.length+1) c3))from au.next (ag:=ai aa w.heap.size (q+c+10)) ⟨_,_,(by rw[dW.out];exact PX),fun j hj=>ac hj,lu⟩ (fun j hj=>ac hj) (Fr.of_below du));have cg:=QR.cell 33;have fg:=QR.free 33;simp only[bj,vi,Zx]at cg;clear PX lu pJ FN cE dg;refine aC ?_;simp only[af,Zx];repeat go_big_quiet_step(fail)
  apply wpQuiet_nil;go_wp2_with fail;exact cL rfl rfl ⟨rfl,hP.out⟩
theorem dj(m:Mg)(he:m.entries=[])(hd:m.data=[])(ha:aL c q)(h:aJ aa c q w g R v)(hn:R.out.msgs.length<=100000) :
  Calls prog 63 #[.pointer (some ⟨g,0,none⟩),eH m (.slice none 0 0) (.slice none 0 0)] w fun e w'=>e=.returned (.tuple #[])/\au aa c q w g (R.send m) w':=
 pz m _ _ ha h ⟨by rw[he];exact cN.nil _ _ _,by rw[hd];exact bM.nil _ _ _⟩ ⟨rfl,rfl⟩ hn
end
structure Oy where
 ea:Option Addr
 ec:Nat
 ca:Option Addr
 cc:Nat
 sa:Option Addr
 sc:Nat
 ra:Option Addr
 rc:Nat
 ma:Option Addr
 mc:Nat
def lg:Oy:=⟨none,0,none,0,none,0,none,0,none,0⟩
def aZ(O:Ot)(Y:Oy):Array Value:=#[.bool O.save,.bool O.reset,.int .i64 O.hard.term,.int .i64 O.hard.vote,.slice Y.ea O.entries.length Y.ec,.slice Y.ca O.commits.length Y.cc,.bool O.snap.isSome,.int .i64 (ju O.snap),.int .i64 (jt O.snap),.slice Y.sa (ns O.snap).length Y.sc,.slice Y.ra O.reads.length Y.rc,.slice Y.ma O.msgs.length Y.mc]
def aX:Array Value:=#[.bool false,.bool false,.int .i64 0,.int .i64 0,.slice none 0 0,.slice none 0 0,.bool false,.int .i64 0,.int .i64 0,.slice none 0 0,.slice none 0 0,.slice none 0 0]
structure Iy(aa:Nat->Nat)(q:Nat)(w:World)(O:Ot)(ve vc vs vr vm:Value):Prop where
 e:dU aa q q w ve O.entries
 c:dU aa q q w vc O.commits
 s:bM aa q w vs (ns O.snap)
 r:bQ aa q w 135 2 vr O.reads.length (O.reads.flatMap qW)
 m:iE aa q q w vm O.msgs
def jP(aa:Nat->Nat)(q:Nat)(w:World)(O:Ot)(Y:Oy):Prop:=Iy aa q w O (.slice Y.ea O.entries.length Y.ec) (.slice Y.ca O.commits.length Y.cc) (.slice Y.sa (ns O.snap).length Y.sc) (.slice Y.ra O.reads.length Y.rc) (.slice Y.ma O.msgs.length Y.mc)
theorem jP.keep{aa:Nat->Nat}{q:Nat}{w w':World}{O:Ot}{Y:Oy}(h:jP aa q w O Y)(hk:∀j,aa j=q->j<w.heap.size->w'.heap[j]?=w.heap[j]?):jP aa q w' O Y:=
 ⟨h.e.keep hk hk,h.c.keep hk hk,h.s.keep hk,h.r.keep hk,h.m.keep hk hk⟩
theorem jP.zero(aa:Nat->Nat)(q:Nat)(w:World):jP aa q w dZ lg:=⟨dU.nil _ _ _ _,dU.nil _ _ _ _,bM.nil _ _ _,bQ.nil _ _ _ _ _,iE.nil _ _ _ _⟩
def iF(aa:Nat->Nat)(c q:Nat):Nat->Nat:=fun j=>if aa j=c+6\/aa j=c+7\/aa j=c+8\/aa j=c+9 then q else aa j
def Aw.told(v:Aw):Aw:={v with ent:=.slice none 0 0,com:=.slice none 0 0,sd:=.slice none 0 0,rds:=.slice none 0 0,mgs:=.slice none 0 0}
def cU(aa:Nat->Nat)(c q:Nat)(w:World)(g:Nat)(O:Ot)(R':Rf)(Y:Oy)(w':World):Prop:=
 ∃(ak:Nat->Nat) (v':Aw),aJ ak c q w' g R' v'/\jP ak q w' O Y/\(∀j,j<w.heap.size->¬aT aa c j->ak j=aa j)/\(∀j,j<w.heap.size->aT aa c j->aT ak c j\/ak j=q)/\Fr (aT aa c) w w'
section
variable {aa ag:Nat->Nat}{c q g:Nat}{w w' w1 w2:World}{R R' R1:Rf}{v:Aw}{O:Ot}{Y:Oy}
theorem eZ(h1:∀j,j<w.heap.size->ag j=aa j){j:Nat}(hj:j<w.heap.size):aT ag c j↔aT aa c j:=by
 unfold aT;rw[h1 j hj]
theorem cU.next(h:cU ag c q w1 g O R' Y w2)(h1:∀j,j<w.heap.size->ag j=aa j)(hF:Fr (aT aa c) w w1):cU aa c q w g O R' Y w2:=by
 obtain⟨ak,v',q1,q2,q3,q4,q5⟩:=h;have hs:=hF.size;exact⟨ak,v',q1,q2,fun j hj hm=>(q3 j (by omega) fun h=>hm ((eZ h1 hj).1 h)).trans (h1 j hj),fun j hj hm=>q4 j (by omega) ((eZ h1 hj).2 hm),hF.trans q5 fun j hj=>fH h1 hj⟩
theorem EU{j i:Nat}(h:aa j=c+i)(hi:6<=i/\i<=9):iF aa c q j=q:=if_pos (by omega)
theorem zI{j i:Nat}(h:aa j=c+i)(hi:i<=5):iF aa c q j=c+i:=(if_neg (by omega)).trans h
theorem J5(ha:aL c q){j:Nat}(h:aa j=q):iF aa c q j=q:=by
 unfold iF;split
 ·rfl
 ·exact h
theorem aJ.tell(ha:aL c q)(h:aJ aa c q w g R v)(hs:ar w' g 122 (bj R.tell.2 v.told))(hF:Fr (fun j=>j=g) w w') :
  aJ (iF aa c q) c q w' g R.tell.2 v.told/\Iy (iF aa c q) q w' R.tell.1 v.ent v.com v.sd v.rds v.mgs:=by
 have vZ:∀j,(∃i,1<i/\i<=9/\aa j=c+i)\/aa j=q->¬j=g:=fun j hj e=>by
  have:=h.sl;unfold aL at ha;rw[e]at hj;rcases hj with⟨i,_,_,hj⟩|hj <;> omega
 have k:∀i,1<i->i<=9->∀j,aa j=c+i->j<w.heap.size->w'.heap[j]?=w.heap[j]?:=fun i h0 h1 j hj hl=>hF.block j hl (vZ j (.inl ⟨i,h0,h1,hj⟩))
 have kq:∀j,aa j=q->j<w.heap.size->w'.heap[j]?=w.heap[j]?:=fun j hj hl=>hF.block j hl (vZ j (.inr hj))
 have hy:∀i,6<=i/\i<=9->∀j,j<w'.heap.size->aa j=c+i->iF aa c q j=q:=fun i hi j _ e=>EU e hi
 have hn:∀i,i<=5->∀j,j<w'.heap.size->aa j=c+i->iF aa c q j=c+i:=fun i hi j _ e=>zI e hi
 have hq:∀j,j<w'.heap.size->aa j=q->iF aa c q j=q:=fun j _ e=>J5 ha e
 exact⟨⟨hs,zI h.sl (by omega),(h.t.keep (k 2 (by omega) (by omega)) kq).relabel (hn 2 (by omega)) hq,(h.y.keep (k 3 (by omega) (by omega))).relabel (hn 3 (by omega)),(h.p.keep (k 4 (by omega) (by omega))).relabel (hn 4 (by omega)),(h.x.keep (k 5 (by omega) (by omega))).relabel (hn 5 (by omega)),
  (h.d.keep kq).relabel hq,(h.gd.keep kq).relabel hq,dU.nil _ _ _ _,dU.nil _ _ _ _,bM.nil _ _ _,bQ.nil _ _ _ _ _,iE.nil _ _ _ _⟩,
  (h.e.keep (k 6 (by omega) (by omega)) kq).relabel (hy 6 (by omega)) hq,(h.co.keep (k 7 (by omega) (by omega)) kq).relabel (hy 7 (by omega)) hq,(h.sd.keep kq).relabel hq,(h.r.keep (k 8 (by omega) (by omega))).relabel (hy 8 (by omega)),(h.m.keep (k 9 (by omega) (by omega)) kq).relabel (hy 9 (by omega)) hq⟩
def fb(w:World)(g:Nat):World:=(((((((((((w.setCell ⟨g,22,none⟩ (.bool false)).setCell ⟨g,23,none⟩ (.bool false)).setCell ⟨g,24,none⟩ (.int .i64 0)).setCell ⟨g,25,none⟩ (.int .i64 0)).setCell ⟨g,26,none⟩ (.slice none 0 0)).setCell ⟨g,27,none⟩ (.slice none 0 0)).setCell ⟨g,28,none⟩ (.bool false)).setCell ⟨g,29,none⟩ (.int .i64 0)).setCell ⟨g,30,none⟩ (.int .i64 0)).setCell ⟨g,31,none⟩ (.slice none 0 0)).setCell ⟨g,32,none⟩ (.slice none 0 0)).setCell ⟨g,33,none⟩ (.slice none 0 0)
theorem EM(w:World)(g:Nat):Fr (fun j=>j=g) w (fb w g):=
 have e:∀{a b:World},Fr (fun j=>j=g) w a->Fr (fun j=>j=g) a b->Fr (fun j=>j=g) w b:=fun h h'=>h.trans h' fun _ h=>.inl h
 e (e (e (e (e (e (e (e (e (e (e (Fr.set g _ _) (Fr.set g _ _)) (Fr.set g _ _)) (Fr.set g _ _)) (Fr.set g _ _)) (Fr.set g _ _)) (Fr.set g _ _)) (Fr.set g _ _)) (Fr.set g _ _)) (Fr.set g _ _)) (Fr.set g _ _)) (Fr.set g _ _)
theorem FJ(ha:aL c q)(h:aJ aa c q w g R v)(X:Array Value) :
  ar (((fb w g).alloc (.cells X 52)).alloc (.cells X 52)) w.heap.size 52 X/\aJ (iF aa c q) c q (((fb w g).alloc (.cells X 52)).alloc (.cells X 52)) g R.tell.2 v.told/\
   Iy (iF aa c q) q (((fb w g).alloc (.cells X 52)).alloc (.cells X 52)) R.tell.1 v.ent v.com v.sd v.rds v.mgs/\Fr (aT aa c) w (((fb w g).alloc (.cells X 52)).alloc (.cells X 52)):=by
 have hS:ar (fb w g) g 122 (bj R.tell.2 v.told):=by
  have s:=(((((((((((h.s.set_ 22 (.bool false)).set_ 23 (.bool false)).set_ 24 (.int .i64 0)).set_ 25 (.int .i64 0)).set_ 26 (.slice none 0 0)).set_ 27 (.slice none 0 0)).set_ 28 (.bool false)).set_ 29 (.int .i64 0)).set_ 30 (.int .i64 0)).set_ 31 (.slice none 0 0)).set_ 32 (.slice none 0 0)).set_ 33 (.slice none 0 0);simp only[bj,Zy]at s;exact s
 have hF:=EM w g;have gu:(fb w g).heap.size=w.heap.size:=by simp[fb,World.setCell]
 have bJ:Below (fb w g).heap.size (fb w g) (((fb w g).alloc (.cells X 52)).alloc (.cells X 52)):=(zb.alloc zl _).alloc (by simp) _;have hB:ar (((fb w g).alloc (.cells X 52)).alloc (.cells X 52)) w.heap.size 52 X:=by
  have:=(ar.new (fb w g) 52 X).alloc (.cells X 52);rw[gu]at this;exact this
 have di:Fr (fun j=>j=g) w (((fb w g).alloc (.cells X 52)).alloc (.cells X 52)):=hF.trans (Fr.of_below (X:=fun j=>j=g) bJ) fun _ h=>.inl h
 obtain⟨h1,h2⟩:=h.tell ha (hS.kept bJ) di;exact⟨hB,h1,h2,di.mono fun j e=>by rw[e];exact⟨by have:=h.sl;omega,by have:=h.sl;omega⟩⟩
theorem xC(ha:aL c q)(h:aJ aa c q w g R v) :
  Calls prog 54 #[.pointer (some ⟨g,0,none⟩)] w fun e w'=>∃Y,e=.returned (.agg (aZ R.tell.1 Y))/\cU aa c q w g R.tell.1 R.tell.2 Y w':=by
 obtain⟨c2,c3,c22,c23,c24,c25,c26,c27,c28,c29,c30,c31,c32,c33,-⟩:=h.s.cs [2,3,22,23,24,25,26,27,28,29,30,31,32,33];simp only[bj,vi,Zx]at c2 c3 c22 c23 c24 c25 c26 c27 c28 c29 c30 c31 c32 c33;obtain⟨f22,f23,f24,f25,f26,f27,f28,f29,f30,f31,f32,f33,-⟩:=h.s.fs [22,23,24,25,26,27,28,29,30,31,32,33];have cQ:=h.s.lt;obtain⟨_,⟨A1,d1,E7,_⟩,_⟩:=id h.e;obtain⟨_,⟨A2,d2,E0,_⟩,_⟩:=id h.co;obtain⟨A3,d3,WM,_⟩:=id h.sd;obtain⟨A4,d4,Wj,_⟩:=id h.r;obtain⟨_,⟨A5,d5,Ww,_⟩,_⟩:=id h.m;rw[E7]at c26;rw[E0]at c27;rw[WM]at c31;rw[Wj]at c32;rw[Ww]at c33;have aF:=zH (fun X=>FJ ha h X);have fG:(∀j,j<w.heap.size->¬aT aa c j->iF aa c q j=aa j)/\(∀j,j<w.heap.size->aT aa c j->aT (iF aa c q) c j\/iF aa c q j=q):=by
  refine⟨fun j _ hn=>if_neg fun hh=>hn ?_,fun j _ hj=>?_⟩
  ·unfold aT;omega
  ·by_cases hh:aa j=c+6\/aa j=c+7\/aa j=c+8\/aa j=c+9
   ·exact .inr (if_pos hh)
   ·refine .inl ?_;have e:iF aa c q j=aa j:=if_neg hh;unfold aT at hj ⊢;rw[e];exact hj
 replace fG:=zH fG;have hT:R.tell.1={R.out with hard:=if R.out.save then R.hard else R.out.hard}:=rfl;have hY:∀(H:Hd),R.tell.1={R.out with hard:=H}->aZ R.tell.1 ⟨A1,d1,A2,d2,A3,d3,A4,d4,A5,d5⟩=#[.bool R.out.save,.bool R.out.reset,.int .i64 H.term,.int .i64 H.vote,.slice A1 R.out.entries.length d1,.slice A2 R.out.commits.length d2,.bool R.out.snap.isSome,.int .i64 (ju R.out.snap),.int .i64 (jt R.out.snap),.slice A3 (ns R.out.snap).length d3,.slice A4 R.out.reads.length d4,.slice A5 R.out.msgs.length d5]:=fun H e=>by rw[e];rfl
 have Jg:∀(H:Hd),R.tell.1={R.out with hard:=H}->∀W,Iy (iF aa c q) q W R.tell.1 v.ent v.com v.sd v.rds v.mgs->jP (iF aa c q) q W R.tell.1 ⟨A1,d1,A2,d2,A3,d3,A4,d4,A5,d5⟩:=fun H e W ho=>by
  rw[E7,E0,WM,Wj,Ww]at ho;unfold jP;rw[e]at ho ⊢;exact ho
 replace Jg:=zH Jg;clear h;generalize iI:R.out.entries.length=n1 at *;generalize lB:R.out.commits.length=n2 at *;generalize AN:(ns R.out.snap).length=n3 at *;generalize Em:R.out.reads.length=n4 at *;generalize Gy:R.out.msgs.length=n5 at *;clear iI lB AN Em Gy;cases pN:R.out.save with
 | false=>
  rw[pN]at c22 hY;have tC:R.tell.1={R.out with hard:=R.out.hard}:=by rw[hT,pN];rfl
  have MC:=hY _ tC;replace MC:=zH MC;have Ls:=zH tC;clear hT hY tC;go_enter func54,ntmps54;go_wp2_with fail;obtain⟨hB,q1,q2,q3⟩:=aF.out #[.bool false,.bool R.out.reset,.int .i64 R.out.hard.term,.int .i64 R.out.hard.vote,.slice A1 n1 d1,.slice A2 n2 d2,.bool R.out.snap.isSome,.int .i64 (ju R.out.snap),.int .i64 (jt R.out.snap),.slice A3 n3 d3,.slice A4 n4 d4,.slice A5 n5 d5];show bodyPost _ _ _ _ _ (((fb w g).alloc (.cells #[.bool false,.bool R.out.reset,.int .i64 R.out.hard.term,.int .i64 R.out.hard.vote,.slice A1 n1 d1,.slice A2 n2 d2,.bool R.out.snap.isSome,.int .i64 (ju R.out.snap),.int .i64 (jt R.out.snap),.slice A3 n3 d3,.slice A4 n4 d4,.slice A5 n5 d5] 52)).alloc (.cells #[.bool false,.bool R.out.reset,.int .i64 R.out.hard.term,.int .i64 R.out.hard.vote,.slice A1 n1 d1,.slice A2 n2 d2,.bool R.out.snap.isSome,.int .i64 (ju R.out.snap),.int .i64 (jt R.out.snap),.slice A3 n3 d3,.slice A4 n4 d4,.slice A5 n5 d5] 52));generalize((fb w g).alloc (.cells #[.bool false,.bool R.out.reset,.int .i64 R.out.hard.term,.int .i64 R.out.hard.vote,.slice A1 n1 d1,.slice A2 n2 d2,.bool R.out.snap.isSome,.int .i64 (ju R.out.snap),.int .i64 (jt R.out.snap),.slice A3 n3 d3,.slice A4 n4 d4,.slice A5 n5 d5] 52)).alloc (.cells #[.bool false,.bool R.out.reset,.int .i64 R.out.hard.term,.int .i64 R.out.hard.vote,.slice A1 n1 d1,.slice A2 n2 d2,.bool R.out.snap.isSome,.int .i64 (ju R.out.snap),.int .i64 (jt R.out.snap),.slice A3 n3 d3,.slice A4 n4 d4,.slice A5 n5 d5] 52)=wF at *;obtain⟨r0,r1,r2,r3,r4,r5,r6,r7,r8,r9,r10,r11,-⟩:=hB.cs [0,1,2,3,4,5,6,7,8,9,10,11];simp only[Zx]at r0 r1 r2 r3 r4 r5 r6 r7 r8 r9 r10 r11;exact bodyPost_ret (v:=.agg #[.bool false,.bool R.out.reset,.int .i64 R.out.hard.term,.int .i64 R.out.hard.vote,.slice A1 n1 d1,.slice A2 n2 d2,.bool R.out.snap.isSome,.int .i64 (ju R.out.snap),.int .i64 (jt R.out.snap),.slice A3 n3 d3,.slice A4 n4 d4,.slice A5 n5 d5]) (by simp[results,results54,go_sem,r0,r1,r2,r3,r4,r5,r6,r7,r8,r9,r10,r11]) rfl ⟨_,by rw[MC.out],_,_,q1,Jg.out _ Ls.out _ q2,fG.out.1,fG.out.2,q3⟩
 | true=>
  rw[pN]at c22 hY;have tC:R.tell.1={R.out with hard:=R.hard}:=by rw[hT,pN];rfl
  have MC:=hY _ tC;replace MC:=zH MC;have Ls:=zH tC;clear hT hY tC;go_enter func54,ntmps54;go_wp2_with fail;obtain⟨hB,q1,q2,q3⟩:=aF.out #[.bool true,.bool R.out.reset,.int .i64 R.hard.term,.int .i64 R.hard.vote,.slice A1 n1 d1,.slice A2 n2 d2,.bool R.out.snap.isSome,.int .i64 (ju R.out.snap),.int .i64 (jt R.out.snap),.slice A3 n3 d3,.slice A4 n4 d4,.slice A5 n5 d5];show bodyPost _ _ _ _ _ (((fb w g).alloc (.cells #[.bool true,.bool R.out.reset,.int .i64 R.hard.term,.int .i64 R.hard.vote,.slice A1 n1 d1,.slice A2 n2 d2,.bool R.out.snap.isSome,.int .i64 (ju R.out.snap),.int .i64 (jt R.out.snap),.slice A3 n3 d3,.slice A4 n4 d4,.slice A5 n5 d5] 52)).alloc (.cells #[.bool true,.bool R.out.reset,.int .i64 R.hard.term,.int .i64 R.hard.vote,.slice A1 n1 d1,.slice A2 n2 d2,.bool R.out.snap.isSome,.int .i64 (ju R.out.snap),.int .i64 (jt R.out.snap),.slice A3 n3 d3,.slice A4 n4 d4,.slice A5 n5 d5] 52));generalize((fb w g).alloc (.cells #[.bool true,.bool R.out.reset,.int .i64 R.hard.term,.int .i64 R.hard.vote,.slice A1 n1 d1,.slice A2 n2 d2,.bool R.out.snap.isSome,.int .i64 (ju R.out.snap),.int .i64 (jt R.out.snap),.slice A3 n3 d3,.slice A4 n4 d4,.slice A5 n5 d5] 52)).alloc (.cells #[.bool true,.bool R.out.reset,.int .i64 R.hard.term,.int .i64 R.hard.vote,.slice A1 n1 d1,.slice A2 n2 d2,.bool R.out.snap.isSome,.int .i64 (ju R.out.snap),.int .i64 (jt R.out.snap),.slice A3 n3 d3,.slice A4 n4 d4,.slice A5 n5 d5] 52)=wF at *;obtain⟨r0,r1,r2,r3,r4,r5,r6,r7,r8,r9,r10,r11,-⟩:=hB.cs [0,1,2,3,4,5,6,7,8,9,10,11];simp only[Zx]at r0 r1 r2 r3 r4 r5 r6 r7 r8 r9 r10 r11;exact bodyPost_ret (v:=.agg #[.bool true,.bool R.out.reset,.int .i64 R.hard.term,.int .i64 R.hard.vote,.slice A1 n1 d1,.slice A2 n2 d2,.bool R.out.snap.isSome,.int .i64 (ju R.out.snap),.int .i64 (jt R.out.snap),.slice A3 n3 d3,.slice A4 n4 d4,.slice A5 n5 d5]) (by simp[results,results54,go_sem,r0,r1,r2,r3,r4,r5,r6,r7,r8,r9,r10,r11]) rfl ⟨_,by rw[MC.out],_,_,q1,Jg.out _ Ls.out _ q2,fG.out.1,fG.out.2,q3⟩
end
section
variable {aa ak:Nat->Nat}{c q g i j n:Nat}{w w' w1:World}{R:Rf}{v:Aw}{x:Value}{t:bB}
theorem AM.inv(h:AM aa i q w x t):t.Inv:=by
 obtain⟨gt,A,n,c,zs,hv,hT,hl⟩:=h;exact hT.i
theorem jE(h:AM aa i q w x t)(hN:t.L.length<=1000000):Calls prog 47 #[x] w fun e w'=>e=.returned (.tuple #[.int .i64 t.lastF.1,.int .i64 t.lastF.2])/\Below w.heap.size w w':=by
 obtain⟨gt,A,n,c,zs,rfl,hT,hl⟩:=h;exact yp hT (by have:=hT.len.1;omega)
theorem mb(k:Int)(h:AM aa i q w x t)(hN:t.L.length<=1000000):Calls prog 92 #[x,.int .i64 k] w fun e w'=>e=.returned (.tuple #[.int .i64 (t.termF k).1,.int .i64 (t.termF k).2])/\w=w':=by
 obtain⟨gt,A,n,c,zs,rfl,hT,hl⟩:=h;exact mw k hT (by have:=hT.len.1;omega)
theorem vD(k m:Int)(h:AM aa i q w x t)(hN:t.L.length<=1000000):Calls prog 133 #[x,.int .i64 k,.int .i64 m] w fun e w'=>∃(A':Option Addr) (n' c':Nat) (zs':List (Value×En)),e=.returned (.slice A' n' c')/\w'.ownsRow w.heap.size 59 6 (.slice A' n' c') n' (zs'.flatMap bY)/\bq (aQ aa q) w' zs'/\zs'.map (·.2)=t.sliceF k m/\Below w.heap.size w w':=by
 obtain⟨gt,A,n,c,zs,rfl,hT,hl⟩:=h;refine(Cn k m hT (by have:=hT.len.1;omega)).mono ?_;rintro e w' ⟨A',n',c',zs',h1,h2,h3,h4,h5⟩;exact⟨A',n',c',zs',h1,h2,(hT.d.sub h3).keep (bz.below h5),h4,h5⟩
theorem cN.of_row{B n c:Nat}{A:Option Addr}{zs:List (Value×En)}{L:List En}(h:w.ownsRow B 59 6 (.slice A n c) n (zs.flatMap bY))(hd:bq (aQ aa q) w zs)(hz:zs.map (·.2)=L)(hl:∀j,B<=j->j<w.heap.size->aa j=q):cN aa q w (.slice A n c) L:=by
 have hb:=bA h;refine⟨A,n,c,zs,rfl,cn.of_own h,hd,hz,hb.1,hb.2,fun _ j hj=>?_⟩;have:=aB h A c rfl j hj;exact hl j this.2.1 this.1
theorem aJ.peer_at(h:aJ aa c q w g R v){s:Nat}(hs:s<R.peers.length):∃p d,v.peers=.slice (some ⟨p,0,none⟩) R.peers.length d/\aa p=c+4/\p<w.heap.size/\
  w.cell? ⟨p,s*4,none⟩=some (.int .i64 (R.peer s).next)/\w.cell? ⟨p,s*4+1,none⟩=some (.int .i64 (R.peer s).mat)/\w.cell? ⟨p,s*4+2,none⟩=some (.int .i64 (R.peer s).offset)/\w.cell? ⟨p,s*4+3,none⟩=some (.int .i64 (R.peer s).round)/\
  ∀j,w.frozen? ⟨p,j,none⟩=false:=by
 obtain⟨p,d,h1,h2,h3,h4,h5,h6⟩:=h.p.at_ (by omega);have hp:R.peers[s]?=some (R.peer s):=by unfold Rf.peer;rw[List.getElem?_eq_getElem hs];rfl
 have key:∀j u,j<4->(mK (R.peer s))[j]?=some u->w.cell? ⟨p,s*4+j,none⟩=some u:=fun j u hj hu=>h5 _ _ ((eo jD hj hp).trans hu)
 exact⟨p,d,h1,h3,h4,key 0 _ (by omega) rfl,key 1 _ (by omega) rfl,key 2 _ (by omega) rfl,key 3 _ (by omega) rfl,h6⟩
theorem aJ.trk_at(h:aJ aa c q w g R v):∃gt,v.trk=.pointer (some ⟨gt,0,none⟩)/\aa gt=c+2/\gt<w.heap.size/\w.cell? ⟨gt,0,none⟩=some (.int .i64 R.track.index):=by
 obtain⟨gt,A,n,d,zs,hv,hT,hl⟩:=h.t;exact⟨gt,hv,hl gt (.inl rfl),hT.b.lt,hT.cells.1⟩
theorem rq(s:Nat)(ha:aL c q)(h:aJ aa c q w g R v)(hs:s<R.peers.length)(hn:R.out.msgs.length<=100000)(hN:R.track.L.length<=1000000)
  (Kx:1<=(R.peer s).next) (om:(R.peer s).next<=4000000000000) (Mi:0<=(R.peer s).offset) (nS:(R.peer s).offset<=R.snap.data.length) (hd:R.snap.data.length<=65536) :
  Calls prog 100 #[.pointer (some ⟨g,0,none⟩),.int .i64 s] w fun e w'=>e=.returned (.tuple #[])/\au aa c q w g (R.lacks s) w':=by
 have cQ:=h.s.lt;obtain⟨p,d,hv,mx,Qy,p0,p1,p2,p3,_⟩:=h.peer_at hs;obtain⟨gt,gM,ye,pI,ua⟩:=h.trk_at;obtain⟨c14,c4,-⟩:=h.s.cs [14,4];simp only[bj,vi,Zx]at c14 c4;rw[hv]at c14;rw[gM]at c4;obtain⟨nx,mt,o,rd,hP⟩:∃nx mt,∃(o:Nat),∃rd,R.peer s=⟨nx,mt,(o:Int),rd⟩:=⟨(R.peer s).next,(R.peer s).mat,(R.peer s).offset.toNat,(R.peer s).round,by rw[Int.toNat_of_nonneg Mi]⟩;rw[hP]at p0 p1 p2 p3 Kx om Mi nS;simp only at p0 p1 p2 p3 Kx om Mi nS;have aI:Below w.heap.size w (w.alloc (.cells #[.int .i64 nx,.int .i64 mt,.int .i64 (o:Int),.int .i64 rd] 171)):=zb.alloc zl _;have gN:=ar.new w 171 #[.int .i64 nx,.int .i64 mt,.int .i64 (o:Int),.int .i64 rd];obtain⟨w1,bV⟩:=zN (w.alloc (.cells #[.int .i64 nx,.int .i64 mt,.int .i64 (o:Int),.int .i64 rd] 171));rw[bV]at aI gN;have h1:=h.fresh (q+c+10) aI;obtain⟨d14,d4,d5,d6,d7,d8,d15,-⟩:=h1.s.cs [14,4,5,6,7,8,15];simp only[bj,vi,Zx]at d14 d4 d5 d6 d7 d8 d15;rw[gM]at d4;obtain⟨y0,y1,y2,y3,-⟩:=gN.cs [0,1,2,3];simp only[Zx]at y0 y1 y2 y3;have PR:=(aI.cell (p:=⟨gt,0,none⟩) pI).trans ua;have OT:=gN.lt;have iQ:=h1.s.lt;have tJ:=(Below.refl w1.heap.size w1).drew;have hH:=zH h;have WT:=zH h1;replace bV:=zH bV;have cT:∀x∈[g,w.heap.size],x<w1.heap.size:=by simp;exact⟨iQ,OT⟩
 by_cases aU:nx-1<R.track.index
 ·obtain⟨l,hl⟩:=zN ((R.snap.data.drop o).take 160);have hL:=zH (show R.lacks s=R.send {cZ with kind:=7,tgt:=(s:Int),idx:=R.snap.idx,logTerm:=R.snap.term,offset:=(o:Int),total:=R.snap.data.length,data:=l,round:=R.round} by unfold Rf.lacks;rw[hP];simp only;rw[if_pos aU,<-hl];rfl);obtain⟨Ad,cd,rv,dx,Dl,TQ,KH⟩:=id h1.d;rw[rv]at d7;obtain⟨N,HK⟩:=zN (R.snap.data.length);rw[HK]at d7 rv dx hd nS;obtain⟨t0,tt0,t4⟩:=sD [g,w.heap.size,gt] y0 PR d4;have k4:=ae (w:=w1.drew) (gs:=[g,w.heap.size]) d4 (by simp);have k5:=ae (w:=w1.drew) (gs:=[g,w.heap.size]) d5 (by simp);have k6:=ae (w:=w1.drew) (gs:=[g,w.heap.size]) d6 (by simp);have k7:=ae (w:=w1.drew) (gs:=[g,w.heap.size]) d7 (by simp);have k15:=ae (w:=w1.drew) (gs:=[g,w.heap.size]) d15 (by simp);have q2:=ae (w:=w1.drew) (gs:=[g,w.heap.size]) y2 (by simp);have VE:Below w1.drew.heap.size w1.drew (w1.drew.drew.alloc (.cells #[.int .i64 0,.int .i64 0,.int .i64 0,.int .i64 0,.int .i64 0,.int .i64 0,.int .i64 0,.int .i64 0,.bool false,.int .i64 0,.int .i64 0,.slice none 0 0,.slice none 0 0] 39)):=((Below.refl w1.drew.heap.size w1.drew).drew).alloc zl _;go_enter func100,ntmps100;go_wp2_with fail;rw[bV.out];try go_wp2_with fail
  refine dV [g,w.heap.size,gt] w1 [] [0,1,2,3,4,5,6,7,8,9,10] ?_;refine aj ?_;simp only[af,Zx];repeat go_big_quiet_step(fail)
  apply wpQuiet_nil;go_wp2_with fail;refine cF (C:=dP [g,w.heap.size] w1.drew) [([0,1,2,3,4,5,6,7,8,9,10,11,12,13,14,15,16,17,18,19,20,21,22,23],24),([],25)] [] (by kernel_rfl) (by kernel_rfl) (fun _ _ _ _ e h=>⟨e.symm.trans h.1,h.2⟩) aR ?_;refine av fun K1 ct=>?_
  simp only[af,Zx];repeat go_big_quiet_step(fail)
  apply wpQuiet_nil;go_wp2_with fail;refine⟨aq cT VE,ct _ _ ?_⟩;refine av fun K2 ge=>?_
  simp only[af,Zx];repeat go_big_quiet_step(fail)
  apply wpQuiet_nil;go_wp2_with fail;have PW:Below w1.drew.heap.size w1.drew (w1.drew.drew.alloc (.cells #[.int .i64 7,.int .i64 0,.int .i64 s,.int .i64 0,.int .i64 R.snap.idx,.int .i64 R.snap.term,.int .i64 0,.int .i64 R.round,.bool false,.int .i64 o,.int .i64 N,.slice none 0 0,.slice none 0 0] 39)):=((Below.refl w1.drew.heap.size w1.drew).drew).alloc zl _;have Ns:Below w1.heap.size w1 ((w1.alloc (.cells #[.int .i64 7,.int .i64 0,.int .i64 s,.int .i64 0,.int .i64 R.snap.idx,.int .i64 R.snap.term,.int .i64 0,.int .i64 R.round,.bool false,.int .i64 o,.int .i64 N,.slice none 0 0,.slice none 0 0] 39)).drew.drew):=((((Below.refl w1.heap.size w1).alloc zl _).drew).drew);have Oj:ar ((w1.alloc (.cells #[.int .i64 7,.int .i64 0,.int .i64 s,.int .i64 0,.int .i64 R.snap.idx,.int .i64 R.snap.term,.int .i64 0,.int .i64 R.round,.bool false,.int .i64 o,.int .i64 N,.slice none 0 0,.slice none 0 0] 39)).drew.drew) w1.heap.size 39 #[.int .i64 7,.int .i64 0,.int .i64 s,.int .i64 0,.int .i64 R.snap.idx,.int .i64 R.snap.term,.int .i64 0,.int .i64 R.round,.bool false,.int .i64 o,.int .i64 N,.slice none 0 0,.slice none 0 0]:=ar.new w1 _ _;refine⟨aq cT PW,ge _ _ ?_⟩;refine aj ?_;simp only[af];apply wpQuiet_nil;generalize(w1.alloc (.cells #[.int .i64 7,.int .i64 0,.int .i64 s,.int .i64 0,.int .i64 R.snap.idx,.int .i64 R.snap.term,.int .i64 0,.int .i64 R.round,.bool false,.int .i64 o,.int .i64 N,.slice none 0 0,.slice none 0 0] 39)).drew.drew=wM at *;clear VE PW k4 k5 k6 k7 k15 q2 t0 tt0 t4 KH;have Kn:l.length<=160/\o+l.length<=N/\(l.length<160->o+l.length=N):=by
   rw[<-hl,List.length_take,List.length_drop,HK];omega
  have JA:∀k,k<l.length->∃u,l[k]?=some u/\R.snap.data[o+k]?=some u:=fun k hk=>by
   refine⟨_,List.getElem?_eq_getElem hk,?_⟩;rw[<-List.getElem?_eq_getElem hk,<-hl,List.getElem?_take,if_pos (by omega),List.getElem?_drop]
  replace hl:=zH hl;have S1:=gN.kept Ns;have z2:=S1.cell 2;simp only[Zx]at z2;go_wp2_with fail
  go_loopw [6] (fun i wr=>∃(k:Nat) (A:Option Addr) (c':Nat),k<=l.length/\i=.int .i64 ((o+k:Nat):Int)/\ar wr w1.heap.size 39 #[.int .i64 7,.int .i64 0,.int .i64 s,.int .i64 0,.int .i64 R.snap.idx,.int .i64 R.snap.term,.int .i64 0,.int .i64 R.round,.bool false,.int .i64 o,.int .i64 N,.slice none 0 0,.slice A k c']/\wr.ownsRow (w1.heap.size+1) 5 1 (.slice A k c') k ((l.take k).map vb)/\Below w1.heap.size w1 wr) (fun i _=>o+l.length-(intOf i).toNat)
  case atStart=>exact⟨0,none,0,Nat.zero_le _,rfl,Oj,b9 _ _,Ns⟩
  case round=>
   clear Oj Ns;obtain⟨k,A,c',hk,rfl,bN,aD,hb⟩:=hrel;have hr:=h1.below hb;have Vi:=gN.kept hb;have x2:=Vi.cell 2;simp only[Zx]at x2;have e7:=hr.s.cell 7;simp only[bj,vi,Zx]at e7;rw[rv]at e7;by_cases ik:k<l.length
   ·have a1:(((o+k:Nat):Int)<(N:Int)):=by omega
    have a2:(((o+k:Nat):Int)<(o:Int)+160):=by omega
    obtain⟨u,hu,Jo⟩:=JA k ik;obtain⟨ad,rfl,mj⟩:=dx.2 (by omega);have N2:=mj (o+k) (vb u) (by rw[List.getElem?_map,Jo];rfl);have eB:=aw N2;have Wb:=(hb.cell (p:=ad.add (o+k)) eB).trans N2;have m12:=bN.cell 12;simp only[Zx]at m12;have RH:=hb.size;have lD:=bN.lt;have ZW:=hr.s.lt;obtain⟨j7,j12,jc⟩:=sD [g,w1.heap.size,(ad.add (o+k)).block] e7 m12 Wb;have dH:Below wr.heap.size wr ((wr.alloc (.cells #[vb u] 5)).drew):=((Below.refl wr.heap.size wr).alloc zl _).drew;have gq:Rd ((wr.alloc (.cells #[vb u] 5)).drew) (some ⟨wr.heap.size,0,none⟩) 1 [u]:=cn.one wr 5 (vb u);have qh:=bf aD dH;have fi:k+1<=1000000000:=by omega
    have bl:w1.heap.size+1<=((wr.alloc (.cells #[vb u] 5)).drew).heap.size:=by have:=dH.size;omega
    have ze:∀x∈[g,w1.heap.size,(ad.add (o+k)).block],x<w1.heap.size+1:=by simp;exact⟨by omega,by have:=eB;omega⟩
    have cf:l.take (k+1)=l.take k++[u]:=by rw[List.take_add_one,hu];rfl
    have aP:=zH (show o+l.length-(o+(k+1))<o+l.length-(o+k) by omega);have aF:∀(A3:Option Addr) (c3:Nat) (w3:World),w3.ownsRow (w1.heap.size+1) 5 1 (.slice A3 (k+1) c3) (k+1) ((l.take k++[u]).map vb)->Below (w1.heap.size+1) ((wr.alloc (.cells #[vb u] 5)).drew) w3->
      ar w3 w1.heap.size 39 #[.int .i64 7,.int .i64 0,.int .i64 s,.int .i64 0,.int .i64 R.snap.idx,.int .i64 R.snap.term,.int .i64 0,.int .i64 R.round,.bool false,.int .i64 o,.int .i64 N,.slice none 0 0,.slice A k c']/\ar (w3.setCell ⟨w1.heap.size,12,none⟩ (.slice A3 (k+1) c3)) w1.heap.size 39 #[.int .i64 7,.int .i64 0,.int .i64 s,.int .i64 0,.int .i64 R.snap.idx,.int .i64 R.snap.term,.int .i64 0,.int .i64 R.round,.bool false,.int .i64 o,.int .i64 N,.slice none 0 0,.slice A3 (k+1) c3]/\(w3.setCell ⟨w1.heap.size,12,none⟩ (.slice A3 (k+1) c3)).ownsRow (w1.heap.size+1) 5 1 (.slice A3 (k+1) c3) (k+1) ((l.take (k+1)).map vb)/\Below w1.heap.size w1 (w3.setCell ⟨w1.heap.size,12,none⟩ (.slice A3 (k+1) c3))/\
      ∀x∈[g,w1.heap.size,(ad.add (o+k)).block],w3.heap[x]?=wr.heap[x]?:=fun A3 c3 w3 h3 bS=>by
     have ja:∀x,x<w1.heap.size+1->w3.heap[x]?=wr.heap[x]?:=fun x hx=>(bS.block x hx).trans (dH.block x (by omega))
     have pJ:ar w3 w1.heap.size 39 #[.int .i64 7,.int .i64 0,.int .i64 s,.int .i64 0,.int .i64 R.snap.idx,.int .i64 R.snap.term,.int .i64 0,.int .i64 R.round,.bool false,.int .i64 o,.int .i64 N,.slice none 0 0,.slice A k c']:=(ja _ (by omega)).trans bN;have s:=pJ.set_ 12 (.slice A3 (k+1) c3);simp only[Zy]at s;have eQ:=Fr.set (w:=w3) w1.heap.size 12 (.slice A3 (k+1) c3);refine⟨pJ,s,?_,(hb.trans ((dH.mono (by omega)).trans (bS.mono (by omega)))).setCell zl _,fun x hx=>ja x (ze x hx)⟩;rw[cf];exact cH h3 fun j hj hl=>eQ.block j hl (by have:=(aB h3 _ _ rfl j hj).2.1;omega)
    unfold vb at *;clear aD mj hr h1 h;go_wp2_with fail;refine mI [g,w1.heap.size,(ad.add (o+k)).block] wr [([0,1,2,3,4,5,6,7,8,9],10),([],11)] ([12],13) ?_;refine ap fun K3 jx=>?_
    simp only[af,Zx];repeat go_big_quiet_step(fail)
    apply wpQuiet_nil;go_wp2_with fail;refine⟨dN fun x hx=>dH.block x (by have:=ze x hx;omega),jx _ _ ?_⟩;refine ap fun K4 tj=>?_
    simp only[af,Zx];repeat go_big_quiet_step(fail)
    apply wpQuiet_nil;go_wp2_with (at_builtin;refine ln rfl (.tmp 71) (.tmp 80) rfl (w1.heap.size+1) rfl qh rfl gq fi bl ?_;intro A3 c3 w3 bF gK bS;obtain⟨pJ,mJ,I8,SW,Ul⟩:=aF A3 c3 w3 bF bS;clear aF bF gK bS);have m3:=pJ.cell 12;simp only[Zx]at m3;have mf3:=pJ.free 12;refine⟨dN Ul,tj _ _ ?_⟩;refine aC ?_;simp only[af,Zx];repeat go_big_quiet_step(fail)
    apply wpQuiet_nil;go_wp2_with fail;exact⟨⟨k+1,A3,c3,ik,by go_num,mJ,I8,SW⟩,by simp[intOf];exact aP.out⟩
   ·obtain rfl:k=l.length:=by omega
    have hL':=hL;have Qn:=ab aI hb zl;have hm:kJ (ai aa w.heap.size q) q wr ((.slice none 0 0,.slice A l.length c'),{cZ with kind:=7,tgt:=(s:Int),idx:=R.snap.idx,logTerm:=R.snap.term,offset:=(o:Int),total:=(N:Int),data:=l,round:=R.round}):=by
     refine⟨cN.nil _ _ _,?_⟩;rw[List.take_length]at aD;have zd:=bA aD;refine⟨A,c',rfl,cn.of_own aD,zd.1,zd.2,fun _ ad e=>?_⟩;have:=aB aD A c' rfl ad.block ⟨ad,e,rfl⟩;exact ay (by have:=aI.size;omega)
    have dW:=pz _ _ _ ha (hH.out.fresh q Qn) hm ⟨rfl,rfl⟩ hn;unfold eH at dW;simp only[vi]at dW;have Mu:=zH (fun w4 (hP:au (ai aa w.heap.size q) c q wr g (R.send {cZ with kind:=7,tgt:=(s:Int),idx:=R.snap.idx,logTerm:=R.snap.term,offset:=(o:Int),total:=(N:Int),data:=l,round:=R.round}) w4)=>show au aa c q w g (R.lacks s) w4 by rw[hL.out,HK];exact hP.fresh q Qn);have O4:(¬(((o+l.length:Nat):Int)<(N:Int)))\/((((o+l.length:Nat):Int)<(N:Int))/\¬(((o+l.length:Nat):Int)<(o:Int)+160)):=by
     by_cases hx:o+l.length<N
     ·exact .inr ⟨by omega,by omega⟩
     ·exact .inl (by omega)
    obtain⟨m0,m1,m2,m3,m4,m5,m6,m7,m8,m9,m10,m11,m12,-⟩:=bN.cs [0,1,2,3,4,5,6,7,8,9,10,11,12];simp only[Zx]at m0 m1 m2 m3 m4 m5 m6 m7 m8 m9 m10 m11 m12;clear hm aD hr h1 h JA Kn;rcases O4 with a1|⟨a1,a2⟩
    all_goals
     go_wp2_with fail;refine dW.mono ?_;rintro e w4 ⟨rfl,hP⟩;have hQ:=Mu.out w4 hP;replace hQ:=zH hQ;clear hP dW;go_wp2_with fail;exact aO rfl rfl ⟨rfl,hQ.out⟩
 ·have bh:=mb (nx-1) (h1.below (w':=w1.drew.drew) (aA zb 2)).t hN;obtain⟨tt,i7⟩:∃x,R.track.termF (nx-1)=x:=⟨_,rfl⟩;rw[i7,gM]at bh;have lJ:=vD nx 6 (h1.below (w':=w1.drew.drew.drew) (aA zb 3)).t hN;rw[gM]at lJ;have fo:=Int.not_lt.1 aU;have hL:=zH (show R.lacks s=R.send {cZ with kind:=5,tgt:=(s:Int),idx:=nx-1,logTerm:=tt.1,entries:=R.track.sliceF nx 6,commit:=R.commit,round:=R.round} by unfold Rf.lacks;rw[hP];simp only;rw[if_neg aU,i7]);replace i7:=zH i7;obtain⟨t0,tt0,t4⟩:=sD [g,w.heap.size,gt] y0 PR d4;have k4:=ae (w:=w1.drew) (gs:=[g,w.heap.size]) d4 (by simp);have q0:=ae (w:=w1.drew) (gs:=[g,w.heap.size]) y0 (by simp);clear h h1;go_enter func100,ntmps100;go_wp2_with fail;rw[bV.out];try go_wp2_with fail
  refine dV [g,w.heap.size,gt] w1 [] [0,1,2,3,4,5,6,7,8,9,10] ?_;refine aj ?_;simp only[af,Zx];repeat go_big_quiet_step(fail)
  apply wpQuiet_nil;go_wp2_with fail;refine cF (C:=dP [g,w.heap.size] w1.drew) [([0,1,2,3,4,5,6],7)] [8,9,10,11,12] (by kernel_rfl) (by kernel_rfl) (fun _ _ _ _ e h=>⟨e.symm.trans h.1,h.2⟩) aR ?_;refine av fun K1 ct=>?_
  simp only[af,Zx];repeat go_big_quiet_step(fail)
  apply wpQuiet_nil;go_wp2_with fail;refine bh.mono ?_;rintro e w2 ⟨rfl,rfl⟩;go_wp2_with fail;refine⟨aq cT (aA zb 1),ct _ _ ?_⟩;refine aj ?_;simp only[af,Zx];repeat go_big_quiet_step(fail)
  apply wpQuiet_nil;have k4:=ae (w:=w1.drew.drew) (gs:=[g,w.heap.size]) d4 (by simp);have q0:=ae (w:=w1.drew.drew) (gs:=[g,w.heap.size]) y0 (by simp);have k8:=ae (w:=w1.drew.drew) (gs:=[g,w.heap.size]) d8 (by simp);have k15:=ae (w:=w1.drew.drew) (gs:=[g,w.heap.size]) d15 (by simp);go_wp2_with fail;refine bT (C:=dP [g,w.heap.size] w1.drew.drew) [([0,1,2,3,4,5,6,7,8,9,10,11,13,14,15,16,17,18,19,20],12)] ([21],22) (by kernel_rfl) (by kernel_rfl) (fun _ _ _ _ e h=>⟨e.symm.trans h.1,h.2⟩) aR ?_;refine ap fun K2 ge=>?_
  simp only[af,Zx];repeat go_big_quiet_step(fail)
  apply wpQuiet_nil;go_wp2_with fail;refine lJ.mono ?_;rintro e w3 ⟨A3,n3,c3,zs3,rfl,Pd,XM,KK,bS⟩;go_wp2_with fail;have gr:Below w1.heap.size w1 w3:=(aA zb 3).trans bS;have eE:=ab aI gr zl;refine⟨aq (w:=w1.drew.drew) cT ((aA zb 1).trans bS),ge _ _ ?_⟩;refine aC ?_;simp only[af,Zx];repeat go_big_quiet_step(fail)
  apply wpQuiet_nil;have h3:=hH.out.fresh q eE;have nC:∀j,j<w.heap.size->ai aa w.heap.size q j=aa j:=fun j hj=>ac hj
  have hm:kJ (ai aa w.heap.size q) q w3 ((.slice A3 n3 c3,.slice none 0 0),{cZ with kind:=5,tgt:=(s:Int),idx:=nx-1,logTerm:=tt.1,entries:=R.track.sliceF nx 6,commit:=R.commit,round:=R.round}):=by
   refine⟨cN.of_row Pd (XM.mono fun j hj e=>?_) KK fun j hj _=>ay (by have:=aI.size;have:w1.drew.drew.drew.heap.size=w1.heap.size:=rfl;omega),bM.nil _ _ _⟩;have e:ai aa w.heap.size (q+c+10) j=q:=e;show ai aa w.heap.size q j=q;rcases Nat.lt_or_ge j w.heap.size with h|h
   ·rw[ac h]at e ⊢;exact e
   ·exact ay h
  have dW:=pz _ _ _ ha h3 hm ⟨rfl,rfl⟩ hn;unfold eH at dW;simp only[vi]at dW;clear lJ hm Pd;go_wp2_with fail;refine dW.mono ?_;rintro e w4 ⟨rfl,hP⟩;have hQ:=zH (show au aa c q w g (R.lacks s) w4 by rw[hL.out];exact hP.fresh q eE);go_wp2_with fail;exact cL rfl rfl ⟨rfl,hQ.out⟩
end
theorem oG{aa:Nat->Nat}{i size n m c c':Nat}{T:TypeId}{A A':Option Addr}{xs ys:List Value}{w w3:World}(h:bQ aa i w T size (.slice A n c) n xs)(ho:w3.ownsRow 0 T size (.slice A' m c') m ys)(hF:Fr (az A) w w3)(hr:∀j,az A' j->az A j\/w.heap.size<=j) :
  bQ (ai aa w.heap.size i) i w3 T size (.slice A' m c') m ys/\Fr (aQ aa i) w w3:=by
 obtain⟨A0,c0,e,h1,h2⟩:=h;injection e with e1 _ e3;subst e1;subst e3;refine⟨⟨A',c',rfl,ho,fun j hj=>?_⟩,hF.mono fun j hj=>h2 j hj⟩;rcases hr j hj with h6|h6
 ·exact(ac (aB h1 A c rfl j h6).1).trans (h2 j h6)
 ·exact ay h6
theorem pA{w:World}{ops:Array Oper}{rest:List Oper}{o:Oper}{a:Act}{Q:Exit->Act->World->Prop}(kt:o.guard=none)(s x:Operand)
  (ho:o.op=.call {callee:=.builtin .append,args:=#[s,x],argTypes:=#[76,76]})
  (base:Nat) {A:Option Addr} {n c:Nat} {l:List Int} (hs:a.eval s=.slice A n c) (aD:w.ownsRow base 3 1 (.slice A n c) n (l.map vi))
  {B:Option Addr} {m d:Nat} {r:List Int} (hx:a.eval x=.slice B m d) (hr:fB w B m r) (hb:n+m<=1000000000) (bl:base<=w.heap.size)
  (h:∀A' c' w',w'.ownsRow base 3 1 (.slice A' (n+m) c') (n+m) ((l++r).map vi)->Fr (az A) w w'->(∀j,az A' j->az A j\/w.heap.size<=j)->wpList prog ops Q rest (a.put o.dst (.slice A' (n+m) c')) w'):wpList prog ops Q (o::rest) a w:=by
 obtain⟨i0,iy,jK,iL,gL⟩:=info_parts rJ;refine bb w kt s x 76 ho base 3 i0 _ 1 8 underlying76 iy jK iL gL rfl (by omega) (.slice A n c) n _ hs aD B m d _ hx hr (fun u hu=>?_) (by unfold maxLen;omega) (by omega) bl fun A' c' w' h3 h4 h5=>?_
 ·obtain⟨z,_,rfl⟩:=List.mem_map.1 hu;rfl
 ·exact h A' c' w' (by rw[List.map_append];exact h3) (Fr.grown h4) (gE h5)
section
variable {aa:Nat->Nat}{c q g:Nat}{w w3:World}{R:Rf}{v:Aw}{v':Value}
theorem aJ.setYes{xs:List Int}(ha:aL c q)(h:aJ aa c q w g R v)(hF:Fr (aQ aa (c+3)) w w3)(hm:bQ (ai aa w.heap.size (c+3)) (c+3) w3 3 1 v' xs.length (xs.map vi)) :
  aJ (ai aa w.heap.size (c+3)) c q (w3.setCell ⟨g,13,none⟩ v') g {R with yes:=xs} {v with yes:=v'}/\Fr (aT aa c) w (w3.setCell ⟨g,13,none⟩ v')/\ar w3 g 122 (bj R v):=by
 have mJ:ar w3 g 122 (bj R v):=(hF.other (k:=c+1) (by omega) g h.sl h.s.lt).trans h.s;have eQ:=Fr.set (w:=w3) g 13 v';have hS:=mJ.set_ 13 v';simp only[bj,Zy]at hS;have di:Fr (fun j=>j=g\/∃i,i∈[3]/\aa j=c+i) w (w3.setCell ⟨g,13,none⟩ v'):=(hF.mono (X':=fun j=>j=g\/∃i,i∈[3]/\aa j=c+i) fun j hj=>.inr ⟨3,by simp,hj⟩).trans eQ fun j e=>.inl (.inl e)
 have hX:∀i∈[3],1<i/\i<=9:=by simp
 have vZ:∀j,ai aa w.heap.size (c+3) j=c+3\/ai aa w.heap.size (c+3) j=q->j<w3.heap.size->(w3.setCell ⟨g,13,none⟩ v').heap[j]?=w3.heap[j]?:=fun j hj hl=>eQ.block j hl fun e=>by
  rw[e,ac h.s.lt]at hj;have:=h.sl;unfold aL at ha;omega
 have EB:bQ (ai aa w.heap.size (c+3)) (c+3) (w3.setCell ⟨g,13,none⟩ v') 3 1 v' xs.length (xs.map vi):=hm.keep fun j hj hl=>vZ j (.inl hj) hl
 exact⟨h.turn [3] ha hS (fun j hj=>ac hj) hX di tI (.inl EB) tI tI (.inr ⟨rfl,rfl⟩) (.inr ⟨rfl,rfl⟩) tI tI (.inr ⟨rfl,rfl⟩) tI tI,gD h hX di,mJ⟩
theorem aJ.setPeers{xs:List Pr}(ha:aL c q)(h:aJ aa c q w g R v)(hF:Fr (aQ aa (c+4)) w w3)(hm:bQ (ai aa w.heap.size (c+4)) (c+4) w3 171 4 v' xs.length (xs.flatMap mK)) :
  aJ (ai aa w.heap.size (c+4)) c q (w3.setCell ⟨g,14,none⟩ v') g {R with peers:=xs} {v with peers:=v'}/\Fr (aT aa c) w (w3.setCell ⟨g,14,none⟩ v')/\ar w3 g 122 (bj R v):=by
 have mJ:ar w3 g 122 (bj R v):=(hF.other (k:=c+1) (by omega) g h.sl h.s.lt).trans h.s;have eQ:=Fr.set (w:=w3) g 14 v';have hS:=mJ.set_ 14 v';simp only[bj,Zy]at hS;have di:Fr (fun j=>j=g\/∃i,i∈[4]/\aa j=c+i) w (w3.setCell ⟨g,14,none⟩ v'):=(hF.mono (X':=fun j=>j=g\/∃i,i∈[4]/\aa j=c+i) fun j hj=>.inr ⟨4,by simp,hj⟩).trans eQ fun j e=>.inl (.inl e)
 have hX:∀i∈[4],1<i/\i<=9:=by simp
 have vZ:∀j,ai aa w.heap.size (c+4) j=c+4\/ai aa w.heap.size (c+4) j=q->j<w3.heap.size->(w3.setCell ⟨g,14,none⟩ v').heap[j]?=w3.heap[j]?:=fun j hj hl=>eQ.block j hl fun e=>by
  rw[e,ac h.s.lt]at hj;have:=h.sl;unfold aL at ha;omega
 have EB:bQ (ai aa w.heap.size (c+4)) (c+4) (w3.setCell ⟨g,14,none⟩ v') 171 4 v' xs.length (xs.flatMap mK):=hm.keep fun j hj hl=>vZ j (.inl hj) hl
 exact⟨h.turn [4] ha hS (fun j hj=>ac hj) hX di tI tI (.inl EB) tI (.inr ⟨rfl,rfl⟩) (.inr ⟨rfl,rfl⟩) tI tI (.inr ⟨rfl,rfl⟩) tI tI,gD h hX di,mJ⟩
theorem aJ.setReads{xs:List (Int×Int)}(ha:aL c q)(h:aJ aa c q w g R v)(hF:Fr (aQ aa (c+8)) w w3)(hm:bQ (ai aa w.heap.size (c+8)) (c+8) w3 135 2 v' xs.length (xs.flatMap qW)) :
  aJ (ai aa w.heap.size (c+8)) c q (w3.setCell ⟨g,32,none⟩ v') g {R with out:={R.out with reads:=xs}} {v with rds:=v'}/\Fr (aT aa c) w (w3.setCell ⟨g,32,none⟩ v')/\ar w3 g 122 (bj R v):=by
 have mJ:ar w3 g 122 (bj R v):=(hF.other (k:=c+1) (by omega) g h.sl h.s.lt).trans h.s;have eQ:=Fr.set (w:=w3) g 32 v';have hS:=mJ.set_ 32 v';simp only[bj,Zy]at hS;have di:Fr (fun j=>j=g\/∃i,i∈[8]/\aa j=c+i) w (w3.setCell ⟨g,32,none⟩ v'):=(hF.mono (X':=fun j=>j=g\/∃i,i∈[8]/\aa j=c+i) fun j hj=>.inr ⟨8,by simp,hj⟩).trans eQ fun j e=>.inl (.inl e)
 have hX:∀i∈[8],1<i/\i<=9:=by simp
 have vZ:∀j,ai aa w.heap.size (c+8) j=c+8\/ai aa w.heap.size (c+8) j=q->j<w3.heap.size->(w3.setCell ⟨g,32,none⟩ v').heap[j]?=w3.heap[j]?:=fun j hj hl=>eQ.block j hl fun e=>by
  rw[e,ac h.s.lt]at hj;have:=h.sl;unfold aL at ha;omega
 have EB:bQ (ai aa w.heap.size (c+8)) (c+8) (w3.setCell ⟨g,32,none⟩ v') 135 2 v' xs.length (xs.flatMap qW):=hm.keep fun j hj hl=>vZ j (.inl hj) hl
 exact⟨h.turn [8] ha hS (fun j hj=>ac hj) hX di tI tI tI tI (.inr ⟨rfl,rfl⟩) (.inr ⟨rfl,rfl⟩) tI tI (.inr ⟨rfl,rfl⟩) (.inl EB) tI,gD h hX di,mJ⟩
theorem aJ.setEnts{xs:List En}(ha:aL c q)(h:aJ aa c q w g R v)(hF:Fr (aQ aa (c+6)) w w3)(hm:dU (ai aa w.heap.size (c+6)) (c+6) q w3 v' xs) :
  aJ (ai aa w.heap.size (c+6)) c q (w3.setCell ⟨g,26,none⟩ v') g {R with out:={R.out with entries:=xs}} {v with ent:=v'}/\Fr (aT aa c) w (w3.setCell ⟨g,26,none⟩ v')/\ar w3 g 122 (bj R v):=by
 have mJ:ar w3 g 122 (bj R v):=(hF.other (k:=c+1) (by omega) g h.sl h.s.lt).trans h.s;have eQ:=Fr.set (w:=w3) g 26 v';have hS:=mJ.set_ 26 v';simp only[bj,Zy]at hS;have di:Fr (fun j=>j=g\/∃i,i∈[6]/\aa j=c+i) w (w3.setCell ⟨g,26,none⟩ v'):=(hF.mono (X':=fun j=>j=g\/∃i,i∈[6]/\aa j=c+i) fun j hj=>.inr ⟨6,by simp,hj⟩).trans eQ fun j e=>.inl (.inl e)
 have hX:∀i∈[6],1<i/\i<=9:=by simp
 have vZ:∀j,ai aa w.heap.size (c+6) j=c+6\/ai aa w.heap.size (c+6) j=q->j<w3.heap.size->(w3.setCell ⟨g,26,none⟩ v').heap[j]?=w3.heap[j]?:=fun j hj hl=>eQ.block j hl fun e=>by
  rw[e,ac h.s.lt]at hj;have:=h.sl;unfold aL at ha;omega
 have EB:dU (ai aa w.heap.size (c+6)) (c+6) q (w3.setCell ⟨g,26,none⟩ v') v' xs:=hm.keep (fun j hj hl=>vZ j (.inl hj) hl) fun j hj hl=>vZ j (.inr hj) hl
 exact⟨h.turn [6] ha hS (fun j hj=>ac hj) hX di tI tI tI tI (.inr ⟨rfl,rfl⟩) (.inr ⟨rfl,rfl⟩) (.inl EB) tI (.inr ⟨rfl,rfl⟩) tI tI,gD h hX di,mJ⟩
theorem aJ.setComs{xs:List En}(ha:aL c q)(h:aJ aa c q w g R v)(hF:Fr (aQ aa (c+7)) w w3)(hm:dU (ai aa w.heap.size (c+7)) (c+7) q w3 v' xs) :
  aJ (ai aa w.heap.size (c+7)) c q (w3.setCell ⟨g,27,none⟩ v') g {R with out:={R.out with commits:=xs}} {v with com:=v'}/\Fr (aT aa c) w (w3.setCell ⟨g,27,none⟩ v')/\ar w3 g 122 (bj R v):=by
 have mJ:ar w3 g 122 (bj R v):=(hF.other (k:=c+1) (by omega) g h.sl h.s.lt).trans h.s;have eQ:=Fr.set (w:=w3) g 27 v';have hS:=mJ.set_ 27 v';simp only[bj,Zy]at hS;have di:Fr (fun j=>j=g\/∃i,i∈[7]/\aa j=c+i) w (w3.setCell ⟨g,27,none⟩ v'):=(hF.mono (X':=fun j=>j=g\/∃i,i∈[7]/\aa j=c+i) fun j hj=>.inr ⟨7,by simp,hj⟩).trans eQ fun j e=>.inl (.inl e)
 have hX:∀i∈[7],1<i/\i<=9:=by simp
 have vZ:∀j,ai aa w.heap.size (c+7) j=c+7\/ai aa w.heap.size (c+7) j=q->j<w3.heap.size->(w3.setCell ⟨g,27,none⟩ v').heap[j]?=w3.heap[j]?:=fun j hj hl=>eQ.block j hl fun e=>by
  rw[e,ac h.s.lt]at hj;have:=h.sl;unfold aL at ha;omega
 have EB:dU (ai aa w.heap.size (c+7)) (c+7) q (w3.setCell ⟨g,27,none⟩ v') v' xs:=hm.keep (fun j hj hl=>vZ j (.inl hj) hl) fun j hj hl=>vZ j (.inr hj) hl
 exact⟨h.turn [7] ha hS (fun j hj=>ac hj) hX di tI tI tI tI (.inr ⟨rfl,rfl⟩) (.inr ⟨rfl,rfl⟩) tI (.inl EB) (.inr ⟨rfl,rfl⟩) tI tI,gD h hX di,mJ⟩
theorem sT(s:Int)(ha:aL c q)(h:aJ aa c q w g R v)(hn:R.yes.length<=100000) :
  Calls prog 101 #[.pointer (some ⟨g,0,none⟩),.int .i64 s] w fun e w'=>e=.returned (.bool (R.says s).won)/\au aa c q w g (R.says s) w':=by
 have cQ:=h.s.lt;obtain⟨c1,c13,-⟩:=h.s.cs [1,13];simp only[bj,vi,Zx]at c1 c13;have bs:Below w.heap.size w (w.alloc (.cells #[.int .i64 s] 3)):=zb.alloc zl _;have h1:=h.fresh (q+c+10) bs;obtain⟨A,d,Lp,bP,hl⟩:=id h1.y;obtain⟨n,fp⟩:=zN (R.yes.length);rw[fp]at Lp bP hn;rw[Lp]at c13;have gq:fB (w.alloc (.cells #[.int .i64 s] 3)) (some ⟨w.heap.size,0,none⟩) 1 [s]:=fB.one w s;have aF:∀(A3:Option Addr) (c3:Nat) (w3:World),w3.ownsRow 0 3 1 (.slice A3 (n+1) c3) (n+1) ((R.yes++[s]).map vi)->Fr (az A) (w.alloc (.cells #[.int .i64 s] 3)) w3->(∀j,az A3 j->az A j\/(w.alloc (.cells #[.int .i64 s] 3)).heap.size<=j)->
   ar w3 g 122 (bj R v)/\ar (w3.setCell ⟨g,13,none⟩ (.slice A3 (n+1) c3)) g 122 (bj (R.says s) {v with yes:=.slice A3 (n+1) c3})/\au aa c q w g (R.says s) (w3.setCell ⟨g,13,none⟩ (.slice A3 (n+1) c3))/\fB (w3.setCell ⟨g,13,none⟩ (.slice A3 (n+1) c3)) A3 (n+1) (R.yes++[s])/\n+1<=c3/\c3<=maxLen:=fun A3 c3 w3 ho hF hr=>by
  have hy:=h1.y;rw[Lp,fp]at hy;obtain⟨g1,g2⟩:=oG hy ho hF hr;have g1':bQ (ai (ai aa w.heap.size (q+c+10)) (w.alloc (.cells #[.int .i64 s] 3)).heap.size (c+3)) (c+3) w3 3 1 (.slice A3 (n+1) c3) (R.yes++[s]).length ((R.yes++[s]).map vi):=by
   rw[List.length_append,fp];exact g1
  obtain⟨h3,h4,h5⟩:=h1.setYes ha g2 g1';have hb:=bA ho;obtain⟨A4,d4,e4,XF,_⟩:=id h3.y;have e4:Value.slice A3 (n+1) c3=Value.slice A4 (R.yes++[s]).length d4:=e4;injection e4 with x1 x2 x3;subst x1;subst x3;refine⟨h5,h3.s,au.next (ag:=ai aa w.heap.size (q+c+10)) ⟨_,_,h3,fun j hj=>ac hj,h4⟩ (fun j hj=>ac hj) (Fr.of_below bs),?_,hb.1,hb.2⟩;have hq:fB (w3.setCell ⟨g,13,none⟩ (.slice A3 (n+1) c3)) A3 (R.yes++[s]).length (R.yes++[s]):=cn.of_own XF
  rwa [<-x2]at hq
 have Rh:(w.alloc (.cells #[.int .i64 s] 3)).ownsRow 0 3 1 (.slice A n d) n (R.yes.map vi):=bP;have Lx:(R.says s).won=lz R.n (R.yes++[s]):=rfl;rw[Lx];clear h h1 bP;go_enter func101,ntmps101;go_wp2_with (at_builtin;refine pA rfl (.tmp 9) (.tmp 11) rfl 0 rfl Rh rfl gq (by omega) zz ?_;intro A3 c3 w3 cE dg hrw3;obtain⟨iT,AI,hP,dx,gC,tF⟩:=aF A3 c3 w3 cE dg hrw3;clear aF cE dg hrw3;have e13:=iT.cell 13;have f13:=iT.free 13;simp only[bj,Zx]at e13);generalize w3.setCell ⟨g,13,none⟩ (.slice A3 (n+1) c3)=w4 at *;obtain⟨d1,d13,-⟩:=AI.cs [1,13];simp only[bj,vi,Zx]at d1 d13;have KG:=AI.lt;obtain⟨k1,k13⟩:=nY [g] d1 d13;have nm:=sV (R.n:Int) A3 (n+1) c3 (R.yes++[s]) w4.drew dx.drew tF gC;have R8:(R.says s).n=R.n:=rfl;rw[R8]at k1;replace hP:=zH hP;clear iT AI dx e13 f13;refine dV [g] w4 [([0,1,2,3,4,5,6,7],8)] [9] ?_;refine av fun K1 ct=>?_
 simp only[af,Zx];repeat go_big_quiet_step(fail)
 apply wpQuiet_nil;go_wp2_with fail;refine nm.mono ?_;rintro e w5 ⟨rfl,rfl⟩;go_wp2_with fail;refine⟨aR,ct _ _ ?_⟩;refine aj ?_;simp only[af,Zx];repeat go_big_quiet_step(fail)
 apply wpQuiet_nil;go_wp2_with fail;go_ret;exact⟨rfl,hP.out.below (zb.drew)⟩
theorem nN{α β:Type}(f:α->β->α)(l:List β)(x:β)(a:α):(l++[x]).foldl f a=f (l.foldl f a) x:=by rw[List.foldl_append];rfl
theorem oK(ha:aL c q)(h:aJ aa c q w g R v)(hP:gI R)(hn:R.out.msgs.length<=90000) :
  Calls prog 53 #[.pointer (some ⟨g,0,none⟩)] w fun e w'=>e=.returned (.tuple #[])/\au aa c q w g R.all w':=by
 have cQ:=h.s.lt;have h0:=au.refl h;have eq:R.all=(bw R.id R.n).foldl Rf.lacks R:=rfl;replace eq:=zH eq;clear h;go_enter func53,ntmps53;go_wp2_with fail
 go_loopw [2] (fun i wr=>∃k:Nat,k<=R.n/\i=.int .i64 ((k:Int)+1)/\au aa c q w g ((bw R.id k).foldl Rf.lacks R) wr) (fun i _=>R.n+1-(intOf i).toNat)
 case atStart=>exact⟨0,Nat.zero_le _,rfl,h0⟩
 case round=>
  obtain⟨k,hk,rfl,hQ⟩:=hrel;obtain⟨ms,xu,lD⟩:=ev (bw R.id k) R;have vF:=i8 R.id k;have qk:=hP.n7;have ci:=iz R.id k;rw[xu]at hQ;obtain⟨ag,v1,h1,cy,gR⟩:=hQ;obtain⟨c0,c1,-⟩:=h1.s.cs [0,1];simp only[bj,vi,Zx]at c0 c1;by_cases aU:k<R.n
  ·have aP:=zH (show R.n+1-(k+1+1)<R.n+1-(k+1) by omega);have fo:(k:Int)+1<=R.n:=by omega
   by_cases jg:k+1=R.id
   ·rw[if_pos jg,List.append_nil]at ci;have jm:(R.id:Int)=(k:Int)+1:=by omega
    have aF:=zH (show au aa c q w g ((bw R.id (k+1)).foldl Rf.lacks R) wr by rw[ci,xu];exact⟨ag,v1,h1,cy,gR⟩);rw[jm]at c0;clear jm jg h1 xu ci lD;go_wp2_with fail;exact⟨⟨k+1,aU,by go_num,aF.out⟩,by simp[intOf];have:=aP.out;omega⟩
   ·rw[if_neg jg]at ci;have jz:=hP.out {R.out with msgs:=R.out.msgs++ms};have rl:k+1<R.peers.length:=by rw[hP.len];omega
    have ik:=rq (k+1) ha h1 rl (by simp;omega) hP.trk (hP.nx (k+1) (by omega)).1 (hP.nx (k+1) (by omega)).2 (hP.off (k+1) (by omega)).1 (hP.off (k+1) (by omega)).2 hP.dat;have aF:=zH (fun w5 (hp:au ag c q wr g (Rf.lacks {R with out:={R.out with msgs:=R.out.msgs++ms}} (k+1)) w5)=>show au aa c q w g ((bw R.id (k+1)).foldl Rf.lacks R) w5 by rw[ci,nN,xu];exact hp.next cy gR);have i1:(((k:Int)+1)==(R.id:Int))=false:=beq_eq_false_iff_ne.2 (by omega);have i2:(((k:Int)+1) !=(R.id:Int))=true:=by rw[bne,i1];rfl
    have i3:((k+1:Nat):Int)=(k:Int)+1:=by omega
    rw[i3]at ik;clear jg h1 xu ci lD jz i3;go_wp2_with fail;refine ik.mono ?_;rintro e w5 ⟨rfl,hp⟩;have me:=aF.out w5 hp;clear ik hp;replace me:=zH me;go_wp2_with fail;exact⟨⟨k+1,aU,by go_num,me.out⟩,by simp[intOf];have:=aP.out;omega⟩
  ·obtain rfl:k=R.n:=by omega
   have aF:=zH (show au aa c q w g R.all wr by rw[eq.out,xu];exact⟨ag,v1,h1,cy,gR⟩);have ku:¬((R.n:Int)+1<=R.n):=by omega
   clear h1 xu ci lD;go_wp2_with fail;exact cL rfl rfl ⟨rfl,aF.out⟩
end
section
variable {aa:Nat->Nat}{c q g n m d c':Nat}{w w3:World}{R:Rf}{v:Aw}{A A':Option Addr}{zs ys:List (Value×En)}{L':List En}
theorem zR{i:Nat}{L:List En}(Zr:q≠i)(bP:bQ aa i w 59 6 (.slice A n d) n (zs.flatMap bY))(hn:n=L.length)(xr:bq (aQ aa q) w zs)(tB:zs.map (·.2)=L)(hd:bq (aQ aa q) w ys)(hy:ys.map (·.2)=L')(hm:m=L'.length)
  (ho:w3.ownsRow 0 59 6 (.slice A' (n+m) c') (n+m) ((zs++ys).flatMap bY)) (hF:Fr (az A) w w3) (hr:∀j,az A' j->az A j\/w.heap.size<=j) :
  dU (ai aa w.heap.size i) i q w3 (.slice A' (n+m) c') (L++L')/\Fr (aQ aa i) w w3:=by
 obtain⟨g1,g2⟩:=oG bP ho hF hr;refine⟨⟨zs++ys,?_,?_,by rw[List.map_append,tB,hy]⟩,g2⟩
 ·rw[List.length_append,<-hn,<-hm];exact g1
 ·have Qf:bq (aQ (ai aa w.heap.size i) q) w (zs++ys):=(xr.append hd).mono fun j hj e=>(ac hj).trans e
  exact Qf.keep fun j hj hl=>g2.other (k:=q) Zr j ((ac hl).symm.trans hj) hl
theorem Fv(ha:aL c q)(h:aJ aa c q w g R v)(bP:bQ aa (c+7) w 59 6 (.slice A n d) n (zs.flatMap bY))(hn:n=R.out.commits.length)(xr:bq (aQ aa q) w zs)(tB:zs.map (·.2)=R.out.commits)(hd:bq (aQ aa q) w ys)(hy:ys.map (·.2)=L')(hm:m=L'.length)
  (ho:w3.ownsRow 0 59 6 (.slice A' (n+m) c') (n+m) ((zs++ys).flatMap bY)) (hF:Fr (az A) w w3) (hr:∀j,az A' j->az A j\/w.heap.size<=j) :
  aJ (ai aa w.heap.size (c+7)) c q (w3.setCell ⟨g,27,none⟩ (.slice A' (n+m) c')) g {R with out:={R.out with commits:=R.out.commits++L'}} {v with com:=.slice A' (n+m) c'}/\Fr (aT aa c) w (w3.setCell ⟨g,27,none⟩ (.slice A' (n+m) c'))/\ar w3 g 122 (bj R v):=by
 obtain⟨g1,g2⟩:=zR (by unfold aL at ha;omega) bP hn xr tB hd hy hm ho hF hr;exact h.setComs ha g2 g1
theorem Fz(ha:aL c q)(h:aJ aa c q w g R v)(bP:bQ aa (c+6) w 59 6 (.slice A n d) n (zs.flatMap bY))(hn:n=R.out.entries.length)(xr:bq (aQ aa q) w zs)(tB:zs.map (·.2)=R.out.entries)(hd:bq (aQ aa q) w ys)(hy:ys.map (·.2)=L')(hm:m=L'.length)
  (ho:w3.ownsRow 0 59 6 (.slice A' (n+m) c') (n+m) ((zs++ys).flatMap bY)) (hF:Fr (az A) w w3) (hr:∀j,az A' j->az A j\/w.heap.size<=j) :
  aJ (ai aa w.heap.size (c+6)) c q (w3.setCell ⟨g,26,none⟩ (.slice A' (n+m) c')) g {R with out:={R.out with entries:=R.out.entries++L'}} {v with ent:=.slice A' (n+m) c'}/\Fr (aT aa c) w (w3.setCell ⟨g,26,none⟩ (.slice A' (n+m) c'))/\ar w3 g 122 (bj R v):=by
 obtain⟨g1,g2⟩:=zR (by unfold aL at ha;omega) bP hn xr tB hd hy hm ho hF hr;exact h.setEnts ha g2 g1
theorem dU.row{i:Nat}{x:Value}{L:List En}(h:dU aa i q w x L):∃A d zs,x=.slice A L.length d/\bQ aa i w 59 6 (.slice A L.length d) L.length (zs.flatMap bY)/\w.ownsRow 0 59 6 (.slice A L.length d) L.length (zs.flatMap bY)/\bq (aQ aa q) w zs/\zs.map (·.2)=L:=by
 obtain⟨zs,bP,xr,tB⟩:=h;obtain⟨A,d,e,h1,h2⟩:=id bP;rw[e]at bP;exact⟨A,d,zs,e,bP,h1,xr,tB⟩
end
theorem xQ(t:bB)(i:Int)(j:Nat)(h:t.index<i):t.sliceF i j++t.sliceF (i+j) 1=t.sliceF i ((j+1:Nat):Int):=by
 have e1:t.sliceF (i+j) 1=List.take 1 (List.drop (i-t.index-1+j).toNat t.L):=by
  unfold bB.sliceF;rw[if_neg (by omega),show i+(j:Int)-t.index-1=i-t.index-1+j by omega];rfl
 have e2:∀k:Nat,t.sliceF i (k:Int)=List.take k (List.drop (i-t.index-1).toNat t.L):=fun k=>by
  unfold bB.sliceF;by_cases h0:k=0
  ·subst h0;rw[if_pos (by omega)];rfl
  ·rw[if_neg (by omega)];rfl
 rw[e1,e2,e2,show(i-t.index-1+(j:Int)).toNat=(i-t.index-1).toNat+j by omega,<-List.drop_drop,List.take_add]
theorem zr(t:bB)(i:Int):t.sliceF i 0=[]:=by
 unfold bB.sliceF;rw[if_pos (by omega)]
def mg(R:Rf)(j:Nat):Rf:={R with commit:=R.commit+j,out:={R.out with commits:=R.out.commits++R.track.sliceF (R.commit+1) j}}
theorem pg(R:Rf):mg R 0=R:=by
 unfold mg;simp only[Int.natCast_zero,Int.add_zero,zr,List.append_nil]
theorem D0{R:Rf}{j:Nat}(h:R.track.index<=R.commit):({mg R j with commit:=R.commit+j+1,out:={(mg R j).out with commits:=(mg R j).out.commits++R.track.sliceF (R.commit+j+1) 1}}:Rf)=mg R (j+1):=by
 have e:=xQ R.track (R.commit+1) j (by omega);have e2:R.commit+1+(j:Int)=R.commit+j+1:=by omega
 rw[e2]at e;unfold mg;simp only[List.append_assoc,e];have e3:R.commit+(j:Int)+1=R.commit+((j+1:Nat):Int):=by omega
 rw[e3]
theorem Fh{R:Rf}{k:Int}{j:Nat}(h:R.commit<k)(hj:R.commit+j=k):mg R j=R.commits k:=by
 unfold Rf.commits mg;rw[if_pos h,hj,show k-R.commit=(j:Int) by omega]
def yH(w:World)(a:Addr):Int:=intOf ((w.cell? a).getD (.int .i64 0))
section
variable {aa:Nat->Nat}{c q g:Nat}{w:World}{R:Rf}{v:Aw}
theorem ov(k:Int)(ha:aL c q)(h:aJ aa c q w g R v)(hi:R.track.index<=R.commit)(fX:0<=R.commit)(hk:k<=4000000000000)(hN:R.track.L.length<=1000000)(hn:R.out.commits.length<=1000000) :
  Calls prog 124 #[.pointer (some ⟨g,0,none⟩),.int .i64 k] w fun e w'=>e=.returned (.tuple #[])/\au aa c q w g (R.commits k) w':=by
 have cQ:=h.s.lt;have h0:=au.refl h;rw[<-pg R]at h0;have ez:=zH (au.refl h);clear h;go_enter func124,ntmps124;go_wp2_with fail
 go_loopw [] (fun wr=>∃j:Nat,(j=0\/R.commit+j<=k)/\au aa c q w g (mg R j) wr) (fun wr=>(k-yH wr ⟨g,8,none⟩).toNat)
 case atStart=>exact⟨0,.inl rfl,h0⟩
 case round=>
  clear h0;obtain⟨j,hj,ag,v1,h1,cy,gR⟩:=hrel;have c8:=h1.s.cell 8;simp only[bj,vi,Zx]at c8;have oX:(mg R j).commit=R.commit+j:=rfl;rw[oX]at c8;by_cases aU:R.commit+j<k
  ·obtain⟨gt,gM,ye,pI,ua⟩:=h1.trk_at;have d4:=h1.s.cell 4;simp only[bj,vi,Zx]at d4;rw[gM]at d4;have iQ:=h1.s.lt;obtain⟨k4,k8⟩:=nY [g] d4 c8;have hw:R.commit+(j:Int)+1<=4000000000000:=by omega
   have ZD:0<=R.commit+(j:Int):=by omega
   have dL:=vD (R.commit+j+1) 1 (h1.below (w':=wr.drew) (zb.drew)).t hN;rw[gM]at dL;have aP:yH wr ⟨g,8,none⟩=R.commit+j:=by unfold yH;rw[c8];rfl
   have cT:∀x∈[g],x<wr.heap.size:=by simp;exact iQ
   replace aP:=zH aP;have WT:=zH h1;clear h1;go_wp2_with fail;refine dV [g] wr [([0,1,2,3,4,5,6,7,8],9)] [10] ?_;refine av fun K1 ct=>?_
   simp only[af,Zx];repeat go_big_quiet_step(fail)
   apply wpQuiet_nil;go_wp2_with fail;refine dL.mono ?_;rintro e w5 ⟨B,m,d5,ys,rfl,oH,NY,OS,cD⟩;have Mz:Below wr.heap.size wr w5:=(zb.drew).trans cD;clear dL;go_wp2_with fail;refine⟨aq cT Mz,ct _ _ ?_⟩;refine aj ?_;simp only[af,Zx];repeat go_big_quiet_step(fail)
   apply wpQuiet_nil;have h5:=WT.out.fresh q Mz;have OS:ys.map (·.2)=R.track.sliceF (R.commit+j+1) 1:=OS;obtain⟨A,d,zs,R3,uv,bP,xr,tB⟩:=h5.co.row;obtain⟨n,fp⟩:=zN ((mg R j).out.commits.length);rw[fp]at R3 uv bP;have e8:=h5.s.cell 8;simp only[bj,vi,Zx]at e8;have e27:w5.cell? ⟨g,27,none⟩=some (.slice A n d):=by
    have:=h5.s.cell 27;simp only[bj,Zx]at this;rw[this,R3]
   have eB:n<=2000000:=by
    rw[<-fp];show(R.out.commits++_).length<=_;have:=nJ R.track (R.commit+1) j;rw[List.length_append];omega
   have xf:m=(R.track.sliceF (R.commit+j+1) 1).length:=by
    rw[<-OS,List.length_map];exact(fu.len (cn.of_own oH)).symm
   have tD:fu w5 B m ys:=cn.of_own oH;have fi:n+m<=1000000000:=by
    have:=nJ R.track (R.commit+j+1) 1;omega
   have gq:=NY.one;have aF:∀(A3:Option Addr) (c3:Nat) (w3:World),w3.ownsRow 0 59 6 (.slice A3 (n+m) c3) (n+m) ((zs++ys).flatMap bY)->Fr (az A) w5 w3->(∀j,az A3 j->az A j\/w5.heap.size<=j)->
     ar w3 g 122 (bj (mg R j) v1)/\au aa c q w g (mg R (j+1)) ((w3.setCell ⟨g,27,none⟩ (.slice A3 (n+m) c3)).setCell ⟨g,8,none⟩ (.int .i64 (R.commit+j+1)))/\yH ((w3.setCell ⟨g,27,none⟩ (.slice A3 (n+m) c3)).setCell ⟨g,8,none⟩ (.int .i64 (R.commit+j+1))) ⟨g,8,none⟩=R.commit+j+1:=fun A3 c3 w3 ho hF hr=>by
    have TN:bq (aQ (ai ag wr.heap.size q) q) w5 ys:=NY.mono fun j hj (e:ag j=q)=>by
     show ai ag wr.heap.size q j=q;unfold ai;split
     ·rfl
     ·exact e
    obtain⟨h6,jb,mX⟩:=Fv ha h5 uv fp.symm xr tB TN OS xf ho hF hr;have s8:=h6.s.set_ 8 (.int .i64 (R.commit+j+1));simp only[bj,Zy]at s8;have VT:=Fr.set (w:=w3.setCell ⟨g,27,none⟩ (.slice A3 (n+m) c3)) g 8 (.int .i64 (R.commit+j+1));have h8:=h6.nums (R':=({mg R j with commit:=R.commit+j+1,out:={(mg R j).out with commits:=(mg R j).out.commits++R.track.sliceF (R.commit+j+1) 1}}:Rf)) ha s8 VT rfl rfl rfl rfl rfl rfl rfl rfl rfl rfl rfl;rw[D0 hi]at h8;refine⟨mX,?_,?_⟩
    ·refine au.next (ag:=ag) (w1:=wr) ?_ cy gR;refine au.fresh q (w1:=w5) ?_ Mz;exact au.next (ag:=ai (ai ag wr.heap.size q) w5.heap.size (c+7)) (h6.nums_post ha h8 VT) (fun j hj=>ac hj) jb
    ·have:=h8.s.cell 8;simp only[bj,Zx]at this;unfold yH;rw[this];show R.commit+((j+1:Nat):Int)=_;omega
   clear h5 uv xr tB oH NY xf OS fp;go_wp2_with (at_builtin;refine aW rfl (.tmp 26) (.tmp 27) rfl 0 rfl bP rfl tD gq fi zz ?_;intro A3 c3 w3 cE dg bS hrw3;obtain⟨iT,lm,pJ⟩:=aF A3 c3 w3 cE dg hrw3;replace lm:=zH lm;replace pJ:=zH pJ;have x27:=iT.cell 27;have x8:=iT.cell 8;have y27:=iT.free 27;have y8:=iT.free 8;simp only[bj,vi,oX,Zx]at x27 x8;clear aF cE dg bS hrw3 bP);exact⟨⟨j+1,.inr (by omega),lm.out⟩,by rw[pJ.out,aP.out];omega⟩
  ·have aF:au aa c q w g (R.commits k) wr:=by
    rcases hj with rfl|hj
    ·have e:R.commits k=R:=if_neg (by simpa using aU);rw[e];rw[pg]at h1;exact⟨ag,v1,h1,cy,gR⟩
    ·by_cases PV:R.commit<k
     ·rw[<-Fh PV (j:=j) (by omega)];exact⟨ag,v1,h1,cy,gR⟩
     ·have e:R.commits k=R:=if_neg PV;obtain rfl:j=0:=by omega
      rw[e];rw[pg]at h1;exact⟨ag,v1,h1,cy,gR⟩
   replace aF:=zH aF;clear h1;go_wp2_with fail;exact cL rfl rfl ⟨rfl,aF.out⟩
end
section
variable {aa:Nat->Nat}{c q g:Nat}{w:World}{R:Rf}{v:Aw}
theorem lN(ha:aL c q)(h:aJ aa c q w g R v)(hp:R.peers.length=R.n+1)(qk:R.n<=7)(hi:R.track.index<=R.commit)(fX:0<=R.commit)(hN:R.track.L.length<=1000000)(hn:R.out.commits.length<=1000000) :
  Calls prog 70 #[.pointer (some ⟨g,0,none⟩)] w fun e w'=>e=.returned (.tuple #[])/\au aa c q w g R.agrees w':=by
 have cQ:=h.s.lt;obtain⟨gt,gM,ye,pI,ua⟩:=h.trk_at;have c4:=h.s.cell 4;simp only[bj,vi,Zx]at c4;rw[gM]at c4;have bI:=jE h.t hN;rw[gM]at bI;have dG:=h.t.inv;obtain⟨l1,cy⟩:∃l,R.track.lastF.1=l:=⟨_,rfl⟩;obtain⟨l2,dM⟩:∃l,R.track.lastF.2=l:=⟨_,rfl⟩;rw[cy,dM]at bI;replace cy:=zH cy;replace dM:=zH dM;have hH:=zH h;replace dG:=zH dG;clear h;go_enter func70,ntmps70;go_wp2_with fail;refine bI.mono ?_;rintro e w1 ⟨rfl,bs⟩;clear bI;go_wp2_with fail
 go_loopw [4,5] (fun o s' wr=>∃(k:Nat) (A:Option Addr) (d:Nat),k<=R.n/\s'=.int .i64 ((k:Int)+1)/\o=.slice A k d/\wr.ownsRow w1.heap.size 3 1 (.slice A k d) k ((fE R l1 Pr.mat k).map vi)/\Below w1.heap.size w1 wr) (fun _ s' _=>R.n+1-(intOf s').toNat)
 case atStart=>exact⟨0,none,0,Nat.zero_le _,rfl,rfl,b9 _ _,Below.refl _ _⟩
 case round=>
  obtain⟨k,A,d,hk,rfl,rfl,aD,hb⟩:=hrel;have jA:=ab bs hb zl;have hr:=hH.out.below jA;obtain⟨c0,c1,c14,-⟩:=hr.s.cs [0,1,14];simp only[bj,vi,Zx]at c0 c1 c14;by_cases aU:k<R.n
  ·have aP:=zH (show R.n+1-(k+1+1)<R.n+1-(k+1) by omega);have fo:(k:Int)+1<=R.n:=by omega
   have ci:=iZ R l1 Pr.mat k;have fi:k+1<=1000000000:=by omega
   by_cases jg:k+1=R.id
   ·rw[if_pos jg]at ci;have jm:(R.id:Int)=(k:Int)+1:=by omega
    rw[jm]at c0;have jX:=fB.one wr l1;have aI:Below wr.heap.size wr (wr.alloc (.cells #[.int .i64 l1] 3)):=zb.alloc zl _;have cv:=bf aD aI;have bJ:=ab hb aI zl;replace ci:=zH ci;clear jm jg hr aD;go_wp2_with (at_builtin;refine bi rfl (.tmp 31) (.tmp 33) rfl w1.heap.size rfl cv rfl jX fi bJ.size ?_;intro A3 c3 w3 bF gK bS);exact⟨⟨k+1,A3,c3,aU,by go_num,rfl,by rw[ci.out];exact bF,bJ.trans bS⟩,by simp[intOf];have:=aP.out;omega⟩
   ·rw[if_neg jg]at ci;obtain⟨p,dp,hv,mx,Qy,p0,p1,p2,p3,_⟩:=hr.peer_at (s:=k+1) (by omega);rw[hv,hp]at c14;obtain⟨mt,Da⟩:∃m,(R.peer (k+1)).mat=m:=⟨_,rfl⟩;rw[Da]at p1 ci;have jX:=fB.one wr mt;have aI:Below wr.heap.size wr (wr.alloc (.cells #[.int .i64 mt] 3)):=zb.alloc zl _;have cv:=bf aD aI;have bJ:=ab hb aI zl;have i1:(((k:Int)+1)==(R.id:Int))=false:=beq_eq_false_iff_ne.2 (by omega);replace ci:=zH ci;replace Da:=zH Da;clear jg hr aD p0 p2 p3;go_wp2_with (at_builtin;refine bi rfl (.tmp 35) (.tmp 44) rfl w1.heap.size rfl cv rfl jX fi bJ.size ?_;intro A3 c3 w3 bF gK bS);exact⟨⟨k+1,A3,c3,aU,by go_num,rfl,by rw[ci.out];exact bF,bJ.trans bS⟩,by simp[intOf];have:=aP.out;omega⟩
  ·obtain rfl:k=R.n:=by omega
   have ku:¬((R.n:Int)+1<=R.n):=by omega
   have qt:=nd (R.n:Int) A R.n d (fE R l1 Pr.mat R.n) wr (fB.of_own aD);obtain⟨N,ER⟩:=zN (eO R.n (fE R l1 Pr.mat R.n));rw[ER]at qt;have Il:R.agreesTo=N:=by rw[<-ER,<-cy.out];rfl
   clear aD hr;go_wp2_with fail;refine qt.mono ?_;rintro e w5 ⟨rfl,cD⟩;clear qt;have kw:=ab jA cD zl;have h5:=hH.out.below kw;have bh:=mb N h5.t hN;obtain⟨tt,i7⟩:∃x,R.track.termF N=x:=⟨_,rfl⟩;rw[i7,gM]at bh;obtain⟨c2,c4,c5,c8,-⟩:=h5.s.cs [2,4,5,8];simp only[bj,vi,Zx]at c2 c4 c5 c8;rw[gM]at c4;have gJ:R.agrees=if R.commit<N/\tt=(R.hard.term,0)then R.commits N else R:=by
    unfold Rf.agrees;rw[Il,i7]
   have ez:=zH (au.behind (au.refl h5) kw);have qA:R.commit<N/\tt=(R.hard.term,0)->Calls prog 124 #[.pointer (some ⟨g,0,none⟩),.int .i64 N] w5 fun e w'=>e=.returned (.tuple #[])/\au aa c q w5 g (R.commits N) w':=fun hc=>by
    rw[<-i7]at hc;have h1:=eU hc.2;have h2:=dG.out.room;exact ov N ha h5 hi fX (by omega) hN hn
   replace Il:=zH Il;replace i7:=zH i7;replace ER:=zH ER;clear h5;by_cases c1:R.commit<N
   ·by_cases c2:tt.2=0
    ·by_cases c3:tt.1=R.hard.term
     ·have Sp:tt=(R.hard.term,0):=by rw[<-c3,<-c2]
      rw[if_pos ⟨c1,Sp⟩]at gJ;have hc:=qA ⟨c1,Sp⟩;replace gJ:=zH gJ;have c2':(tt.2==0)=true:=by simp[c2]
      have c3':(tt.1==R.hard.term)=true:=by simp[c3]
      clear qA Sp c2 c3;go_wp2_with fail;refine bh.mono ?_;rintro e w6 ⟨rfl,rfl⟩;clear bh;go_wp2_with fail;refine hc.mono ?_;rintro e w7 ⟨rfl,hP⟩;have hQ:=zH (show au aa c q w g R.agrees w7 by rw[gJ.out];exact hP.behind kw);clear hc hP;go_wp2_with fail;exact cL rfl rfl ⟨rfl,hQ.out⟩
     ·rw[if_neg (fun hh=>c3 (by rw[hh.2]))]at gJ;replace gJ:=zH gJ;have c2':(tt.2==0)=true:=by simp[c2]
      have c3':(tt.1==R.hard.term)=false:=by simp[c3]
      clear qA c2 c3;go_wp2_with fail;refine bh.mono ?_;rintro e w6 ⟨rfl,rfl⟩;clear bh;go_wp2_with fail;exact cL rfl rfl ⟨rfl,by rw[gJ.out];exact ez.out⟩
    ·rw[if_neg (fun hh=>c2 (by rw[hh.2]))]at gJ;replace gJ:=zH gJ;have c2':(tt.2==0)=false:=by simp[c2]
     clear qA c2;go_wp2_with fail;refine bh.mono ?_;rintro e w6 ⟨rfl,rfl⟩;clear bh;go_wp2_with fail;exact cL rfl rfl ⟨rfl,by rw[gJ.out];exact ez.out⟩
   ·rw[if_neg (fun hh=>c1 hh.1)]at gJ;replace gJ:=zH gJ;clear qA;go_wp2_with fail;refine bh.mono ?_;rintro e w6 ⟨rfl,rfl⟩;clear bh;go_wp2_with fail;exact cL rfl rfl ⟨rfl,by rw[gJ.out];exact ez.out⟩
end
end Go.Proofs.YtjcninheccmpoaaGreat
