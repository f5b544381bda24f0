import Derived.Lib.Hide
import Derived.Handy
import Derived.Below
import Derived.Laws.OwnMore
import Derived.Maps.AppendAt
import Derived.Deep.AppendLies
import Derived.RegionTactic
import Derived.OwnWalk
import Derived.Deep.Draws
import Derived.Deep.RegionLaw
import Derived.Laws.Rows
import Derived.OrdersHeld
import Derived.BigQuiet
import Derived.Deep.Quiet
import Derived.Lib.SlBytesConst
import Derived.Test.YtjcninheccmpoaaGreatRows
import Derived.WalkMore
import Derived.ScopeJumps
import Derived.Lib.Hide
import Derived.Deep.QuietTactic
import Derived.Deep.RegionWith
import Derived.Laws.RangeString
import Derived.Laws.RangeAny
import Derived.ArgAppend
import Derived.Laws.Shifts
import Derived.Shelf.Strings.OnBuilder
import Derived.Test.YtjcninheccmpoaaGreatProg
import Derived.Lib.AppendStr
import Derived.Lib.Join
set_option maxRecDepth 100000
set_option maxHeartbeats 8000000
set_option linter.all false
namespace Go.Proofs.YtjcninheccmpoaaGreat
open Go.RowKit Go.Proofs.Tryz
theorem Za {a:Type}{l:List a}{i:Nat}:l.toArray[i]?=l[i]?:=List.getElem?_toArray
theorem Zb {a:Type}{x:a}{l:List a}:(x::l)[0]?=some x:=List.getElem?_cons_zero
theorem Zc {a:Type}{x:a}{l:List a}{i:Nat}:(x::l)[i+1]?=l[i]?:=List.getElem?_cons_succ
theorem Zd {a:Type}{l:List a}{i:Nat}{x:a}:l.toArray.setIfInBounds i x=(l.set i x).toArray:=List.setIfInBounds_toArray l i x
theorem Ze {a:Type}{x y:a}{l:List a}:(x::l).set 0 y=y::l:=List.set_cons_zero
theorem Zf {a:Type}{x y:a}{l:List a}{i:Nat}:(x::l).set (i+1) y=x::l.set i y:=List.set_cons_succ
theorem Zx {a:Type}:(∀(l:List a)(i:Nat),l.toArray[i]?=l[i]?)/\(∀(x:a)(l:List a),(x::l)[0]?=some x)/\∀(x:a)(l:List a)(i:Nat),(x::l)[i+1]?=l[i]?:=⟨fun _ _=>List.getElem?_toArray,fun _ _=>List.getElem?_cons_zero,fun _ _ _=>List.getElem?_cons_succ⟩
theorem Zy {a:Type}:(∀(l:List a)(i:Nat)(x:a),l.toArray.setIfInBounds i x=(l.set i x).toArray)/\(∀(x y:a)(l:List a),(x::l).set 0 y=y::l)/\∀(x y:a)(l:List a)(i:Nat),(x::l).set (i+1) y=x::l.set i y:=⟨fun l i x=>List.setIfInBounds_toArray l i x,fun _ _ _=>List.set_cons_zero,fun _ _ _ _=>List.set_cons_succ⟩
theorem zl {n:Nat}:n<=n:=Nat.le_refl n
theorem zz {n:Nat}:0<=n:=Nat.zero_le n
theorem zb {B:Nat}{w:World}:Below B w w:=Below.refl B w
theorem zN {a:Type _}(x:a):∃y,x=y:=⟨_,rfl⟩
theorem zH {p:Prop}(h:p):RowKit.Hid p:=h
theorem tI {a b:Type _}{x:a}{y:b}{p q:Prop}(h:q:=by simp):p\/(q/\x=x/\y=y):=.inr ⟨h,rfl,rfl⟩
theorem mx (fr:Nat->Value):(List.range 32).map fr=[fr 0,fr 1,fr 2,fr 3,fr 4,fr 5,fr 6,fr 7,fr 8,fr 9,fr 10,fr 11,fr 12,fr 13,fr 14,fr 15,fr 16,fr 17,fr 18,fr 19,fr 20,fr 21,fr 22,fr 23,fr 24,fr 25,fr 26,fr 27,fr 28,fr 29,fr 30,fr 31]:=by kernel_rfl
theorem kr (fr:Nat->Value):(List.range 50).map fr=[fr 0,fr 1,fr 2,fr 3,fr 4,fr 5,fr 6,fr 7,fr 8,fr 9,fr 10,fr 11,fr 12,fr 13,fr 14,fr 15,fr 16,fr 17,fr 18,fr 19,fr 20,fr 21,fr 22,fr 23,fr 24,fr 25,fr 26,fr 27,fr 28,fr 29,fr 30,fr 31,fr 32,fr 33,fr 34,fr 35,fr 36,fr 37,fr 38,fr 39,fr 40,fr 41,fr 42,fr 43,fr 44,fr 45,fr 46,fr 47,fr 48,fr 49]:=by kernel_rfl
theorem eZ (fr:Nat->Value):(List.range 69).map fr=[fr 0,fr 1,fr 2,fr 3,fr 4,fr 5,fr 6,fr 7,fr 8,fr 9,fr 10,fr 11,fr 12,fr 13,fr 14,fr 15,fr 16,fr 17,fr 18,fr 19,fr 20,fr 21,fr 22,fr 23,fr 24,fr 25,fr 26,fr 27,fr 28,fr 29,fr 30,fr 31,fr 32,fr 33,fr 34,fr 35,fr 36,fr 37,fr 38,fr 39,fr 40,fr 41,fr 42,fr 43,fr 44,fr 45,fr 46,fr 47,fr 48,fr 49,fr 50,fr 51,fr 52,fr 53,fr 54,fr 55,fr 56,fr 57,fr 58,fr 59,fr 60,fr 61,fr 62,fr 63,fr 64,fr 65,fr 66,fr 67,fr 68]:=by kernel_rfl
theorem nG (fr:Nat->Value):(List.range 76).map fr=[fr 0,fr 1,fr 2,fr 3,fr 4,fr 5,fr 6,fr 7,fr 8,fr 9,fr 10,fr 11,fr 12,fr 13,fr 14,fr 15,fr 16,fr 17,fr 18,fr 19,fr 20,fr 21,fr 22,fr 23,fr 24,fr 25,fr 26,fr 27,fr 28,fr 29,fr 30,fr 31,fr 32,fr 33,fr 34,fr 35,fr 36,fr 37,fr 38,fr 39,fr 40,fr 41,fr 42,fr 43,fr 44,fr 45,fr 46,fr 47,fr 48,fr 49,fr 50,fr 51,fr 52,fr 53,fr 54,fr 55,fr 56,fr 57,fr 58,fr 59,fr 60,fr 61,fr 62,fr 63,fr 64,fr 65,fr 66,fr 67,fr 68,fr 69,fr 70,fr 71,fr 72,fr 73,fr 74,fr 75]:=by kernel_rfl
theorem o6 (fr:Nat->Value):(List.range 77).map fr=[fr 0,fr 1,fr 2,fr 3,fr 4,fr 5,fr 6,fr 7,fr 8,fr 9,fr 10,fr 11,fr 12,fr 13,fr 14,fr 15,fr 16,fr 17,fr 18,fr 19,fr 20,fr 21,fr 22,fr 23,fr 24,fr 25,fr 26,fr 27,fr 28,fr 29,fr 30,fr 31,fr 32,fr 33,fr 34,fr 35,fr 36,fr 37,fr 38,fr 39,fr 40,fr 41,fr 42,fr 43,fr 44,fr 45,fr 46,fr 47,fr 48,fr 49,fr 50,fr 51,fr 52,fr 53,fr 54,fr 55,fr 56,fr 57,fr 58,fr 59,fr 60,fr 61,fr 62,fr 63,fr 64,fr 65,fr 66,fr 67,fr 68,fr 69,fr 70,fr 71,fr 72,fr 73,fr 74,fr 75,fr 76]:=by kernel_rfl
theorem tx (fr:Nat->Value):(List.range 88).map fr=[fr 0,fr 1,fr 2,fr 3,fr 4,fr 5,fr 6,fr 7,fr 8,fr 9,fr 10,fr 11,fr 12,fr 13,fr 14,fr 15,fr 16,fr 17,fr 18,fr 19,fr 20,fr 21,fr 22,fr 23,fr 24,fr 25,fr 26,fr 27,fr 28,fr 29,fr 30,fr 31,fr 32,fr 33,fr 34,fr 35,fr 36,fr 37,fr 38,fr 39,fr 40,fr 41,fr 42,fr 43,fr 44,fr 45,fr 46,fr 47,fr 48,fr 49,fr 50,fr 51,fr 52,fr 53,fr 54,fr 55,fr 56,fr 57,fr 58,fr 59,fr 60,fr 61,fr 62,fr 63,fr 64,fr 65,fr 66,fr 67,fr 68,fr 69,fr 70,fr 71,fr 72,fr 73,fr 74,fr 75,fr 76,fr 77,fr 78,fr 79,fr 80,fr 81,fr 82,fr 83,fr 84,fr 85,fr 86,fr 87]:=by kernel_rfl
theorem ii (fr:Nat->Value):(List.range 90).map fr=[fr 0,fr 1,fr 2,fr 3,fr 4,fr 5,fr 6,fr 7,fr 8,fr 9,fr 10,fr 11,fr 12,fr 13,fr 14,fr 15,fr 16,fr 17,fr 18,fr 19,fr 20,fr 21,fr 22,fr 23,fr 24,fr 25,fr 26,fr 27,fr 28,fr 29,fr 30,fr 31,fr 32,fr 33,fr 34,fr 35,fr 36,fr 37,fr 38,fr 39,fr 40,fr 41,fr 42,fr 43,fr 44,fr 45,fr 46,fr 47,fr 48,fr 49,fr 50,fr 51,fr 52,fr 53,fr 54,fr 55,fr 56,fr 57,fr 58,fr 59,fr 60,fr 61,fr 62,fr 63,fr 64,fr 65,fr 66,fr 67,fr 68,fr 69,fr 70,fr 71,fr 72,fr 73,fr 74,fr 75,fr 76,fr 77,fr 78,fr 79,fr 80,fr 81,fr 82,fr 83,fr 84,fr 85,fr 86,fr 87,fr 88,fr 89]:=by kernel_rfl
theorem jr (fr:Nat->Value):(List.range 100).map fr=[fr 0,fr 1,fr 2,fr 3,fr 4,fr 5,fr 6,fr 7,fr 8,fr 9,fr 10,fr 11,fr 12,fr 13,fr 14,fr 15,fr 16,fr 17,fr 18,fr 19,fr 20,fr 21,fr 22,fr 23,fr 24,fr 25,fr 26,fr 27,fr 28,fr 29,fr 30,fr 31,fr 32,fr 33,fr 34,fr 35,fr 36,fr 37,fr 38,fr 39,fr 40,fr 41,fr 42,fr 43,fr 44,fr 45,fr 46,fr 47,fr 48,fr 49,fr 50,fr 51,fr 52,fr 53,fr 54,fr 55,fr 56,fr 57,fr 58,fr 59,fr 60,fr 61,fr 62,fr 63,fr 64,fr 65,fr 66,fr 67,fr 68,fr 69,fr 70,fr 71,fr 72,fr 73,fr 74,fr 75,fr 76,fr 77,fr 78,fr 79,fr 80,fr 81,fr 82,fr 83,fr 84,fr 85,fr 86,fr 87,fr 88,fr 89,fr 90,fr 91,fr 92,fr 93,fr 94,fr 95,fr 96,fr 97,fr 98,fr 99]:=by kernel_rfl
theorem js (fr:Nat->Value):(List.range 110).map fr=[fr 0,fr 1,fr 2,fr 3,fr 4,fr 5,fr 6,fr 7,fr 8,fr 9,fr 10,fr 11,fr 12,fr 13,fr 14,fr 15,fr 16,fr 17,fr 18,fr 19,fr 20,fr 21,fr 22,fr 23,fr 24,fr 25,fr 26,fr 27,fr 28,fr 29,fr 30,fr 31,fr 32,fr 33,fr 34,fr 35,fr 36,fr 37,fr 38,fr 39,fr 40,fr 41,fr 42,fr 43,fr 44,fr 45,fr 46,fr 47,fr 48,fr 49,fr 50,fr 51,fr 52,fr 53,fr 54,fr 55,fr 56,fr 57,fr 58,fr 59,fr 60,fr 61,fr 62,fr 63,fr 64,fr 65,fr 66,fr 67,fr 68,fr 69,fr 70,fr 71,fr 72,fr 73,fr 74,fr 75,fr 76,fr 77,fr 78,fr 79,fr 80,fr 81,fr 82,fr 83,fr 84,fr 85,fr 86,fr 87,fr 88,fr 89,fr 90,fr 91,fr 92,fr 93,fr 94,fr 95,fr 96,fr 97,fr 98,fr 99,fr 100,fr 101,fr 102,fr 103,fr 104,fr 105,fr 106,fr 107,fr 108,fr 109]:=by kernel_rfl
theorem rf (fr:Nat->Value):(List.range 119).map fr=[fr 0,fr 1,fr 2,fr 3,fr 4,fr 5,fr 6,fr 7,fr 8,fr 9,fr 10,fr 11,fr 12,fr 13,fr 14,fr 15,fr 16,fr 17,fr 18,fr 19,fr 20,fr 21,fr 22,fr 23,fr 24,fr 25,fr 26,fr 27,fr 28,fr 29,fr 30,fr 31,fr 32,fr 33,fr 34,fr 35,fr 36,fr 37,fr 38,fr 39,fr 40,fr 41,fr 42,fr 43,fr 44,fr 45,fr 46,fr 47,fr 48,fr 49,fr 50,fr 51,fr 52,fr 53,fr 54,fr 55,fr 56,fr 57,fr 58,fr 59,fr 60,fr 61,fr 62,fr 63,fr 64,fr 65,fr 66,fr 67,fr 68,fr 69,fr 70,fr 71,fr 72,fr 73,fr 74,fr 75,fr 76,fr 77,fr 78,fr 79,fr 80,fr 81,fr 82,fr 83,fr 84,fr 85,fr 86,fr 87,fr 88,fr 89,fr 90,fr 91,fr 92,fr 93,fr 94,fr 95,fr 96,fr 97,fr 98,fr 99,fr 100,fr 101,fr 102,fr 103,fr 104,fr 105,fr 106,fr 107,fr 108,fr 109,fr 110,fr 111,fr 112,fr 113,fr 114,fr 115,fr 116,fr 117,fr 118]:=by kernel_rfl
theorem bq (fr:Nat->Value):(List.range 246).map fr=[fr 0,fr 1,fr 2,fr 3,fr 4,fr 5,fr 6,fr 7,fr 8,fr 9,fr 10,fr 11,fr 12,fr 13,fr 14,fr 15,fr 16,fr 17,fr 18,fr 19,fr 20,fr 21,fr 22,fr 23,fr 24,fr 25,fr 26,fr 27,fr 28,fr 29,fr 30,fr 31,fr 32,fr 33,fr 34,fr 35,fr 36,fr 37,fr 38,fr 39,fr 40,fr 41,fr 42,fr 43,fr 44,fr 45,fr 46,fr 47,fr 48,fr 49,fr 50,fr 51,fr 52,fr 53,fr 54,fr 55,fr 56,fr 57,fr 58,fr 59,fr 60,fr 61,fr 62,fr 63,fr 64,fr 65,fr 66,fr 67,fr 68,fr 69,fr 70,fr 71,fr 72,fr 73,fr 74,fr 75,fr 76,fr 77,fr 78,fr 79,fr 80,fr 81,fr 82,fr 83,fr 84,fr 85,fr 86,fr 87,fr 88,fr 89,fr 90,fr 91,fr 92,fr 93,fr 94,fr 95,fr 96,fr 97,fr 98,fr 99,fr 100,fr 101,fr 102,fr 103,fr 104,fr 105,fr 106,fr 107,fr 108,fr 109,fr 110,fr 111,fr 112,fr 113,fr 114,fr 115,fr 116,fr 117,fr 118,fr 119,fr 120,fr 121,fr 122,fr 123,fr 124,fr 125,fr 126,fr 127,fr 128,fr 129,fr 130,fr 131,fr 132,fr 133,fr 134,fr 135,fr 136,fr 137,fr 138,fr 139,fr 140,fr 141,fr 142,fr 143,fr 144,fr 145,fr 146,fr 147,fr 148,fr 149,fr 150,fr 151,fr 152,fr 153,fr 154,fr 155,fr 156,fr 157,fr 158,fr 159,fr 160,fr 161,fr 162,fr 163,fr 164,fr 165,fr 166,fr 167,fr 168,fr 169,fr 170,fr 171,fr 172,fr 173,fr 174,fr 175,fr 176,fr 177,fr 178,fr 179,fr 180,fr 181,fr 182,fr 183,fr 184,fr 185,fr 186,fr 187,fr 188,fr 189,fr 190,fr 191,fr 192,fr 193,fr 194,fr 195,fr 196,fr 197,fr 198,fr 199,fr 200,fr 201,fr 202,fr 203,fr 204,fr 205,fr 206,fr 207,fr 208,fr 209,fr 210,fr 211,fr 212,fr 213,fr 214,fr 215,fr 216,fr 217,fr 218,fr 219,fr 220,fr 221,fr 222,fr 223,fr 224,fr 225,fr 226,fr 227,fr 228,fr 229,fr 230,fr 231,fr 232,fr 233,fr 234,fr 235,fr 236,fr 237,fr 238,fr 239,fr 240,fr 241,fr 242,fr 243,fr 244,fr 245]:=by kernel_rfl
def YS(n:Nat):Nat:=if n%2=1 then(n/2) ^^^ 3988292384 else n/2
def Og:Nat->Nat->Nat
 | 0,n=>n
 | k+1,n=>YS (Og k n)
def Pi(n:Nat)(b:UInt8):Nat:=Og 8 (n ^^^ b.toNat)
def Pj(n:Nat)(l:List UInt8):Nat:=l.foldl Pi n
def Ux(s:Nat)(l:List UInt8):Nat:=4294967295-Pj (4294967295-s) l
theorem qX{a b:Bool}(h:a=b):Ending.returned (.bool a)=.returned (.bool b):=by rw[h]
theorem CM{α:Type}(l:List α)(z:α)(k:Nat)(h:k<l.length):l.take (k+1)=l.take k++[l[k]?.getD z]:=by
 rw[List.take_succ_eq_append_getElem h,List.getElem?_eq_getElem h];rfl
def YR(n k:Nat):Nat:=n/256^k
def ZL(k n:Nat):List UInt8:=(List.range k).map fun i=>UInt8.ofNat (YR n i)
def ZM(n k:Nat):Nat:=n/2^k
theorem zg{n k:Nat}(h:n<=k)(hk:k<=1000000000):n<=maxLen:=by unfold maxLen;omega
theorem dD(a:Addr)(n:Nat):(a.add n).block=a.block:=by unfold Addr.add;split <;> rfl
theorem fE(a:Addr)(i j:Nat):(a.add i).add j=a.add (i+j):=by
 unfold Addr.add;by_cases hi:i=0 <;> by_cases hj:j=0 <;> simp[hi,hj,Nat.add_assoc]
theorem iE(a:Addr):a.add 0=a:=by simp[Addr.add]
theorem aG{w:World}{p:Addr}{v:Value}(h:w.cell? p=some v):p.block<w.heap.size:=by
 rcases Nat.lt_or_ge p.block w.heap.size with bh|ud
 ·exact bh
 ·unfold World.cell? at h;rw[Array.getElem?_eq_none ud]at h;cases h
def cj(w:World)(size:Nat)(A:Option Addr)(n:Nat)(xs:List Value):Prop:=
 xs.length=n*size/\(0<n->∃ad,A=some ad/\∀j u,xs[j]?=some u->w.cell? (ad.add j)=some u)
section
variable {w w':World}{size n:Nat}{A:Option Addr}{xs:List Value}
theorem cj.none_:cj w size A 0 []:=⟨by simp,fun h=>absurd h (by omega)⟩
theorem cj.keep(h:cj w size A n xs)(hk:∀p:Addr,p.block<w.heap.size->w'.cell? p=w.cell? p):cj w' size A n xs:=
 ⟨h.1,fun hn=>by
  obtain⟨ad,e,hc⟩:=h.2 hn;exact⟨ad,e,fun j u hu=>(hk _ (aG (hc j u hu))).trans (hc j u hu)⟩⟩
theorem cj.below(h:cj w size A n xs)(hb:Below w.heap.size w w'):cj w' size A n xs:=h.keep fun _ hp=>hb.cell hp
theorem cj.alloc(h:cj w size A n xs)(o:Obj):cj (w.alloc o) size A n xs:=h.keep fun p hp=>World.cell?_alloc_lt w o p hp
theorem cj.cut(h:cj w size A n xs){k cap:Nat}(hk:k<=n)(hc:n<=cap) :
  cj w size (if cap=k then A else A.map (·.add (k*size))) (n-k) (xs.drop (k*size)):=by
 refine⟨by rw[List.length_drop,h.1,Nat.sub_mul],fun hn=>?_⟩;obtain⟨ad,rfl,aQ⟩:=h.2 (by omega);rw[if_neg (by omega)];refine⟨ad.add (k*size),rfl,fun j u hu=>?_⟩;rw[fE];exact aQ _ u (by rw[<-hu,List.getElem?_drop])
theorem cj.take(h:cj w size A n xs){k:Nat}(hk:k<=n):cj w size A k (xs.take (k*size)):=by
 refine⟨by rw[List.length_take,h.1];exact Nat.min_eq_left (Nat.mul_le_mul_right _ hk),fun hn=>?_⟩;obtain⟨ad,rfl,aQ⟩:=h.2 (by omega);refine⟨ad,rfl,fun j u hu=>aQ j u ?_⟩;rw[List.getElem?_take]at hu;split at hu
 ·exact hu
 ·cases hu
theorem cj.of_own{base:Nat}{e:TypeId}{c:Nat}(h:w.ownsRow base e size (.slice A n c) n xs):cj w size A n xs:=by
 refine⟨h.1,fun hn=>?_⟩;obtain⟨g,cap,hv,_,bh⟩:=h.form hn;have hA:A=some ⟨g,0,none⟩:=by injection hv
 subst hA;exact⟨_,rfl,h.cells (g:=g) rfl⟩
theorem qP{base:Nat}{e:TypeId}{v:Value}(h:w.ownsRow base e size v n xs):∃A c,v=.slice A n c/\n<=c/\c<=maxLen:=by
 rcases h.2 with⟨rfl,rfl⟩|⟨g,cap,cur,rfl,_,_,lO,hm,_⟩
 ·exact⟨_,_,rfl,Nat.le_refl _,Nat.zero_le _⟩
 ·exact⟨_,_,rfl,lO,hm⟩
theorem ek(base:Nat)(e:TypeId):w.ownsRow base e size (.slice none 0 0) 0 []:=⟨by simp,.inl ⟨rfl,rfl⟩⟩
theorem pN(T:TypeId)(cs:List Value)(n:Nat)(hn:cs.length=n*size)(hm:n<=maxLen) :
  (w.alloc (.cells cs.toArray T)).ownsRow w.heap.size T size (.slice (some ⟨w.heap.size,0,none⟩) n n) n cs:=
 ⟨hn,.inr ⟨_,_,cs.toArray,rfl,Nat.le_refl _,heap_alloc_new w _,Nat.le_refl _,hm,by simp[hn],by simp[<-hn]⟩⟩
theorem fY{base base':Nat}{e:TypeId}{v:Value}(h:w.ownsRow base e size v n xs)(hb:base'<=base):w.ownsRow base' e size v n xs:=by
 refine⟨h.1,?_⟩;rcases h.2 with h0|⟨g,cap,cur,h1,h2,h3⟩
 ·exact .inl h0
 ·exact .inr ⟨g,cap,cur,h1,by omega,h3⟩
theorem bF{base:Nat}{e:TypeId}{v:Value}(h:w.ownsRow base e size v n xs)(hb:Below w.heap.size w w'):w'.ownsRow base e size v n xs:=by
 refine⟨h.1,?_⟩;rcases h.2 with h0|⟨g,cap,cur,h1,h2,h3,h4⟩
 ·exact .inl h0
 ·refine .inr ⟨g,cap,cur,h1,h2,(hb.block g ?_).trans h3,h4⟩;rcases Nat.lt_or_ge g w.heap.size with bh|ud
  ·exact bh
  ·rw[Array.getElem?_eq_none ud]at h3;cases h3
theorem aY{B:Nat}{a:World}(h:Below B a w)(n:Nat):Below B a (w.drewN n):=⟨h.os,h.tape,h.output,h.size,h.block⟩
theorem aj{B:Nat}{a b c:World}(h:Below B a b)(h':Below b.heap.size b c)(hB:B<=a.heap.size):Below B a c:=
 h.trans (h'.mono (Nat.le_trans hB h.size))
end
def vb(b:UInt8):Value:=.int .u8 (b.toNat:Nat)
def Rd(w:World)(A:Option Addr)(n:Nat)(l:List UInt8):Prop:=cj w 1 A n (l.map vb)
section
variable {w w':World}{n:Nat}{A:Option Addr}{l:List UInt8}
theorem Rd.len(h:Rd w A n l):l.length=n:=by have:=h.1;simpa using this
theorem Rd.below(h:Rd w A n l)(hb:Below w.heap.size w w'):Rd w' A n l:=cj.below h hb
theorem zY(u:Value)(h:u∈l.map vb):u.oneCell'=true:=by
 obtain⟨b,_,rfl⟩:=List.mem_map.1 h;rfl
theorem Rd.one(w:World)(T:TypeId)(b:UInt8)(x:Int)(hx:x=(b.toNat:Nat)):Rd (w.alloc (.cells #[.int .u8 x] T)) (some ⟨w.heap.size,0,none⟩) 1 [b]:=by
 subst hx;refine⟨rfl,fun _=>⟨_,rfl,fun j u hu=>?_⟩⟩
 match j with
 | 0=>
  simp only[List.map_cons,List.map_nil,List.getElem?_cons_zero,Option.some.injEq]at hu;subst hu;rw[iE];exact cell_of_row _ _ 0 _ _ _ (heap_alloc_new w _)
 | j+1=>simp at hu
theorem eQ{base:Nat}{e:TypeId}{size:Nat}{v:Value}{xs:List Value}(h:w.ownsRow base e size v n xs)(hg:w.grownBy w' v.ownBlock)(hB:base<=w.heap.size):Below base w w':=
 zb.grown hg hB (fun k hk=>by
  rcases h.2 with⟨rfl,_⟩|⟨g,cap,cur,rfl,h2,_⟩
  ·simp[Value.ownBlock]at hk
  ·simp[Value.ownBlock]at hk;omega)
theorem Rd.of_own{base c:Nat}{e:TypeId}(h:w.ownsRow base e 1 (.slice A n c) n (l.map vb)):Rd w A n l:=cj.of_own h
end
section
variable {P:Program}(w:World)
theorem nH(base:Nat)(t ty e:TypeId)(i:TypeInfo)(size:Nat)(ht:P.underlying t=some (.slice e))(hi:P.info? e=some i)
  (v:Value) (n:Nat) (xs:List Value) (aJ:w.ownsRow base e size v n xs) (c:Nat):(Builtin.append_ #[t,t] ty #[v,.slice none 0 c]).run P w=.ok v w:=by
 rcases aJ.2 with⟨rfl,rfl⟩|⟨g,cap,cur,rfl,_,_,lO,_⟩
 ·simp[Builtin.append_,run_underlying ht,sizeOf,typeInfo,hi,Builtin.lenOf,Builtin.firstCells]
 ·simp[Builtin.append_,run_underlying ht,sizeOf,typeInfo,hi,Builtin.lenOf,Builtin.firstCells,lO,storeCells]
theorem ri(base:Nat)(t ty e:TypeId)(i:TypeInfo)(z:Value)(size bytes:Nat)(ht:P.underlying t=some (.slice e))(hi:P.info? e=some i)(hz:i.zero=some z)
  (lq:i.size=size) (Eg:i.bytes=bytes) (BY:z.cells.size=size) (gn:0<size)
  (v:Value) (n:Nat) (xs:List Value) (aJ:w.ownsRow base e size v n xs)
  (A:Option Addr) (m c:Nat) (news:List Value) (hr:cj w size A m news) (h1:∀u∈news,u.oneCell'=true)
  (Db:n+m<=maxLen) (g8:(n+m)*bytes<=140737488355328) (bD:base<=w.heap.size) :
  ∃v' w',(Builtin.append_ #[t,t] ty #[v,.slice A m c]).run P w=.ok v' w'/\w'.ownsRow base e size v' (n+m) (xs++news)/\w.grownBy w' v.ownBlock/\
   (v'.ownBlock=v.ownBlock\/v'.ownBlock=some w.heap.size):=by
 rcases A with _|ad
 ·have hm:m=0:=by
   rcases Nat.eq_zero_or_pos m with h0|h0
   ·exact h0
   ·obtain⟨ad,h,_⟩:=hr.2 h0;cases h
  subst hm;have hn:news=[]:=List.eq_nil_of_length_eq_zero (by simpa using hr.1);subst hn;exact⟨v,w,nH w base t ty e i size ht hi v n xs aJ c,by simpa using aJ,World.grownBy.refl w _,.inl rfl⟩
 ·have qi:∀j u,news[j]?=some u->w.cell? (ad.add j)=some u:=by
   intro j u hu;rcases Nat.eq_zero_or_pos m with h0|h0
   ·subst h0;have hn:news=[]:=List.eq_nil_of_length_eq_zero (by simpa using hr.1);subst hn;simp at hu
   ·obtain⟨ad',h,hc⟩:=hr.2 h0;injection h with h;subst h;exact hc j u hu
  obtain⟨v',w',kH,h2,h3,_,h5⟩:=run_append_own_at (P:=P) w base t ty e i z size bytes ht hi hz lq Eg BY gn v n xs aJ ad m c news hr.1 qi h1 Db g8 bD;exact⟨v',w',kH,h2,h3,h5⟩
theorem sD{o:Oper}{a:Act}{K:Act->World->Prop}{Q:Exit->Act->World->Prop}(s x:Operand)(t:TypeId)
  (ho:o.op=.call {callee:=.builtin .append,args:=#[s,x],argTypes:=#[t,t]})
  (base:Nat) (e:TypeId) (i:TypeInfo) (z:Value) (size bytes:Nat) (ht:P.underlying t=some (.slice e)) (hi:P.info? e=some i) (hz:i.zero=some z)
  (lq:i.size=size) (Eg:i.bytes=bytes) (BY:z.cells.size=size) (gn:0<size)
  (v:Value) (n:Nat) (xs:List Value) (hs:a.eval s=v) (aJ:w.ownsRow base e size v n xs)
  (A:Option Addr) (m c:Nat) (news:List Value) (hx:a.eval x=.slice A m c) (hr:cj w size A m news) (h1:∀u∈news,u.oneCell'=true)
  (Db:n+m<=maxLen) (g8:(n+m)*bytes<=140737488355328) (bD:base<=w.heap.size)
  (h:∀A' c' w',w'.ownsRow base e size (.slice A' (n+m) c') (n+m) (xs++news)->w.grownBy w' v.ownBlock->((Value.slice A' (n+m) c').ownBlock=v.ownBlock\/(Value.slice A' (n+m) c').ownBlock=some w.heap.size)->K (a.put o.dst (.slice A' (n+m) c')) w'):o.wp P a w K Q:=by
 obtain⟨v',w',kH,h2,h3,h4⟩:=ri (P:=P) w base t o.type e i z size bytes ht hi hz lq Eg BY gn v n xs aJ A m c news hr h1 Db g8 bD;obtain⟨A',c',rfl,_,_⟩:=qP h2;unfold Oper.wp execOp;simp only[ho,resolve,invoke,builtin,Sem.run_bind,Sem.run_pure,Result.andThen_ok,List.map_toArray,List.map_cons,List.map_nil,hs,hx,kH];exact h A' c' w' h2 h3 h4
theorem bj{ops:Array Oper}{rest:List Oper}{o:Oper}{a:Act}{Q:Exit->Act->World->Prop}(iJ:o.guard=none)(s x:Operand)(t:TypeId)
  (ho:o.op=.call {callee:=.builtin .append,args:=#[s,x],argTypes:=#[t,t]})
  (base:Nat) (e:TypeId) (i:TypeInfo) (z:Value) (size bytes:Nat) (ht:P.underlying t=some (.slice e)) (hi:P.info? e=some i) (hz:i.zero=some z)
  (lq:i.size=size) (Eg:i.bytes=bytes) (BY:z.cells.size=size) (gn:0<size)
  (v:Value) (n:Nat) (xs:List Value) (hs:a.eval s=v) (aJ:w.ownsRow base e size v n xs)
  (A:Option Addr) (m c:Nat) (news:List Value) (hx:a.eval x=.slice A m c) (hr:cj w size A m news) (h1:∀u∈news,u.oneCell'=true)
  (Db:n+m<=maxLen) (g8:(n+m)*bytes<=140737488355328) (bD:base<=w.heap.size)
  (h:∀A' c' w',w'.ownsRow base e size (.slice A' (n+m) c') (n+m) (xs++news)->w.grownBy w' v.ownBlock->((Value.slice A' (n+m) c').ownBlock=v.ownBlock\/(Value.slice A' (n+m) c').ownBlock=some w.heap.size)->wpList P ops Q rest (a.put o.dst (.slice A' (n+m) c')) w'):wpList P ops Q (o::rest) a w:=
 wpList_plain iJ fun _ hK=>sD w s x t ho base e i z size bytes ht hi hz lq Eg BY gn v n xs hs aJ A m c news hx hr h1 Db g8 bD fun A' c' w' h2 h3 h4=>hK _ _ (h A' c' w' h2 h3 h4)
end
def ay(w:World)(g:Nat)(T:TypeId)(cs:Array Value):Prop:=w.heap[g]?=some (.cells cs T (0,0))
section
variable {w w':World}{g:Nat}{T:TypeId}{cs:Array Value}
theorem ay.lt(h:ay w g T cs):g<w.heap.size:=by
 rcases Nat.lt_or_ge g w.heap.size with bh|ud
 ·exact bh
 ·unfold ay at h;rw[Array.getElem?_eq_none ud]at h;cases h
theorem ay.cell(h:ay w g T cs)(i:Nat):w.cell? ⟨g,i,none⟩=cs[i]?:=cell_of_row w g i cs T (0,0) h
theorem ay.free(h:ay w g T cs)(i:Nat):w.frozen? ⟨g,i,none⟩=false:=by
 unfold ay at h;simp[World.frozen?,h]
theorem ay.new(w:World)(T:TypeId)(cs:Array Value):ay (w.alloc (.cells cs T)) w.heap.size T cs:=heap_alloc_new w _
theorem ay.drewN(h:ay w g T cs)(n:Nat):ay (w.drewN n) g T cs:=h
theorem ay.alloc(h:ay w g T cs)(o:Obj):ay (w.alloc o) g T cs:=(Below.heap_alloc w o g h.lt).trans h
theorem ay.set_(h:ay w g T cs)(i:Nat)(u:Value):ay (w.setCell ⟨g,i,none⟩ u) g T (cs.setIfInBounds i u):=by
 unfold ay at h ⊢;simp[World.setCell,Array.getElem?_modify,h]
theorem ay.far(h:ay w g T cs){p:Addr}(hp:g≠p.block)(u:Value):ay (w.setCell p u) g T cs:=(Below.heap_setCell w p u g hp).trans h
theorem ay.below{B:Nat}(h:ay w g T cs)(hb:Below B w w')(hg:g<B):ay w' g T cs:=(hb.block g hg).trans h
theorem ay.kept(h:ay w g T cs)(hb:Below w.heap.size w w'):ay w' g T cs:=h.below hb h.lt
end
def AC (w:World)(g:Nat)(cs:Array Value):List Nat -> Prop
 |[]=>True
 |i::l=>w.cell? ⟨g,i,none⟩=cs[i]?/\AC w g cs l
theorem ay.cs {w:World}{g:Nat}{T:TypeId}{cs:Array Value}(h:ay w g T cs):∀l,AC w g cs l
 |[]=>trivial
 |i::l=>⟨h.cell i,ay.cs h l⟩
def AF (w:World)(g:Nat):List Nat -> Prop
 |[]=>True
 |i::l=>w.frozen? ⟨g,i,none⟩=false/\AF w g l
theorem ay.fs {w:World}{g:Nat}{T:TypeId}{cs:Array Value}(h:ay w g T cs):∀l,AF w g l
 |[]=>trivial
 |i::l=>⟨h.free i,ay.fs h l⟩
theorem zB (w:World)(T:TypeId)(cs:Array Value):∃v,w.alloc (.cells cs T)=v/\Below w.heap.size w v/\ay v w.heap.size T cs:=⟨_,rfl,(Below.refl _ _).alloc (Nat.le_refl _) _,ay.new w T cs⟩
def rW(o:Oper):Bool:=
 match o.op with
 | .call c=>(match c.callee with | .builtin .len=>true | .builtin .cap=>true|_=>false)
 | .store .. | .ready _ | .mapUpdate .. | .insert .. | .entryStore .. | .go _ | .defer _ | .select .. | .send .. | .recv .. | .panic _=>false
 | _=>true
theorem mR{α:Type}{r:Result α}{f:α->Value}{n:Next}{w':World}(h:(r.andThen fun a w1=>Result.ok (Next.value (f a)) w1)=.ok n w'):∃v,n=.value v:=by
 cases r with
 | ok a w1=>
  simp only[Result.andThen_ok,Result.ok.injEq]at h;exact⟨_,h.1.symm⟩
 | halt x w1=>cases h
def mC(P:Program)(s:Sem Next):Prop:=∀w n w',s.run P w=.ok n w'->∃v,n=.value v
theorem mC.bind{α:Type}{P:Program}{s:Sem α}{f:α->Sem Next}(h:∀a,mC P (f a)):mC P (s >>=f):=by
 intro w n w' hr;rw[Sem.run_bind]at hr;cases he:s.run P w with
 | ok a w1=>rw[he]at hr;exact h a w1 n w' hr
 | halt x w1=>rw[he]at hr;cases hr
theorem mC.pure{P:Program}(v:Value):mC P (Pure.pure (Next.value v)):=by
 intro w n w' h;simp only[Sem.run_pure,Result.ok.injEq]at h;exact⟨_,h.1.symm⟩
theorem mC.nil{P:Program}:mC P (runtimePanic RuntimeError.nilDeref):=by
 intro w n w' h;simp[runtimePanic,goPanic,program,Sem.run]at h
theorem ye(P:Program)(ρ:Operand->Value)(o:Oper)(hc:rW o=true)(w w':World)(n:Next)(h:(execOp ρ o).run P w=.ok n w'):∃v,n=.value v:=by
 obtain⟨dst,op,type,pos,after,guard⟩:=o;cases op
 case call c=>
  obtain⟨callee,args,argTypes⟩:=c;cases callee with
  | value f=>simp[rW]at hc
  | invoke r m=>simp[rW]at hc
  | builtin b=>
   cases b <;> simp[rW]at hc
   all_goals
    simp only[execOp,resolve,invoke,builtin]at h;simp only[Sem.run_bind,Sem.run_pure,Result.andThen_ok]at h;exact mR (f:=id) h
 case nilCheck x=>
  simp only[execOp]at h;split at h
  all_goals first
   | (simp only[Sem.run_pure,Result.ok.injEq]at h;exact⟨_,h.1.symm⟩)
   | exact mC.nil w n w' h
   | skip
  split at h
  ·exact mC.nil w n w' h
  ·refine mC.bind (fun _=>mC.bind fun _=>?_) w n w' h;split
   ·exact mC.bind fun _=>mC.pure _
   ·exact mC.pure _
  ·exact mC.pure _ w n w' h
 all_goals first
  | (simp[rW]at hc;done)
  | (simp only[execOp,Sem.run_bind,Sem.run_pure]at h;first|exact mR (f:=id) h|exact mR h|(simp only[Result.ok.injEq]at h;exact⟨_,h.1.symm⟩))
def bG(C:World->Prop)(next:Act->World->Prop)(Q:Exit->Act->World->Prop):Exit->Act->World->Prop
 | .normal,a,w=>C w/\next a w
 | e,a,w=>Q e a w
def af(l:List Oper):List Nat->List Oper
 | []=>[]
 | i::is=>match l[i]? with
  | some o=>o::af l is
  | none=>af l is
def lI(P:Program)(l:List Oper)(C:World->Prop)(Q:Exit->Act->World->Prop):List (List Nat×Nat)->List Nat->Act->World->Prop
 | [],last,a,w=>wpQuiet P l.toArray C (fun a'=>Q .normal a' w) (af l last) a
 | (seg,i)::more,last,a,w=>wpQuiet P l.toArray C (fun a'=>wpList P l.toArray (bG C (lI P l C Q more last) Q) (af l [i]) a' w) (af l seg) a
def ch(l:List Oper):List Nat->Array Bool->Option (Array Bool)
 | [],listed=>some listed
 | i::is,listed=>
  if(Region.ready .any l.toArray listed).contains i&&Region.free .any l.toArray listed i&&((l[i]?).map rW).getD false then ch l is (listed.setIfInBounds i true)else none
def qK(l:List Oper):List (List Nat×Nat)->List Nat->Array Bool->Bool
 | [],last,listed=>match ch l last listed with
  | some r=>(Region.ready .any l.toArray r).isEmpty
  | none=>false
 | (seg,i)::more,last,listed=>match ch l seg listed with
  | some r=>Region.ready .any l.toArray r==[i]&&qK l more last (r.setIfInBounds i true)
  | none=>false
def Kt(l:List Oper)(segs:List (List Nat×Nat))(last:List Nat):Bool:=
 Region.noSelect l.toArray&&(segs.map (fun s=>s.1.length+1)).sum+last.length==l.length&&qK l segs last (Array.replicate l.length false)
section
variable {P:Program}{l:List Oper}{C:World->Prop}{Q:Exit->Act->World->Prop}
theorem tv(a:Act)(d:Option Tmp)(v:Value):(a.put d v).defers=a.defers:=by cases d <;> rfl
theorem aC{seg last:List Nat}{i:Nat}{more:List (List Nat×Nat)}{a:Act}{w:World}
  (h:∀K:Act->World->Prop,(∀a w,lI P l C Q more last a w->K a w)->wpQuiet P l.toArray C (fun a'=>wpList P l.toArray (bG C K Q) (af l [i]) a' w) (af l seg) a) :
  lI P l C Q ((seg,i)::more) last a w:=h _ (fun _ _ h=>h)
theorem an{last:List Nat}{a:Act}{w:World}(h:wpQuiet P l.toArray C (fun a'=>Q .normal a' w) (af l last) a):lI P l C Q [] last a w:=h
theorem jk{o:Oper}{a:Act}{K:Act->Prop}(hc:rW o=true)(h:wpQuiet P l.toArray C K [o] a) :
  ∃v,YieldsIf P l.toArray C o v a/\K (a.put o.dst v):=by
 unfold wpQuiet at h;by_cases hw:Region.wanted o (yielded l.toArray a.tmps)=true
 ·rw[if_pos hw]at h;obtain⟨v,hv,hk⟩:=h;refine⟨v,.inl ⟨hw,fun w hCw=>?_⟩,hk⟩;have h1:=hv w hCw;unfold Oper.quietAt at h1;cases hr:(execOp a.eval o).run P w with
  | halt x w1=>rw[hr]at h1;exact h1.elim
  | ok n w1=>
   obtain⟨u,rfl⟩:=ye P a.eval o hc w w1 n hr;rw[hr]at h1;obtain⟨rfl,rfl⟩:=h1;rfl
 ·rw[if_neg hw]at h;exact⟨undef,.inr ⟨by simpa using hw,rfl⟩,h⟩
theorem eR(hs:Region.noSelect l.toArray=true)(hQ:∀c (a b:Act) w,a.defers=b.defers->Q (.panic c) a w->Q (.panic c) b w)(seg:List Nat) :
  ∀(listed r:Array Bool) (a:Act) (w:World) (fuel:Nat) (K:Act->Prop),ch l seg listed=some r->C w->wpQuiet P l.toArray C K (af l seg) a->
   (∀a',K a'->wpAnyH P .any l.toArray Q C fuel r a' w)->wpAnyH P .any l.toArray Q C (seg.length+fuel) listed a w:=by
 induction seg with
 | nil=>
  intro listed r a w fuel K hr hC h hK;simp only[ch,Option.some.injEq]at hr;subst hr;simpa using hK a h
 | cons i is ih=>
  intro listed r a w fuel K hr hC h hK;unfold ch at hr;by_cases hb:((Region.ready .any l.toArray listed).contains i&&Region.free .any l.toArray listed i&&((l[i]?).map rW).getD false)=true
  ·rw[if_pos hb]at hr;simp only[Bool.and_eq_true]at hb;obtain⟨⟨eb,ag⟩,eW⟩:=hb;cases ho:l[i]? with
   | none=>rw[ho]at eW;cases eW
   | some o=>
    rw[ho]at eW;have hp:af l (i::is)=o::af l is:=by simp[af,ho]
    rw[hp]at h;have h':wpQuiet P l.toArray C (wpQuiet P l.toArray C K (af l is)) [o] a:=h;obtain⟨v,hy,hn⟩:=jk eW h';rw[show(i::is).length+fuel=(is.length+fuel)+1 by simp;omega];exact wpAnyH_take (by simpa using ho) hs ag eb (fun c a w hq=>hQ c _ _ w (tv _ _ _) hq) hy hC (ih _ r _ w fuel K hr hC hn hK)
  ·rw[if_neg hb]at hr;cases hr
theorem tF{o:Oper}{a:Act}{w:World}{next K K':Act->World->Prop}(h:∀a w,K a w->K' a w)(hh:o.wp P a w K (bG C next Q)):o.wp P a w K' Q:=by
 unfold Oper.wp at *;generalize(execOp a.eval o).run P w=r at *;cases r with
 | ok n w'=>
  cases n <;> simp only[Oper.upon]at hh ⊢ <;>
   first
    | exact h _ _ hh
    | exact Calls.mono hh (fun e w'' he=>by cases e <;> first|exact h _ _ he|exact he)
    | exact Rows.mono hh (fun _ _ he=>h _ _ he)
 | halt x w'=>cases x <;> simp only[Oper.upon]at hh ⊢ <;> exact hh
theorem HK(hs:Region.noSelect l.toArray=true)(hQ:∀c (a b:Act) w,a.defers=b.defers->Q (.panic c) a w->Q (.panic c) b w)(last:List Nat)(segs:List (List Nat×Nat)) :
  ∀(listed:Array Bool) (a:Act) (w:World),qK l segs last listed=true->C w->lI P l C Q segs last a w->
   wpAnyH P .any l.toArray Q C ((segs.map (fun s=>s.1.length+1)).sum+last.length) listed a w:=by
 induction segs with
 | nil=>
  intro listed a w hr hC h;unfold qK at hr;cases hc:ch l last listed with
  | none=>rw[hc]at hr;cases hr
  | some r=>
   rw[hc]at hr;have:=eR (P:=P) (C:=C) (Q:=Q) hs hQ last listed r a w 0 (fun a'=>Q .normal a' w) hc hC h (fun a' ha=>wpAnyH_done (by simpa using hr) ha 0);simpa using this
 | cons s more ih=>
  obtain⟨seg,i⟩:=s;intro listed a w hr hC h;unfold qK at hr;cases hc:ch l seg listed with
  | none=>rw[hc]at hr;cases hr
  | some r=>
   rw[hc]at hr;simp only[Bool.and_eq_true,beq_iff_eq]at hr;obtain⟨eb,EK⟩:=hr;have ab:(((seg,i)::more).map (fun s=>s.1.length+1)).sum+last.length=seg.length+(((more.map (fun s=>s.1.length+1)).sum+last.length)+1):=by
    simp;omega
   rw[ab];refine eR (P:=P) (C:=C) (Q:=Q) hs hQ seg listed r a w _ _ hc hC h fun a' ha=>?_
   refine wpAnyH_all eb (by simp) fun j hj=>?_
   obtain rfl:j=i:=by simpa using hj
   have mI:j∈Region.ready .any l.toArray r:=by rw[eb];simp
   obtain⟨_,o,ho,_⟩:=mem_ready.1 mI;have JT:l[j]?=some o:=by simpa using ho
   have hp:af l [j]=[o]:=by simp[af,JT]
   rw[hp]at ha;unfold wpOp;rw[ho];simp only[];unfold wpList at ha;have jb:∀a2 w2,wpList P l.toArray (bG C (lI P l C Q more last) Q) [] a2 w2->C w2/\wpAnyH P .any l.toArray Q C ((more.map (fun s=>s.1.length+1)).sum+last.length) (r.setIfInBounds j true) a2 w2:=
    fun a2 w2 h2=>⟨h2.1,ih _ a2 w2 EK h2.1 h2.2⟩
   split
   ·rename_i hw;rw[if_pos hw]at ha;exact ha.imp (tF jb) (fun h2=>h2)
   ·rename_i hw;rw[if_neg hw]at ha;exact jb _ _ ha
theorem bo{id:Nat}{a:Act}{w:World}(segs:List (List Nat×Nat))(last:List Nat)(hm:P.follows .mixedOrders=true)(hB:Kt l segs last=true)
  (hQ:∀c (a b:Act) w,a.defers=b.defers->Q (.panic c) a w->Q (.panic c) b w) (hC:C w.drew) (h:lI P l C Q segs last a w.drew):(Code.region id l.toArray true).wp P Q a w:=by
 simp only[Kt,Bool.and_eq_true,beq_iff_eq]at hB;obtain⟨⟨hs,ab⟩,aD⟩:=hB;refine wp_region_held (S:=C) hm ?_;have:=HK (P:=P) hs hQ last segs _ a w.drew aD hC h;rw[ab]at this;simpa using this
end
def Pc:World->Prop:=fun w'=>∃x:World,w'=x
attribute [go_sem] Pc
def Dp(B:Nat)(w:World):Type:={w':World // Below B w w'}
instance (B:Nat) (w:World):Nonempty (Dp B w):=⟨⟨w,Below.refl _ _⟩⟩
def uu(B:Nat)(w:World):World->Prop:=fun w'=>∃x:Dp B w,w'=x.1
attribute [go_sem] uu
theorem eT{B:Nat}{w w':World}(h:Below B w w'):uu B w w':=⟨⟨w',h⟩,rfl⟩
theorem dL{B:Nat}{w:World}{p:Addr}{v:Value}(h:w.cell? p=some v)(hB:p.block<B):∀x:Dp B w,x.1.cell? p=some v:=
 fun x=>(x.2.cell hB).trans h
def vi(z:Int):Value:=.int .i64 z
def jK(w:World)(A:Option Addr)(n:Nat)(l:List Int):Prop:=cj w 1 A n (l.map vi)
section
variable {w w':World}{n:Nat}{A:Option Addr}{l:List Int}
theorem jK.len(h:jK w A n l):l.length=n:=by have:=h.1;simpa using this
theorem jK.at_(h:jK w A n l){k:Nat}(hk:k<n):∃ad,A=some ad/\w.cell? (ad.add k)=some (.int .i64 (l[k]?.getD 0)):=by
 obtain⟨ad,e,hc⟩:=h.2 (by omega);refine⟨ad,e,hc k _ ?_⟩;have hl:=h.len;rw[List.getElem?_map,List.getElem?_eq_getElem (by omega)];rfl
theorem jK.none_:jK w A 0 []:=cj.none_
theorem jK.alloc(h:jK w A n l)(o:Obj):jK (w.alloc o) A n l:=cj.alloc h o
theorem jK.of_own{base c:Nat}{e:TypeId}(h:w.ownsRow base e 1 (.slice A n c) n (l.map vi)):jK w A n l:=cj.of_own h
theorem KD(u:Value)(h:u∈l.map vi):u.oneCell'=true:=by
 obtain⟨b,_,rfl⟩:=List.mem_map.1 h;rfl
theorem jK.lit(w:World)(T:TypeId)(fz:Nat×Nat)(l:List Int)(cs:Array Value)(n g:Nat)(hc:cs.toList=l.map vi)(hn:l.length=n)(hg:w.heap.size=g) :
  jK (w.alloc (.cells cs T fz)) (some ⟨g,0,none⟩) n l:=by
 subst hg;refine⟨by simp[hn],fun _=>⟨_,rfl,fun j u hu=>?_⟩⟩;have e:(⟨w.heap.size,0,none⟩:Addr).add j=⟨w.heap.size,j,none⟩:=by unfold Addr.add;split <;> simp[*]
 rw[e,cell_of_row _ _ j _ _ _ (heap_alloc_new w _),<-hu,<-hc];simp
theorem lw{base c:Nat}{e:TypeId}(h:w.ownsRow base e 1 (.slice A n c) n (l.map vi)){k:Nat}(hk:k<n) :
  ∃g,A=some ⟨g,0,none⟩/\base<=g/\w.cell? ⟨g,k,none⟩=some (.int .i64 (l[k]?.getD 0))/\w.frozen? ⟨g,k,none⟩=false:=by
 obtain⟨g,cap,hv,hb,_⟩:=h.form (by omega);injection hv with hA _ hc;subst hA;subst hc;refine⟨g,rfl,hb,?_,h.frozenAt k⟩;have hl:l.length=n:=by have:=h.1;simpa using this
 rw[h.cellAt k (by omega),List.getElem?_map,List.getElem?_eq_getElem (by omega)];rfl
end
theorem aZ{w:World}{base e size n c:Nat}{A:Option Addr}{xs:List Value}(h:w.ownsRow base e size (.slice A n c) n xs):n<=c/\c<=maxLen:=by
 rcases h.2 with⟨h0,_⟩|⟨g,cap,cur,h0,_,_,lO,hm,_⟩
 ·injection h0 with _ _ hc;subst hc;exact⟨by omega,Nat.zero_le _⟩
 ·injection h0 with _ _ hc;subst hc;exact⟨lO,hm⟩
theorem qA:(prog.info? 3).map (fun i=>(i.zero,i.size,i.bytes))=some (some (.int .i64 0),1,8):=by kernel_rfl
theorem b9{w:World}{ops:Array Oper}{rest:List Oper}{o:Oper}{a:Act}{Q:Exit->Act->World->Prop}(iJ:o.guard=none)(s x:Operand)
  (ho:o.op=.call {callee:=.builtin .append,args:=#[s,x],argTypes:=#[76,76]})
  (base:Nat) {A:Option Addr} {n c:Nat} {l:List Int} (hs:a.eval s=.slice A n c) (aJ:w.ownsRow base 3 1 (.slice A n c) n (l.map vi))
  {B:Option Addr} {m d:Nat} {r:List Int} (hx:a.eval x=.slice B m d) (hr:jK w B m r) (hb:n+m<=1000000000000) (bD:base<=w.heap.size)
  (h:∀A' c' w',w'.ownsRow base 3 1 (.slice A' (n+m) c') (n+m) ((l++r).map vi)->w.grownBy w' (Value.slice A n c).ownBlock->Below base w w'->wpList prog ops Q rest (a.put o.dst (.slice A' (n+m) c')) w'):wpList prog ops Q (o::rest) a w:=by
 obtain⟨i0,fT,gv,fC,fK⟩:=info_parts qA;refine bj w iJ s x 76 ho base 3 i0 _ 1 8 underlying76 fT gv fC fK rfl (by omega) _ n _ hs aJ B m d _ hx hr (fun u hu=>KD u hu) (by unfold maxLen;omega) (by omega) bD ?_;intro A' c' w' h1 h2 _;exact h A' c' w' (by rw[List.map_append];exact h1) h2 (eQ aJ h2 bD)
def Lr(s:ByteArray):Value:=.string s
structure Fa where
 paths:List (List ByteArray)
 vals:List Int
structure En where
 idx:Int
 term:Int
 op:Int
 sess:Int
 seq:Int
 facts:List Fa
def jx:En:=⟨0,0,0,0,0,[]⟩
section
variable {α:Type}{f:α->List Value}{k:Nat}
theorem eG(hf:∀z,(f z).length=k)(l:List α):(l.flatMap f).length=l.length*k:=by
 induction l with
 | nil=>simp
 | cons z l ih=>rw[List.flatMap_cons,List.length_append,ih,hf,List.length_cons,Nat.succ_mul];omega
theorem cB(hf:∀z,(f z).length=k){l:List α}{i j:Nat}{z:α}(hj:j<k)(hz:l[i]?=some z):(l.flatMap f)[i*k+j]?=(f z)[j]?:=by
 induction l generalizing i with
 | nil=>simp at hz
 | cons y l ih=>
  rw[List.flatMap_cons];cases i with
  | zero=>
   simp only[List.getElem?_cons_zero,Option.some.injEq]at hz;subst hz;rw[Nat.zero_mul,Nat.zero_add,List.getElem?_append_left (by rw[hf];exact hj)]
  | succ i=>
   simp only[List.getElem?_cons_succ]at hz;have e:(i+1)*k+j=(f y).length+(i*k+j):=by rw[hf,Nat.succ_mul];omega
   rw[e,List.getElem?_append_right (Nat.le_add_right _ _),Nat.add_sub_cancel_left];exact ih hz
theorem jB(hf:∀z,(f z).length=k)(l:List α)(m:Nat):(l.take m).flatMap f=(l.flatMap f).take (m*k):=by
 induction l generalizing m with
 | nil=>simp
 | cons y l ih=>
  cases m with
  | zero=>simp
  | succ m=>
   rw[List.take_succ_cons,List.flatMap_cons,List.flatMap_cons,ih,List.take_append,hf];have e1:(m+1)*k-k=m*k:=by rw[Nat.succ_mul];omega
   rw[e1,List.take_of_length_le (l:=f y) (by rw[hf,Nat.succ_mul];omega)]
theorem jz(hf:∀z,(f z).length=k)(l:List α)(m:Nat):(l.drop m).flatMap f=(l.flatMap f).drop (m*k):=by
 induction l generalizing m with
 | nil=>simp
 | cons y l ih=>
  cases m with
  | zero=>simp
  | succ m=>
   rw[List.drop_succ_cons,List.flatMap_cons,ih,List.drop_append,hf];have e1:(m+1)*k-k=m*k:=by rw[Nat.succ_mul];omega
   rw[e1,show List.drop ((m+1)*k) (f y)=[]from List.drop_eq_nil_of_le (by rw[hf,Nat.succ_mul];omega),List.nil_append]
end
def Sl(S:Nat->Prop)(w:World)(size:Nat)(v:Value)(n:Nat)(xs:List Value):Prop:=
 ∃A c,v=.slice A n c/\cj w size A n xs/\n<=c/\c<=maxLen/\(0<n->∀ad,A=some ad->S ad.block)
def b5(S:Nat->Prop)(w w':World):Prop:=∀j,S j->j<w.heap.size->w'.heap[j]?=w.heap[j]?
section
variable {S S':Nat->Prop}{w w':World}
theorem b5.below(h:Below w.heap.size w w'):b5 S w w':=fun _ _ hj=>h.block _ hj
theorem cj.stay{size n:Nat}{A:Option Addr}{xs:List Value}(h:cj w size A n xs)(hA:0<n->∀ad,A=some ad->S ad.block)(hk:b5 S w w'):cj w' size A n xs:=by
 refine⟨h.1,fun h0=>?_⟩;obtain⟨ad,rfl,hc⟩:=h.2 h0;refine⟨ad,rfl,fun j u hu=>?_⟩;have h1:=hc j u hu;have bh:=aG h1;have e:(ad.add j).block=ad.block:=dD ad j;rw[<-h1];exact World.cell?_of_block (by rw[e]at bh ⊢;exact hk _ (hA h0 ad rfl) bh)
theorem cj.lt{size n:Nat}{A:Option Addr}{xs:List Value}{ad:Addr}(h:cj w size A n xs)(h0:0<n)(hs:0<size)(hA:A=some ad):ad.block<w.heap.size:=by
 subst hA;obtain⟨ad',e,hc⟩:=h.2 h0;injection e with e;subst e;have hl:0<xs.length:=by rw[h.1];exact Nat.mul_pos h0 hs
 have:=aG (hc 0 _ (List.getElem?_eq_getElem hl))
 rwa [dD]at this
theorem Sl.keep{size n:Nat}{v:Value}{xs:List Value}(h:Sl S w size v n xs)(hk:b5 S w w'):Sl S w' size v n xs:=by
 obtain⟨A,c,rfl,hr,h1,h2,h3⟩:=h;exact⟨A,c,rfl,hr.stay h3 hk,h1,h2,h3⟩
theorem Sl.mono{size n:Nat}{v:Value}{xs:List Value}(h:Sl S w size v n xs)(hs:0<size)(hS:∀j,j<w.heap.size->S j->S' j):Sl S' w size v n xs:=by
 obtain⟨A,c,rfl,hr,h1,h2,h3⟩:=h;exact⟨A,c,rfl,hr,h1,h2,fun h0 ad e=>hS _ (hr.lt h0 hs e) (h3 h0 ad e)⟩
theorem Sl.nil(S:Nat->Prop)(w:World)(size:Nat):Sl S w size (.slice none 0 0) 0 []:=⟨none,0,rfl,cj.none_,Nat.le_refl _,Nat.zero_le _,fun h=>absurd h (by omega)⟩
theorem Sl.of_own{base size n c:Nat}{e:TypeId}{A:Option Addr}{xs:List Value}(h:w.ownsRow base e size (.slice A n c) n xs)(hS:∀g,base<=g->g<w.heap.size->(∃cs,w.heap[g]?=some (.cells cs e (0,0)))->S g):Sl S w size (.slice A n c) n xs:=by
 have hb:=aZ h;refine⟨A,c,rfl,cj.of_own h,hb.1,hb.2,fun h0 ad e=>?_⟩;subst e;rcases h.2 with⟨h1,_⟩|⟨g,cap,cur,h1,h2,h3,_⟩
 ·cases h1
 ·injection h1 with h1;injection h1 with h1;subst h1;refine hS g h2 ?_ ⟨cur,h3⟩;rcases Nat.lt_or_ge g w.heap.size with bh|ud
  ·exact bh
  ·rw[Array.getElem?_eq_none ud]at h3;cases h3
def fH(S:Nat->Prop)(w:World)(v:Value)(p:List ByteArray):Prop:=Sl S w 1 v p.length (p.map Lr)
def fu(S:Nat->Prop)(w:World)(v:Value)(l:List Int):Prop:=Sl S w 1 v l.length (l.map vi)
def dt(S:Nat->Prop)(w:World)(v:Value)(ps:List (List ByteArray)):Prop:=∃vs,Sl S w 1 v ps.length vs/\∀(i:Nat) p,ps[i]?=some p->∃u,vs[i]?=some u/\fH S w u p
def Lw(y:Value×Value):List Value:=[y.1,y.2]
theorem tR(y:Value×Value):(Lw y).length=2:=rfl
def aN(S:Nat->Prop)(w:World)(v:Value)(fs:List Fa):Prop:=
 ∃ys:List (Value×Value),Sl S w 2 v fs.length (ys.flatMap Lw)/\ys.length=fs.length/\∀(i:Nat) f,fs[i]?=some f->∃y,ys[i]?=some y/\dt S w y.1 f.paths/\fu S w y.2 f.vals
def dE(z:Value×En):List Value:=[vi z.2.idx,vi z.2.term,vi z.2.op,vi z.2.sess,vi z.2.seq,z.1]
theorem gR(z:Value×En):(dE z).length=6:=rfl
def bA(S:Nat->Prop)(w:World)(zs:List (Value×En)):Prop:=∀z∈zs,aN S w z.1 z.2.facts
theorem fH.keep{v:Value}{p:List ByteArray}(h:fH S w v p)(hk:b5 S w w'):fH S w' v p:=Sl.keep h hk
theorem fH.mono{v:Value}{p:List ByteArray}(h:fH S w v p)(hS:∀j,j<w.heap.size->S j->S' j):fH S' w v p:=Sl.mono h (by omega) hS
theorem fu.keep{v:Value}{p:List Int}(h:fu S w v p)(hk:b5 S w w'):fu S w' v p:=Sl.keep h hk
theorem fu.mono{v:Value}{p:List Int}(h:fu S w v p)(hS:∀j,j<w.heap.size->S j->S' j):fu S' w v p:=Sl.mono h (by omega) hS
theorem dt.keep{v:Value}{p:List (List ByteArray)}(h:dt S w v p)(hk:b5 S w w'):dt S w' v p:=by
 obtain⟨vs,h1,h2⟩:=h;exact⟨vs,h1.keep hk,fun i p hp=>by obtain⟨u,h3,h4⟩:=h2 i p hp;exact⟨u,h3,h4.keep hk⟩⟩
theorem dt.mono{v:Value}{p:List (List ByteArray)}(h:dt S w v p)(hS:∀j,j<w.heap.size->S j->S' j):dt S' w v p:=by
 obtain⟨vs,h1,h2⟩:=h;exact⟨vs,h1.mono (by omega) hS,fun i p hp=>by obtain⟨u,h3,h4⟩:=h2 i p hp;exact⟨u,h3,h4.mono hS⟩⟩
theorem aN.keep{v:Value}{p:List Fa}(h:aN S w v p)(hk:b5 S w w'):aN S w' v p:=by
 obtain⟨ys,h1,h0,h2⟩:=h;exact⟨ys,h1.keep hk,h0,fun i f hf=>by obtain⟨y,h3,h4,h5⟩:=h2 i f hf;exact⟨y,h3,h4.keep hk,h5.keep hk⟩⟩
theorem aN.mono{v:Value}{p:List Fa}(h:aN S w v p)(hS:∀j,j<w.heap.size->S j->S' j):aN S' w v p:=by
 obtain⟨ys,h1,h0,h2⟩:=h;exact⟨ys,h1.mono (by omega) hS,h0,fun i f hf=>by obtain⟨y,h3,h4,h5⟩:=h2 i f hf;exact⟨y,h3,h4.mono hS,h5.mono hS⟩⟩
theorem aN.nil(S:Nat->Prop)(w:World):aN S w (.slice none 0 0) []:=⟨[],Sl.nil S w 2,rfl,fun i f h=>by cases h⟩
theorem bA.keep{zs:List (Value×En)}(h:bA S w zs)(hk:b5 S w w'):bA S w' zs:=fun z hz=>(h z hz).keep hk
theorem bA.mono{zs:List (Value×En)}(h:bA S w zs)(hS:∀j,j<w.heap.size->S j->S' j):bA S' w zs:=fun z hz=>(h z hz).mono hS
theorem bA.sub{zs ys:List (Value×En)}(h:bA S w zs)(hs:∀y∈ys,y∈zs):bA S w ys:=fun y hy=>h y (hs y hy)
theorem bA.append{zs ys:List (Value×En)}(h:bA S w zs)(h':bA S w ys):bA S w (zs++ys):=fun z hz=>by
 rcases List.mem_append.1 hz with h1|h1
 ·exact h z h1
 ·exact h' z h1
end
def vD(w:World)(A:Option Addr)(n:Nat)(l:List ByteArray):Prop:=cj w 1 A n (l.map Lr)
theorem vD.len{w:World}{A:Option Addr}{n:Nat}{l:List ByteArray}(h:vD w A n l):l.length=n:=by have:=h.1;simpa using this
theorem vD.at_{w:World}{A:Option Addr}{n:Nat}{l:List ByteArray}(h:vD w A n l){k:Nat}(hk:k<n):∃ad s,A=some ad/\l[k]?=some s/\w.cell? (ad.add k)=some (.string s):=by
 obtain⟨ad,e,hc⟩:=h.2 (by omega);have hl:=h.len;refine⟨ad,l[k]'(by omega),e,List.getElem?_eq_getElem (by omega),hc k _ ?_⟩;rw[List.getElem?_map,List.getElem?_eq_getElem (by omega)];rfl
theorem vD.below{w w':World}{A:Option Addr}{n:Nat}{l:List ByteArray}(h:vD w A n l)(hb:Below w.heap.size w w'):vD w' A n l:=cj.below h hb
def Lp(r:Nat):Bool:=decide (97<=r/\r<=122\/48<=r/\r<=57\/r=45\/r=95)
def eY(s:ByteArray):Bool:=decide (1<=s.size/\s.size<=12/\∀i (h:i<s.size),Lp (s[i]'h).toNat=true)
theorem AP{r:Nat}(h:Lp r=true):(97<=r/\r<=122)\/(48<=r/\r<=57)\/r=45\/r=95:=of_decide_eq_true h
theorem Kv{r:Nat}(h:Lp r=false):r<45\/(45<r/\r<48)\/(57<r/\r<95)\/r=96\/122<r:=by
 have:=of_decide_eq_false h;omega
theorem us(s:ByteArray):s.toList.isEmpty=decide (s.size=0):=by
 rw[Bool.eq_iff_iff,List.isEmpty_iff,ByteArray.toList_eq,decide_eq_true_eq,<-List.length_eq_zero_iff];exact Iff.rfl
theorem xu(n:Nat):(!decide (n=0)&&decide ((n:Int)<=12))=decide (1<=n/\n<=12):=by
 rw[Bool.eq_iff_iff,Bool.and_eq_true,Bool.not_eq_true',decide_eq_true_eq,decide_eq_false_iff_not,decide_eq_true_eq];omega
theorem Fk(s:ByteArray)(w:World):Calls prog 203 #[.string s] w fun e w'=>e=.returned (.bool (eY s))/\Below w.heap.size w w':=by
 go_enter func203,ntmps203
 go_wp2
 have Qs:∀pos,Below w.heap.size w (w.iter s pos):=fun pos=>zb.alloc zl _
 go_loopw [4,7,8,9,10,11,12,13,14,15,16,17,18,19,20,21,22,23,24,25,26,27,28,29,30,31,32] (fun _ _ _ _ _ _ _ _ _ _ _ _ _ _ _ _ _ _ _ _ _ _ _ _ _ _ _ w'=>∃pos:Nat,pos<=s.size/\w'=w.iter s pos/\∀i (h:i<s.size),i<pos->Lp (s[i]'h).toNat=true) (fun _ _ _ _ _ _ _ _ _ _ _ _ _ _ _ _ _ _ _ _ _ _ _ _ _ _ _ w'=>s.size-w'.iterPos w.heap.size)
 case atStart=>exact⟨0,Nat.zero_le _,rfl,fun i _ h=>by omega⟩
 case round=>
  obtain⟨pos,RI,rfl,cz⟩:=hrel;have Hok:=zH cz;clear cz;by_cases hp:pos<s.size
  ·by_cases ha:(s[pos]'hp).toNat<128
   ·have dM:∀ty,(Instr.next (.pointer (some ⟨w.heap.size,0,none⟩)) true ty).run prog (w.iter s pos)=_:=fun ty=>run_next_ascii w s pos ty hp ha
    cases BQ:Lp (s[pos]'hp).toNat with
    | true=>
     have bP:∀i (h:i<s.size),i<pos+1->Lp (s[i]'h).toNat=true:=fun i h hi=>by
      rcases Nat.lt_or_ge i pos with h1|h1
      ·exact Hok.out i h h1
      ·obtain rfl:i=pos:=by omega
       exact BQ
     have Hst:=zH bP;have gf:=AP BQ;clear bP BQ;generalize(s[pos]'hp).toNat=r at *;rcases gf with⟨h1,h2⟩|⟨h1,h2⟩|h1|h1
     all_goals
      go_wp2
      go_roundw
      case rel=>exact⟨pos+1,by omega,rfl,Hst.out⟩
      case measure=>simp;omega
    | false=>
     have cH:eY s=false:=decide_eq_false fun e=>by have:=e.2.2 pos hp;rw[BQ]at this;cases this
     have Hne:=zH cH;have gf:=Kv BQ;clear cH BQ;generalize(s[pos]'hp).toNat=r at *;rcases gf with h1|⟨h1,h2⟩|⟨h1,h2⟩|h1|h1
     all_goals
      have E1:(((r:Nat):Int)==45)=false:=by simp;omega
      have E2:(((r:Nat):Int)==95)=false:=by simp;omega
      go_wp2
      all_goals first
       | (go_ret;exact⟨by rw[Hne.out];rfl,Qs _⟩)
       | (exfalso;rename_i hx;simp only[Bool.not_eq_false',decide_eq_true_eq]at hx;omega)
   ·have dM:∀ty,(Instr.next (.pointer (some ⟨w.heap.size,0,none⟩)) true ty).run prog (w.iter s pos)=_:=fun ty=>run_next_any w s pos ty hp
    have cH:eY s=false:=decide_eq_false fun e=>by
     have h1:=e.2.2 pos hp;have h2:=AP h1;omega
    have Hne:=zH cH;have Q7:=(decode_high s pos hp (by omega)).1;clear cH ha;generalize(Utf8.decode s pos).1=r at *;generalize(Utf8.decode s pos).2=k at *;have E1:(((r:Nat):Int)==45)=false:=by simp;omega
    have E2:(((r:Nat):Int)==95)=false:=by simp;omega
    go_wp2
    all_goals first
     | (go_ret;exact⟨by rw[Hne.out];rfl,Qs _⟩)
     | (exfalso;rename_i hx;simp only[Bool.not_eq_false',decide_eq_true_eq]at hx;omega)
  ·obtain rfl:pos=s.size:=by omega
   have dM:∀ty,(Instr.next (.pointer (some ⟨w.heap.size,0,none⟩)) true ty).run prog (w.iter s s.size)=_:=fun ty=>run_next_end w s s.size ty hp
   have cH:eY s=decide (1<=s.size/\s.size<=12):=by
    unfold eY;exact decide_eq_decide.2 ⟨fun h=>⟨h.1,h.2.1⟩,fun h=>⟨h.1,h.2,fun i hi=>Hok.out i hi hi⟩⟩
   have Hne:=zH cH;have Hse:=zH (us s);clear cH
   go_wp2
   all_goals
    go_ret;refine⟨?_,Qs _⟩;rw[Hne.out];have h1:=Hse.out;rename_i hx
   ·rw[hx]at h1;exact qX (decide_eq_false (fun h=>by have:=of_decide_eq_true h1.symm;omega)).symm
   ·refine qX ?_;rw[h1,xu]
theorem zh{s:ByteArray}(h:eY s=true):s.size<=12:=(of_decide_eq_true h).2.1
theorem oX(s:ByteArray)(w:World):Calls prog 202 #[.string s] w fun e w'=>e=.returned (.bool (!eY s))/\Below w.heap.size w w':=by
 go_enter func202,ntmps202;go_wp2_with fail;refine(Fk _ _).mono ?_;rintro e w' ⟨rfl,hb⟩
 go_wp2
 go_ret;exact⟨rfl,hb⟩
def jG{α:Type}(p:α->Bool):List α->Int
 | []=>-1
 | x::l=>if p x then 0 else if jG p l<0 then -1 else jG p l+1
theorem HD{α:Type}(p:α->Bool)(l:List α):-1<=jG p l:=by
 induction l with
 | nil=>simp[jG]
 | cons x l ih=>unfold jG;split <;> (try split) <;> omega
theorem ur{α:Type}(p:α->Bool)(l:List α)(k:Nat)(x:α)(hx:l[k]?=some x)(hp:p x=true)(hb:∀j y,j<k->l[j]?=some y->p y=false):jG p l=k:=by
 induction l generalizing k with
 | nil=>simp at hx
 | cons y l ih=>
  cases k with
  | zero=>
   simp at hx;subst hx;simp[jG,hp]
  | succ k=>
   have h0:=hb 0 y (by omega) rfl;have:=ih k (by simpa using hx) (fun j z hj hz=>hb (j+1) z (by omega) (by simpa using hz));unfold jG;rw[h0,this];simp;omega
theorem ov{α:Type}(p:α->Bool)(l:List α)(hb:∀(j:Nat) y,l[j]?=some y->p y=false):jG p l=-1:=by
 induction l with
 | nil=>rfl
 | cons y l ih=>
  have h0:=hb 0 y rfl;have:=ih (fun j z hz=>hb (j+1) z (by simpa using hz));unfold jG;rw[h0,this];simp
theorem qx{α:Type}(p:α->Bool)(l:List α):decide (0<=jG p l)=l.any p:=by
 induction l with
 | nil=>rfl
 | cons y l ih=>
  have:=HD p l;rw[List.any_cons,<-ih];show decide (0<=if p y=true then 0 else if jG p l<0 then -1 else jG p l+1)=_;cases p y
  ·by_cases h:jG p l<0
   ·rw[if_neg (by simp),if_pos h,decide_eq_false (by omega),decide_eq_false (by omega)];rfl
   ·rw[if_neg (by simp),if_neg h,decide_eq_true (by omega),decide_eq_true (by omega)];rfl
  ·simp
theorem wI(A:Option Addr)(n c:Nat)(l:List ByteArray)(w:World)(hr:vD w A n l)(hn:n<=maxLen)  :
  Calls prog 208 #[.slice A n c,.func (.func 202) #[] #[]] w fun e w'=>e=.returned (.int .i64 (jG (fun s=>!eY s) l))/\Below w.heap.size w w':=by
 unfold maxLen at hn;have H1:=zH hr.len;go_enter func208,ntmps208;go_wp2_with fail
 go_loopw [8] (fun i wr=>∃k:Nat,k<=n/\i=.int .i64 k/\(∀j y,j<k->l[j]?=some y->(fun s=>!eY s) y=false)/\Below w.heap.size w wr) (fun i _=>n-(intOf i).toNat)
 case atStart=>exact⟨0,Nat.zero_le _,rfl,fun j y hj=>by omega,Below.refl _ _⟩
 case round=>
  obtain⟨k,hk,rfl,dn,hb⟩:=hrel;have Hno:=zH dn;clear dn;by_cases bh:k<n
  ·obtain⟨ad,s,rfl,xV,hc⟩:=(hr.below hb).at_ bh;cases Au:eY s with
   | false=>
    have Hix:=zH (ur (fun s=>!eY s) l k s xV (by rw[Au];rfl) Hno.out);clear xV;go_wp2_with fail;refine(oX _ _).mono ?_;rintro e w' ⟨rfl,bH⟩;rw[Au]
    go_wp2
    go_ret;exact⟨by rw[Hix.out];rfl,aj hb bH zl⟩
   | true=>
    have Hst:=zH (show ∀j y,j<k+1->l[j]?=some y->(fun s=>!eY s) y=false from fun j y hj hy=>by
     rcases Nat.lt_or_ge j k with h|h
     ·exact Hno.out j y h hy
     ·obtain rfl:j=k:=by omega
      obtain rfl:s=y:=Option.some.inj (xV.symm.trans hy);show(!eY s)=false;rw[Au];rfl)
    clear xV;go_wp2_with fail;refine(oX _ _).mono ?_;rintro e w' ⟨rfl,bH⟩;rw[Au]
    go_wp2
    go_roundw
    case rel=>exact⟨k+1,by omega,by go_num,Hst.out,aj hb bH zl⟩
    case measure=>simp[intOf];omega
  ·obtain rfl:k=n:=by omega
   have Hix:=zH (ov (fun s=>!eY s) l (fun j y hy=>Hno.out j y (by rw[<-H1.out];exact(List.getElem?_eq_some_iff.1 hy).1) hy))
   go_wp2
   go_ret;exact⟨by rw[Hix.out];rfl,hb⟩
theorem vM(A:Option Addr)(n c:Nat)(l:List ByteArray)(w:World)(hr:vD w A n l)(hn:n<=maxLen)  :
  Calls prog 201 #[.slice A n c,.func (.func 202) #[] #[]] w fun e w'=>e=.returned (.bool (l.any fun s=>!eY s))/\Below w.heap.size w w':=by
 have Hix:=zH (qx (fun s=>!eY s) l);go_enter func201,ntmps201;go_wp2_with fail;refine(wI _ _ _ _ _ hr hn).mono ?_;rintro e w' ⟨rfl,hb⟩;generalize jG (fun s=>!eY s) l=ix at *
 go_wp2
 go_ret;exact⟨by rw[<-Hix.out];rfl,hb⟩
def ib(p:List ByteArray):Bool:=decide (p.length<=3)&&!(p.any fun s=>!eY s)
theorem wW{p:List ByteArray}(h:ib p=true):p.length<=3:=by
 unfold ib at h;rw[Bool.and_eq_true,decide_eq_true_eq]at h;exact h.1
theorem Ca{p:List ByteArray}(h:ib p=true):∀s∈p,eY s=true:=fun s hs=>by
 unfold ib at h;rw[Bool.and_eq_true,Bool.not_eq_true']at h;cases hn:eY s with
 | true=>rfl
 | false=>
  have h1:(p.any fun s=>!eY s)=true:=List.any_eq_true.2 ⟨s,hs,by rw[hn];rfl⟩;rw[h.2]at h1;cases h1
theorem ux(A:Option Addr)(n c:Nat)(l:List ByteArray)(w:World)(hr:vD w A n l)(hn:n<=maxLen) :
  Calls prog 193 #[.slice A n c] w fun e w'=>e=.returned (.bool (ib l))/\Below w.heap.size w w':=by
 have H1:=zH hr.len;by_cases h3:n<=3
 ·have hm:=zH (show ib l=!(l.any fun s=>!eY s) by unfold ib;rw[decide_eq_true (by rw[H1.out];exact h3)];rfl);go_enter func193,ntmps193;go_wp2_with fail;refine(vM _ _ _ _ _ hr hn).mono ?_;rintro e w' ⟨rfl,hb⟩
  go_wp2
  go_ret;exact⟨by rw[hm.out];rfl,hb⟩
 ·have hm:=zH (show ib l=false by unfold ib;rw[decide_eq_false (by rw[H1.out];exact h3)];rfl);have h4:decide ((n:Int)<=3)=false:=by simp;omega
  go_enter func193,ntmps193;go_wp2_with fail;go_ret;exact⟨by rw[hm.out];rfl,Below.refl _ _⟩
def mS(z:Int):Bool:=decide (-2305843009213693952<=z)&&decide (z<=2305843009213693952)
theorem DD(z:Int)(w:World):Calls prog 196 #[.int .i64 z] w fun e w'=>e=.returned (.bool (mS z))/\w=w':=by
 unfold mS;by_cases h:-2305843009213693952<=z
 ·go_enter func196,ntmps196;go_wp2_with fail;go_ret;exact⟨by simp[h],rfl⟩
 ·go_enter func196,ntmps196;go_wp2_with fail;go_ret;exact⟨by simp;omega,rfl⟩
theorem qN(z:Int)(w:World):Calls prog 195 #[.int .i64 z] w fun e w'=>e=.returned (.bool (!mS z))/\w=w':=by
 go_enter func195,ntmps195;go_wp2_with fail;refine(DD _ _).mono ?_;rintro e w' ⟨rfl,rfl⟩;obtain⟨b,hb⟩:=zN (mS z);rw[hb];have Hb:=zH hb;clear hb
 go_wp2
 go_ret;exact⟨by rw[Hb.out];rfl,rfl⟩
theorem yY(A:Option Addr)(n c:Nat)(l:List Int)(w:World)(hr:jK w A n l)(hn:n<=maxLen)  :
  Calls prog 204 #[.slice A n c,.func (.func 195) #[] #[]] w fun e w'=>e=.returned (.int .i64 (jG (fun z:Int=>!mS z) l))/\w=w':=by
 unfold maxLen at hn;have H1:=zH hr.len;go_enter func204,ntmps204;go_wp2_with fail
 go_loop [8] (fun i=>∃k:Nat,k<=n/\i=.int .i64 k/\(∀j y,j<k->l[j]?=some y->(fun z:Int=>!mS z) y=false)) (fun i=>n-(intOf i).toNat)
 case atStart=>exact⟨0,Nat.zero_le _,rfl,fun j y hj=>by omega⟩
 case round=>
  obtain⟨k,hk,rfl,dn⟩:=hrel;have Hno:=zH dn;clear dn;by_cases bh:k<n
  ·obtain⟨ad,rfl,hc⟩:=hr.at_ bh;have xV:l[k]?=some (l[k]?.getD 0):=by rw[List.getElem?_eq_getElem (by rw[H1.out];exact bh)];rfl
   generalize l[k]?.getD 0=s at *;cases Au:!mS s with
   | true=>
    have Hix:=zH (ur (fun z:Int=>!mS z) l k s xV Au Hno.out);clear xV;go_wp2_with fail;refine(qN _ _).mono ?_;rintro e w' ⟨rfl,rfl⟩;rw[Au]
    go_wp2
    go_ret;exact⟨by rw[Hix.out];rfl,rfl⟩
   | false=>
    have Hst:=zH (show ∀j y,j<k+1->l[j]?=some y->(fun z:Int=>!mS z) y=false from fun j y hj hy=>by
     rcases Nat.lt_or_ge j k with h|h
     ·exact Hno.out j y h hy
     ·obtain rfl:j=k:=by omega
      obtain rfl:s=y:=Option.some.inj (xV.symm.trans hy);exact Au)
    clear xV;go_wp2_with fail;refine(qN _ _).mono ?_;rintro e w' ⟨rfl,rfl⟩;rw[Au]
    go_wp2
    go_round
    case rel=>exact⟨k+1,by omega,by go_num,Hst.out⟩
    case measure=>simp[intOf];omega
  ·obtain rfl:k=n:=by omega
   have Hix:=zH (ov (fun z:Int=>!mS z) l (fun j y hy=>Hno.out j y (by rw[<-H1.out];exact(List.getElem?_eq_some_iff.1 hy).1) hy))
   go_wp2
   go_ret;exact⟨by rw[Hix.out];rfl,rfl⟩
theorem yk(A:Option Addr)(n c:Nat)(l:List Int)(w:World)(hr:jK w A n l)(hn:n<=maxLen)  :
  Calls prog 194 #[.slice A n c,.func (.func 195) #[] #[]] w fun e w'=>e=.returned (.bool (l.any fun z:Int=>!mS z))/\w=w':=by
 have Hix:=zH (qx (fun z:Int=>!mS z) l);go_enter func194,ntmps194;go_wp2_with fail;refine(yY _ _ _ _ _ hr hn).mono ?_;rintro e w' ⟨rfl,rfl⟩;generalize jG (fun z:Int=>!mS z) l=ix at *
 go_wp2
 go_ret;exact⟨by rw[<-Hix.out];rfl,rfl⟩
section
variable {S:Nat->Prop}{w:World}{v:Value}
theorem fu.form{l:List Int}(h:fu S w v l):∃A n c,v=.slice A n c/\n<=c/\c<=maxLen/\l.length=n:=by
 obtain⟨A,c,e,_,h1,h2,_⟩:=h;exact⟨A,_,c,e,h1,h2,rfl⟩
theorem fu.rd{A:Option Addr}{n c:Nat}{l:List Int}(h:fu S w (.slice A n c) l):jK w A n l:=by
 obtain⟨A',c',e,h1,_⟩:=h;injection e with e1 e2 e3;subst e1;subst e2;exact h1
theorem fH.form{p:List ByteArray}(h:fH S w v p):∃A n c,v=.slice A n c/\n<=c/\c<=maxLen/\p.length=n:=by
 obtain⟨A,c,e,_,h1,h2,_⟩:=h;exact⟨A,_,c,e,h1,h2,rfl⟩
theorem fH.rd{A:Option Addr}{n c:Nat}{p:List ByteArray}(h:fH S w (.slice A n c) p):vD w A n p:=by
 obtain⟨A',c',e,h1,_⟩:=h;injection e with e1 e2 e3;subst e1;subst e2;exact h1
theorem dt.form{ps:List (List ByteArray)}(h:dt S w v ps):∃A n c,v=.slice A n c/\n<=c/\c<=maxLen/\ps.length=n:=by
 obtain⟨_,⟨A,c,e,_,h1,h2,_⟩,_⟩:=h;exact⟨A,_,c,e,h1,h2,rfl⟩
theorem dt.at_{A:Option Addr}{n c k:Nat}{ps:List (List ByteArray)}(h:dt S w (.slice A n c) ps)(hk:k<n) :
  ∃ad p B m d,A=some ad/\ps[k]?=some p/\w.cell? (ad.add k)=some (.slice B m d)/\fH S w (.slice B m d) p/\m<=d/\d<=maxLen/\p.length=m:=by
 obtain⟨vs,⟨A',c',e,hr,_⟩,h2⟩:=h;injection e with e1 e2 e3;subst e1;subst e2;obtain⟨ad,rfl,hc⟩:=hr.2 (by omega);obtain⟨u,hu,hp⟩:=h2 k _ (List.getElem?_eq_getElem hk);obtain⟨B,m,d,rfl,h3,h4,h5⟩:=hp.form;exact⟨ad,_,B,m,d,rfl,List.getElem?_eq_getElem hk,hc k _ hu,hp,h3,h4,h5⟩
theorem aN.form{fs:List Fa}(h:aN S w v fs):∃A n c,v=.slice A n c/\n<=c/\c<=maxLen/\fs.length=n:=by
 obtain⟨_,⟨A,c,e,_,h1,h2,_⟩,_⟩:=h;exact⟨A,_,c,e,h1,h2,rfl⟩
theorem jy(ad:Addr)(i:Nat)(hi:0<i):ad.add i=⟨ad.block,ad.off+i,none⟩:=by
 unfold Addr.add;rw[if_neg (by omega)]
theorem aN.at_{A:Option Addr}{n c k:Nat}{fs:List Fa}(h:aN S w (.slice A n c) fs)(hk:k<n) :
  ∃ad f B m d C q r,A=some ad/\fs[k]?=some f/\w.cell? (ad.add (k*2))=some (.slice B m d)/\w.cell? ⟨(ad.add (k*2)).block,(ad.add (k*2)).off+1,none⟩=some (.slice C q r)/\dt S w (.slice B m d) f.paths/\fu S w (.slice C q r) f.vals/\
   m<=d/\d<=maxLen/\f.paths.length=m/\q<=r/\r<=maxLen/\f.vals.length=q:=by
 obtain⟨ys,⟨A',c',e,hr,_⟩,hl,h2⟩:=h;injection e with e1 e2 e3;subst e1;subst e2;obtain⟨ad,rfl,hc⟩:=hr.2 (by omega);obtain⟨⟨y1,y2⟩,hy,hp,hi⟩:=h2 k _ (List.getElem?_eq_getElem hk);obtain⟨B,m,d,e1,h3,h4,h5⟩:=hp.form;obtain⟨C,q,r,e2,h6,h7,h8⟩:=hi.form;obtain rfl:y1=_:=e1;obtain rfl:y2=_:=e2;have c0:=hc (k*2+0) _ ((cB tR (j:=0) (by omega) hy).trans rfl);have c1:=hc (k*2+1) _ ((cB tR (j:=1) (by omega) hy).trans rfl);rw[<-fE,jy _ 1 (by omega)]at c1;exact⟨ad,_,B,m,d,C,q,r,rfl,List.getElem?_eq_getElem hk,c0,c1,hp,hi,h3,h4,h5,h6,h7,h8⟩
end
theorem oY(A:Option Addr)(n c:Nat)(l:List ByteArray)(w:World)(hr:vD w A n l)(hn:n<=maxLen) :
  Calls prog 192 #[.slice A n c] w fun e w'=>e=.returned (.bool (!ib l))/\Below w.heap.size w w':=by
 go_enter func192,ntmps192;go_wp2_with fail;refine(ux _ _ _ _ _ hr hn).mono ?_;rintro e w' ⟨rfl,hb⟩;obtain⟨b,kI⟩:∃b,ib l=b:=⟨_,rfl⟩;rw[kI];have Hb:=zH kI;clear kI
 go_wp2
 go_ret;exact⟨by rw[Hb.out];rfl,hb⟩
theorem wJ(A:Option Addr)(n c:Nat)(S:Nat->Prop)(l:List (List ByteArray))(w:World)(hr:dt S w (.slice A n c) l)(hn:n<=maxLen)  :
  Calls prog 200 #[.slice A n c,.func (.func 192) #[] #[]] w fun e w'=>e=.returned (.int .i64 (jG (fun s=>!ib s) l))/\Below w.heap.size w w':=by
 unfold maxLen at hn;have H1:=zH (show l.length=n by obtain⟨_,_,_,e,_,_,h⟩:=hr.form;injection e with _ e;rw[h,<-e]);go_enter func200,ntmps200;go_wp2_with fail
 go_loopw [8] (fun i wr=>∃k:Nat,k<=n/\i=.int .i64 k/\(∀j y,j<k->l[j]?=some y->(fun s=>!ib s) y=false)/\Below w.heap.size w wr) (fun i _=>n-(intOf i).toNat)
 case atStart=>exact⟨0,Nat.zero_le _,rfl,fun j y hj=>by omega,Below.refl _ _⟩
 case round=>
  obtain⟨k,hk,rfl,dn,hb⟩:=hrel;have Hno:=zH dn;clear dn;by_cases bh:k<n
  ·obtain⟨ad,s,B,m,d,rfl,xV,hc,hp,Dk,KX,_⟩:=(hr.keep (b5.below (hb))).at_ bh;cases Au:ib s with
   | false=>
    have Hix:=zH (ur (fun s=>!ib s) l k s xV (by rw[Au];rfl) Hno.out);clear xV;go_wp2_with fail;refine(oY _ _ _ _ _ hp.rd (Nat.le_trans Dk KX)).mono ?_;rintro e w' ⟨rfl,bH⟩;rw[Au]
    go_wp2
    go_ret;exact⟨by rw[Hix.out];rfl,aj hb bH zl⟩
   | true=>
    have Hst:=zH (show ∀j y,j<k+1->l[j]?=some y->(fun s=>!ib s) y=false from fun j y hj hy=>by
     rcases Nat.lt_or_ge j k with h|h
     ·exact Hno.out j y h hy
     ·obtain rfl:j=k:=by omega
      obtain rfl:s=y:=Option.some.inj (xV.symm.trans hy);show(!ib s)=false;rw[Au];rfl)
    clear xV;go_wp2_with fail;refine(oY _ _ _ _ _ hp.rd (Nat.le_trans Dk KX)).mono ?_;rintro e w' ⟨rfl,bH⟩;rw[Au]
    go_wp2
    go_roundw
    case rel=>exact⟨k+1,by omega,by go_num,Hst.out,aj hb bH zl⟩
    case measure=>simp[intOf];omega
  ·obtain rfl:k=n:=by omega
   have Hix:=zH (ov (fun s=>!ib s) l (fun j y hy=>Hno.out j y (by rw[<-H1.out];exact(List.getElem?_eq_some_iff.1 hy).1) hy))
   go_wp2
   go_ret;exact⟨by rw[Hix.out];rfl,hb⟩
theorem vN(A:Option Addr)(n c:Nat)(S:Nat->Prop)(l:List (List ByteArray))(w:World)(hr:dt S w (.slice A n c) l)(hn:n<=maxLen)  :
  Calls prog 191 #[.slice A n c,.func (.func 192) #[] #[]] w fun e w'=>e=.returned (.bool (l.any fun s=>!ib s))/\Below w.heap.size w w':=by
 have Hix:=zH (qx (fun s=>!ib s) l);go_enter func191,ntmps191;go_wp2_with fail;refine(wJ _ _ _ _ _ _ hr hn).mono ?_;rintro e w' ⟨rfl,hb⟩;generalize jG (fun s=>!ib s) l=ix at *
 go_wp2
 go_ret;exact⟨by rw[<-Hix.out];rfl,hb⟩
def gN(f:Fa):Bool:=!(f.paths.any fun p=>!ib p)&&(!(f.vals.any fun z:Int=>!mS z)&&(decide (f.paths.length<=3)&&decide (f.vals.length<=2)))
theorem yd(S:Nat->Prop)(A B:Option Addr)(n c m d:Nat)(f:Fa)(w:World)(hp:dt S w (.slice A n c) f.paths)(hv:fu S w (.slice B m d) f.vals)(hn:n<=maxLen)(hm:m<=maxLen) :
  Calls prog 185 #[.agg #[.slice A n c,.slice B m d]] w fun e w'=>e=.returned (.bool (gN f))/\Below w.heap.size w w':=by
 have ob:Below w.heap.size w (w.alloc (.cells #[.slice A n c,.slice B m d] 191)):=zb.alloc zl _;have eB:=ay.new w 191 #[.slice A n c,.slice B m d];have sY:=hp.keep (b5.below (S:=S) ob);have ax:=hv.keep (b5.below (S:=S) ob);have H1:=zH (show f.paths.length=n by obtain⟨_,_,_,e,_,_,h⟩:=hp.form;injection e with _ e;rw[h,<-e]);have H2:=zH (show f.vals.length=m by obtain⟨_,_,_,e,_,_,h⟩:=hv.form;injection e with _ e;rw[h,<-e]);go_enter func185,ntmps185;go_wp2_with fail;generalize w.alloc (.cells #[.slice A n c,.slice B m d] 191)=w0 at *;refine(vN _ _ _ _ _ _ sY hn).mono ?_;rintro e w1 ⟨rfl,bH⟩;have fP:=(eB.kept bH).cell 1;have aM:=ax.keep (b5.below (S:=S) bH);have oc:=ob.trans (bH.mono ob.size);simp only[Zx]at fP;have fO:=(eB.kept bH).cell 0;simp only[List.getElem?_toArray,List.getElem?_cons_zero]at fO;obtain⟨b1,qf⟩:∃b,(f.paths.any fun p=>!ib p)=b:=⟨_,rfl⟩;rw[qf];have HB1:=zH qf;clear qf;go_wp2_with fail;refine(yk _ _ _ _ _ aM.rd hm).mono ?_;rintro e w2 ⟨rfl,rfl⟩;obtain⟨b2,Am⟩:∃b,(f.vals.any fun z:Int=>!mS z)=b:=⟨_,rfl⟩;rw[Am];have HB2:=zH Am;clear Am;have HF:=zH (show gN f=(!b1&&(!b2&&(decide (n<=3)&&decide (m<=2)))) by unfold gN;rw[HB1.out,HB2.out,H1.out,H2.out]);have H5:=zH (show decide ((m:Int)<=2)=decide (m<=2)from decide_eq_decide.2 (by omega));cases b1 with
 | true=>
  go_wp2_with fail;go_ret;exact⟨by rw[HF.out];rfl,oc⟩
 | false=>
  cases b2 with
  | true=>
   go_wp2_with fail;go_ret;exact⟨by rw[HF.out];rfl,oc⟩
  | false=>
   by_cases h3:n<=3
   ·go_wp2_with fail;go_ret;exact⟨by rw[HF.out,decide_eq_true h3];exact qX H5.out,oc⟩
   ·have h4:decide ((n:Int)<=3)=false:=by simp;omega
    go_wp2_with fail;go_ret;exact⟨by rw[HF.out,decide_eq_false h3];rfl,oc⟩
theorem nP:(prog.info? 5).map (fun i=>(i.zero,i.size,i.bytes))=some (some (.int .u8 0),1,1):=by kernel_rfl
def Bx(B:Nat)(w:World)(v:Value)(n:Nat):Prop:=
 ∃xs,(∀u∈xs,u.oneCell'=true)/\((∃A,v=.slice A n n/\cj w 1 A n xs)\/w.ownsRow B 5 1 v n xs)
theorem Bx.below{B n:Nat}{w w':World}{v:Value}(h:Bx B w v n)(hb:Below w.heap.size w w'):Bx B w' v n:=by
 obtain⟨xs,h1,h2|h2⟩:=h
 ·obtain⟨A,e,hr⟩:=h2;exact⟨xs,h1,.inl ⟨A,e,hr.below hb⟩⟩
 ·exact⟨xs,h1,.inr (bF h2 hb)⟩
def By(B:Nat)(w:World)(v:Value)(n:Nat):Prop:=∃xs,(∀u∈xs,u.oneCell'=true)/\w.ownsRow B 5 1 v n xs
theorem By.bx{B n:Nat}{w:World}{v:Value}(h:By B w v n):Bx B w v n:=by
 obtain⟨xs,h1,h2⟩:=h;exact⟨xs,h1,.inr h2⟩
theorem By.form{B n:Nat}{w:World}{v:Value}(h:By B w v n):∃A c,v=.slice A n c/\n<=c/\c<=maxLen/\∃xs,(∀u∈xs,u.oneCell'=true)/\cj w 1 A n xs:=by
 obtain⟨xs,h1,h2⟩:=h;obtain⟨A,c,rfl,h3,h4⟩:=qP h2;exact⟨A,c,rfl,h3,h4,xs,h1,cj.of_own h2⟩
def Bn(w:World)(v:Value)(n:Nat):Prop:=∃A c xs,v=.slice A n c/\n<=c/\c<=maxLen/\(∀u∈xs,u.oneCell'=true)/\cj w 1 A n xs
theorem By.bn{B n:Nat}{w:World}{v:Value}(h:By B w v n):Bn w v n:=by
 obtain⟨A,c,e,h1,h2,xs,h3,h4⟩:=h.form;exact⟨A,c,xs,e,h1,h2,h3,h4⟩
theorem Bn.nil(w:World):Bn w (.slice none 0 0) 0:=⟨none,0,[],rfl,Nat.le_refl _,Nat.zero_le _,fun _ h=>(by cases h),cj.none_⟩
theorem dA{w:World}{ops:Array Oper}{rest:List Oper}{o:Oper}{a:Act}{Q:Exit->Act->World->Prop}(iJ:o.guard=none)(s x:Operand)
  (ho:o.op=.call {callee:=.builtin .append,args:=#[s,x],argTypes:=#[24,24]})
  (B:Nat) {v:Value} {n:Nat} (hs:a.eval s=v) (hv:Bx B w v n) (g:Nat) (u:Value) (hx:a.eval x=.slice (some ⟨g,0,none⟩) 1 1) (hg:ay w g 5 #[u]) (hu:u.oneCell'=true) (hb:n<=100000000) (hB:B<=w.heap.size)
  (h:∀v' w',By B w' v' (n+1)->Below B w w'->wpList prog ops Q rest (a.put o.dst v') w'):wpList prog ops Q (o::rest) a w:=by
 obtain⟨i0,fT,gv,fC,fK⟩:=info_parts nP;have hr:cj w 1 (some ⟨g,0,none⟩) 1 [u]:=⟨rfl,fun _=>⟨_,rfl,fun j y hy=>by
  have e:(⟨g,0,none⟩:Addr).add j=⟨g,j,none⟩:=by unfold Addr.add;split <;> simp[*]
  rw[e,hg.cell j,<-hy];simp⟩⟩
 obtain⟨xs,h1,h2|h2⟩:=hv
 ·obtain⟨A,rfl,eb⟩:=h2;have EO:A=none->n=0/\n=0:=fun e=>by
   rcases Nat.eq_zero_or_pos n with h0|h0
   ·exact⟨h0,h0⟩
   ·obtain⟨ad,e',_⟩:=eb.2 h0;rw[e]at e';cases e'
  refine wpList_append_grows w iJ s x 24 ho 5 i0 _ 1 1 underlying24 fT gv fC fK rfl (by omega) A n n xs hs EO eb.1 (fun b hb j y hy=>?_) ⟨g,0,none⟩ 1 1 [u] hx rfl (fun j y hy=>?_) (fun y hy=>by rw[List.mem_singleton.1 hy];exact hu) (by omega) (by unfold maxLen;omega) (by omega) fun v' w' h3 h4=>h v' w' ⟨xs++[u],fun y hy=>?_,fY h3 hB⟩ (zb.grown h4 hB (fun k hk=>by cases hk))
  ·have hl:=(List.getElem?_eq_some_iff.1 hy).1;have h0:0<n:=by have:=eb.1;omega
   obtain⟨ad,e,hc⟩:=eb.2 h0;obtain rfl:=Option.some.inj (hb.symm.trans e);exact hc j y hy
  ·obtain⟨ad,e,hc⟩:=hr.2 (by omega);obtain rfl:=Option.some.inj e;exact hc j y hy
  ·rcases List.mem_append.1 hy with h5|h5
   ·exact h1 y h5
   ·rw[List.mem_singleton.1 h5];exact hu
 ·refine bj w iJ s x 24 ho B 5 i0 _ 1 1 underlying24 fT gv fC fK rfl (by omega) v n xs hs h2 (some ⟨g,0,none⟩) 1 1 [u] hx hr (fun y hy=>by rw[List.mem_singleton.1 hy];exact hu) (by unfold maxLen;omega) (by omega) hB fun A' c' w' h3 h4 _=>h _ w' ⟨xs++[u],fun y hy=>?_,h3⟩ (eQ h2 h4 hB)
  rcases List.mem_append.1 hy with h5|h5
  ·exact h1 y h5
  ·rw[List.mem_singleton.1 h5];exact hu
theorem DH(A:Option Addr)(n c:Nat)(w:World)(hn:n<=c)(_:c<=maxLen) :
  Calls prog 175 #[.slice A n c] w fun e w'=>e=.returned (.slice A n n)/\w=w':=by
 go_enter func175,ntmps175;go_wp2_with fail;go_ret;exact⟨rfl,rfl⟩
theorem rK(z:Int):∃x:Nat,IntKind.u64.wrap z=x/\x<18446744073709551616:=by
 rw[IntKind.wrap_u64];exact⟨(z%18446744073709551616).toNat,by omega,by omega⟩
theorem DC(op:BinOp)(x y:Int):∃m:Nat,bits op .u64 x y=m/\m<18446744073709551616:=by
 unfold bits;exact rK _
theorem FN(x k:Nat)(h:x*128^k<18446744073709551616)(hx:128<=x):k+1<=9/\x/128*128^(k+1)<18446744073709551616:=by
 constructor
 ·rcases Nat.lt_or_ge k 9 with h1|h1
  ·exact h1
  ·exfalso
   have h2:128^9<=128^k:=Nat.pow_le_pow_right (by omega) h1;have h3:128*128^9<=x*128^k:=Nat.mul_le_mul hx h2;omega
 ·refine Nat.lt_of_le_of_lt ?_ h;rw[Nat.pow_succ,Nat.mul_comm (128^k) 128,<-Nat.mul_assoc];exact Nat.mul_le_mul_right _ (Nat.div_mul_le_self x 128)
theorem dO(v:Value)(n:Nat)(z:Int)(w:World)(hv:Bn w v n)(hn:n<=1000000) :
  Calls prog 156 #[v,.int .i64 z] w fun e w'=>∃v' n',e=.returned v'/\By w.heap.size w' v' n'/\n'<=n+10/\Below w.heap.size w w':=by
 obtain⟨A,c,xs,rfl,h1,h2,h3,h4⟩:=hv;have Qv:Bx w.heap.size w (.slice A n n) n:=⟨xs,h3,.inl ⟨A,rfl,h4⟩⟩;clear h4 h3;obtain⟨x0,wG,ir⟩:=rK z;obtain⟨x1,yW,dm⟩:=rK (x0*2);obtain⟨x2,BX,fB⟩:=DC .xor IntKind.u64.max x1;go_enter func156,ntmps156;go_wp2_with fail;refine wp_scope_jumps 0 (fun a' w'=>∃(k x:Nat) (v u6 u7 u8 u9 u10 u11 u12 u13 u14 u15 u16 u17 u18 u19 u20 u21 u22 u23 u24 u25 u26 u27 u28 u29:Value),a'={tmps:=#[v,.int .i64 z,undef,undef,.slice none 0 0,.int .u64 x,u6,u7,u8,u9,u10,u11,u12,u13,u14,u15,u16,u17,u18,u19,u20,u21,u22,u23,u24,u25,u26,u27,u28,u29],defers:=[]}/\k<=9/\x*128^k<18446744073709551616/\Bx w.heap.size w' v (n+k)/\Below w.heap.size w w') (fun a' _=>(intOf (a'.tmps.getD 5 undef)).toNat) rfl ?_ ?_
 ·go_wp2_with fail;refine(DH _ _ _ _ h1 h2).mono ?_;rintro e w1 ⟨rfl,rfl⟩;have aU:=fun u:Value=>(Below.refl w.heap.size w).alloc zl (.cells #[u] 5)
  have yG:=fun u:Value=>Qv.below (aU u)
  have dV:=aU;by_cases hz:z<0
  ·have hx:x2*128^0<18446744073709551616:=by simp;omega
   go_wp2_with fail
   go_step3
   by_cases hg:128<=x2
   ·obtain⟨cw,Dn⟩:=FN x2 0 hx hg;have HX:=zH Dn;clear Dn hx;go_wp2_with (at_builtin;refine dA rfl (.tmp 17) (.tmp 21) rfl w.heap.size rfl (yG _) w.heap.size _ rfl (ay.new _ _ _) rfl (by omega) (dV _).size ?_;intro v5 w5 cP dp)
    go_step3
    refine⟨rfl,1,x2/128,v5,_,_,_,_,_,_,_,_,_,_,_,_,_,_,_,_,_,_,_,_,_,_,_,_,rfl,by omega,HX.out,cP.bx,(dV _).trans dp⟩
   ·go_wp2_with (at_builtin;refine dA rfl (.tmp 25) (.tmp 28) rfl w.heap.size rfl (yG _) w.heap.size _ rfl (ay.new _ _ _) rfl (by omega) (dV _).size ?_;intro v5 w5 cP dp);simp only[Exit.jump];go_ret;exact⟨v5,_,rfl,cP,by omega,(dV _).trans dp⟩
  ·have hx:x1*128^0<18446744073709551616:=by simp;omega
   go_wp2_with fail
   go_step3
   by_cases hg:128<=x1
   ·obtain⟨cw,Dn⟩:=FN x1 0 hx hg;have HX:=zH Dn;clear Dn hx;go_wp2_with (at_builtin;refine dA rfl (.tmp 17) (.tmp 21) rfl w.heap.size rfl (yG _) w.heap.size _ rfl (ay.new _ _ _) rfl (by omega) (dV _).size ?_;intro v5 w5 cP dp)
    go_step3
    refine⟨rfl,1,x1/128,v5,_,_,_,_,_,_,_,_,_,_,_,_,_,_,_,_,_,_,_,_,_,_,_,_,rfl,by omega,HX.out,cP.bx,(dV _).trans dp⟩
   ·go_wp2_with (at_builtin;refine dA rfl (.tmp 25) (.tmp 28) rfl w.heap.size rfl (yG _) w.heap.size _ rfl (ay.new _ _ _) rfl (by omega) (dV _).size ?_;intro v5 w5 cP dp);simp only[Exit.jump];go_ret;exact⟨v5,_,rfl,cP,by omega,(dV _).trans dp⟩
 ·rintro a' wr ⟨k,x,v,u6,u7,u8,u9,u10,u11,u12,u13,u14,u15,u16,u17,u18,u19,u20,u21,u22,u23,u24,u25,u26,u27,u28,u29,rfl,hk,hx,dZ,hb⟩;have vn:x<18446744073709551616:=by
   have:=Nat.le_mul_of_pos_right x (Nat.pow_pos (n:=k) (show 0<128 by omega));omega
  have aU:=fun u:Value=>(Below.refl wr.heap.size wr).alloc zl (.cells #[u] 5)
  have yG:=fun u:Value=>dZ.below (aU u)
  have dV:=fun u:Value=>aj hb (aU u) zl
  by_cases hg:128<=x
  ·obtain⟨cw,yW⟩:=FN x k hx hg;have HX:=zH yW;clear yW hx;go_wp2_with (at_builtin;refine dA rfl (.tmp 17) (.tmp 21) rfl w.heap.size rfl (yG _) wr.heap.size _ rfl (ay.new _ _ _) rfl (by omega) (dV _).size ?_;intro v5 w5 cP dp)
   go_step3
   refine⟨rfl,⟨k+1,x/128,v5,_,_,_,_,_,_,_,_,_,_,_,_,_,_,_,_,_,_,_,_,_,_,_,_,rfl,by omega,HX.out,cP.bx,(dV _).trans dp⟩,?_⟩;simp[intOf];omega
  ·go_wp2_with (at_builtin;refine dA rfl (.tmp 25) (.tmp 28) rfl w.heap.size rfl (yG _) wr.heap.size _ rfl (ay.new _ _ _) rfl (by omega) (dV _).size ?_;intro v5 w5 cP dp);simp only[Exit.jump];go_ret;exact⟨v5,_,rfl,cP,by omega,(dV _).trans dp⟩
section
open Go.Shelf
def AJ:Go.Shelf.Ren:=⟨fun|156=>197|165=>205|166=>206|169=>207|240=>209|241=>210|276=>211|277=>212|n=>n,fun|31=>193|9=>9|3=>3|4=>4|0=>0|20=>20|72=>238|76=>241|70=>236|37=>24|75=>240|127=>245|164=>246|5=>5|80=>243|n=>n,fun|n=>n⟩
theorem E8:Go.Proofs.Lays.n156 prog AJ:={
 mixed:=by kernel_rfl
 f156:=func197.trans (congrArg some (by kernel_rfl))
 f165:=func205.trans (congrArg some (by kernel_rfl))
 f166:=func206.trans (congrArg some (by kernel_rfl))
 f169:=func207.trans (congrArg some (by kernel_rfl))
 f240:=func209.trans (congrArg some (by kernel_rfl))
 f241:=func210.trans (congrArg some (by kernel_rfl))
 f276:=func211.trans (congrArg some (by kernel_rfl))
 f277:=func212.trans (congrArg some (by kernel_rfl))
 t0:=underlying0
 a0:=isAgg0
 z0:=sizeOf0
 v0:=zeroValue0
 t3:=underlying3
 a3:=isAgg3
 z3:=sizeOf3
 v3:=zeroValue3
 t4:=underlying4
 a4:=isAgg4
 z4:=sizeOf4
 v4:=zeroValue4
 t9:=underlying9
 a9:=isAgg9
 z9:=sizeOf9
 v9:=zeroValue9
 t20:=underlying20
 a20:=isAgg20
 z20:=sizeOf20
 v20:=zeroValue20
 t31:=underlying193
 a31:=isAgg193
 z31:=sizeOf193
 v31:=zeroValue193
 t37:=underlying24
 a37:=isAgg24
 z37:=sizeOf24
 v37:=zeroValue24
 t70:=underlying236
 a70:=isAgg236
 z70:=sizeOf236
 v70:=zeroValue236
 t72:=underlying238
 a72:=isAgg238
 z72:=sizeOf238
 v72:=zeroValue238
 t75:=underlying240
 a75:=isAgg240
 z75:=sizeOf240
 v75:=zeroValue240
 t76:=underlying241
 a76:=isAgg241
 z76:=sizeOf241
 v76:=zeroValue241
 t127:=underlying245
 a127:=isAgg245
 z127:=sizeOf245
 v127:=zeroValue245
 t164:=underlying246
 a164:=isAgg246
 z164:=sizeOf246
 v164:=zeroValue246}
theorem B0:Builder.Extra prog AJ:={
 sizeBuilder:=by kernel_rfl
 liesBuilder:=by kernel_rfl
 t5:=underlying5
 a5:=isAgg5
 z5:=sizeOf5
 v5:=zeroValue5
 infoByte:=by kernel_rfl
 cellsByte:=by kernel_rfl
 sizeByte:=by kernel_rfl
 neB5:=by decide}
open Go.RowKit in
theorem uK (bk o c:Nat) (xs:List ByteArray) (sep:ByteArray) (w:World) (qi:∀(j:Nat) x,xs[j]?=some x->w.cell? ⟨bk,o+j,none⟩=some (.string x)) (eu:bk<w.heap.size) (hN:xs.length<=140737488355328) (Mo:xs.length<=c) (ab:(Lib.join (xs.map (·.data.toList)) sep.data.toList).length<=140737488355328) :
  Calls prog 197 #[.slice (some ⟨bk,o,none⟩) xs.length c,.string sep] w fun e w'=>e=.returned (.string ⟨(Lib.join (xs.map (·.data.toList)) sep.data.toList).toArray⟩)/\Below w.heap.size w w':=Any.strings_Join E8 B0 bk o c xs sep w qi eu hN Mo ab
end
theorem Bn.below{n:Nat}{w w':World}{v:Value}(h:Bn w v n)(hb:Below w.heap.size w w'):Bn w' v n:=by
 obtain⟨A,c,xs,e,h1,h2,h3,h4⟩:=h;exact⟨A,c,xs,e,h1,h2,h3,cj.below h4 hb⟩
theorem za(x:ByteArray)(r:List ByteArray)(h:∀s∈x::r,s.size<=12)(hl:(x::r).length<=3):(Lib.join ((x::r).map (·.data.toList)) (ByteArray.mk #[47]).data.toList).length<=38:=by
 rw[List.map_cons,Lib.join_length];have hs:∀(l:List ByteArray),(∀s∈l,s.size<=12)->Lib.lens (l.map (·.data.toList))<=12*l.length:=by
  intro l;induction l with
  | nil=>intro _;simp[Lib.lens]
  | cons a l ih=>
   intro h;have h1:=ih fun s hs=>h s (List.mem_cons_of_mem _ hs)
   have h2:=h a List.mem_cons_self;have h3:a.data.toList.length=a.size:=by rw[Array.length_toList];rfl
   simp only[Lib.lens,List.map_cons,List.sum_cons,List.length_cons]at *;omega
 have h1:=hs (x::r) h;simp only[List.map_cons,List.length_cons,List.length_map]at *;simp only[List.length_nil,Nat.zero_add,Nat.one_mul];omega
theorem FV(A:Option Addr)(n c:Nat)(p:List ByteArray)(w:World)(hr:vD w A n p)(hn:n<=c)(hp:ib p=true) :
  Calls prog 186 #[.slice A n c] w fun e w'=>∃s:ByteArray,e=.returned (.tuple #[.string s,.int .i64 0])/\s.size<=38/\Below w.heap.size w w':=by
 have hl:=hr.len;have h3:=wW hp;have Av:=Ca hp;have yP:n<=3:=by omega
 have wq:n<=maxLen:=zg yP (by omega);cases p with
 | nil=>
  obtain rfl:n=0:=by simpa using hl.symm
  go_enter func186,ntmps186;go_wp2_with fail;refine(ux _ _ _ _ _ hr wq).mono ?_;rintro e w1 ⟨rfl,hb⟩;rw[hp];go_wp2_with fail
  go_ret2
  exact⟨_,rfl,by decide,hb⟩
 | cons x r=>
  have ug:0<n:=by simp at hl;omega
  obtain⟨ad,s0,rfl,RR,fO⟩:=hr.at_ ug;have hj:=za x r (fun s hs=>zh (Av s hs)) h3;have hl:=zH hl;have NM:ad.spot=none:=by
   rw[iE]at fO;unfold World.cell? at fO;split at fO
   ·split at fO
    ·cases fO
    ·rename_i h;simpa using h
   ·cases fO
  obtain⟨bk,o,sp⟩:=ad;obtain rfl:sp=none:=NM;have eu:=aG fO;rw[dD]at eu;have Zg:decide (n=0)=false:=decide_eq_false (by omega);have aP:=fun w1 (hb:Below w.heap.size w w1)=>uK bk o c (x::r) ⟨#[47]⟩ w1 (fun j y hy=>by
   have hj:j<n:=by rw[<-hl.out];exact(List.getElem?_eq_some_iff.1 hy).1
   obtain⟨ad',s',e',Uj,Jr⟩:=(hr.below hb).at_ hj;obtain rfl:=Option.some.inj e';rw[hy]at Uj;obtain rfl:=Option.some.inj Uj;have ea:(⟨bk,o,none⟩:Addr).add j=⟨bk,o+j,none⟩:=by unfold Addr.add;split <;> simp[*]
   rwa [ea]at Jr) (Nat.lt_of_lt_of_le eu hb.size) (by rw[hl.out];omega) (by rw[hl.out];exact hn) (Nat.le_trans hj (by omega))
  have gn:=zH (show(ByteArray.mk (Lib.join ((x::r).map (·.data.toList)) (ByteArray.mk #[47]).data.toList).toArray).size<=38 by show(Lib.join _ _).toArray.size<=38;rw[List.size_toArray];exact hj);generalize ByteArray.mk (Lib.join ((x::r).map (·.data.toList)) (ByteArray.mk #[47]).data.toList).toArray=s at *;rw[hl.out]at aP;have aP:=zH aP;clear hj fO RR;go_enter func186,ntmps186;go_wp2_with fail;refine(ux _ _ _ _ _ hr wq).mono ?_;rintro e w1 ⟨rfl,hb⟩;rw[hp];have VS:((n:Int)==0)=false:=beq_eq_false_iff_ne.2 (by omega);go_wp2_with fail;refine(aP.out w1 hb).mono ?_;rintro e w2 ⟨rfl,bU⟩;go_wp2_with fail
  go_ret2
  exact⟨_,rfl,gn.out,aj hb bU zl⟩
theorem uJ(s:ByteArray)(u:Value)(h:u∈Lib.strCells s):u.oneCell'=true:=by
 unfold Lib.strCells at h;obtain⟨b,_,rfl⟩:=List.mem_map.1 h;rfl
theorem xl(v:Value)(n:Nat)(s:ByteArray)(w:World)(hv:Bn w v n)(hn:n<=900000)(hs:s.size<=1000) :
  Calls prog 187 #[v,.string s] w fun e w'=>∃v' n',e=.returned v'/\By w.heap.size w' v' n'/\n'<=n+10+s.size/\Below w.heap.size w w':=by
 obtain⟨i0,fT,gv,fC,fK⟩:=info_parts nP;go_enter func187,ntmps187;go_wp2_with fail;refine(dO v n _ w hv (by omega)).mono ?_;rintro e w1 ⟨v1,n1,rfl,⟨xs,hx,aJ⟩,oh,bH⟩;go_wp2_with (at_builtin;refine Lib.wpList_append_own_string _ rfl (.tmp 8) (.tmp 9) 24 9 rfl w.heap.size 5 i0 underlying24 underlying9 fT gv fC fK v1 n1 xs rfl aJ s rfl (by unfold maxLen;omega) (by omega) bH.size ?_;intro v2 w2 eJ jo _);go_ret;exact⟨v2,_,rfl,⟨_,fun u hu=>(List.mem_append.1 hu).elim (hx u) (uJ s u),eJ⟩,by omega,bH.trans (eQ aJ jo bH.size)⟩
def sB(fs:List Fa):Int:=if 8<fs.length then 13 else if fs.any (fun f=>!gN f)then 12 else 0
theorem nE{f:Fa}(h:gN f=true):(∀p∈f.paths,ib p=true)/\f.paths.length<=3/\f.vals.length<=2:=by
 unfold gN at h;simp only[Bool.and_eq_true,Bool.not_eq_true',decide_eq_true_eq,List.any_eq_false]at h;refine⟨fun p hp=>?_,h.2.2.1,h.2.2.2⟩;have:=h.1 p hp;simpa using this
theorem Co{fs:List Fa}(h:8<fs.length):sB fs=13:=if_pos h
theorem FD{fs:List Fa}{f:Fa}(h:¬8<fs.length)(hm:f∈fs)(hp:gN f=false):sB fs=12:=by
 unfold sB;rw[if_neg h,if_pos (List.any_eq_true.2 ⟨f,hm,by rw[hp];rfl⟩)]
theorem HQ{fs:List Fa}(h:¬8<fs.length)(hp:∀f∈fs,gN f=true):sB fs=0:=by
 unfold sB;rw[if_neg h,if_neg];rw[List.any_eq_true];rintro⟨f,hf,h1⟩;rw[hp f hf]at h1;cases h1
theorem nW{S:Nat->Prop}{w:World}{A:Option Addr}{n c:Nat}{fs:List Fa}(h:aN S w (.slice A n c) fs):fs.length=n:=by
 obtain⟨_,_,_,e,_,_,h⟩:=h.form;injection e with _ e;rw[h,<-e]
theorem DE(S:Nat->Prop)(v:Value)(m:Nat)(A:Option Addr)(n c:Nat)(fs:List Fa)(w:World)(hv:Bn w v m)(hm:m<=10000)(hf:aN S w (.slice A n c) fs)(hn:n<=maxLen) :
  Calls prog 174 #[v,.slice A n c] w fun e w'=>∃v',e=.returned (.tuple #[v',.int .i64 (sB fs)])/\Below w.heap.size w w':=by
 have H1:=zH (nW hf);unfold maxLen at hn;by_cases h8:8<n
 ·have hE:=zH (Co (fs:=fs) (by rw[H1.out];exact h8));go_enter func174,ntmps174;go_wp2_with fail
  go_ret2
  exact⟨_,by rw[hE.out];rfl,Below.refl _ _⟩
 ·go_enter func174,ntmps174;go_wp2_with fail;refine(dO v m _ w hv (by omega)).mono ?_;rintro e w1 ⟨v1,n1,rfl,Yd,oh,bH⟩;go_wp2_with fail
  go_loopw [0,23] (fun b i wr=>∃(k q:Nat),k<=n/\i=.int .i64 k/\Bn wr b q/\q<=10010+200*k/\(∀j f,j<k->fs[j]?=some f->gN f=true)/\Below w.heap.size w wr) (fun _ i _=>n-(intOf i).toNat)
  case atStart=>exact⟨0,n1,Nat.zero_le _,rfl,Yd.bn,by omega,fun j f h=>by omega,bH⟩
  case round=>
   obtain⟨k,q,hk,rfl,jV,hq,dn,hb⟩:=hrel;have Hno:=zH dn;clear dn;by_cases bh:k<n
   ·obtain⟨ad,f,B,mp,d,C,mv,r,rfl,Ip,c0,c1,hp,Sf,Dk,KX,jw,T6,OT,BW⟩:=(hf.keep (b5.below (S:=S) hb)).at_ bh;have aU:Below wr.heap.size wr (wr.alloc (.cells #[.slice B mp d,.slice C mv r] 191)):=zb.alloc zl _;have eB:=ay.new wr 191 #[.slice B mp d,.slice C mv r];have JX:=hp.keep (b5.below (S:=S) aU);have aM:=Sf.keep (b5.below (S:=S) aU);have Qu:=jV.below aU;have oc:=aj hb aU zl;have bi:=zH (show n-(k+1)<n-k by omega);have Hpl:=zH jw;have Hvl:=zH BW;clear jw BW;go_wp2_with fail;generalize wr.alloc (.cells #[.slice B mp d,.slice C mv r] 191)=w2 at *;generalize wr.heap.size=g at *;refine(yd _ _ _ _ _ _ _ f _ JX aM (Nat.le_trans Dk KX) (Nat.le_trans T6 OT)).mono ?_;rintro e w3 ⟨rfl,cv⟩;obtain⟨fO,fP,-⟩:=(eB.kept cv).cs [0,1];simp only[Zx]at fO fP;cases oT:gN f with
    | false=>
     have hE:=zH (FD (fs:=fs) (by rw[H1.out];exact h8) (List.mem_of_getElem? Ip) oT);clear Ip;go_wp2_with fail
     go_ret2
     exact⟨_,by rw[hE.out];rfl,aj oc cv zl⟩
    | true=>
     have Hst:=zH (show ∀j y,j<k+1->fs[j]?=some y->gN y=true from fun j y hj hy=>by
      rcases Nat.lt_or_ge j k with h|h
      ·exact Hno.out j y h hy
      ·obtain rfl:j=k:=by omega
       obtain rfl:f=y:=Option.some.inj (Ip.symm.trans hy);exact oT)
     obtain⟨RI,Hu,bE⟩:=nE oT;rw[Hpl.out]at Hu;rw[Hvl.out]at bE;have Hps:=zH RI;clear Ip oT RI;go_wp2_with fail;refine(dO _ q _ w3 (Qu.below cv) (by omega)).mono ?_;rintro e w4 ⟨v4,n4,rfl,Sp,wq,dV⟩;have jo:=eB.lt;have GT:=aj cv dV zl;have Ml:w4.cell? ⟨g,0,none⟩=some (.slice B mp d):=(GT.cell (p:=⟨g,0,none⟩) jo).trans (by rw[<-fO];exact(cv.cell (p:=⟨g,0,none⟩) jo).symm);clear fO;have fO:=Ml;have Xy:=JX.keep (b5.below (S:=S) GT);have jU:=aj oc GT zl;unfold maxLen at KX;go_wp2_with fail
     go_loopw [0,38] (fun b i wr'=>∃(k' q':Nat),k'<=mp/\i=.int .i64 k'/\Bn wr' b q'/\q'<=n4+48*k'/\Below w4.heap.size w4 wr') (fun _ i _=>mp-(intOf i).toNat)
     case atStart=>exact⟨0,n4,Nat.zero_le _,rfl,Sp.bn,by omega,Below.refl _ _⟩
     case round=>
      obtain⟨k',q',sT,rfl,Mf,xU,kI⟩:=hrel;by_cases sq:k'<mp
      ·obtain⟨ad',p,B',m',d',rfl,iX,Jr,Gn,Rr,WO,RH⟩:=(Xy.keep (b5.below (S:=S) kI)).at_ sq;have py:=Hps.out p (List.mem_of_getElem? iX);have jW:=zH (show mp-(k'+1)<mp-k' by omega);clear iX RH;go_wp2_with fail;refine(FV _ _ _ p _ Gn.rd Rr py).mono ?_;rintro e w5 ⟨s,rfl,hs,dp⟩;go_wp2_with fail;refine(xl _ q' s _ (Mf.below dp) (by omega) (by omega)).mono ?_;rintro e w6 ⟨v6,n6,rfl,Ye,Le,lY⟩;go_wp2_with fail
       go_roundw
       case rel=>exact⟨k'+1,n6,sq,by go_num,Ye.bn,by omega,aj (aj kI dp zl) lY zl⟩
       case measure=>simp[intOf];exact jW.out
      ·obtain rfl:k'=mp:=by omega
       obtain⟨w7,rfl⟩:∃wo:World,wo=wr:=⟨_,rfl⟩;have GU:=aj GT kI zl;have Mm:w7.cell? ⟨g,1,none⟩=some (.slice C mv r):=(GU.cell (p:=⟨g,1,none⟩) jo).trans (by rw[<-fP];exact(cv.cell (p:=⟨g,1,none⟩) jo).symm);have Qj:=aj jU kI zl;clear fP Ml fO c0 c1;unfold maxLen at OT;go_wp2_with fail;refine(dO _ q' _ w7 Mf (by omega)).mono ?_;rintro e w8 ⟨v8,n8,rfl,Yf,Zw,Jk⟩;have fP:w8.cell? ⟨g,1,none⟩=some (.slice C mv r):=((aj GU Jk zl).cell (p:=⟨g,1,none⟩) jo).trans ((GU.cell (p:=⟨g,1,none⟩) jo).symm.trans Mm);clear Mm;have dy:=aM.keep (b5.below (S:=S) (aj GU Jk zl));have BC:=aj Qj Jk zl;go_wp2_with fail
       go_loopw [0,59] (fun b i wr'=>∃(j' p':Nat),j'<=mv/\i=.int .i64 j'/\Bn wr' b p'/\p'<=n8+10*j'/\Below w8.heap.size w8 wr') (fun _ i _=>mv-(intOf i).toNat)
       case atStart=>exact⟨0,n8,Nat.zero_le _,rfl,Yf.bn,by omega,Below.refl _ _⟩
       case round=>
        obtain⟨j',p',It,rfl,If,Ht,Jh⟩:=hrel;by_cases IA:j'<mv
        ·obtain⟨ad',rfl,Jr⟩:=(dy.keep (b5.below (S:=S) Jh)).rd.at_ IA;have jW:=zH (show mv-(j'+1)<mv-j' by omega);generalize f.vals[j']?.getD 0=z at *;go_wp2_with fail;refine(dO _ p' _ _ If (by omega)).mono ?_;rintro e w9 ⟨v9,n9,rfl,Yg,T9,mY⟩;go_wp2_with fail
         go_roundw
         case rel=>exact⟨j'+1,n9,IA,by go_num,Yg.bn,by omega,aj Jh mY zl⟩
         case measure=>simp[intOf];exact jW.out
        ·obtain rfl:j'=mv:=by omega
         go_wp2_with fail
         go_roundw
         case rel=>exact⟨k+1,p',bh,by go_num,If,by omega,Hst.out,aj BC Jh zl⟩
         case measure=>simp[intOf];exact bi.out
   ·obtain rfl:k=n:=by omega
    have hE:=zH (HQ (fs:=fs) (by rw[H1.out];exact h8) (fun f hf=>by
     obtain⟨i,hi,e⟩:=List.getElem_of_mem hf;exact Hno.out i f (by rw[<-H1.out];exact hi) (by rw[List.getElem?_eq_getElem hi,e])))
    go_wp2_with fail
    go_ret2
    exact⟨_,by rw[hE.out];rfl,hb⟩
def fF(n least:Int):Bool:=decide (least<=n)&&decide (n<=1099511627776)
theorem cY(n least:Int)(w:World):Calls prog 154 #[.int .i64 n,.int .i64 least] w fun e w'=>e=.returned (.bool (fF n least))/\w=w':=by
 unfold fF;by_cases h:least<=n
 ·go_enter func154,ntmps154;go_wp2_with fail;go_ret;exact⟨by simp[h],rfl⟩
 ·go_enter func154,ntmps154;go_wp2_with fail;go_ret;exact⟨by simp;omega,rfl⟩
def vK(e:En)(v:Value):Value:=.agg #[.int .i64 e.op,.int .i64 e.sess,.int .i64 e.seq,v]
def rN(e:En)(v:Value):Value:=.agg #[.int .i64 e.idx,.int .i64 e.term,.int .i64 e.op,.int .i64 e.sess,.int .i64 e.seq,v]
def rX(e:En):Int:=if e.op<0\/3<e.op then 24 else if(fF e.sess 0&&fF e.seq 0)=false then 1 else sB e.facts
def ph(e:En):Int:=if(fF e.idx 1&&fF e.term 1)=false then 1 else rX e
def di(e:En):Bool:=decide (ph e=0)
def SY(r:Int)(w:World)(e:Ending)(w':World):Prop:=∃v',e=.returned (.tuple #[v',.int .i64 r])/\Below w.heap.size w w'
theorem GB{e:En}(h:e.op<0\/3<e.op):rX e=24:=if_pos h
theorem DI{e:En}(h:¬(e.op<0\/3<e.op))(h':(fF e.sess 0&&fF e.seq 0)=false):rX e=1:=by unfold rX;rw[if_neg h,if_pos h']
theorem DJ{e:En}(h:¬(e.op<0\/3<e.op))(h1:fF e.sess 0=true)(h2:fF e.seq 0=true):rX e=sB e.facts:=by unfold rX;rw[if_neg h,h1,h2];rfl
theorem zy(S:Nat->Prop)(v:Value)(m:Nat)(x:En)(A:Option Addr)(n c:Nat)(w:World)(hv:Bn w v m)(hm:m<=9000)(hf:aN S w (.slice A n c) x.facts)(hn:n<=maxLen) :
  Calls prog 155 #[v,vK x (.slice A n c)] w (SY (rX x) w):=by
 unfold vK;have aU:Below w.heap.size w (w.alloc (.cells #[.int .i64 x.op,.int .i64 x.sess,.int .i64 x.seq,.slice A n c] 42)):=zb.alloc zl _;have eB:=ay.new w 42 #[.int .i64 x.op,.int .i64 x.sess,.int .i64 x.seq,.slice A n c];obtain⟨fO,fP,kE,BD,-⟩:=eB.cs [0,1,2,3];simp only[Zx]at fO fP kE BD;have aM:=hv.below aU;have Es:=hf.keep (b5.below (S:=S) aU);by_cases h0:x.op<0\/3<x.op
 ·have hE:=zH (GB h0);by_cases Xs:x.op<0
  ·go_enter func155,ntmps155;go_wp2_with fail
   go_ret2
   exact⟨_,by rw[hE.out];rfl,aU⟩
  ·have h3:3<x.op:=by omega
   clear h0;have h0:(decide (x.op<0)||decide (3<x.op))=true:=by simp;omega
   go_enter func155,ntmps155;go_wp2_with fail
   go_ret2
   exact⟨_,by rw[hE.out];rfl,aU⟩
 ·have VS:(decide (x.op<0)||decide (3<x.op))=false:=by simp;omega
  have ha:0<=x.op:=by omega
  have hb:x.op<=3:=by omega
  have LE:=zH (fun h=>DI (e:=x) h0 h);have Ga:=zH (fun h h'=>DJ (e:=x) h0 h h');clear h0;cases hs:fF x.sess 0 with
  | false=>
   have hE:=zH (LE.out (by rw[hs];rfl));go_enter func155,ntmps155;go_wp2_with fail;refine(cY _ _ _).mono ?_;rintro e w1 ⟨rfl,rfl⟩;rw[hs];go_wp2_with fail
   go_ret2
   exact⟨_,by rw[hE.out];rfl,aU⟩
  | true=>
   cases hq:fF x.seq 0 with
   | false=>
    have hE:=zH (LE.out (by rw[hs,hq];rfl));go_enter func155,ntmps155;go_wp2_with fail;refine(cY _ _ _).mono ?_;rintro e w1 ⟨rfl,rfl⟩;rw[hs];go_wp2_with fail;refine(cY _ _ _).mono ?_;rintro e w1 ⟨rfl,rfl⟩;rw[hq];go_wp2_with fail
    go_ret2
    exact⟨_,by rw[hE.out];rfl,aU⟩
   | true=>
    have hE:=zH (Ga.out hs hq);go_enter func155,ntmps155;go_wp2_with fail;refine(cY _ _ _).mono ?_;rintro e w1 ⟨rfl,rfl⟩;rw[hs];go_wp2_with fail;refine(cY _ _ _).mono ?_;rintro e w1 ⟨rfl,rfl⟩;rw[hq];go_wp2_with fail;generalize w.alloc (.cells #[.int .i64 x.op,.int .i64 x.sess,.int .i64 x.seq,.slice A n c] 42)=w1 at *;generalize JD:w.heap.size=g at *;have k0:=dL (B:=w1.heap.size) fO eB.lt;have k1:=dL (B:=w1.heap.size) fP eB.lt;have k2:=dL (B:=w1.heap.size) kE eB.lt;have k3:=dL (B:=w1.heap.size) BD eB.lt;refine bo (C:=uu w1.heap.size w1) [([0,1,2,4,5,7,8,10,11],3),([],6),([],9),([],12)] [13,14,15,16] (by kernel_rfl) (by kernel_rfl) (fun _ _ _ _ e h=>⟨e.symm.trans h.1,h.2⟩) (eT zb.drew) ?_;refine aC fun K1 cF=>?_
    simp only[af,Zx];repeat go_big_quiet_step(fail)
    apply wpQuiet_nil;go_wp2_with fail;have Kh:Bn w1.drew v m:=aM;refine(dO v m _ _ Kh (by omega)).mono ?_;rintro e w2 ⟨v2,n2,rfl,Sn,uZ,bU⟩;have bU:Below w1.heap.size w1 w2:=(aY (Below.refl w1.heap.size w1) 1).trans bU;go_wp2_with fail;refine⟨eT bU,cF _ _ ?_⟩;refine aC fun K2 jl=>?_
    simp only[af,Zx];repeat go_big_quiet_step(fail)
    apply wpQuiet_nil;go_wp2_with fail;refine(dO v2 n2 _ _ Sn.bn (by omega)).mono ?_;rintro e w3 ⟨v3,n3,rfl,So,yP,cv⟩;have cv:=aj bU cv zl;go_wp2_with fail;refine⟨eT cv,jl _ _ ?_⟩;refine aC fun K3 jS=>?_
    simp only[af,Zx];repeat go_big_quiet_step(fail)
    apply wpQuiet_nil;go_wp2_with fail;refine(dO v3 n3 _ _ So.bn (by omega)).mono ?_;rintro e w4 ⟨v4,n4,rfl,Sp,wq,dV⟩;have dV:=aj cv dV zl;go_wp2_with fail;refine⟨eT dV,jS _ _ ?_⟩;refine aC fun K4 tW=>?_
    simp only[af,Zx];repeat go_big_quiet_step(fail)
    apply wpQuiet_nil;go_wp2_with fail;refine(DE S v4 n4 _ _ _ _ _ Sp.bn (by omega) (Es.keep (b5.below dV)) hn).mono ?_;rintro e w5 ⟨v5,rfl,dp⟩;have dp:=aj dV dp zl;go_wp2_with fail;refine⟨eT dp,tW _ _ ?_⟩;refine an ?_;simp only[af,Zx];repeat go_big_quiet_step(fail)
    apply wpQuiet_nil;go_wp2_with fail
    go_ret2
    exact⟨_,by rw[hE.out];rfl,by rw[JD];exact aU.trans (dp.mono (by have:=aU.size;omega))⟩
theorem vR{e:En}(h:(fF e.idx 1&&fF e.term 1)=false):ph e=1:=by unfold ph;rw[if_pos h]
theorem DS{e:En}(h1:fF e.idx 1=true)(h2:fF e.term 1=true):ph e=rX e:=by unfold ph;rw[h1,h2];rfl
theorem uG(S:Nat->Prop)(v:Value)(m:Nat)(x:En)(A:Option Addr)(n c:Nat)(w:World)(hv:Bn w v m)(hm:m<=8000)(hf:aN S w (.slice A n c) x.facts)(hn:n<=maxLen) :
  Calls prog 144 #[v,rN x (.slice A n c)] w (SY (ph x) w):=by
 unfold rN;have aU:Below w.heap.size w (w.alloc (.cells #[.int .i64 x.idx,.int .i64 x.term,.int .i64 x.op,.int .i64 x.sess,.int .i64 x.seq,.slice A n c] 59)):=zb.alloc zl _;have eB:=ay.new w 59 #[.int .i64 x.idx,.int .i64 x.term,.int .i64 x.op,.int .i64 x.sess,.int .i64 x.seq,.slice A n c];obtain⟨fO,fP,kE,BD,Gd,Qy,-⟩:=eB.cs [0,1,2,3,4,5];simp only[Zx]at fO fP kE BD Gd Qy;have aM:=hv.below aU;have Es:=hf.keep (b5.below (S:=S) aU);cases hs:fF x.idx 1 with
 | false=>
  have hE:=zH (vR (e:=x) (by rw[hs];rfl));go_enter func144,ntmps144;go_wp2_with fail;refine(cY _ _ _).mono ?_;rintro e w1 ⟨rfl,rfl⟩;rw[hs];go_wp2_with fail
  go_ret2
  exact⟨_,by rw[hE.out];rfl,aU⟩
 | true=>
  cases hq:fF x.term 1 with
  | false=>
   have hE:=zH (vR (e:=x) (by rw[hs,hq];rfl));go_enter func144,ntmps144;go_wp2_with fail;refine(cY _ _ _).mono ?_;rintro e w1 ⟨rfl,rfl⟩;rw[hs];go_wp2_with fail;refine(cY _ _ _).mono ?_;rintro e w1 ⟨rfl,rfl⟩;rw[hq];go_wp2_with fail
   go_ret2
   exact⟨_,by rw[hE.out];rfl,aU⟩
  | true=>
   have hE:=zH (DS hs hq);go_enter func144,ntmps144;go_wp2_with fail;refine(cY _ _ _).mono ?_;rintro e w1 ⟨rfl,rfl⟩;rw[hs];go_wp2_with fail;refine(cY _ _ _).mono ?_;rintro e w1 ⟨rfl,rfl⟩;rw[hq];go_wp2_with fail;generalize w.alloc (.cells #[.int .i64 x.idx,.int .i64 x.term,.int .i64 x.op,.int .i64 x.sess,.int .i64 x.seq,.slice A n c] 59)=w1 at *;generalize JD:w.heap.size=g at *;have k0:=dL (B:=w1.heap.size) fO eB.lt;have k1:=dL (B:=w1.heap.size) fP eB.lt;have k2:=dL (B:=w1.heap.size) kE eB.lt;have k3:=dL (B:=w1.heap.size) BD eB.lt;have k4:=dL (B:=w1.heap.size) Gd eB.lt;have k5:=dL (B:=w1.heap.size) Qy eB.lt;refine bo (C:=uu w1.heap.size w1) [([0,1,2,4,5,7,8],3),([],6),([],9)] [10,11,12,13] (by kernel_rfl) (by kernel_rfl) (fun _ _ _ _ e h=>⟨e.symm.trans h.1,h.2⟩) (eT zb.drew) ?_;refine aC fun K1 cF=>?_
   simp only[af,Zx];repeat go_big_quiet_step(fail)
   apply wpQuiet_nil;go_wp2_with fail;have Kh:Bn w1.drew v m:=aM;refine(dO v m _ _ Kh (by omega)).mono ?_;rintro e w2 ⟨v2,n2,rfl,Sn,uZ,bU⟩;have bU:Below w1.heap.size w1 w2:=(aY (Below.refl w1.heap.size w1) 1).trans bU;go_wp2_with fail;refine⟨eT bU,cF _ _ ?_⟩;refine aC fun K2 jl=>?_
   simp only[af,Zx];repeat go_big_quiet_step(fail)
   apply wpQuiet_nil;go_wp2_with fail;refine(dO v2 n2 _ _ Sn.bn (by omega)).mono ?_;rintro e w3 ⟨v3,n3,rfl,So,yP,cv⟩;have cv:=aj bU cv zl;go_wp2_with fail;refine⟨eT cv,jl _ _ ?_⟩;refine aC fun K3 jS=>?_
   simp only[af,Zx];repeat go_big_quiet_step(fail)
   apply wpQuiet_nil;go_wp2_with fail;refine(zy S v3 n3 x _ _ _ _ So.bn (by omega) (Es.keep (b5.below cv)) hn).mono ?_;rintro e w5 ⟨v5,rfl,dp⟩;have dp:=aj cv dp zl;go_wp2_with fail;refine⟨eT dp,jS _ _ ?_⟩;refine an ?_;simp only[af,Zx];repeat go_big_quiet_step(fail)
   apply wpQuiet_nil;go_wp2_with fail
   go_ret2
   exact⟨_,by rw[hE.out];rfl,by rw[JD];exact aU.trans (dp.mono (by have:=aU.size;omega))⟩
theorem Cn{x:En}{k:Int}(h:ph x=k):di x=(k==0):=by
 unfold di;rw[h];rw[Bool.eq_iff_iff,decide_eq_true_eq,beq_iff_eq]
theorem rF(S:Nat->Prop)(x:En)(A:Option Addr)(n c:Nat)(w:World)(hf:aN S w (.slice A n c) x.facts)(hn:n<=maxLen) :
  Calls prog 121 #[rN x (.slice A n c)] w fun e w'=>e=.returned (.bool (di x))/\Below w.heap.size w w':=by
 have aU:Below w.heap.size w (w.alloc (.cells #[.int .i64 x.idx,.int .i64 x.term,.int .i64 x.op,.int .i64 x.sess,.int .i64 x.seq,.slice A n c] 59)):=zb.alloc zl _;have aP:=uG S (.slice none 0 0) 0 x A n c (w.alloc (.cells #[.int .i64 x.idx,.int .i64 x.term,.int .i64 x.op,.int .i64 x.sess,.int .i64 x.seq,.slice A n c] 59)) (Bn.nil _) (by omega) (hf.keep (b5.below (S:=S) aU)) hn;unfold rN at *;obtain⟨k,hk⟩:=zN (ph x);have hP:=zH (Cn hk);rw[hk]at aP;clear hk;go_enter func121,ntmps121;go_wp2_with fail;refine aP.mono ?_;rintro e w1 ⟨v1,rfl,bH⟩;have bH:=aj aU bH zl;go_wp2_with fail;go_ret;exact⟨by rw[hP.out];rfl,bH⟩
theorem jK.one(w:World)(y:Int):jK (w.alloc (.cells #[.int .i64 y] 3)) (some ⟨w.heap.size,0,none⟩) 1 [y]:=jK.lit _ _ _ [y] _ 1 _ rfl rfl rfl
def UA(B:Nat)(w:World)(v:Value)(n:Nat):Prop:=∃(A:Option Addr) (c:Nat) (l:List Int),v=.slice A n c/\w.ownsRow B 3 1 (.slice A n c) n (l.map vi)

def br(gs:List Nat)(w:World):Type:={w':World // ∀g∈gs,w'.heap[g]?=w.heap[g]?}
instance (gs:List Nat) (w:World):Nonempty (br gs w):=⟨⟨w,fun _ _=>rfl⟩⟩
def cr(gs:List Nat)(w:World):World->Prop:=fun w'=>∃x:br gs w,w'=x.1
attribute [go_sem] cr
theorem az{gs:List Nat}{w:World}:cr gs w w.drew:=⟨⟨w.drew,fun _ _=>rfl⟩,rfl⟩
theorem aT{gs:List Nat}{w w':World}(h:∀g∈gs,w'.heap[g]?=w.heap[g]?):cr gs w w':=⟨⟨w',h⟩,rfl⟩
theorem ak{gs:List Nat}{w:World}{p:Addr}{v:Value}(h:w.cell? p=some v)(hp:p.block∈gs):∀x:br gs w,x.1.cell? p=some v:=
 fun x=>by rw[<-h];exact World.cell?_of_block (x.2 _ hp)
theorem aw{gs:List Nat}{w w':World}(hg:∀g∈gs,g<w.heap.size)(hb:Below w.heap.size w w'):cr gs w w':=aT fun g h=>hb.block g (hg g h)
theorem aS{w:World}{j:Nat}{o:Obj}(h:w.heap[j]?=some o):j<w.heap.size:=by
 rcases Nat.lt_or_ge j w.heap.size with bh|ud
 ·exact bh
 ·rw[Array.getElem?_eq_none ud]at h;cases h
theorem CD{A B:Option Addr}{n c d:Nat}{l:List Int}{w:World}(h1:jK w A n l)(h2:jK w B n l)(hn:n<=maxLen) :
  Calls prog 157 #[.slice A n c,.slice B n d] w fun e w'=>e=.returned (.bool true)/\Below w.heap.size w w':=by
 unfold maxLen at hn;go_enter func157,ntmps157;go_wp2_with fail
 go_loopw [5] (fun i wr=>∃k q:Nat,k<=n/\i=.int .i64 k/\wr=w.drewN q) (fun i _=>n-(intOf i).toNat)
 case atStart=>exact⟨0,0,Nat.zero_le _,rfl,rfl⟩
 case round=>
  obtain⟨k,q,hk,rfl,rfl⟩:=hrel;by_cases bh:k<n
  ·obtain⟨ad,rfl,c1⟩:=h1.at_ bh;obtain⟨ad2,rfl,c2⟩:=h2.at_ bh;generalize l[k]?.getD 0=b at *;go_wp2_with fail
   go_quiet (fail)
   go_wp2_with fail;exact⟨⟨k+1,_,bh,by go_num,rfl⟩,by simp[intOf];omega⟩
  ·go_wp2_with fail;go_ret;exact⟨rfl,aY zb q⟩
theorem CE{A B:Option Addr}{n c d:Nat}{l:List ByteArray}{w:World}(h1:vD w A n l)(h2:vD w B n l)(hn:n<=maxLen) :
  Calls prog 158 #[.slice A n c,.slice B n d] w fun e w'=>e=.returned (.bool true)/\Below w.heap.size w w':=by
 unfold maxLen at hn;go_enter func158,ntmps158;go_wp2_with fail
 go_loopw [5] (fun i wr=>∃k q:Nat,k<=n/\i=.int .i64 k/\wr=w.drewN q) (fun i _=>n-(intOf i).toNat)
 case atStart=>exact⟨0,0,Nat.zero_le _,rfl,rfl⟩
 case round=>
  obtain⟨k,q,hk,rfl,rfl⟩:=hrel;by_cases bh:k<n
  ·obtain⟨ad,s,rfl,hs,c1⟩:=h1.at_ bh;obtain⟨ad2,s2,rfl,oo,c2⟩:=h2.at_ bh;rw[hs]at oo;obtain rfl:=Option.some.inj oo;clear hs oo;go_wp2_with fail
   go_quiet (fail)
   go_wp2_with fail;exact⟨⟨k+1,_,bh,by go_num,rfl⟩,by simp[intOf];omega⟩
  ·go_wp2_with fail;go_ret;exact⟨rfl,aY zb q⟩
theorem CC{S S':Nat->Prop}{A B:Option Addr}{n c d:Nat}{fs:List Fa}{w:World}(h1:aN S w (.slice A n c) fs)(h2:aN S' w (.slice B n d) fs)(hn:n<=maxLen) :
  Calls prog 145 #[.slice A n c,.slice B n d] w fun e w'=>e=.returned (.bool true)/\Below w.heap.size w w':=by
 unfold maxLen at hn;go_enter func145,ntmps145;go_wp2_with fail
 go_loopw [5] (fun i wr=>∃k:Nat,k<=n/\i=.int .i64 k/\Below w.heap.size w wr) (fun i _=>n-(intOf i).toNat)
 case atStart=>exact⟨0,Nat.zero_le _,rfl,Below.refl _ _⟩
 case round=>
  obtain⟨k,hk,rfl,hb⟩:=hrel;by_cases bh:k<n
  ·obtain⟨ad,f,A1,m1,d1,B1,q1,r1,rfl,Es,c0,c1,p1,v1,x1,x2,x3,x4,x5,x6⟩:=(h1.keep (b5.below (S:=S) hb)).at_ bh;obtain⟨bd,f2,A2,m2,d2,B2,q2,r2,rfl,BG,e0,e1,p2,v2,y1,y2,y3,y4,y5,y6⟩:=(h2.keep (b5.below (S:=S') hb)).at_ bh;rw[Es]at BG;obtain rfl:=Option.some.inj BG;obtain rfl:m2=m1:=by omega
   obtain rfl:q2=q1:=by omega
   clear Es BG;have bi:=zH (show n-(k+1)<n-k by omega);have ka:=ak (gs:=[(ad.add (k*2)).block,(bd.add (k*2)).block]) c1 (by simp);have kb:=ak (gs:=[(ad.add (k*2)).block,(bd.add (k*2)).block]) e1 (by simp);go_wp2_with fail;refine bo (C:=cr [(ad.add (k*2)).block,(bd.add (k*2)).block] wr) [([0,1,2,3,4,5,6,7,8,9],10)] [11] (by kernel_rfl) (by kernel_rfl) (fun _ _ _ _ e h=>⟨e.symm.trans h.1,h.2⟩) az ?_;refine aC fun K1 cF=>?_
   simp only[af,Zx];repeat go_big_quiet_step(fail)
   apply wpQuiet_nil;go_wp2_with fail;refine(CD (w:=wr.drew) v1.rd v2.rd (Nat.le_trans x4 x5)).mono ?_;rintro e w6 ⟨rfl,lY⟩;have lY:Below wr.heap.size wr w6:=(aY (Below.refl wr.heap.size wr) 1).trans lY;have la:=aG c0;have lb:=aG e0;have c0':=(lY.cell la).trans c0;have e0':=(lY.cell lb).trans e0;go_wp2_with fail;have bY:∀g∈[(ad.add (k*2)).block,(bd.add (k*2)).block],g<wr.heap.size:=by simp;exact⟨la,lb⟩
   refine⟨aw bY lY,cF _ _ ?_⟩;refine an ?_;simp only[af,Zx];repeat go_big_quiet_step(fail)
   apply wpQuiet_nil;go_wp2_with fail
   go_quiet (fail)
   have yz:=aj hb lY zl;have JX:=p1.keep (b5.below (S:=S) lY);have Xw:=p2.keep (b5.below (S:=S') lY);have la':(ad.add (k*2)).block<w6.heap.size:=Nat.lt_of_lt_of_le la lY.size;have lb':(bd.add (k*2)).block<w6.heap.size:=Nat.lt_of_lt_of_le lb lY.size;clear lY c0 e0 c1 e1 ka kb p1 p2 v1 v2;unfold maxLen at x2;go_wp2_with fail
   go_loopw [7] (fun i wr'=>∃j:Nat,j<=m2/\i=.int .i64 j/\Below w6.heap.size w6 wr') (fun i _=>m2-(intOf i).toNat)
   case atStart=>exact⟨0,Nat.zero_le _,rfl,aY zb _⟩
   case round=>
    obtain⟨j,hj,rfl,kI⟩:=hrel;have c0:=(kI.cell la').trans c0';have e0:=(kI.cell lb').trans e0';have lc:=Nat.lt_of_lt_of_le la' kI.size;have ld:=Nat.lt_of_lt_of_le lb' kI.size;by_cases sq:j<m2
    ·obtain⟨cd,p,C1,s1,t1,rfl,ww,c2,z1,z2,z3,z4⟩:=(JX.keep (b5.below (S:=S) kI)).at_ sq;obtain⟨dd,p',C2,s2,t2,rfl,BS,e2,z5,z6,z7,z8⟩:=(Xw.keep (b5.below (S:=S') kI)).at_ sq;rw[ww]at BS;obtain rfl:=Option.some.inj BS;obtain rfl:s2=s1:=by omega
     clear ww BS;have le:=aG c2;have lf:=aG e2;rw[dD]at le lf;have jW:=zH (show m2-(j+1)<m2-j by omega);have ka:=ak (gs:=[(ad.add (k*2)).block,(bd.add (k*2)).block,cd.block,dd.block]) c0 (by simp);have kb:=ak (gs:=[(ad.add (k*2)).block,(bd.add (k*2)).block,cd.block,dd.block]) e0 (by simp);have kc:=ak (gs:=[(ad.add (k*2)).block,(bd.add (k*2)).block,cd.block,dd.block]) c2 (by simp[dD]);have kd:=ak (gs:=[(ad.add (k*2)).block,(bd.add (k*2)).block,cd.block,dd.block]) e2 (by simp[dD]);have bY:∀g∈[(ad.add (k*2)).block,(bd.add (k*2)).block,cd.block,dd.block],g<wr.heap.size:=by simp;exact⟨lc,ld,le,lf⟩
     go_wp2_with fail;refine bo (C:=cr [(ad.add (k*2)).block,(bd.add (k*2)).block,cd.block,dd.block] wr) [([0,1,2,3,4,5,6,7,8,9,10,11,12,13,14,15],16)] [17] (by kernel_rfl) (by kernel_rfl) (fun _ _ _ _ e h=>⟨e.symm.trans h.1,h.2⟩) az ?_;refine aC fun K1 cF=>?_
     simp only[af,Zx];repeat go_big_quiet_step(fail)
     apply wpQuiet_nil;go_wp2_with fail;refine(CE (w:=wr.drew) z1.rd z5.rd (Nat.le_trans z2 z3)).mono ?_;rintro e w7 ⟨rfl,mX⟩;have mX:Below wr.heap.size wr w7:=(aY (Below.refl wr.heap.size wr) 1).trans mX;go_wp2_with fail;refine⟨aw bY mX,cF _ _ ?_⟩;refine an ?_;simp only[af,Zx];repeat go_big_quiet_step(fail)
     apply wpQuiet_nil;go_wp2_with fail
     go_roundw
     case rel=>exact⟨j+1,sq,by go_num,aj kI mX zl⟩
     case measure=>simp[intOf];exact jW.out
    ·obtain rfl:j=m2:=by omega
     go_wp2_with fail
     go_roundw
     case rel=>exact⟨k+1,bh,by go_num,aj yz kI zl⟩
     case measure=>simp[intOf];exact bi.out
  ·go_wp2_with fail;go_ret;exact⟨rfl,hb⟩
theorem iz(w:World)(T T':TypeId)(cs ds:Array Value):Below w.heap.size w ((w.alloc (.cells cs T)).alloc (.cells ds T'))/\ay ((w.alloc (.cells cs T)).alloc (.cells ds T')) w.heap.size T cs/\ay ((w.alloc (.cells cs T)).alloc (.cells ds T')) (w.heap.size+1) T' ds:=by
 refine⟨(zb.alloc zl _).alloc (by simp) _,(ay.new w T cs).alloc _,?_⟩;have:=ay.new (w.alloc (.cells cs T)) T' ds;have e:(w.alloc (.cells cs T)).heap.size=w.heap.size+1:=by simp
 rwa [e]at this
theorem xp{S S':Nat->Prop}{A B:Option Addr}{n c d:Nat}{x:En}{w:World}(h1:aN S w (.slice A n c) x.facts)(h2:aN S' w (.slice B n d) x.facts)(hn:n<=maxLen) :
  Calls prog 126 #[vK x (.slice A n c),vK x (.slice B n d)] w fun e w'=>e=.returned (.bool true)/\Below w.heap.size w w':=by
 unfold vK;obtain⟨aU,cw,iq⟩:=iz w 42 42 #[.int .i64 x.op,.int .i64 x.sess,.int .i64 x.seq,.slice A n c] #[.int .i64 x.op,.int .i64 x.sess,.int .i64 x.seq,.slice B n d];have g1:=h1.keep (b5.below (S:=S) aU);have g2:=h2.keep (b5.below (S:=S') aU);go_enter func126,ntmps126;go_wp2_with fail;generalize(w.alloc (.cells #[.int .i64 x.op,.int .i64 x.sess,.int .i64 x.seq,.slice A n c] 42)).alloc (.cells #[.int .i64 x.op,.int .i64 x.sess,.int .i64 x.seq,.slice B n d] 42)=w1 at *;refine(CC g1 g2 hn).mono ?_;rintro e w2 ⟨rfl,bU⟩;have b1:=cw.kept bU;have b2:=iq.kept bU;obtain⟨a0,a1,a2,-⟩:=b1.cs [0,1,2];obtain⟨d0,d1,d2,-⟩:=b2.cs [0,1,2];simp only[Zx]at a0 a1 a2 d0 d1 d2;go_wp2_with fail;go_ret;exact⟨by simp,aj aU bU zl⟩
theorem zI{S S':Nat->Prop}{A B:Option Addr}{n c d:Nat}{x:En}{w:World}(h1:aN S w (.slice A n c) x.facts)(h2:aN S' w (.slice B n d) x.facts)(hn:n<=maxLen) :
  Calls prog 73 #[rN x (.slice A n c),rN x (.slice B n d)] w fun e w'=>e=.returned (.bool true)/\Below w.heap.size w w':=by
 unfold rN;obtain⟨aU,cw,iq⟩:=iz w 59 59 #[.int .i64 x.idx,.int .i64 x.term,.int .i64 x.op,.int .i64 x.sess,.int .i64 x.seq,.slice A n c] #[.int .i64 x.idx,.int .i64 x.term,.int .i64 x.op,.int .i64 x.sess,.int .i64 x.seq,.slice B n d];have g1:=h1.keep (b5.below (S:=S) aU);have g2:=h2.keep (b5.below (S:=S') aU);go_enter func73,ntmps73;go_wp2_with fail;generalize(w.alloc (.cells #[.int .i64 x.idx,.int .i64 x.term,.int .i64 x.op,.int .i64 x.sess,.int .i64 x.seq,.slice A n c] 59)).alloc (.cells #[.int .i64 x.idx,.int .i64 x.term,.int .i64 x.op,.int .i64 x.sess,.int .i64 x.seq,.slice B n d] 59)=w1 at *;refine(xp (x:=x) g1 g2 hn).mono ?_;rintro e w2 ⟨rfl,bU⟩;have b1:=cw.kept bU;have b2:=iq.kept bU;obtain⟨a0,a1,-⟩:=b1.cs [0,1];obtain⟨d0,d1,-⟩:=b2.cs [0,1];simp only[Zx]at a0 a1 d0 d1;go_wp2_with fail;go_ret;exact⟨by simp,aj aU bU zl⟩
def im(w:World)(A:Option Addr)(n:Nat)(zs:List (Value×En)):Prop:=cj w 6 A n (zs.flatMap dE)
theorem im.len{w:World}{A:Option Addr}{n:Nat}{zs:List (Value×En)}(h:im w A n zs):zs.length=n:=by
 have:=h.1;rw[eG gR]at this;omega
theorem im.at_{w:World}{A:Option Addr}{n k:Nat}{zs:List (Value×En)}(h:im w A n zs)(hk:k<n) :
  ∃ad v x,A=some ad/\zs[k]?=some (v,x)/\w.cell? (ad.add (k*6))=some (.int .i64 x.idx)/\w.cell? ⟨(ad.add (k*6)).block,(ad.add (k*6)).off+1,none⟩=some (.int .i64 x.term)/\
   w.cell? ⟨(ad.add (k*6)).block,(ad.add (k*6)).off+2,none⟩=some (.int .i64 x.op)/\w.cell? ⟨(ad.add (k*6)).block,(ad.add (k*6)).off+3,none⟩=some (.int .i64 x.sess)/\
   w.cell? ⟨(ad.add (k*6)).block,(ad.add (k*6)).off+4,none⟩=some (.int .i64 x.seq)/\w.cell? ⟨(ad.add (k*6)).block,(ad.add (k*6)).off+5,none⟩=some v:=by
 have hl:=h.len;have h':cj w 6 A n (zs.flatMap dE):=h;obtain⟨ad,rfl,hc⟩:=h'.2 (by omega);have hz:zs[k]?=some (zs[k]'(by omega)):=List.getElem?_eq_getElem (by omega);obtain⟨⟨v,x⟩,BZ⟩:∃z,z=zs[k]'(by omega):=⟨_,rfl⟩;rw[<-BZ]at hz;have key:∀j u,j<6->(dE (v,x))[j]?=some u->w.cell? (ad.add (k*6+j))=some u:=fun j u hj hu=>hc _ _ ((cB gR hj hz).trans hu)
 have c0:=key 0 _ (by omega) rfl;have c1:=key 1 _ (by omega) rfl;have c2:=key 2 _ (by omega) rfl;have c3:=key 3 _ (by omega) rfl;have c4:=key 4 _ (by omega) rfl;have c5:=key 5 _ (by omega) rfl;rw[<-fE,jy _ _ (by omega)]at c1 c2 c3 c4 c5;exact⟨ad,v,x,rfl,hz,c0,c1,c2,c3,c4,c5⟩
theorem im.below{w w':World}{A:Option Addr}{n:Nat}{zs:List (Value×En)}(h:im w A n zs)(hb:Below w.heap.size w w'):im w' A n zs:=cj.below h hb
theorem zK (gs:List Nat){w:World}{p:Addr}{v:Value}(h:w.cell? p=some v)(hp:p.block∈gs):∀x:br gs w,x.1.cell? p=some v:=ak h hp
theorem IX (gs:List Nat){w:World}{p0:Addr}{v0:Value}(h0:w.cell? p0=some v0)(q0:p0.block∈gs:=by simp):(∀x:br gs w,x.1.cell? p0=some v0):=ak h0 q0
theorem rQ (gs:List Nat){w:World}{p0 p1:Addr}{v0 v1:Value}(h0:w.cell? p0=some v0)(h1:w.cell? p1=some v1)(q0:p0.block∈gs:=by simp)(q1:p1.block∈gs:=by simp):(∀x:br gs w,x.1.cell? p0=some v0)/\(∀x:br gs w,x.1.cell? p1=some v1):=⟨ak h0 q0,ak h1 q1⟩
theorem C3 (gs:List Nat){w:World}{p0 p1 p2:Addr}{v0 v1 v2:Value}(h0:w.cell? p0=some v0)(h1:w.cell? p1=some v1)(h2:w.cell? p2=some v2)(q0:p0.block∈gs:=by simp)(q1:p1.block∈gs:=by simp)(q2:p2.block∈gs:=by simp):(∀x:br gs w,x.1.cell? p0=some v0)/\(∀x:br gs w,x.1.cell? p1=some v1)/\(∀x:br gs w,x.1.cell? p2=some v2):=⟨ak h0 q0,ak h1 q1,ak h2 q2⟩
theorem IY (gs:List Nat){w:World}{p0 p1 p2 p3:Addr}{v0 v1 v2 v3:Value}(h0:w.cell? p0=some v0)(h1:w.cell? p1=some v1)(h2:w.cell? p2=some v2)(h3:w.cell? p3=some v3)(q0:p0.block∈gs:=by simp)(q1:p1.block∈gs:=by simp)(q2:p2.block∈gs:=by simp)(q3:p3.block∈gs:=by simp):(∀x:br gs w,x.1.cell? p0=some v0)/\(∀x:br gs w,x.1.cell? p1=some v1)/\(∀x:br gs w,x.1.cell? p2=some v2)/\(∀x:br gs w,x.1.cell? p3=some v3):=⟨ak h0 q0,ak h1 q1,ak h2 q2,ak h3 q3⟩
theorem O6 (gs:List Nat){w:World}{p0 p1 p2 p3 p4:Addr}{v0 v1 v2 v3 v4:Value}(h0:w.cell? p0=some v0)(h1:w.cell? p1=some v1)(h2:w.cell? p2=some v2)(h3:w.cell? p3=some v3)(h4:w.cell? p4=some v4)(q0:p0.block∈gs:=by simp)(q1:p1.block∈gs:=by simp)(q2:p2.block∈gs:=by simp)(q3:p3.block∈gs:=by simp)(q4:p4.block∈gs:=by simp):(∀x:br gs w,x.1.cell? p0=some v0)/\(∀x:br gs w,x.1.cell? p1=some v1)/\(∀x:br gs w,x.1.cell? p2=some v2)/\(∀x:br gs w,x.1.cell? p3=some v3)/\(∀x:br gs w,x.1.cell? p4=some v4):=⟨ak h0 q0,ak h1 q1,ak h2 q2,ak h3 q3,ak h4 q4⟩
theorem O7 (gs:List Nat){w:World}{p0 p1 p2 p3 p4 p5:Addr}{v0 v1 v2 v3 v4 v5:Value}(h0:w.cell? p0=some v0)(h1:w.cell? p1=some v1)(h2:w.cell? p2=some v2)(h3:w.cell? p3=some v3)(h4:w.cell? p4=some v4)(h5:w.cell? p5=some v5)(q0:p0.block∈gs:=by simp)(q1:p1.block∈gs:=by simp)(q2:p2.block∈gs:=by simp)(q3:p3.block∈gs:=by simp)(q4:p4.block∈gs:=by simp)(q5:p5.block∈gs:=by simp):(∀x:br gs w,x.1.cell? p0=some v0)/\(∀x:br gs w,x.1.cell? p1=some v1)/\(∀x:br gs w,x.1.cell? p2=some v2)/\(∀x:br gs w,x.1.cell? p3=some v3)/\(∀x:br gs w,x.1.cell? p4=some v4)/\(∀x:br gs w,x.1.cell? p5=some v5):=⟨ak h0 q0,ak h1 q1,ak h2 q2,ak h3 q3,ak h4 q4,ak h5 q5⟩
theorem O8 (gs:List Nat){w:World}{p0 p1 p2 p3 p4 p5 p6:Addr}{v0 v1 v2 v3 v4 v5 v6:Value}(h0:w.cell? p0=some v0)(h1:w.cell? p1=some v1)(h2:w.cell? p2=some v2)(h3:w.cell? p3=some v3)(h4:w.cell? p4=some v4)(h5:w.cell? p5=some v5)(h6:w.cell? p6=some v6)(q0:p0.block∈gs:=by simp)(q1:p1.block∈gs:=by simp)(q2:p2.block∈gs:=by simp)(q3:p3.block∈gs:=by simp)(q4:p4.block∈gs:=by simp)(q5:p5.block∈gs:=by simp)(q6:p6.block∈gs:=by simp):(∀x:br gs w,x.1.cell? p0=some v0)/\(∀x:br gs w,x.1.cell? p1=some v1)/\(∀x:br gs w,x.1.cell? p2=some v2)/\(∀x:br gs w,x.1.cell? p3=some v3)/\(∀x:br gs w,x.1.cell? p4=some v4)/\(∀x:br gs w,x.1.cell? p5=some v5)/\(∀x:br gs w,x.1.cell? p6=some v6):=⟨ak h0 q0,ak h1 q1,ak h2 q2,ak h3 q3,ak h4 q4,ak h5 q5,ak h6 q6⟩
theorem Uz (gs:List Nat){w:World}{p0 p1 p2 p3 p4 p5 p6 p7:Addr}{v0 v1 v2 v3 v4 v5 v6 v7:Value}(h0:w.cell? p0=some v0)(h1:w.cell? p1=some v1)(h2:w.cell? p2=some v2)(h3:w.cell? p3=some v3)(h4:w.cell? p4=some v4)(h5:w.cell? p5=some v5)(h6:w.cell? p6=some v6)(h7:w.cell? p7=some v7)(q0:p0.block∈gs:=by simp)(q1:p1.block∈gs:=by simp)(q2:p2.block∈gs:=by simp)(q3:p3.block∈gs:=by simp)(q4:p4.block∈gs:=by simp)(q5:p5.block∈gs:=by simp)(q6:p6.block∈gs:=by simp)(q7:p7.block∈gs:=by simp):(∀x:br gs w,x.1.cell? p0=some v0)/\(∀x:br gs w,x.1.cell? p1=some v1)/\(∀x:br gs w,x.1.cell? p2=some v2)/\(∀x:br gs w,x.1.cell? p3=some v3)/\(∀x:br gs w,x.1.cell? p4=some v4)/\(∀x:br gs w,x.1.cell? p5=some v5)/\(∀x:br gs w,x.1.cell? p6=some v6)/\(∀x:br gs w,x.1.cell? p7=some v7):=⟨ak h0 q0,ak h1 q1,ak h2 q2,ak h3 q3,ak h4 q4,ak h5 q5,ak h6 q6,ak h7 q7⟩
theorem ZN (gs:List Nat){w:World}{p0 p1 p2 p3 p4 p5 p6 p7 p8:Addr}{v0 v1 v2 v3 v4 v5 v6 v7 v8:Value}(h0:w.cell? p0=some v0)(h1:w.cell? p1=some v1)(h2:w.cell? p2=some v2)(h3:w.cell? p3=some v3)(h4:w.cell? p4=some v4)(h5:w.cell? p5=some v5)(h6:w.cell? p6=some v6)(h7:w.cell? p7=some v7)(h8:w.cell? p8=some v8)(q0:p0.block∈gs:=by simp)(q1:p1.block∈gs:=by simp)(q2:p2.block∈gs:=by simp)(q3:p3.block∈gs:=by simp)(q4:p4.block∈gs:=by simp)(q5:p5.block∈gs:=by simp)(q6:p6.block∈gs:=by simp)(q7:p7.block∈gs:=by simp)(q8:p8.block∈gs:=by simp):(∀x:br gs w,x.1.cell? p0=some v0)/\(∀x:br gs w,x.1.cell? p1=some v1)/\(∀x:br gs w,x.1.cell? p2=some v2)/\(∀x:br gs w,x.1.cell? p3=some v3)/\(∀x:br gs w,x.1.cell? p4=some v4)/\(∀x:br gs w,x.1.cell? p5=some v5)/\(∀x:br gs w,x.1.cell? p6=some v6)/\(∀x:br gs w,x.1.cell? p7=some v7)/\(∀x:br gs w,x.1.cell? p8=some v8):=⟨ak h0 q0,ak h1 q1,ak h2 q2,ak h3 q3,ak h4 q4,ak h5 q5,ak h6 q6,ak h7 q7,ak h8 q8⟩
theorem Y4 (gs:List Nat){w:World}{p0 p1 p2 p3 p4 p5 p6 p7 p8 p9:Addr}{v0 v1 v2 v3 v4 v5 v6 v7 v8 v9:Value}(h0:w.cell? p0=some v0)(h1:w.cell? p1=some v1)(h2:w.cell? p2=some v2)(h3:w.cell? p3=some v3)(h4:w.cell? p4=some v4)(h5:w.cell? p5=some v5)(h6:w.cell? p6=some v6)(h7:w.cell? p7=some v7)(h8:w.cell? p8=some v8)(h9:w.cell? p9=some v9)(q0:p0.block∈gs:=by simp)(q1:p1.block∈gs:=by simp)(q2:p2.block∈gs:=by simp)(q3:p3.block∈gs:=by simp)(q4:p4.block∈gs:=by simp)(q5:p5.block∈gs:=by simp)(q6:p6.block∈gs:=by simp)(q7:p7.block∈gs:=by simp)(q8:p8.block∈gs:=by simp)(q9:p9.block∈gs:=by simp):(∀x:br gs w,x.1.cell? p0=some v0)/\(∀x:br gs w,x.1.cell? p1=some v1)/\(∀x:br gs w,x.1.cell? p2=some v2)/\(∀x:br gs w,x.1.cell? p3=some v3)/\(∀x:br gs w,x.1.cell? p4=some v4)/\(∀x:br gs w,x.1.cell? p5=some v5)/\(∀x:br gs w,x.1.cell? p6=some v6)/\(∀x:br gs w,x.1.cell? p7=some v7)/\(∀x:br gs w,x.1.cell? p8=some v8)/\(∀x:br gs w,x.1.cell? p9=some v9):=⟨ak h0 q0,ak h1 q1,ak h2 q2,ak h3 q3,ak h4 q4,ak h5 q5,ak h6 q6,ak h7 q7,ak h8 q8,ak h9 q9⟩
theorem Y5 (gs:List Nat){w:World}{p0 p1 p2 p3 p4 p5 p6 p7 p8 p9 p10:Addr}{v0 v1 v2 v3 v4 v5 v6 v7 v8 v9 v10:Value}(h0:w.cell? p0=some v0)(h1:w.cell? p1=some v1)(h2:w.cell? p2=some v2)(h3:w.cell? p3=some v3)(h4:w.cell? p4=some v4)(h5:w.cell? p5=some v5)(h6:w.cell? p6=some v6)(h7:w.cell? p7=some v7)(h8:w.cell? p8=some v8)(h9:w.cell? p9=some v9)(pE:w.cell? p10=some v10)(q0:p0.block∈gs:=by simp)(q1:p1.block∈gs:=by simp)(q2:p2.block∈gs:=by simp)(q3:p3.block∈gs:=by simp)(q4:p4.block∈gs:=by simp)(q5:p5.block∈gs:=by simp)(q6:p6.block∈gs:=by simp)(q7:p7.block∈gs:=by simp)(q8:p8.block∈gs:=by simp)(q9:p9.block∈gs:=by simp)(q10:p10.block∈gs:=by simp):(∀x:br gs w,x.1.cell? p0=some v0)/\(∀x:br gs w,x.1.cell? p1=some v1)/\(∀x:br gs w,x.1.cell? p2=some v2)/\(∀x:br gs w,x.1.cell? p3=some v3)/\(∀x:br gs w,x.1.cell? p4=some v4)/\(∀x:br gs w,x.1.cell? p5=some v5)/\(∀x:br gs w,x.1.cell? p6=some v6)/\(∀x:br gs w,x.1.cell? p7=some v7)/\(∀x:br gs w,x.1.cell? p8=some v8)/\(∀x:br gs w,x.1.cell? p9=some v9)/\(∀x:br gs w,x.1.cell? p10=some v10):=⟨ak h0 q0,ak h1 q1,ak h2 q2,ak h3 q3,ak h4 q4,ak h5 q5,ak h6 q6,ak h7 q7,ak h8 q8,ak h9 q9,ak pE q10⟩
theorem Y6 (gs:List Nat){w:World}{p0 p1 p2 p3 p4 p5 p6 p7 p8 p9 p10 p11:Addr}{v0 v1 v2 v3 v4 v5 v6 v7 v8 v9 v10 v11:Value}(h0:w.cell? p0=some v0)(h1:w.cell? p1=some v1)(h2:w.cell? p2=some v2)(h3:w.cell? p3=some v3)(h4:w.cell? p4=some v4)(h5:w.cell? p5=some v5)(h6:w.cell? p6=some v6)(h7:w.cell? p7=some v7)(h8:w.cell? p8=some v8)(h9:w.cell? p9=some v9)(pE:w.cell? p10=some v10)(F9:w.cell? p11=some v11)(q0:p0.block∈gs:=by simp)(q1:p1.block∈gs:=by simp)(q2:p2.block∈gs:=by simp)(q3:p3.block∈gs:=by simp)(q4:p4.block∈gs:=by simp)(q5:p5.block∈gs:=by simp)(q6:p6.block∈gs:=by simp)(q7:p7.block∈gs:=by simp)(q8:p8.block∈gs:=by simp)(q9:p9.block∈gs:=by simp)(q10:p10.block∈gs:=by simp)(q11:p11.block∈gs:=by simp):(∀x:br gs w,x.1.cell? p0=some v0)/\(∀x:br gs w,x.1.cell? p1=some v1)/\(∀x:br gs w,x.1.cell? p2=some v2)/\(∀x:br gs w,x.1.cell? p3=some v3)/\(∀x:br gs w,x.1.cell? p4=some v4)/\(∀x:br gs w,x.1.cell? p5=some v5)/\(∀x:br gs w,x.1.cell? p6=some v6)/\(∀x:br gs w,x.1.cell? p7=some v7)/\(∀x:br gs w,x.1.cell? p8=some v8)/\(∀x:br gs w,x.1.cell? p9=some v9)/\(∀x:br gs w,x.1.cell? p10=some v10)/\(∀x:br gs w,x.1.cell? p11=some v11):=⟨ak h0 q0,ak h1 q1,ak h2 q2,ak h3 q3,ak h4 q4,ak h5 q5,ak h6 q6,ak h7 q7,ak h8 q8,ak h9 q9,ak pE q10,ak F9 q11⟩
theorem Aa (gs:List Nat){w:World}{p0 p1 p2 p3 p4 p5 p6 p7 p8 p9 p10 p11 p12:Addr}{v0 v1 v2 v3 v4 v5 v6 v7 v8 v9 v10 v11 v12:Value}(h0:w.cell? p0=some v0)(h1:w.cell? p1=some v1)(h2:w.cell? p2=some v2)(h3:w.cell? p3=some v3)(h4:w.cell? p4=some v4)(h5:w.cell? p5=some v5)(h6:w.cell? p6=some v6)(h7:w.cell? p7=some v7)(h8:w.cell? p8=some v8)(h9:w.cell? p9=some v9)(pE:w.cell? p10=some v10)(F9:w.cell? p11=some v11)(VT:w.cell? p12=some v12)(q0:p0.block∈gs:=by simp)(q1:p1.block∈gs:=by simp)(q2:p2.block∈gs:=by simp)(q3:p3.block∈gs:=by simp)(q4:p4.block∈gs:=by simp)(q5:p5.block∈gs:=by simp)(q6:p6.block∈gs:=by simp)(q7:p7.block∈gs:=by simp)(q8:p8.block∈gs:=by simp)(q9:p9.block∈gs:=by simp)(q10:p10.block∈gs:=by simp)(q11:p11.block∈gs:=by simp)(q12:p12.block∈gs:=by simp):(∀x:br gs w,x.1.cell? p0=some v0)/\(∀x:br gs w,x.1.cell? p1=some v1)/\(∀x:br gs w,x.1.cell? p2=some v2)/\(∀x:br gs w,x.1.cell? p3=some v3)/\(∀x:br gs w,x.1.cell? p4=some v4)/\(∀x:br gs w,x.1.cell? p5=some v5)/\(∀x:br gs w,x.1.cell? p6=some v6)/\(∀x:br gs w,x.1.cell? p7=some v7)/\(∀x:br gs w,x.1.cell? p8=some v8)/\(∀x:br gs w,x.1.cell? p9=some v9)/\(∀x:br gs w,x.1.cell? p10=some v10)/\(∀x:br gs w,x.1.cell? p11=some v11)/\(∀x:br gs w,x.1.cell? p12=some v12):=⟨ak h0 q0,ak h1 q1,ak h2 q2,ak h3 q3,ak h4 q4,ak h5 q5,ak h6 q6,ak h7 q7,ak h8 q8,ak h9 q9,ak pE q10,ak F9 q11,ak VT q12⟩
end Go.Proofs.YtjcninheccmpoaaGreat
