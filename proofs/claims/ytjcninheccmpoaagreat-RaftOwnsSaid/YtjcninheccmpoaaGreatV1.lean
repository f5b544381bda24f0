import Derived.Lib.Hide
import Derived.Handy
import Derived.Below
import Derived.Laws.OwnMore
import Derived.Maps.AppendAt
import Derived.Deep.AppendLies
import Derived.RegionTactic
import Derived.OwnWalk
import Derived.Deep.Draws
import Derived.Deep.RegionLaw
import Derived.Laws.Rows
import Derived.OrdersHeld
import Derived.BigQuiet
import Derived.Deep.Quiet
import Derived.Lib.SlBytesConst
import Derived.Test.YtjcninheccmpoaaGreatRows
import Derived.WalkMore
import Derived.ScopeJumps
import Derived.Lib.Hide
import Derived.Deep.QuietTactic
import Derived.Deep.RegionWith
import Derived.Laws.RangeString
import Derived.Laws.RangeAny
import Derived.ArgAppend
import Derived.Laws.Shifts
import Derived.Shelf.Strings.OnBuilder
import Derived.Test.YtjcninheccmpoaaGreatProg
import Derived.Lib.AppendStr
import Derived.Lib.Join
set_option maxRecDepth 100000
set_option maxHeartbeats 8000000
set_option linter.all false
namespace Go.Proofs.YtjcninheccmpoaaGreat
open Go.RowKit Go.Proofs.Tryz
theorem Zx {a:Type}:(∀(l:List a)(i:Nat),l.toArray[i]?=l[i]?)/\(∀(x:a)(l:List a),(x::l)[0]?=some x)/\∀(x:a)(l:List a)(i:Nat),(x::l)[i+1]?=l[i]?:=⟨fun _ _=>List.getElem?_toArray,fun _ _=>List.getElem?_cons_zero,fun _ _ _=>List.getElem?_cons_succ⟩
theorem Zy {a:Type}:(∀(l:List a)(i:Nat)(x:a),l.toArray.setIfInBounds i x=(l.set i x).toArray)/\(∀(x y:a)(l:List a),(x::l).set 0 y=y::l)/\∀(x y:a)(l:List a)(i:Nat),(x::l).set (i+1) y=x::l.set i y:=⟨fun l i x=>List.setIfInBounds_toArray l i x,fun _ _ _=>List.set_cons_zero,fun _ _ _ _=>List.set_cons_succ⟩
theorem zl {n:Nat}:n<=n:=Nat.le_refl n
theorem zz {n:Nat}:0<=n:=Nat.zero_le n
theorem zb {B:Nat}{w:World}:Below B w w:=Below.refl B w
theorem zN {a:Type _}(x:a):∃y,x=y:=⟨_,rfl⟩
theorem zH {p:Prop}(h:p):RowKit.Hid p:=h
theorem tI {a b:Type _}{x:a}{y:b}{p q:Prop}(h:q:=by simp):p\/(q/\x=x/\y=y):=.inr ⟨h,rfl,rfl⟩
theorem uV (fr:Nat->Value):(List.range 23).map fr=[fr 0,fr 1,fr 2,fr 3,fr 4,fr 5,fr 6,fr 7,fr 8,fr 9,fr 10,fr 11,fr 12,fr 13,fr 14,fr 15,fr 16,fr 17,fr 18,fr 19,fr 20,fr 21,fr 22]:=by kernel_rfl
theorem jO (fr:Nat->Value):(List.range 100).map fr=[fr 0,fr 1,fr 2,fr 3,fr 4,fr 5,fr 6,fr 7,fr 8,fr 9,fr 10,fr 11,fr 12,fr 13,fr 14,fr 15,fr 16,fr 17,fr 18,fr 19,fr 20,fr 21,fr 22,fr 23,fr 24,fr 25,fr 26,fr 27,fr 28,fr 29,fr 30,fr 31,fr 32,fr 33,fr 34,fr 35,fr 36,fr 37,fr 38,fr 39,fr 40,fr 41,fr 42,fr 43,fr 44,fr 45,fr 46,fr 47,fr 48,fr 49,fr 50,fr 51,fr 52,fr 53,fr 54,fr 55,fr 56,fr 57,fr 58,fr 59,fr 60,fr 61,fr 62,fr 63,fr 64,fr 65,fr 66,fr 67,fr 68,fr 69,fr 70,fr 71,fr 72,fr 73,fr 74,fr 75,fr 76,fr 77,fr 78,fr 79,fr 80,fr 81,fr 82,fr 83,fr 84,fr 85,fr 86,fr 87,fr 88,fr 89,fr 90,fr 91,fr 92,fr 93,fr 94,fr 95,fr 96,fr 97,fr 98,fr 99]:=by kernel_rfl
theorem pi (fr:Nat->Value):(List.range 103).map fr=[fr 0,fr 1,fr 2,fr 3,fr 4,fr 5,fr 6,fr 7,fr 8,fr 9,fr 10,fr 11,fr 12,fr 13,fr 14,fr 15,fr 16,fr 17,fr 18,fr 19,fr 20,fr 21,fr 22,fr 23,fr 24,fr 25,fr 26,fr 27,fr 28,fr 29,fr 30,fr 31,fr 32,fr 33,fr 34,fr 35,fr 36,fr 37,fr 38,fr 39,fr 40,fr 41,fr 42,fr 43,fr 44,fr 45,fr 46,fr 47,fr 48,fr 49,fr 50,fr 51,fr 52,fr 53,fr 54,fr 55,fr 56,fr 57,fr 58,fr 59,fr 60,fr 61,fr 62,fr 63,fr 64,fr 65,fr 66,fr 67,fr 68,fr 69,fr 70,fr 71,fr 72,fr 73,fr 74,fr 75,fr 76,fr 77,fr 78,fr 79,fr 80,fr 81,fr 82,fr 83,fr 84,fr 85,fr 86,fr 87,fr 88,fr 89,fr 90,fr 91,fr 92,fr 93,fr 94,fr 95,fr 96,fr 97,fr 98,fr 99,fr 100,fr 101,fr 102]:=by kernel_rfl
theorem hU (fr:Nat->Value):(List.range 105).map fr=[fr 0,fr 1,fr 2,fr 3,fr 4,fr 5,fr 6,fr 7,fr 8,fr 9,fr 10,fr 11,fr 12,fr 13,fr 14,fr 15,fr 16,fr 17,fr 18,fr 19,fr 20,fr 21,fr 22,fr 23,fr 24,fr 25,fr 26,fr 27,fr 28,fr 29,fr 30,fr 31,fr 32,fr 33,fr 34,fr 35,fr 36,fr 37,fr 38,fr 39,fr 40,fr 41,fr 42,fr 43,fr 44,fr 45,fr 46,fr 47,fr 48,fr 49,fr 50,fr 51,fr 52,fr 53,fr 54,fr 55,fr 56,fr 57,fr 58,fr 59,fr 60,fr 61,fr 62,fr 63,fr 64,fr 65,fr 66,fr 67,fr 68,fr 69,fr 70,fr 71,fr 72,fr 73,fr 74,fr 75,fr 76,fr 77,fr 78,fr 79,fr 80,fr 81,fr 82,fr 83,fr 84,fr 85,fr 86,fr 87,fr 88,fr 89,fr 90,fr 91,fr 92,fr 93,fr 94,fr 95,fr 96,fr 97,fr 98,fr 99,fr 100,fr 101,fr 102,fr 103,fr 104]:=by kernel_rfl
theorem kP (fr:Nat->Value):(List.range 115).map fr=[fr 0,fr 1,fr 2,fr 3,fr 4,fr 5,fr 6,fr 7,fr 8,fr 9,fr 10,fr 11,fr 12,fr 13,fr 14,fr 15,fr 16,fr 17,fr 18,fr 19,fr 20,fr 21,fr 22,fr 23,fr 24,fr 25,fr 26,fr 27,fr 28,fr 29,fr 30,fr 31,fr 32,fr 33,fr 34,fr 35,fr 36,fr 37,fr 38,fr 39,fr 40,fr 41,fr 42,fr 43,fr 44,fr 45,fr 46,fr 47,fr 48,fr 49,fr 50,fr 51,fr 52,fr 53,fr 54,fr 55,fr 56,fr 57,fr 58,fr 59,fr 60,fr 61,fr 62,fr 63,fr 64,fr 65,fr 66,fr 67,fr 68,fr 69,fr 70,fr 71,fr 72,fr 73,fr 74,fr 75,fr 76,fr 77,fr 78,fr 79,fr 80,fr 81,fr 82,fr 83,fr 84,fr 85,fr 86,fr 87,fr 88,fr 89,fr 90,fr 91,fr 92,fr 93,fr 94,fr 95,fr 96,fr 97,fr 98,fr 99,fr 100,fr 101,fr 102,fr 103,fr 104,fr 105,fr 106,fr 107,fr 108,fr 109,fr 110,fr 111,fr 112,fr 113,fr 114]:=by kernel_rfl
theorem bJ (fr:Nat->Value):(List.range 142).map fr=[fr 0,fr 1,fr 2,fr 3,fr 4,fr 5,fr 6,fr 7,fr 8,fr 9,fr 10,fr 11,fr 12,fr 13,fr 14,fr 15,fr 16,fr 17,fr 18,fr 19,fr 20,fr 21,fr 22,fr 23,fr 24,fr 25,fr 26,fr 27,fr 28,fr 29,fr 30,fr 31,fr 32,fr 33,fr 34,fr 35,fr 36,fr 37,fr 38,fr 39,fr 40,fr 41,fr 42,fr 43,fr 44,fr 45,fr 46,fr 47,fr 48,fr 49,fr 50,fr 51,fr 52,fr 53,fr 54,fr 55,fr 56,fr 57,fr 58,fr 59,fr 60,fr 61,fr 62,fr 63,fr 64,fr 65,fr 66,fr 67,fr 68,fr 69,fr 70,fr 71,fr 72,fr 73,fr 74,fr 75,fr 76,fr 77,fr 78,fr 79,fr 80,fr 81,fr 82,fr 83,fr 84,fr 85,fr 86,fr 87,fr 88,fr 89,fr 90,fr 91,fr 92,fr 93,fr 94,fr 95,fr 96,fr 97,fr 98,fr 99,fr 100,fr 101,fr 102,fr 103,fr 104,fr 105,fr 106,fr 107,fr 108,fr 109,fr 110,fr 111,fr 112,fr 113,fr 114,fr 115,fr 116,fr 117,fr 118,fr 119,fr 120,fr 121,fr 122,fr 123,fr 124,fr 125,fr 126,fr 127,fr 128,fr 129,fr 130,fr 131,fr 132,fr 133,fr 134,fr 135,fr 136,fr 137,fr 138,fr 139,fr 140,fr 141]:=by kernel_rfl
theorem ia (fr:Nat->Value):(List.range 191).map fr=[fr 0,fr 1,fr 2,fr 3,fr 4,fr 5,fr 6,fr 7,fr 8,fr 9,fr 10,fr 11,fr 12,fr 13,fr 14,fr 15,fr 16,fr 17,fr 18,fr 19,fr 20,fr 21,fr 22,fr 23,fr 24,fr 25,fr 26,fr 27,fr 28,fr 29,fr 30,fr 31,fr 32,fr 33,fr 34,fr 35,fr 36,fr 37,fr 38,fr 39,fr 40,fr 41,fr 42,fr 43,fr 44,fr 45,fr 46,fr 47,fr 48,fr 49,fr 50,fr 51,fr 52,fr 53,fr 54,fr 55,fr 56,fr 57,fr 58,fr 59,fr 60,fr 61,fr 62,fr 63,fr 64,fr 65,fr 66,fr 67,fr 68,fr 69,fr 70,fr 71,fr 72,fr 73,fr 74,fr 75,fr 76,fr 77,fr 78,fr 79,fr 80,fr 81,fr 82,fr 83,fr 84,fr 85,fr 86,fr 87,fr 88,fr 89,fr 90,fr 91,fr 92,fr 93,fr 94,fr 95,fr 96,fr 97,fr 98,fr 99,fr 100,fr 101,fr 102,fr 103,fr 104,fr 105,fr 106,fr 107,fr 108,fr 109,fr 110,fr 111,fr 112,fr 113,fr 114,fr 115,fr 116,fr 117,fr 118,fr 119,fr 120,fr 121,fr 122,fr 123,fr 124,fr 125,fr 126,fr 127,fr 128,fr 129,fr 130,fr 131,fr 132,fr 133,fr 134,fr 135,fr 136,fr 137,fr 138,fr 139,fr 140,fr 141,fr 142,fr 143,fr 144,fr 145,fr 146,fr 147,fr 148,fr 149,fr 150,fr 151,fr 152,fr 153,fr 154,fr 155,fr 156,fr 157,fr 158,fr 159,fr 160,fr 161,fr 162,fr 163,fr 164,fr 165,fr 166,fr 167,fr 168,fr 169,fr 170,fr 171,fr 172,fr 173,fr 174,fr 175,fr 176,fr 177,fr 178,fr 179,fr 180,fr 181,fr 182,fr 183,fr 184,fr 185,fr 186,fr 187,fr 188,fr 189,fr 190]:=by kernel_rfl
theorem dV (fr:Nat->Value):(List.range 221).map fr=[fr 0,fr 1,fr 2,fr 3,fr 4,fr 5,fr 6,fr 7,fr 8,fr 9,fr 10,fr 11,fr 12,fr 13,fr 14,fr 15,fr 16,fr 17,fr 18,fr 19,fr 20,fr 21,fr 22,fr 23,fr 24,fr 25,fr 26,fr 27,fr 28,fr 29,fr 30,fr 31,fr 32,fr 33,fr 34,fr 35,fr 36,fr 37,fr 38,fr 39,fr 40,fr 41,fr 42,fr 43,fr 44,fr 45,fr 46,fr 47,fr 48,fr 49,fr 50,fr 51,fr 52,fr 53,fr 54,fr 55,fr 56,fr 57,fr 58,fr 59,fr 60,fr 61,fr 62,fr 63,fr 64,fr 65,fr 66,fr 67,fr 68,fr 69,fr 70,fr 71,fr 72,fr 73,fr 74,fr 75,fr 76,fr 77,fr 78,fr 79,fr 80,fr 81,fr 82,fr 83,fr 84,fr 85,fr 86,fr 87,fr 88,fr 89,fr 90,fr 91,fr 92,fr 93,fr 94,fr 95,fr 96,fr 97,fr 98,fr 99,fr 100,fr 101,fr 102,fr 103,fr 104,fr 105,fr 106,fr 107,fr 108,fr 109,fr 110,fr 111,fr 112,fr 113,fr 114,fr 115,fr 116,fr 117,fr 118,fr 119,fr 120,fr 121,fr 122,fr 123,fr 124,fr 125,fr 126,fr 127,fr 128,fr 129,fr 130,fr 131,fr 132,fr 133,fr 134,fr 135,fr 136,fr 137,fr 138,fr 139,fr 140,fr 141,fr 142,fr 143,fr 144,fr 145,fr 146,fr 147,fr 148,fr 149,fr 150,fr 151,fr 152,fr 153,fr 154,fr 155,fr 156,fr 157,fr 158,fr 159,fr 160,fr 161,fr 162,fr 163,fr 164,fr 165,fr 166,fr 167,fr 168,fr 169,fr 170,fr 171,fr 172,fr 173,fr 174,fr 175,fr 176,fr 177,fr 178,fr 179,fr 180,fr 181,fr 182,fr 183,fr 184,fr 185,fr 186,fr 187,fr 188,fr 189,fr 190,fr 191,fr 192,fr 193,fr 194,fr 195,fr 196,fr 197,fr 198,fr 199,fr 200,fr 201,fr 202,fr 203,fr 204,fr 205,fr 206,fr 207,fr 208,fr 209,fr 210,fr 211,fr 212,fr 213,fr 214,fr 215,fr 216,fr 217,fr 218,fr 219,fr 220]:=by kernel_rfl
theorem eW (fr:Nat->Value):(List.range 236).map fr=[fr 0,fr 1,fr 2,fr 3,fr 4,fr 5,fr 6,fr 7,fr 8,fr 9,fr 10,fr 11,fr 12,fr 13,fr 14,fr 15,fr 16,fr 17,fr 18,fr 19,fr 20,fr 21,fr 22,fr 23,fr 24,fr 25,fr 26,fr 27,fr 28,fr 29,fr 30,fr 31,fr 32,fr 33,fr 34,fr 35,fr 36,fr 37,fr 38,fr 39,fr 40,fr 41,fr 42,fr 43,fr 44,fr 45,fr 46,fr 47,fr 48,fr 49,fr 50,fr 51,fr 52,fr 53,fr 54,fr 55,fr 56,fr 57,fr 58,fr 59,fr 60,fr 61,fr 62,fr 63,fr 64,fr 65,fr 66,fr 67,fr 68,fr 69,fr 70,fr 71,fr 72,fr 73,fr 74,fr 75,fr 76,fr 77,fr 78,fr 79,fr 80,fr 81,fr 82,fr 83,fr 84,fr 85,fr 86,fr 87,fr 88,fr 89,fr 90,fr 91,fr 92,fr 93,fr 94,fr 95,fr 96,fr 97,fr 98,fr 99,fr 100,fr 101,fr 102,fr 103,fr 104,fr 105,fr 106,fr 107,fr 108,fr 109,fr 110,fr 111,fr 112,fr 113,fr 114,fr 115,fr 116,fr 117,fr 118,fr 119,fr 120,fr 121,fr 122,fr 123,fr 124,fr 125,fr 126,fr 127,fr 128,fr 129,fr 130,fr 131,fr 132,fr 133,fr 134,fr 135,fr 136,fr 137,fr 138,fr 139,fr 140,fr 141,fr 142,fr 143,fr 144,fr 145,fr 146,fr 147,fr 148,fr 149,fr 150,fr 151,fr 152,fr 153,fr 154,fr 155,fr 156,fr 157,fr 158,fr 159,fr 160,fr 161,fr 162,fr 163,fr 164,fr 165,fr 166,fr 167,fr 168,fr 169,fr 170,fr 171,fr 172,fr 173,fr 174,fr 175,fr 176,fr 177,fr 178,fr 179,fr 180,fr 181,fr 182,fr 183,fr 184,fr 185,fr 186,fr 187,fr 188,fr 189,fr 190,fr 191,fr 192,fr 193,fr 194,fr 195,fr 196,fr 197,fr 198,fr 199,fr 200,fr 201,fr 202,fr 203,fr 204,fr 205,fr 206,fr 207,fr 208,fr 209,fr 210,fr 211,fr 212,fr 213,fr 214,fr 215,fr 216,fr 217,fr 218,fr 219,fr 220,fr 221,fr 222,fr 223,fr 224,fr 225,fr 226,fr 227,fr 228,fr 229,fr 230,fr 231,fr 232,fr 233,fr 234,fr 235]:=by kernel_rfl
theorem ed (fr:Nat->Value):(List.range 263).map fr=[fr 0,fr 1,fr 2,fr 3,fr 4,fr 5,fr 6,fr 7,fr 8,fr 9,fr 10,fr 11,fr 12,fr 13,fr 14,fr 15,fr 16,fr 17,fr 18,fr 19,fr 20,fr 21,fr 22,fr 23,fr 24,fr 25,fr 26,fr 27,fr 28,fr 29,fr 30,fr 31,fr 32,fr 33,fr 34,fr 35,fr 36,fr 37,fr 38,fr 39,fr 40,fr 41,fr 42,fr 43,fr 44,fr 45,fr 46,fr 47,fr 48,fr 49,fr 50,fr 51,fr 52,fr 53,fr 54,fr 55,fr 56,fr 57,fr 58,fr 59,fr 60,fr 61,fr 62,fr 63,fr 64,fr 65,fr 66,fr 67,fr 68,fr 69,fr 70,fr 71,fr 72,fr 73,fr 74,fr 75,fr 76,fr 77,fr 78,fr 79,fr 80,fr 81,fr 82,fr 83,fr 84,fr 85,fr 86,fr 87,fr 88,fr 89,fr 90,fr 91,fr 92,fr 93,fr 94,fr 95,fr 96,fr 97,fr 98,fr 99,fr 100,fr 101,fr 102,fr 103,fr 104,fr 105,fr 106,fr 107,fr 108,fr 109,fr 110,fr 111,fr 112,fr 113,fr 114,fr 115,fr 116,fr 117,fr 118,fr 119,fr 120,fr 121,fr 122,fr 123,fr 124,fr 125,fr 126,fr 127,fr 128,fr 129,fr 130,fr 131,fr 132,fr 133,fr 134,fr 135,fr 136,fr 137,fr 138,fr 139,fr 140,fr 141,fr 142,fr 143,fr 144,fr 145,fr 146,fr 147,fr 148,fr 149,fr 150,fr 151,fr 152,fr 153,fr 154,fr 155,fr 156,fr 157,fr 158,fr 159,fr 160,fr 161,fr 162,fr 163,fr 164,fr 165,fr 166,fr 167,fr 168,fr 169,fr 170,fr 171,fr 172,fr 173,fr 174,fr 175,fr 176,fr 177,fr 178,fr 179,fr 180,fr 181,fr 182,fr 183,fr 184,fr 185,fr 186,fr 187,fr 188,fr 189,fr 190,fr 191,fr 192,fr 193,fr 194,fr 195,fr 196,fr 197,fr 198,fr 199,fr 200,fr 201,fr 202,fr 203,fr 204,fr 205,fr 206,fr 207,fr 208,fr 209,fr 210,fr 211,fr 212,fr 213,fr 214,fr 215,fr 216,fr 217,fr 218,fr 219,fr 220,fr 221,fr 222,fr 223,fr 224,fr 225,fr 226,fr 227,fr 228,fr 229,fr 230,fr 231,fr 232,fr 233,fr 234,fr 235,fr 236,fr 237,fr 238,fr 239,fr 240,fr 241,fr 242,fr 243,fr 244,fr 245,fr 246,fr 247,fr 248,fr 249,fr 250,fr 251,fr 252,fr 253,fr 254,fr 255,fr 256,fr 257,fr 258,fr 259,fr 260,fr 261,fr 262]:=by kernel_rfl
def stp(n:Nat):Nat:=if n%2=1 then(n/2) ^^^ 3988292384 else n/2
def Ss:Nat->Nat->Nat
 | 0,n=>n
 | k+1,n=>stp (Ss k n)
theorem sw{a b:Bool}(h:a=b):Ending.returned (.bool a)=.returned (.bool b):=by rw[h]
theorem uY{α:Type}(l:List α)(z:α)(k:Nat)(h:k<l.length):l.take (k+1)=l.take k++[l[k]?.getD z]:=by
 rw[List.take_succ_eq_append_getElem h,List.getElem?_eq_getElem h];rfl
theorem rS{n k:Nat}(h:n<=k)(hk:k<=1000000000):n<=maxLen:=by unfold maxLen;omega
theorem bi(a:Addr)(n:Nat):(a.add n).block=a.block:=by unfold Addr.add;split <;> rfl
theorem eK(a:Addr)(i j:Nat):(a.add i).add j=a.add (i+j):=by
 unfold Addr.add;by_cases hi:i=0 <;> by_cases hj:j=0 <;> simp[hi,hj,Nat.add_assoc]
theorem ns(a:Addr):a.add 0=a:=by simp[Addr.add]
theorem ar{w:World}{p:Addr}{v:Value}(h:w.cell? p=some v):p.block<w.heap.size:=by
 rcases Nat.lt_or_ge p.block w.heap.size with aU|ry
 ·exact aU
 ·unfold World.cell? at h;rw[Array.getElem?_eq_none ry]at h;cases h
def cn(w:World)(size:Nat)(A:Option Addr)(n:Nat)(xs:List Value):Prop:=
 xs.length=n*size/\(0<n->∃ad,A=some ad/\∀j u,xs[j]?=some u->w.cell? (ad.add j)=some u)
section
variable {w w':World}{size n:Nat}{A:Option Addr}{xs:List Value}
theorem cn.none_:cn w size A 0 []:=⟨by simp,fun h=>absurd h (by omega)⟩
theorem cn.keep(h:cn w size A n xs)(hk:∀p:Addr,p.block<w.heap.size->w'.cell? p=w.cell? p):cn w' size A n xs:=
 ⟨h.1,fun hn=>by
  obtain⟨ad,e,hc⟩:=h.2 hn;exact⟨ad,e,fun j u hu=>(hk _ (ar (hc j u hu))).trans (hc j u hu)⟩⟩
theorem cn.below(h:cn w size A n xs)(hb:Below w.heap.size w w'):cn w' size A n xs:=h.keep fun _ hp=>hb.cell hp
theorem cn.alloc(h:cn w size A n xs)(o:Obj):cn (w.alloc o) size A n xs:=h.keep fun p hp=>World.cell?_alloc_lt w o p hp
theorem cn.cut(h:cn w size A n xs){k cap:Nat}(hk:k<=n)(hc:n<=cap) :
  cn w size (if cap=k then A else A.map (·.add (k*size))) (n-k) (xs.drop (k*size)):=by
 refine⟨by rw[List.length_drop,h.1,Nat.sub_mul],fun hn=>?_⟩;obtain⟨ad,rfl,eh⟩:=h.2 (by omega);rw[if_neg (by omega)];refine⟨ad.add (k*size),rfl,fun j u hu=>?_⟩;rw[eK];exact eh _ u (by rw[<-hu,List.getElem?_drop])
theorem cn.take(h:cn w size A n xs){k:Nat}(hk:k<=n):cn w size A k (xs.take (k*size)):=by
 refine⟨by rw[List.length_take,h.1];exact Nat.min_eq_left (Nat.mul_le_mul_right _ hk),fun hn=>?_⟩;obtain⟨ad,rfl,eh⟩:=h.2 (by omega);refine⟨ad,rfl,fun j u hu=>eh j u ?_⟩;rw[List.getElem?_take]at hu;split at hu
 ·exact hu
 ·cases hu
theorem cn.of_own{base:Nat}{e:TypeId}{c:Nat}(h:w.ownsRow base e size (.slice A n c) n xs):cn w size A n xs:=by
 refine⟨h.1,fun hn=>?_⟩;obtain⟨g,cap,hv,_,aU⟩:=h.form hn;have hA:A=some ⟨g,0,none⟩:=by injection hv
 subst hA;exact⟨_,rfl,h.cells (g:=g) rfl⟩
theorem sh{base:Nat}{e:TypeId}{v:Value}(h:w.ownsRow base e size v n xs):∃A c,v=.slice A n c/\n<=c/\c<=maxLen:=by
 rcases h.2 with⟨rfl,rfl⟩|⟨g,cap,cur,rfl,_,_,vX,hm,_⟩
 ·exact⟨_,_,rfl,Nat.le_refl _,Nat.zero_le _⟩
 ·exact⟨_,_,rfl,vX,hm⟩
theorem bX(base:Nat)(e:TypeId):w.ownsRow base e size (.slice none 0 0) 0 []:=⟨by simp,.inl ⟨rfl,rfl⟩⟩
theorem qL(T:TypeId)(cs:List Value)(n:Nat)(hn:cs.length=n*size)(hm:n<=maxLen) :
  (w.alloc (.cells cs.toArray T)).ownsRow w.heap.size T size (.slice (some ⟨w.heap.size,0,none⟩) n n) n cs:=
 ⟨hn,.inr ⟨_,_,cs.toArray,rfl,Nat.le_refl _,heap_alloc_new w _,Nat.le_refl _,hm,by simp[hn],by simp[<-hn]⟩⟩
theorem eB{base base':Nat}{e:TypeId}{v:Value}(h:w.ownsRow base e size v n xs)(hb:base'<=base):w.ownsRow base' e size v n xs:=by
 refine⟨h.1,?_⟩;rcases h.2 with h0|⟨g,cap,cur,h1,h2,h3⟩
 ·exact .inl h0
 ·exact .inr ⟨g,cap,cur,h1,by omega,h3⟩
theorem bf{base:Nat}{e:TypeId}{v:Value}(h:w.ownsRow base e size v n xs)(hb:Below w.heap.size w w'):w'.ownsRow base e size v n xs:=by
 refine⟨h.1,?_⟩;rcases h.2 with h0|⟨g,cap,cur,h1,h2,h3,h4⟩
 ·exact .inl h0
 ·refine .inr ⟨g,cap,cur,h1,h2,(hb.block g ?_).trans h3,h4⟩;rcases Nat.lt_or_ge g w.heap.size with aU|ry
  ·exact aU
  ·rw[Array.getElem?_eq_none ry]at h3;cases h3
theorem ay{B:Nat}{a:World}(h:Below B a w)(n:Nat):Below B a (w.drewN n):=⟨h.os,h.tape,h.output,h.size,h.block⟩
theorem ab{B:Nat}{a b c:World}(h:Below B a b)(h':Below b.heap.size b c)(hB:B<=a.heap.size):Below B a c:=
 h.trans (h'.mono (Nat.le_trans hB h.size))
end
def vb(b:UInt8):Value:=.int .u8 (b.toNat:Nat)
def Rd(w:World)(A:Option Addr)(n:Nat)(l:List UInt8):Prop:=cn w 1 A n (l.map vb)
section
variable {w w':World}{n:Nat}{A:Option Addr}{l:List UInt8}
theorem Rd.len(h:Rd w A n l):l.length=n:=by have:=h.1;simpa using this
theorem Rd.at_(h:Rd w A n l){k:Nat}(hk:k<n):∃ad,A=some ad/\w.cell? (ad.add k)=some (.int .u8 ((l[k]?.getD 0).toNat:Nat)):=by
 obtain⟨ad,e,hc⟩:=h.2 (by omega);refine⟨ad,e,hc k _ ?_⟩;have hl:=h.len;rw[List.getElem?_map,List.getElem?_eq_getElem (by omega)];rfl
theorem Rd.none_:Rd w A 0 []:=cn.none_
theorem Rd.below(h:Rd w A n l)(hb:Below w.heap.size w w'):Rd w' A n l:=cn.below h hb
theorem Iw(u:Value)(h:u∈l.map vb):u.oneCell'=true:=by
 obtain⟨b,_,rfl⟩:=List.mem_map.1 h;rfl
theorem eS{base:Nat}{e:TypeId}{size:Nat}{v:Value}{xs:List Value}(h:w.ownsRow base e size v n xs)(hg:w.grownBy w' v.ownBlock)(hB:base<=w.heap.size):Below base w w':=
 zb.grown hg hB (fun k hk=>by
  rcases h.2 with⟨rfl,_⟩|⟨g,cap,cur,rfl,h2,_⟩
  ·simp[Value.ownBlock]at hk
  ·simp[Value.ownBlock]at hk;omega)
end
section
variable {P:Program}(w:World)
theorem oE(base:Nat)(t ty e:TypeId)(i:TypeInfo)(size:Nat)(ht:P.underlying t=some (.slice e))(hi:P.info? e=some i)
  (v:Value) (n:Nat) (xs:List Value) (aB:w.ownsRow base e size v n xs) (c:Nat):(Builtin.append_ #[t,t] ty #[v,.slice none 0 c]).run P w=.ok v w:=by
 rcases aB.2 with⟨rfl,rfl⟩|⟨g,cap,cur,rfl,_,_,vX,_⟩
 ·simp[Builtin.append_,run_underlying ht,sizeOf,typeInfo,hi,Builtin.lenOf,Builtin.firstCells]
 ·simp[Builtin.append_,run_underlying ht,sizeOf,typeInfo,hi,Builtin.lenOf,Builtin.firstCells,vX,storeCells]
theorem sB(base:Nat)(t ty e:TypeId)(i:TypeInfo)(z:Value)(size bytes:Nat)(ht:P.underlying t=some (.slice e))(hi:P.info? e=some i)(hz:i.zero=some z)
  (yK:i.size=size) (Qe:i.bytes=bytes) (CS:z.cells.size=size) (fU:0<size)
  (v:Value) (n:Nat) (xs:List Value) (aB:w.ownsRow base e size v n xs)
  (A:Option Addr) (m c:Nat) (news:List Value) (hr:cn w size A m news) (h1:∀u∈news,u.oneCell'=true)
  (Ps:n+m<=maxLen) (rv:(n+m)*bytes<=140737488355328) (bE:base<=w.heap.size) :
  ∃v' w',(Builtin.append_ #[t,t] ty #[v,.slice A m c]).run P w=.ok v' w'/\w'.ownsRow base e size v' (n+m) (xs++news)/\w.grownBy w' v.ownBlock/\
   (v'.ownBlock=v.ownBlock\/v'.ownBlock=some w.heap.size):=by
 rcases A with _|ad
 ·have hm:m=0:=by
   rcases Nat.eq_zero_or_pos m with h0|h0
   ·exact h0
   ·obtain⟨ad,h,_⟩:=hr.2 h0;cases h
  subst hm;have hn:news=[]:=List.eq_nil_of_length_eq_zero (by simpa using hr.1);subst hn;exact⟨v,w,oE w base t ty e i size ht hi v n xs aB c,by simpa using aB,World.grownBy.refl w _,.inl rfl⟩
 ·have lQ:∀j u,news[j]?=some u->w.cell? (ad.add j)=some u:=by
   intro j u hu;rcases Nat.eq_zero_or_pos m with h0|h0
   ·subst h0;have hn:news=[]:=List.eq_nil_of_length_eq_zero (by simpa using hr.1);subst hn;simp at hu
   ·obtain⟨ad',h,hc⟩:=hr.2 h0;injection h with h;subst h;exact hc j u hu
  obtain⟨v',w',ls,h2,h3,_,h5⟩:=run_append_own_at (P:=P) w base t ty e i z size bytes ht hi hz yK Qe CS fU v n xs aB ad m c news hr.1 lQ h1 Ps rv bE;exact⟨v',w',ls,h2,h3,h5⟩
theorem tS{o:Oper}{a:Act}{K:Act->World->Prop}{Q:Exit->Act->World->Prop}(s x:Operand)(t:TypeId)
  (ho:o.op=.call {callee:=.builtin .append,args:=#[s,x],argTypes:=#[t,t]})
  (base:Nat) (e:TypeId) (i:TypeInfo) (z:Value) (size bytes:Nat) (ht:P.underlying t=some (.slice e)) (hi:P.info? e=some i) (hz:i.zero=some z)
  (yK:i.size=size) (Qe:i.bytes=bytes) (CS:z.cells.size=size) (fU:0<size)
  (v:Value) (n:Nat) (xs:List Value) (hs:a.eval s=v) (aB:w.ownsRow base e size v n xs)
  (A:Option Addr) (m c:Nat) (news:List Value) (hx:a.eval x=.slice A m c) (hr:cn w size A m news) (h1:∀u∈news,u.oneCell'=true)
  (Ps:n+m<=maxLen) (rv:(n+m)*bytes<=140737488355328) (bE:base<=w.heap.size)
  (h:∀A' c' w',w'.ownsRow base e size (.slice A' (n+m) c') (n+m) (xs++news)->w.grownBy w' v.ownBlock->((Value.slice A' (n+m) c').ownBlock=v.ownBlock\/(Value.slice A' (n+m) c').ownBlock=some w.heap.size)->K (a.put o.dst (.slice A' (n+m) c')) w'):o.wp P a w K Q:=by
 obtain⟨v',w',ls,h2,h3,h4⟩:=sB (P:=P) w base t o.type e i z size bytes ht hi hz yK Qe CS fU v n xs aB A m c news hr h1 Ps rv bE;obtain⟨A',c',rfl,_,_⟩:=sh h2;unfold Oper.wp execOp;simp only[ho,resolve,invoke,builtin,Sem.run_bind,Sem.run_pure,Result.andThen_ok,List.map_toArray,List.map_cons,List.map_nil,hs,hx,ls];exact h A' c' w' h2 h3 h4
theorem bg{ops:Array Oper}{rest:List Oper}{o:Oper}{a:Act}{Q:Exit->Act->World->Prop}(lq:o.guard=none)(s x:Operand)(t:TypeId)
  (ho:o.op=.call {callee:=.builtin .append,args:=#[s,x],argTypes:=#[t,t]})
  (base:Nat) (e:TypeId) (i:TypeInfo) (z:Value) (size bytes:Nat) (ht:P.underlying t=some (.slice e)) (hi:P.info? e=some i) (hz:i.zero=some z)
  (yK:i.size=size) (Qe:i.bytes=bytes) (CS:z.cells.size=size) (fU:0<size)
  (v:Value) (n:Nat) (xs:List Value) (hs:a.eval s=v) (aB:w.ownsRow base e size v n xs)
  (A:Option Addr) (m c:Nat) (news:List Value) (hx:a.eval x=.slice A m c) (hr:cn w size A m news) (h1:∀u∈news,u.oneCell'=true)
  (Ps:n+m<=maxLen) (rv:(n+m)*bytes<=140737488355328) (bE:base<=w.heap.size)
  (h:∀A' c' w',w'.ownsRow base e size (.slice A' (n+m) c') (n+m) (xs++news)->w.grownBy w' v.ownBlock->((Value.slice A' (n+m) c').ownBlock=v.ownBlock\/(Value.slice A' (n+m) c').ownBlock=some w.heap.size)->wpList P ops Q rest (a.put o.dst (.slice A' (n+m) c')) w'):wpList P ops Q (o::rest) a w:=
 wpList_plain lq fun _ hK=>tS w s x t ho base e i z size bytes ht hi hz yK Qe CS fU v n xs hs aB A m c news hx hr h1 Ps rv bE fun A' c' w' h2 h3 h4=>hK _ _ (h A' c' w' h2 h3 h4)
end
def ao(w:World)(g:Nat)(T:TypeId)(cs:Array Value):Prop:=w.heap[g]?=some (.cells cs T (0,0))
section
variable {w w':World}{g:Nat}{T:TypeId}{cs:Array Value}
theorem ao.lt(h:ao w g T cs):g<w.heap.size:=by
 rcases Nat.lt_or_ge g w.heap.size with aU|ry
 ·exact aU
 ·unfold ao at h;rw[Array.getElem?_eq_none ry]at h;cases h
theorem ao.cell(h:ao w g T cs)(i:Nat):w.cell? ⟨g,i,none⟩=cs[i]?:=cell_of_row w g i cs T (0,0) h
theorem ao.free(h:ao w g T cs)(i:Nat):w.frozen? ⟨g,i,none⟩=false:=by
 unfold ao at h;simp[World.frozen?,h]
theorem ao.new(w:World)(T:TypeId)(cs:Array Value):ao (w.alloc (.cells cs T)) w.heap.size T cs:=heap_alloc_new w _
theorem ao.drew(h:ao w g T cs):ao w.drew g T cs:=h
theorem ao.drewN(h:ao w g T cs)(n:Nat):ao (w.drewN n) g T cs:=h
theorem ao.alloc(h:ao w g T cs)(o:Obj):ao (w.alloc o) g T cs:=(Below.heap_alloc w o g h.lt).trans h
theorem ao.set_(h:ao w g T cs)(i:Nat)(u:Value):ao (w.setCell ⟨g,i,none⟩ u) g T (cs.setIfInBounds i u):=by
 unfold ao at h ⊢;simp[World.setCell,Array.getElem?_modify,h]
theorem ao.far(h:ao w g T cs){p:Addr}(hp:g≠p.block)(u:Value):ao (w.setCell p u) g T cs:=(Below.heap_setCell w p u g hp).trans h
theorem ao.below{B:Nat}(h:ao w g T cs)(hb:Below B w w')(hg:g<B):ao w' g T cs:=(hb.block g hg).trans h
theorem ao.kept(h:ao w g T cs)(hb:Below w.heap.size w w'):ao w' g T cs:=h.below hb h.lt
end
def AC (w:World)(g:Nat)(cs:Array Value):List Nat -> Prop
 |[]=>True
 |i::l=>w.cell? ⟨g,i,none⟩=cs[i]?/\AC w g cs l
theorem ao.cs {w:World}{g:Nat}{T:TypeId}{cs:Array Value}(h:ao w g T cs):∀l,AC w g cs l
 |[]=>trivial
 |i::l=>⟨h.cell i,ao.cs h l⟩
def AF (w:World)(g:Nat):List Nat -> Prop
 |[]=>True
 |i::l=>w.frozen? ⟨g,i,none⟩=false/\AF w g l
theorem ao.fs {w:World}{g:Nat}{T:TypeId}{cs:Array Value}(h:ao w g T cs):∀l,AF w g l
 |[]=>trivial
 |i::l=>⟨h.free i,ao.fs h l⟩
theorem zB (w:World)(T:TypeId)(cs:Array Value):∃v,w.alloc (.cells cs T)=v/\Below w.heap.size w v/\ao v w.heap.size T cs:=⟨_,rfl,(Below.refl _ _).alloc (Nat.le_refl _) _,ao.new w T cs⟩
def tv(o:Oper):Bool:=
 match o.op with
 | .call c=>(match c.callee with | .builtin .len=>true | .builtin .cap=>true|_=>false)
 | .store .. | .ready _ | .mapUpdate .. | .insert .. | .entryStore .. | .go _ | .defer _ | .select .. | .send .. | .recv .. | .panic _=>false
 | _=>true
theorem nM{α:Type}{r:Result α}{f:α->Value}{n:Next}{w':World}(h:(r.andThen fun a w1=>Result.ok (Next.value (f a)) w1)=.ok n w'):∃v,n=.value v:=by
 cases r with
 | ok a w1=>
  simp only[Result.andThen_ok,Result.ok.injEq]at h;exact⟨_,h.1.symm⟩
 | halt x w1=>cases h
def nr(P:Program)(s:Sem Next):Prop:=∀w n w',s.run P w=.ok n w'->∃v,n=.value v
theorem nr.bind{α:Type}{P:Program}{s:Sem α}{f:α->Sem Next}(h:∀a,nr P (f a)):nr P (s >>=f):=by
 intro w n w' hr;rw[Sem.run_bind]at hr;cases he:s.run P w with
 | ok a w1=>rw[he]at hr;exact h a w1 n w' hr
 | halt x w1=>rw[he]at hr;cases hr
theorem nr.pure{P:Program}(v:Value):nr P (Pure.pure (Next.value v)):=by
 intro w n w' h;simp only[Sem.run_pure,Result.ok.injEq]at h;exact⟨_,h.1.symm⟩
theorem nr.nil{P:Program}:nr P (runtimePanic RuntimeError.nilDeref):=by
 intro w n w' h;simp[runtimePanic,goPanic,program,Sem.run]at h
theorem AW(P:Program)(ρ:Operand->Value)(o:Oper)(hc:tv o=true)(w w':World)(n:Next)(h:(execOp ρ o).run P w=.ok n w'):∃v,n=.value v:=by
 obtain⟨dst,op,type,pos,after,guard⟩:=o;cases op
 case call c=>
  obtain⟨callee,args,argTypes⟩:=c;cases callee with
  | value f=>simp[tv]at hc
  | invoke r m=>simp[tv]at hc
  | builtin b=>
   cases b <;> simp[tv]at hc
   all_goals
    simp only[execOp,resolve,invoke,builtin]at h;simp only[Sem.run_bind,Sem.run_pure,Result.andThen_ok]at h;exact nM (f:=id) h
 case nilCheck x=>
  simp only[execOp]at h;split at h
  all_goals first
   | (simp only[Sem.run_pure,Result.ok.injEq]at h;exact⟨_,h.1.symm⟩)
   | exact nr.nil w n w' h
   | skip
  split at h
  ·exact nr.nil w n w' h
  ·refine nr.bind (fun _=>nr.bind fun _=>?_) w n w' h;split
   ·exact nr.bind fun _=>nr.pure _
   ·exact nr.pure _
  ·exact nr.pure _ w n w' h
 all_goals first
  | (simp[tv]at hc;done)
  | (simp only[execOp,Sem.run_bind,Sem.run_pure]at h;first|exact nM (f:=id) h|exact nM h|(simp only[Result.ok.injEq]at h;exact⟨_,h.1.symm⟩))
def dD(C:World->Prop)(next:Act->World->Prop)(Q:Exit->Act->World->Prop):Exit->Act->World->Prop
 | .normal,a,w=>C w/\next a w
 | e,a,w=>Q e a w
def ah(l:List Oper):List Nat->List Oper
 | []=>[]
 | i::is=>match l[i]? with
  | some o=>o::ah l is
  | none=>ah l is
def mo(P:Program)(l:List Oper)(C:World->Prop)(Q:Exit->Act->World->Prop):List (List Nat×Nat)->List Nat->Act->World->Prop
 | [],last,a,w=>wpQuiet P l.toArray C (fun a'=>Q .normal a' w) (ah l last) a
 | (seg,i)::more,last,a,w=>wpQuiet P l.toArray C (fun a'=>wpList P l.toArray (dD C (mo P l C Q more last) Q) (ah l [i]) a' w) (ah l seg) a
def eu(l:List Oper):List Nat->Array Bool->Option (Array Bool)
 | [],listed=>some listed
 | i::is,listed=>
  if(Region.ready .any l.toArray listed).contains i&&Region.free .any l.toArray listed i&&((l[i]?).map tv).getD false then eu l is (listed.setIfInBounds i true)else none
def rW(l:List Oper):List (List Nat×Nat)->List Nat->Array Bool->Bool
 | [],last,listed=>match eu l last listed with
  | some r=>(Region.ready .any l.toArray r).isEmpty
  | none=>false
 | (seg,i)::more,last,listed=>match eu l seg listed with
  | some r=>Region.ready .any l.toArray r==[i]&&rW l more last (r.setIfInBounds i true)
  | none=>false
def N1(l:List Oper)(segs:List (List Nat×Nat))(last:List Nat):Bool:=
 Region.noSelect l.toArray&&(segs.map (fun s=>s.1.length+1)).sum+last.length==l.length&&rW l segs last (Array.replicate l.length false)
section
variable {P:Program}{l:List Oper}{C:World->Prop}{Q:Exit->Act->World->Prop}
theorem uQ(a:Act)(d:Option Tmp)(v:Value):(a.put d v).defers=a.defers:=by cases d <;> rfl
theorem aF{seg last:List Nat}{i:Nat}{more:List (List Nat×Nat)}{a:Act}{w:World}
  (h:∀K:Act->World->Prop,(∀a w,mo P l C Q more last a w->K a w)->wpQuiet P l.toArray C (fun a'=>wpList P l.toArray (dD C K Q) (ah l [i]) a' w) (ah l seg) a) :
  mo P l C Q ((seg,i)::more) last a w:=h _ (fun _ _ h=>h)
theorem al{last:List Nat}{a:Act}{w:World}(h:wpQuiet P l.toArray C (fun a'=>Q .normal a' w) (ah l last) a):mo P l C Q [] last a w:=h
theorem jI{o:Oper}{a:Act}{K:Act->Prop}(hc:tv o=true)(h:wpQuiet P l.toArray C K [o] a) :
  ∃v,YieldsIf P l.toArray C o v a/\K (a.put o.dst v):=by
 unfold wpQuiet at h;by_cases hw:Region.wanted o (yielded l.toArray a.tmps)=true
 ·rw[if_pos hw]at h;obtain⟨v,hv,hk⟩:=h;refine⟨v,.inl ⟨hw,fun w hCw=>?_⟩,hk⟩;have h1:=hv w hCw;unfold Oper.quietAt at h1;cases hr:(execOp a.eval o).run P w with
  | halt x w1=>rw[hr]at h1;exact h1.elim
  | ok n w1=>
   obtain⟨u,rfl⟩:=AW P a.eval o hc w w1 n hr;rw[hr]at h1;obtain⟨rfl,rfl⟩:=h1;rfl
 ·rw[if_neg hw]at h;exact⟨undef,.inr ⟨by simpa using hw,rfl⟩,h⟩
theorem jW(hs:Region.noSelect l.toArray=true)(hQ:∀c (a b:Act) w,a.defers=b.defers->Q (.panic c) a w->Q (.panic c) b w)(seg:List Nat) :
  ∀(listed r:Array Bool) (a:Act) (w:World) (fuel:Nat) (K:Act->Prop),eu l seg listed=some r->C w->wpQuiet P l.toArray C K (ah l seg) a->
   (∀a',K a'->wpAnyH P .any l.toArray Q C fuel r a' w)->wpAnyH P .any l.toArray Q C (seg.length+fuel) listed a w:=by
 induction seg with
 | nil=>
  intro listed r a w fuel K hr hC h hK;simp only[eu,Option.some.injEq]at hr;subst hr;simpa using hK a h
 | cons i is ih=>
  intro listed r a w fuel K hr hC h hK;unfold eu at hr;by_cases hb:((Region.ready .any l.toArray listed).contains i&&Region.free .any l.toArray listed i&&((l[i]?).map tv).getD false)=true
  ·rw[if_pos hb]at hr;simp only[Bool.and_eq_true]at hb;obtain⟨⟨gp,ai⟩,oM⟩:=hb;cases ho:l[i]? with
   | none=>rw[ho]at oM;cases oM
   | some o=>
    rw[ho]at oM;have hp:ah l (i::is)=o::ah l is:=by simp[ah,ho]
    rw[hp]at h;have h':wpQuiet P l.toArray C (wpQuiet P l.toArray C K (ah l is)) [o] a:=h;obtain⟨v,hy,hn⟩:=jI oM h';rw[show(i::is).length+fuel=(is.length+fuel)+1 by simp;omega];exact wpAnyH_take (by simpa using ho) hs ai gp (fun c a w hq=>hQ c _ _ w (uQ _ _ _) hq) hy hC (ih _ r _ w fuel K hr hC hn hK)
  ·rw[if_neg hb]at hr;cases hr
theorem vj{o:Oper}{a:Act}{w:World}{next K K':Act->World->Prop}(h:∀a w,K a w->K' a w)(hh:o.wp P a w K (dD C next Q)):o.wp P a w K' Q:=by
 unfold Oper.wp at *;generalize(execOp a.eval o).run P w=r at *;cases r with
 | ok n w'=>
  cases n <;> simp only[Oper.upon]at hh ⊢ <;>
   first
    | exact h _ _ hh
    | exact Calls.mono hh (fun e w'' he=>by cases e <;> first|exact h _ _ he|exact he)
    | exact Rows.mono hh (fun _ _ he=>h _ _ he)
 | halt x w'=>cases x <;> simp only[Oper.upon]at hh ⊢ <;> exact hh
theorem Ke(hs:Region.noSelect l.toArray=true)(hQ:∀c (a b:Act) w,a.defers=b.defers->Q (.panic c) a w->Q (.panic c) b w)(last:List Nat)(segs:List (List Nat×Nat)) :
  ∀(listed:Array Bool) (a:Act) (w:World),rW l segs last listed=true->C w->mo P l C Q segs last a w->
   wpAnyH P .any l.toArray Q C ((segs.map (fun s=>s.1.length+1)).sum+last.length) listed a w:=by
 induction segs with
 | nil=>
  intro listed a w hr hC h;unfold rW at hr;cases hc:eu l last listed with
  | none=>rw[hc]at hr;cases hr
  | some r=>
   rw[hc]at hr;have:=jW (P:=P) (C:=C) (Q:=Q) hs hQ last listed r a w 0 (fun a'=>Q .normal a' w) hc hC h (fun a' ha=>wpAnyH_done (by simpa using hr) ha 0);simpa using this
 | cons s more ih=>
  obtain⟨seg,i⟩:=s;intro listed a w hr hC h;unfold rW at hr;cases hc:eu l seg listed with
  | none=>rw[hc]at hr;cases hr
  | some r=>
   rw[hc]at hr;simp only[Bool.and_eq_true,beq_iff_eq]at hr;obtain⟨gp,GK⟩:=hr;have af:(((seg,i)::more).map (fun s=>s.1.length+1)).sum+last.length=seg.length+(((more.map (fun s=>s.1.length+1)).sum+last.length)+1):=by
    simp;omega
   rw[af];refine jW (P:=P) (C:=C) (Q:=Q) hs hQ seg listed r a w _ _ hc hC h fun a' ha=>?_
   refine wpAnyH_all gp (by simp) fun j hj=>?_
   obtain rfl:j=i:=by simpa using hj
   have nC:j∈Region.ready .any l.toArray r:=by rw[gp];simp
   obtain⟨_,o,ho,_⟩:=mem_ready.1 nC;have Nm:l[j]?=some o:=by simpa using ho
   have hp:ah l [j]=[o]:=by simp[ah,Nm]
   rw[hp]at ha;unfold wpOp;rw[ho];simp only[];unfold wpList at ha;have jy:∀a2 w2,wpList P l.toArray (dD C (mo P l C Q more last) Q) [] a2 w2->C w2/\wpAnyH P .any l.toArray Q C ((more.map (fun s=>s.1.length+1)).sum+last.length) (r.setIfInBounds j true) a2 w2:=
    fun a2 w2 h2=>⟨h2.1,ih _ a2 w2 GK h2.1 h2.2⟩
   split
   ·rename_i hw;rw[if_pos hw]at ha;exact ha.imp (vj jy) (fun h2=>h2)
   ·rename_i hw;rw[if_neg hw]at ha;exact jy _ _ ha
theorem cK{id:Nat}{a:Act}{w:World}(segs:List (List Nat×Nat))(last:List Nat)(hm:P.follows .mixedOrders=true)(hB:N1 l segs last=true)
  (hQ:∀c (a b:Act) w,a.defers=b.defers->Q (.panic c) a w->Q (.panic c) b w) (hC:C w.drew) (h:mo P l C Q segs last a w.drew):(Code.region id l.toArray true).wp P Q a w:=by
 simp only[N1,Bool.and_eq_true,beq_iff_eq]at hB;obtain⟨⟨hs,af⟩,bS⟩:=hB;refine wp_region_held (S:=C) hm ?_;have:=Ke (P:=P) hs hQ last segs _ a w.drew bS hC h;rw[af]at this;simpa using this
end
def Tz:World->Prop:=fun w'=>∃x:World,w'=x
attribute [go_sem] Tz
def Fp(B:Nat)(w:World):Type:={w':World // Below B w w'}
instance (B:Nat) (w:World):Nonempty (Fp B w):=⟨⟨w,Below.refl _ _⟩⟩
def wz(B:Nat)(w:World):World->Prop:=fun w'=>∃x:Fp B w,w'=x.1
attribute [go_sem] wz
theorem fB{B:Nat}{w w':World}(h:Below B w w'):wz B w w':=⟨⟨w',h⟩,rfl⟩
theorem ek{B:Nat}{w:World}{p:Addr}{v:Value}(h:w.cell? p=some v)(hB:p.block<B):∀x:Fp B w,x.1.cell? p=some v:=
 fun x=>(x.2.cell hB).trans h
def vi(z:Int):Value:=.int .i64 z
def fv(w:World)(A:Option Addr)(n:Nat)(l:List Int):Prop:=cn w 1 A n (l.map vi)
section
variable {w w':World}{n:Nat}{A:Option Addr}{l:List Int}
theorem fv.len(h:fv w A n l):l.length=n:=by have:=h.1;simpa using this
theorem fv.at_(h:fv w A n l){k:Nat}(hk:k<n):∃ad,A=some ad/\w.cell? (ad.add k)=some (.int .i64 (l[k]?.getD 0)):=by
 obtain⟨ad,e,hc⟩:=h.2 (by omega);refine⟨ad,e,hc k _ ?_⟩;have hl:=h.len;rw[List.getElem?_map,List.getElem?_eq_getElem (by omega)];rfl
theorem fv.none_:fv w A 0 []:=cn.none_
theorem fv.below(h:fv w A n l)(hb:Below w.heap.size w w'):fv w' A n l:=cn.below h hb
theorem fv.drew(h:fv w A n l):fv w.drew A n l:=h
theorem fv.alloc(h:fv w A n l)(o:Obj):fv (w.alloc o) A n l:=cn.alloc h o
theorem fv.of_own{base c:Nat}{e:TypeId}(h:w.ownsRow base e 1 (.slice A n c) n (l.map vi)):fv w A n l:=cn.of_own h
theorem On(u:Value)(h:u∈l.map vi):u.oneCell'=true:=by
 obtain⟨b,_,rfl⟩:=List.mem_map.1 h;rfl
theorem fv.lit(w:World)(T:TypeId)(fz:Nat×Nat)(l:List Int)(cs:Array Value)(n g:Nat)(hc:cs.toList=l.map vi)(hn:l.length=n)(hg:w.heap.size=g) :
  fv (w.alloc (.cells cs T fz)) (some ⟨g,0,none⟩) n l:=by
 subst hg;refine⟨by simp[hn],fun _=>⟨_,rfl,fun j u hu=>?_⟩⟩;have e:(⟨w.heap.size,0,none⟩:Addr).add j=⟨w.heap.size,j,none⟩:=by unfold Addr.add;split <;> simp[*]
 rw[e,cell_of_row _ _ j _ _ _ (heap_alloc_new w _),<-hu,<-hc];simp
theorem lX{base c:Nat}{e:TypeId}(h:w.ownsRow base e 1 (.slice A n c) n (l.map vi)){k:Nat}(hk:k<n) :
  ∃g,A=some ⟨g,0,none⟩/\base<=g/\w.cell? ⟨g,k,none⟩=some (.int .i64 (l[k]?.getD 0))/\w.frozen? ⟨g,k,none⟩=false:=by
 obtain⟨g,cap,hv,hb,_⟩:=h.form (by omega);injection hv with hA _ hc;subst hA;subst hc;refine⟨g,rfl,hb,?_,h.frozenAt k⟩;have hl:l.length=n:=by have:=h.1;simpa using this
 rw[h.cellAt k (by omega),List.getElem?_map,List.getElem?_eq_getElem (by omega)];rfl
end
theorem bB{w:World}{base e size n c:Nat}{A:Option Addr}{xs:List Value}(h:w.ownsRow base e size (.slice A n c) n xs):n<=c/\c<=maxLen:=by
 rcases h.2 with⟨h0,_⟩|⟨g,cap,cur,h0,_,_,vX,hm,_⟩
 ·injection h0 with _ _ hc;subst hc;exact⟨by omega,Nat.zero_le _⟩
 ·injection h0 with _ _ hc;subst hc;exact⟨vX,hm⟩
theorem rP:(prog.info? 3).map (fun i=>(i.zero,i.size,i.bytes))=some (some (.int .i64 0),1,8):=by kernel_rfl
theorem bh{w:World}{ops:Array Oper}{rest:List Oper}{o:Oper}{a:Act}{Q:Exit->Act->World->Prop}(lq:o.guard=none)(s x:Operand)
  (ho:o.op=.call {callee:=.builtin .append,args:=#[s,x],argTypes:=#[76,76]})
  (base:Nat) {A:Option Addr} {n c:Nat} {l:List Int} (hs:a.eval s=.slice A n c) (aB:w.ownsRow base 3 1 (.slice A n c) n (l.map vi))
  {B:Option Addr} {m d:Nat} {r:List Int} (hx:a.eval x=.slice B m d) (hr:fv w B m r) (hb:n+m<=1000000000) (bE:base<=w.heap.size)
  (h:∀A' c' w',w'.ownsRow base 3 1 (.slice A' (n+m) c') (n+m) ((l++r).map vi)->w.grownBy w' (Value.slice A n c).ownBlock->Below base w w'->wpList prog ops Q rest (a.put o.dst (.slice A' (n+m) c')) w'):wpList prog ops Q (o::rest) a w:=by
 obtain⟨i0,iF,jT,iW,gC⟩:=info_parts rP;refine bg w lq s x 76 ho base 3 i0 _ 1 8 underlying76 iF jT iW gC rfl (by omega) _ n _ hs aB B m d _ hx hr (fun u hu=>On u hu) (by unfold maxLen;omega) (by omega) bE ?_;intro A' c' w' h1 h2 _;exact h A' c' w' (by rw[List.map_append];exact h1) h2 (eS aB h2 bE)
def Pa(s:ByteArray):Value:=.string s
structure Fa where
 paths:List (List ByteArray)
 vals:List Int
structure En where
 idx:Int
 term:Int
 op:Int
 sess:Int
 seq:Int
 facts:List Fa
def gc:En:=⟨0,0,0,0,0,[]⟩
section
variable {α:Type}{f:α->List Value}{k:Nat}
theorem eO(hf:∀z,(f z).length=k)(l:List α):(l.flatMap f).length=l.length*k:=by
 induction l with
 | nil=>simp
 | cons z l ih=>rw[List.flatMap_cons,List.length_append,ih,hf,List.length_cons,Nat.succ_mul];omega
theorem dW(hf:∀z,(f z).length=k){l:List α}{i j:Nat}{z:α}(hj:j<k)(hz:l[i]?=some z):(l.flatMap f)[i*k+j]?=(f z)[j]?:=by
 induction l generalizing i with
 | nil=>simp at hz
 | cons y l ih=>
  rw[List.flatMap_cons];cases i with
  | zero=>
   simp only[List.getElem?_cons_zero,Option.some.injEq]at hz;subst hz;rw[Nat.zero_mul,Nat.zero_add,List.getElem?_append_left (by rw[hf];exact hj)]
  | succ i=>
   simp only[List.getElem?_cons_succ]at hz;have e:(i+1)*k+j=(f y).length+(i*k+j):=by rw[hf,Nat.succ_mul];omega
   rw[e,List.getElem?_append_right (Nat.le_add_right _ _),Nat.add_sub_cancel_left];exact ih hz
theorem oV(hf:∀z,(f z).length=k)(l:List α)(m:Nat):(l.take m).flatMap f=(l.flatMap f).take (m*k):=by
 induction l generalizing m with
 | nil=>simp
 | cons y l ih=>
  cases m with
  | zero=>simp
  | succ m=>
   rw[List.take_succ_cons,List.flatMap_cons,List.flatMap_cons,ih,List.take_append,hf];have e1:(m+1)*k-k=m*k:=by rw[Nat.succ_mul];omega
   rw[e1,List.take_of_length_le (l:=f y) (by rw[hf,Nat.succ_mul];omega)]
theorem mx(hf:∀z,(f z).length=k)(l:List α)(m:Nat):(l.drop m).flatMap f=(l.flatMap f).drop (m*k):=by
 induction l generalizing m with
 | nil=>simp
 | cons y l ih=>
  cases m with
  | zero=>simp
  | succ m=>
   rw[List.drop_succ_cons,List.flatMap_cons,ih,List.drop_append,hf];have e1:(m+1)*k-k=m*k:=by rw[Nat.succ_mul];omega
   rw[e1,show List.drop ((m+1)*k) (f y)=[]from List.drop_eq_nil_of_le (by rw[hf,Nat.succ_mul];omega),List.nil_append]
end
def Sl(S:Nat->Prop)(w:World)(size:Nat)(v:Value)(n:Nat)(xs:List Value):Prop:=
 ∃A c,v=.slice A n c/\cn w size A n xs/\n<=c/\c<=maxLen/\(0<n->∀ad,A=some ad->S ad.block)
def bA(S:Nat->Prop)(w w':World):Prop:=∀j,S j->j<w.heap.size->w'.heap[j]?=w.heap[j]?
section
variable {S S':Nat->Prop}{w w':World}
theorem bA.below(h:Below w.heap.size w w'):bA S w w':=fun _ _ hj=>h.block _ hj
theorem cn.stay{size n:Nat}{A:Option Addr}{xs:List Value}(h:cn w size A n xs)(hA:0<n->∀ad,A=some ad->S ad.block)(hk:bA S w w'):cn w' size A n xs:=by
 refine⟨h.1,fun h0=>?_⟩;obtain⟨ad,rfl,hc⟩:=h.2 h0;refine⟨ad,rfl,fun j u hu=>?_⟩;have h1:=hc j u hu;have aU:=ar h1;have e:(ad.add j).block=ad.block:=bi ad j;rw[<-h1];exact World.cell?_of_block (by rw[e]at aU ⊢;exact hk _ (hA h0 ad rfl) aU)
theorem cn.lt{size n:Nat}{A:Option Addr}{xs:List Value}{ad:Addr}(h:cn w size A n xs)(h0:0<n)(hs:0<size)(hA:A=some ad):ad.block<w.heap.size:=by
 subst hA;obtain⟨ad',e,hc⟩:=h.2 h0;injection e with e;subst e;have hl:0<xs.length:=by rw[h.1];exact Nat.mul_pos h0 hs
 have:=ar (hc 0 _ (List.getElem?_eq_getElem hl))
 rwa [bi]at this
theorem Sl.keep{size n:Nat}{v:Value}{xs:List Value}(h:Sl S w size v n xs)(hk:bA S w w'):Sl S w' size v n xs:=by
 obtain⟨A,c,rfl,hr,h1,h2,h3⟩:=h;exact⟨A,c,rfl,hr.stay h3 hk,h1,h2,h3⟩
theorem Sl.mono{size n:Nat}{v:Value}{xs:List Value}(h:Sl S w size v n xs)(hs:0<size)(hS:∀j,j<w.heap.size->S j->S' j):Sl S' w size v n xs:=by
 obtain⟨A,c,rfl,hr,h1,h2,h3⟩:=h;exact⟨A,c,rfl,hr,h1,h2,fun h0 ad e=>hS _ (hr.lt h0 hs e) (h3 h0 ad e)⟩
theorem Sl.nil(S:Nat->Prop)(w:World)(size:Nat):Sl S w size (.slice none 0 0) 0 []:=⟨none,0,rfl,cn.none_,Nat.le_refl _,Nat.zero_le _,fun h=>absurd h (by omega)⟩
theorem Sl.of_own{base size n c:Nat}{e:TypeId}{A:Option Addr}{xs:List Value}(h:w.ownsRow base e size (.slice A n c) n xs)(hS:∀g,base<=g->g<w.heap.size->(∃cs,w.heap[g]?=some (.cells cs e (0,0)))->S g):Sl S w size (.slice A n c) n xs:=by
 have hb:=bB h;refine⟨A,c,rfl,cn.of_own h,hb.1,hb.2,fun h0 ad e=>?_⟩;subst e;rcases h.2 with⟨h1,_⟩|⟨g,cap,cur,h1,h2,h3,_⟩
 ·cases h1
 ·injection h1 with h1;injection h1 with h1;subst h1;refine hS g h2 ?_ ⟨cur,h3⟩;rcases Nat.lt_or_ge g w.heap.size with aU|ry
  ·exact aU
  ·rw[Array.getElem?_eq_none ry]at h3;cases h3
def gf(S:Nat->Prop)(w:World)(v:Value)(p:List ByteArray):Prop:=Sl S w 1 v p.length (p.map Pa)
def fF(S:Nat->Prop)(w:World)(v:Value)(l:List Int):Prop:=Sl S w 1 v l.length (l.map vi)
def dR(S:Nat->Prop)(w:World)(v:Value)(ps:List (List ByteArray)):Prop:=∃vs,Sl S w 1 v ps.length vs/\∀(i:Nat) p,ps[i]?=some p->∃u,vs[i]?=some u/\gf S w u p
def Po(y:Value×Value):List Value:=[y.1,y.2]
theorem vC(y:Value×Value):(Po y).length=2:=rfl
def aG(S:Nat->Prop)(w:World)(v:Value)(fs:List Fa):Prop:=
 ∃ys:List (Value×Value),Sl S w 2 v fs.length (ys.flatMap Po)/\ys.length=fs.length/\∀(i:Nat) f,fs[i]?=some f->∃y,ys[i]?=some y/\dR S w y.1 f.paths/\fF S w y.2 f.vals
def cl(z:Value×En):List Value:=[vi z.2.idx,vi z.2.term,vi z.2.op,vi z.2.sess,vi z.2.seq,z.1]
theorem eX(z:Value×En):(cl z).length=6:=rfl
def bo(S:Nat->Prop)(w:World)(zs:List (Value×En)):Prop:=∀z∈zs,aG S w z.1 z.2.facts
theorem gf.keep{v:Value}{p:List ByteArray}(h:gf S w v p)(hk:bA S w w'):gf S w' v p:=Sl.keep h hk
theorem gf.mono{v:Value}{p:List ByteArray}(h:gf S w v p)(hS:∀j,j<w.heap.size->S j->S' j):gf S' w v p:=Sl.mono h (by omega) hS
theorem fF.keep{v:Value}{p:List Int}(h:fF S w v p)(hk:bA S w w'):fF S w' v p:=Sl.keep h hk
theorem fF.mono{v:Value}{p:List Int}(h:fF S w v p)(hS:∀j,j<w.heap.size->S j->S' j):fF S' w v p:=Sl.mono h (by omega) hS
theorem dR.keep{v:Value}{p:List (List ByteArray)}(h:dR S w v p)(hk:bA S w w'):dR S w' v p:=by
 obtain⟨vs,h1,h2⟩:=h;exact⟨vs,h1.keep hk,fun i p hp=>by obtain⟨u,h3,h4⟩:=h2 i p hp;exact⟨u,h3,h4.keep hk⟩⟩
theorem dR.mono{v:Value}{p:List (List ByteArray)}(h:dR S w v p)(hS:∀j,j<w.heap.size->S j->S' j):dR S' w v p:=by
 obtain⟨vs,h1,h2⟩:=h;exact⟨vs,h1.mono (by omega) hS,fun i p hp=>by obtain⟨u,h3,h4⟩:=h2 i p hp;exact⟨u,h3,h4.mono hS⟩⟩
theorem aG.keep{v:Value}{p:List Fa}(h:aG S w v p)(hk:bA S w w'):aG S w' v p:=by
 obtain⟨ys,h1,h0,h2⟩:=h;exact⟨ys,h1.keep hk,h0,fun i f hf=>by obtain⟨y,h3,h4,h5⟩:=h2 i f hf;exact⟨y,h3,h4.keep hk,h5.keep hk⟩⟩
theorem aG.mono{v:Value}{p:List Fa}(h:aG S w v p)(hS:∀j,j<w.heap.size->S j->S' j):aG S' w v p:=by
 obtain⟨ys,h1,h0,h2⟩:=h;exact⟨ys,h1.mono (by omega) hS,h0,fun i f hf=>by obtain⟨y,h3,h4,h5⟩:=h2 i f hf;exact⟨y,h3,h4.mono hS,h5.mono hS⟩⟩
theorem aG.nil(S:Nat->Prop)(w:World):aG S w (.slice none 0 0) []:=⟨[],Sl.nil S w 2,rfl,fun i f h=>by cases h⟩
theorem bo.keep{zs:List (Value×En)}(h:bo S w zs)(hk:bA S w w'):bo S w' zs:=fun z hz=>(h z hz).keep hk
theorem bo.mono{zs:List (Value×En)}(h:bo S w zs)(hS:∀j,j<w.heap.size->S j->S' j):bo S' w zs:=fun z hz=>(h z hz).mono hS
theorem bo.sub{zs ys:List (Value×En)}(h:bo S w zs)(hs:∀y∈ys,y∈zs):bo S w ys:=fun y hy=>h y (hs y hy)
theorem bo.append{zs ys:List (Value×En)}(h:bo S w zs)(h':bo S w ys):bo S w (zs++ys):=fun z hz=>by
 rcases List.mem_append.1 hz with h1|h1
 ·exact h z h1
 ·exact h' z h1
end
def vo(w:World)(A:Option Addr)(n:Nat)(l:List ByteArray):Prop:=cn w 1 A n (l.map Pa)
theorem vo.len{w:World}{A:Option Addr}{n:Nat}{l:List ByteArray}(h:vo w A n l):l.length=n:=by have:=h.1;simpa using this
theorem vo.at_{w:World}{A:Option Addr}{n:Nat}{l:List ByteArray}(h:vo w A n l){k:Nat}(hk:k<n):∃ad s,A=some ad/\l[k]?=some s/\w.cell? (ad.add k)=some (.string s):=by
 obtain⟨ad,e,hc⟩:=h.2 (by omega);have hl:=h.len;refine⟨ad,l[k]'(by omega),e,List.getElem?_eq_getElem (by omega),hc k _ ?_⟩;rw[List.getElem?_map,List.getElem?_eq_getElem (by omega)];rfl
theorem vo.below{w w':World}{A:Option Addr}{n:Nat}{l:List ByteArray}(h:vo w A n l)(hb:Below w.heap.size w w'):vo w' A n l:=cn.below h hb
def Kn(r:Nat):Bool:=decide (97<=r/\r<=122\/48<=r/\r<=57\/r=45\/r=95)
def eb(s:ByteArray):Bool:=decide (1<=s.size/\s.size<=12/\∀i (h:i<s.size),Kn (s[i]'h).toNat=true)
theorem wJ{r:Nat}(h:Kn r=true):(97<=r/\r<=122)\/(48<=r/\r<=57)\/r=45\/r=95:=of_decide_eq_true h
theorem HJ{r:Nat}(h:Kn r=false):r<45\/(45<r/\r<48)\/(57<r/\r<95)\/r=96\/122<r:=by
 have:=of_decide_eq_false h;omega
theorem ww(s:ByteArray):s.toList.isEmpty=decide (s.size=0):=by
 rw[Bool.eq_iff_iff,List.isEmpty_iff,ByteArray.toList_eq,decide_eq_true_eq,<-List.length_eq_zero_iff];exact Iff.rfl
theorem zS(n:Nat):(!decide (n=0)&&decide ((n:Int)<=12))=decide (1<=n/\n<=12):=by
 rw[Bool.eq_iff_iff,Bool.and_eq_true,Bool.not_eq_true',decide_eq_true_eq,decide_eq_false_iff_not,decide_eq_true_eq];omega
theorem HA(s:ByteArray)(w:World):Calls prog 203 #[.string s] w fun e w'=>e=.returned (.bool (eb s))/\Below w.heap.size w w':=by
 go_enter func203,ntmps203
 go_wp2
 have Ug:∀pos,Below w.heap.size w (w.iter s pos):=fun pos=>zb.alloc zl _
 go_loopw [4,7,8,9,10,11,12,13,14,15,16,17,18,19,20,21,22,23,24,25,26,27,28,29,30,31,32] (fun _ _ _ _ _ _ _ _ _ _ _ _ _ _ _ _ _ _ _ _ _ _ _ _ _ _ _ w'=>∃pos:Nat,pos<=s.size/\w'=w.iter s pos/\∀i (h:i<s.size),i<pos->Kn (s[i]'h).toNat=true) (fun _ _ _ _ _ _ _ _ _ _ _ _ _ _ _ _ _ _ _ _ _ _ _ _ _ _ _ w'=>s.size-w'.iterPos w.heap.size)
 case atStart=>exact⟨0,Nat.zero_le _,rfl,fun i _ h=>by omega⟩
 case round=>
  obtain⟨pos,OX,rfl,cR⟩:=hrel;have Hok:=zH cR;clear cR;by_cases hp:pos<s.size
  ·by_cases ha:(s[pos]'hp).toNat<128
   ·have cu:∀ty,(Instr.next (.pointer (some ⟨w.heap.size,0,none⟩)) true ty).run prog (w.iter s pos)=_:=fun ty=>run_next_ascii w s pos ty hp ha
    cases o8:Kn (s[pos]'hp).toNat with
    | true=>
     have aD:∀i (h:i<s.size),i<pos+1->Kn (s[i]'h).toNat=true:=fun i h hi=>by
      rcases Nat.lt_or_ge i pos with h1|h1
      ·exact Hok.out i h h1
      ·obtain rfl:i=pos:=by omega
       exact o8
     have Hst:=zH aD;have eG:=wJ o8;clear aD o8;generalize(s[pos]'hp).toNat=r at *;rcases eG with⟨h1,h2⟩|⟨h1,h2⟩|h1|h1
     all_goals
      go_wp2
      go_roundw
      case rel=>exact⟨pos+1,by omega,rfl,Hst.out⟩
      case measure=>simp;omega
    | false=>
     have fe:eb s=false:=decide_eq_false fun e=>by have:=e.2.2 pos hp;rw[o8]at this;cases this
     have Hne:=zH fe;have eG:=HJ o8;clear fe o8;generalize(s[pos]'hp).toNat=r at *;rcases eG with h1|⟨h1,h2⟩|⟨h1,h2⟩|h1|h1
     all_goals
      have E1:(((r:Nat):Int)==45)=false:=by simp;omega
      have E2:(((r:Nat):Int)==95)=false:=by simp;omega
      go_wp2
      all_goals first
       | (go_ret;exact⟨by rw[Hne.out];rfl,Ug _⟩)
       | (exfalso;rename_i hx;simp only[Bool.not_eq_false',decide_eq_true_eq]at hx;omega)
   ·have cu:∀ty,(Instr.next (.pointer (some ⟨w.heap.size,0,none⟩)) true ty).run prog (w.iter s pos)=_:=fun ty=>run_next_any w s pos ty hp
    have fe:eb s=false:=decide_eq_false fun e=>by
     have h1:=e.2.2 pos hp;have h2:=wJ h1;omega
    have Hne:=zH fe;have UR:=(decode_high s pos hp (by omega)).1;clear fe ha;generalize(Utf8.decode s pos).1=r at *;generalize(Utf8.decode s pos).2=k at *;have E1:(((r:Nat):Int)==45)=false:=by simp;omega
    have E2:(((r:Nat):Int)==95)=false:=by simp;omega
    go_wp2
    all_goals first
     | (go_ret;exact⟨by rw[Hne.out];rfl,Ug _⟩)
     | (exfalso;rename_i hx;simp only[Bool.not_eq_false',decide_eq_true_eq]at hx;omega)
  ·obtain rfl:pos=s.size:=by omega
   have cu:∀ty,(Instr.next (.pointer (some ⟨w.heap.size,0,none⟩)) true ty).run prog (w.iter s s.size)=_:=fun ty=>run_next_end w s s.size ty hp
   have fe:eb s=decide (1<=s.size/\s.size<=12):=by
    unfold eb;exact decide_eq_decide.2 ⟨fun h=>⟨h.1,h.2.1⟩,fun h=>⟨h.1,h.2,fun i hi=>Hok.out i hi hi⟩⟩
   have Hne:=zH fe;have Hse:=zH (ww s);clear fe
   go_wp2
   all_goals
    go_ret;refine⟨?_,Ug _⟩;rw[Hne.out];have h1:=Hse.out;rename_i hx
   ·rw[hx]at h1;exact sw (decide_eq_false (fun h=>by have:=of_decide_eq_true h1.symm;omega)).symm
   ·refine sw ?_;rw[h1,zS]
theorem rX{s:ByteArray}(h:eb s=true):s.size<=12:=(of_decide_eq_true h).2.1
theorem pS(s:ByteArray)(w:World):Calls prog 199 #[.string s] w fun e w'=>e=.returned (.bool (eb s))/\w=w':=by
 by_cases h1:s.size<1
 ·have fe:eb s=false:=decide_eq_false fun e=>by omega
  have Hne:=zH fe;clear fe;go_enter func199,ntmps199
  go_wp2
  go_ret;exact⟨by rw[Hne.out];rfl,rfl⟩
 ·by_cases h2:12<s.size
  ·have fe:eb s=false:=decide_eq_false fun e=>by omega
   have Hne:=zH fe;clear fe;go_enter func199,ntmps199
   go_wp2
   go_ret;exact⟨by rw[Hne.out];rfl,rfl⟩
  ·go_enter func199,ntmps199
   go_wp2
   go_loop [3,4,5,6,15,16,17,18,19,20,21,22,23,24,25,26,27,28,29,30,31,32,33,34,35,36,37,38,39,40,41,42,43,44,45,46,47,48,49] (fun i _ _ _ _ _ _ _ _ _ _ _ _ _ _ _ _ _ _ _ _ _ _ _ _ _ _ _ _ _ _ _ _ _ _ _ _ _ _=>∃k:Nat,k<=s.size/\i=.int .i64 k/\∀j (h:j<s.size),j<k->Kn (s[j]'h).toNat=true) (fun i _ _ _ _ _ _ _ _ _ _ _ _ _ _ _ _ _ _ _ _ _ _ _ _ _ _ _ _ _ _ _ _ _ _ _ _ _ _=>s.size-(intOf i).toNat)
   case atStart=>exact⟨0,Nat.zero_le _,rfl,fun j _ h=>by omega⟩
   case round=>
    obtain⟨k,hk,rfl,cR⟩:=hrel;have Hok:=zH cR;clear cR;by_cases aU:k<s.size
    ·cases o8:Kn (s[k]'aU).toNat with
     | true=>
      have aD:∀i (h:i<s.size),i<k+1->Kn (s[i]'h).toNat=true:=fun i h hi=>by
       rcases Nat.lt_or_ge i k with h1|h1
       ·exact Hok.out i h h1
       ·obtain rfl:i=k:=by omega
        exact o8
      have Hst:=zH aD;have eG:=wJ o8;clear aD o8;rcases eG with⟨h1,h2⟩|⟨h1,h2⟩|h1|h1
      all_goals
       go_wp2
       go_round
       case rel=>exact⟨k+1,by omega,by go_num,Hst.out⟩
       case measure=>simp[intOf];omega
     | false=>
      have fe:eb s=false:=decide_eq_false fun e=>by have:=e.2.2 k aU;rw[o8]at this;cases this
      have Hne:=zH fe;have eG:=HJ o8;have E1:(((s[k]'aU).toNat:Int)==45)=false:=by simp;omega
      have E2:(((s[k]'aU).toNat:Int)==95)=false:=by simp;omega
      have E3:(((s[k]'aU).toNat:Int) !=45)=true:=by simp;omega
      have E4:(((s[k]'aU).toNat:Int) !=95)=true:=by simp;omega
      clear fe o8;rcases eG with h1|⟨h1,h2⟩|⟨h1,h2⟩|h1|h1
      all_goals
       go_wp2
       all_goals first
        | (go_ret;exact⟨by rw[Hne.out];rfl,rfl⟩)
        | (exfalso;rename_i hx;simp only[Bool.not_eq_false',decide_eq_true_eq]at hx;omega)
    ·obtain rfl:k=s.size:=by omega
     have fe:eb s=true:=decide_eq_true ⟨by omega,by omega,fun i hi=>Hok.out i hi hi⟩;have Hne:=zH fe;clear fe
     go_wp2
     go_ret;exact⟨by rw[Hne.out];rfl,rfl⟩
theorem pO(s:ByteArray)(w:World):Calls prog 202 #[.string s] w fun e w'=>e=.returned (.bool (!eb s))/\Below w.heap.size w w':=by
 go_enter func202,ntmps202;go_wp2_with fail;refine(HA _ _).mono ?_;rintro e w' ⟨rfl,hb⟩
 go_wp2
 go_ret;exact⟨rfl,hb⟩
def ke{α:Type}(p:α->Bool):List α->Int
 | []=>-1
 | x::l=>if p x then 0 else if ke p l<0 then -1 else ke p l+1
theorem J9{α:Type}(p:α->Bool)(l:List α):-1<=ke p l:=by
 induction l with
 | nil=>simp[ke]
 | cons x l ih=>unfold ke;split <;> (try split) <;> omega
theorem wv{α:Type}(p:α->Bool)(l:List α)(k:Nat)(x:α)(hx:l[k]?=some x)(hp:p x=true)(hb:∀j y,j<k->l[j]?=some y->p y=false):ke p l=k:=by
 induction l generalizing k with
 | nil=>simp at hx
 | cons y l ih=>
  cases k with
  | zero=>
   simp at hx;subst hx;simp[ke,hp]
  | succ k=>
   have h0:=hb 0 y (by omega) rfl;have:=ih k (by simpa using hx) (fun j z hj hz=>hb (j+1) z (by omega) (by simpa using hz));unfold ke;rw[h0,this];simp;omega
theorem pd{α:Type}(p:α->Bool)(l:List α)(hb:∀(j:Nat) y,l[j]?=some y->p y=false):ke p l=-1:=by
 induction l with
 | nil=>rfl
 | cons y l ih=>
  have h0:=hb 0 y rfl;have:=ih (fun j z hz=>hb (j+1) z (by simpa using hz));unfold ke;rw[h0,this];simp
theorem rL{α:Type}(p:α->Bool)(l:List α):decide (0<=ke p l)=l.any p:=by
 induction l with
 | nil=>rfl
 | cons y l ih=>
  have:=J9 p l;rw[List.any_cons,<-ih];show decide (0<=if p y=true then 0 else if ke p l<0 then -1 else ke p l+1)=_;cases p y
  ·by_cases h:ke p l<0
   ·rw[if_neg (by simp),if_pos h,decide_eq_false (by omega),decide_eq_false (by omega)];rfl
   ·rw[if_neg (by simp),if_neg h,decide_eq_true (by omega),decide_eq_true (by omega)];rfl
  ·simp
theorem yO(A:Option Addr)(n c:Nat)(l:List ByteArray)(w:World)(hr:vo w A n l)(hn:n<=maxLen)  :
  Calls prog 208 #[.slice A n c,.func (.func 202) #[] #[]] w fun e w'=>e=.returned (.int .i64 (ke (fun s=>!eb s) l))/\Below w.heap.size w w':=by
 unfold maxLen at hn;have H1:=zH hr.len;go_enter func208,ntmps208;go_wp2_with fail
 go_loopw [8] (fun i wr=>∃k:Nat,k<=n/\i=.int .i64 k/\(∀j y,j<k->l[j]?=some y->(fun s=>!eb s) y=false)/\Below w.heap.size w wr) (fun i _=>n-(intOf i).toNat)
 case atStart=>exact⟨0,Nat.zero_le _,rfl,fun j y hj=>by omega,Below.refl _ _⟩
 case round=>
  obtain⟨k,hk,rfl,dO,hb⟩:=hrel;have Hno:=zH dO;clear dO;by_cases aU:k<n
  ·obtain⟨ad,s,rfl,mB,hc⟩:=(hr.below hb).at_ aU;cases lr:eb s with
   | false=>
    have Hix:=zH (wv (fun s=>!eb s) l k s mB (by rw[lr];rfl) Hno.out);clear mB;go_wp2_with fail;refine(pO _ _).mono ?_;rintro e w' ⟨rfl,br⟩;rw[lr]
    go_wp2
    go_ret;exact⟨by rw[Hix.out];rfl,ab hb br zl⟩
   | true=>
    have Hst:=zH (show ∀j y,j<k+1->l[j]?=some y->(fun s=>!eb s) y=false from fun j y hj hy=>by
     rcases Nat.lt_or_ge j k with h|h
     ·exact Hno.out j y h hy
     ·obtain rfl:j=k:=by omega
      obtain rfl:s=y:=Option.some.inj (mB.symm.trans hy);show(!eb s)=false;rw[lr];rfl)
    clear mB;go_wp2_with fail;refine(pO _ _).mono ?_;rintro e w' ⟨rfl,br⟩;rw[lr]
    go_wp2
    go_roundw
    case rel=>exact⟨k+1,by omega,by go_num,Hst.out,ab hb br zl⟩
    case measure=>simp[intOf];omega
  ·obtain rfl:k=n:=by omega
   have Hix:=zH (pd (fun s=>!eb s) l (fun j y hy=>Hno.out j y (by rw[<-H1.out];exact(List.getElem?_eq_some_iff.1 hy).1) hy))
   go_wp2
   go_ret;exact⟨by rw[Hix.out];rfl,hb⟩
theorem xP(A:Option Addr)(n c:Nat)(l:List ByteArray)(w:World)(hr:vo w A n l)(hn:n<=maxLen)  :
  Calls prog 201 #[.slice A n c,.func (.func 202) #[] #[]] w fun e w'=>e=.returned (.bool (l.any fun s=>!eb s))/\Below w.heap.size w w':=by
 have Hix:=zH (rL (fun s=>!eb s) l);go_enter func201,ntmps201;go_wp2_with fail;refine(yO _ _ _ _ _ hr hn).mono ?_;rintro e w' ⟨rfl,hb⟩;generalize ke (fun s=>!eb s) l=ix at *
 go_wp2
 go_ret;exact⟨by rw[<-Hix.out];rfl,hb⟩
def eq(p:List ByteArray):Bool:=decide (p.length<=3)&&!(p.any fun s=>!eb s)
theorem rU{p:List ByteArray}(h:eq p=true):p.length<=3:=by
 unfold eq at h;rw[Bool.and_eq_true,decide_eq_true_eq]at h;exact h.1
theorem pg{p:List ByteArray}(h:eq p=true):∀s∈p,eb s=true:=fun s hs=>by
 unfold eq at h;rw[Bool.and_eq_true,Bool.not_eq_true']at h;cases hn:eb s with
 | true=>rfl
 | false=>
  have h1:(p.any fun s=>!eb s)=true:=List.any_eq_true.2 ⟨s,hs,by rw[hn];rfl⟩;rw[h.2]at h1;cases h1
theorem wH(A:Option Addr)(n c:Nat)(l:List ByteArray)(w:World)(hr:vo w A n l)(hn:n<=maxLen) :
  Calls prog 193 #[.slice A n c] w fun e w'=>e=.returned (.bool (eq l))/\Below w.heap.size w w':=by
 have H1:=zH hr.len;by_cases h3:n<=3
 ·have hm:=zH (show eq l=!(l.any fun s=>!eb s) by unfold eq;rw[decide_eq_true (by rw[H1.out];exact h3)];rfl);go_enter func193,ntmps193;go_wp2_with fail;refine(xP _ _ _ _ _ hr hn).mono ?_;rintro e w' ⟨rfl,hb⟩
  go_wp2
  go_ret;exact⟨by rw[hm.out];rfl,hb⟩
 ·have hm:=zH (show eq l=false by unfold eq;rw[decide_eq_false (by rw[H1.out];exact h3)];rfl);have h4:decide ((n:Int)<=3)=false:=by simp;omega
  go_enter func193,ntmps193;go_wp2_with fail;go_ret;exact⟨by rw[hm.out];rfl,Below.refl _ _⟩
theorem jD(A:Option Addr)(n c:Nat)(l:List ByteArray)(w:World)(hr:vo w A n l)(hn:n<=maxLen) :
  Calls prog 189 #[.slice A n c] w fun e w'=>e=.returned (.bool (eq l))/\w=w':=by
 unfold maxLen at hn;have H1:=zH hr.len;by_cases h3:3<n
 ·have hm:=zH (show eq l=false by unfold eq;rw[decide_eq_false (by rw[H1.out];omega)];rfl);go_enter func189,ntmps189;go_wp2_with fail;go_ret;exact⟨by rw[hm.out];rfl,rfl⟩
 ·go_enter func189,ntmps189;go_wp2_with fail
  go_loop [3] (fun i=>∃k:Nat,k<=n/\i=.int .i64 k/\∀j s,j<k->l[j]?=some s->eb s=true) (fun i=>n-(intOf i).toNat)
  case atStart=>exact⟨0,Nat.zero_le _,rfl,fun j s hj=>by omega⟩
  case round=>
   obtain⟨k,hk,rfl,dO⟩:=hrel;have Hno:=zH dO;clear dO;by_cases aU:k<n
   ·obtain⟨ad,s,rfl,mB,hc⟩:=hr.at_ aU;cases lr:eb s with
    | false=>
     have hm:=zH (show eq l=false by
      cases h:eq l with
      | false=>rfl
      | true=>exact absurd (pg h s (List.mem_of_getElem? mB)) (by rw[lr];simp))
     clear mB;go_wp2_with fail;refine(pS _ _).mono ?_;rintro e w' ⟨rfl,rfl⟩;rw[lr]
     go_wp2
     go_ret;exact⟨by rw[hm.out];rfl,rfl⟩
    | true=>
     have Hst:=zH (show ∀j y,j<k+1->l[j]?=some y->eb y=true from fun j y hj hy=>by
      rcases Nat.lt_or_ge j k with h|h
      ·exact Hno.out j y h hy
      ·obtain rfl:j=k:=by omega
       obtain rfl:s=y:=Option.some.inj (mB.symm.trans hy);exact lr)
     clear mB;go_wp2_with fail;refine(pS _ _).mono ?_;rintro e w' ⟨rfl,rfl⟩;rw[lr]
     go_wp2
     go_round
     case rel=>exact⟨k+1,by omega,by go_num,Hst.out⟩
     case measure=>simp[intOf];omega
   ·obtain rfl:k=n:=by omega
    have hm:=zH (show eq l=true by
     unfold eq;rw[decide_eq_true (by rw[H1.out];omega),Bool.true_and,Bool.not_eq_true',List.any_eq_false];intro s hs;obtain⟨i,hi,e⟩:=List.getElem_of_mem hs;rw[Hno.out i s (by rw[<-H1.out];exact hi) (by rw[List.getElem?_eq_getElem hi,e])];simp)
    go_wp2
    go_ret;exact⟨by rw[hm.out];rfl,rfl⟩
def iC(z:Int):Bool:=decide (-2305843009213693952<=z)&&decide (z<=2305843009213693952)
theorem FC(z:Int)(w:World):Calls prog 196 #[.int .i64 z] w fun e w'=>e=.returned (.bool (iC z))/\w=w':=by
 unfold iC;by_cases h:-2305843009213693952<=z
 ·go_enter func196,ntmps196;go_wp2_with fail;go_ret;exact⟨by simp[h],rfl⟩
 ·go_enter func196,ntmps196;go_wp2_with fail;go_ret;exact⟨by simp;omega,rfl⟩
theorem rZ(z:Int)(w:World):Calls prog 195 #[.int .i64 z] w fun e w'=>e=.returned (.bool (!iC z))/\w=w':=by
 go_enter func195,ntmps195;go_wp2_with fail;refine(FC _ _).mono ?_;rintro e w' ⟨rfl,rfl⟩;obtain⟨b,hb⟩:=zN (iC z);rw[hb];have Hb:=zH hb;clear hb
 go_wp2
 go_ret;exact⟨by rw[Hb.out];rfl,rfl⟩
theorem BT(A:Option Addr)(n c:Nat)(l:List Int)(w:World)(hr:fv w A n l)(hn:n<=maxLen)  :
  Calls prog 204 #[.slice A n c,.func (.func 195) #[] #[]] w fun e w'=>e=.returned (.int .i64 (ke (fun z:Int=>!iC z) l))/\w=w':=by
 unfold maxLen at hn;have H1:=zH hr.len;go_enter func204,ntmps204;go_wp2_with fail
 go_loop [8] (fun i=>∃k:Nat,k<=n/\i=.int .i64 k/\(∀j y,j<k->l[j]?=some y->(fun z:Int=>!iC z) y=false)) (fun i=>n-(intOf i).toNat)
 case atStart=>exact⟨0,Nat.zero_le _,rfl,fun j y hj=>by omega⟩
 case round=>
  obtain⟨k,hk,rfl,dO⟩:=hrel;have Hno:=zH dO;clear dO;by_cases aU:k<n
  ·obtain⟨ad,rfl,hc⟩:=hr.at_ aU;have mB:l[k]?=some (l[k]?.getD 0):=by rw[List.getElem?_eq_getElem (by rw[H1.out];exact aU)];rfl
   generalize l[k]?.getD 0=s at *;cases lr:!iC s with
   | true=>
    have Hix:=zH (wv (fun z:Int=>!iC z) l k s mB lr Hno.out);clear mB;go_wp2_with fail;refine(rZ _ _).mono ?_;rintro e w' ⟨rfl,rfl⟩;rw[lr]
    go_wp2
    go_ret;exact⟨by rw[Hix.out];rfl,rfl⟩
   | false=>
    have Hst:=zH (show ∀j y,j<k+1->l[j]?=some y->(fun z:Int=>!iC z) y=false from fun j y hj hy=>by
     rcases Nat.lt_or_ge j k with h|h
     ·exact Hno.out j y h hy
     ·obtain rfl:j=k:=by omega
      obtain rfl:s=y:=Option.some.inj (mB.symm.trans hy);exact lr)
    clear mB;go_wp2_with fail;refine(rZ _ _).mono ?_;rintro e w' ⟨rfl,rfl⟩;rw[lr]
    go_wp2
    go_round
    case rel=>exact⟨k+1,by omega,by go_num,Hst.out⟩
    case measure=>simp[intOf];omega
  ·obtain rfl:k=n:=by omega
   have Hix:=zH (pd (fun z:Int=>!iC z) l (fun j y hy=>Hno.out j y (by rw[<-H1.out];exact(List.getElem?_eq_some_iff.1 hy).1) hy))
   go_wp2
   go_ret;exact⟨by rw[Hix.out];rfl,rfl⟩
theorem Bc(A:Option Addr)(n c:Nat)(l:List Int)(w:World)(hr:fv w A n l)(hn:n<=maxLen)  :
  Calls prog 194 #[.slice A n c,.func (.func 195) #[] #[]] w fun e w'=>e=.returned (.bool (l.any fun z:Int=>!iC z))/\w=w':=by
 have Hix:=zH (rL (fun z:Int=>!iC z) l);go_enter func194,ntmps194;go_wp2_with fail;refine(BT _ _ _ _ _ hr hn).mono ?_;rintro e w' ⟨rfl,rfl⟩;generalize ke (fun z:Int=>!iC z) l=ix at *
 go_wp2
 go_ret;exact⟨by rw[<-Hix.out];rfl,rfl⟩
theorem uR(z:Int)(w:World):Calls prog 198 #[.int .i64 z,.int .i64 2305843009213693952] w fun e w'=>e=.returned (.bool (iC z))/\w=w':=by
 unfold iC;by_cases h:-2305843009213693952<=z
 ·go_enter func198,ntmps198;go_wp2_with fail;go_ret;exact⟨by simp[h],rfl⟩
 ·go_enter func198,ntmps198;go_wp2_with fail;go_ret;exact⟨by simp;omega,rfl⟩
theorem tR(A:Option Addr)(n c:Nat)(l:List Int)(w:World)(hr:fv w A n l)(hn:n<=maxLen) :
  Calls prog 188 #[.int .i64 n,.slice A n c] w fun e w'=>e=.returned (.bool (!(l.any fun z:Int=>!iC z)))/\w=w':=by
 unfold maxLen at hn;have H1:=zH hr.len;go_enter func188,ntmps188;go_wp2_with fail
 go_loop [5] (fun i=>∃k:Nat,k<=n/\i=.int .i64 k/\(∀j y,j<k->l[j]?=some y->(fun z:Int=>!iC z) y=false)) (fun i=>n-(intOf i).toNat)
 case atStart=>exact⟨0,Nat.zero_le _,rfl,fun j y hj=>by omega⟩
 case round=>
  obtain⟨k,hk,rfl,dO⟩:=hrel;have Hno:=zH dO;clear dO;by_cases aU:k<n
  ·obtain⟨ad,rfl,hc⟩:=hr.at_ aU;have mB:l[k]?=some (l[k]?.getD 0):=by rw[List.getElem?_eq_getElem (by rw[H1.out];exact aU)];rfl
   generalize l[k]?.getD 0=s at *;cases lr:iC s with
   | false=>
    have Hix:=zH (show(!(l.any fun z:Int=>!iC z))=false by rw[List.any_eq_true.2 ⟨s,List.mem_of_getElem? mB,by rw[lr];rfl⟩];rfl);clear mB;go_wp2_with fail;refine(uR _ _).mono ?_;rintro e w' ⟨rfl,rfl⟩;rw[lr]
    go_wp2
    go_ret;exact⟨by rw[Hix.out];rfl,rfl⟩
   | true=>
    have Hst:=zH (show ∀j y,j<k+1->l[j]?=some y->(fun z:Int=>!iC z) y=false from fun j y hj hy=>by
     rcases Nat.lt_or_ge j k with h|h
     ·exact Hno.out j y h hy
     ·obtain rfl:j=k:=by omega
      obtain rfl:s=y:=Option.some.inj (mB.symm.trans hy);show(!iC s)=false;rw[lr];rfl)
    clear mB;go_wp2_with fail;refine(uR _ _).mono ?_;rintro e w' ⟨rfl,rfl⟩;rw[lr]
    go_wp2
    go_round
    case rel=>exact⟨k+1,by omega,by go_num,Hst.out⟩
    case measure=>simp[intOf];omega
  ·obtain rfl:k=n:=by omega
   have Hix:=zH (show(l.any fun z:Int=>!iC z)=false by
    rw[List.any_eq_false];intro s hs;obtain⟨i,hi,e⟩:=List.getElem_of_mem hs;have h1:(!iC s)=false:=Hno.out i s (by rw[<-H1.out];exact hi) (by rw[List.getElem?_eq_getElem hi,e]);rw[h1];simp)
   go_wp2
   go_ret;exact⟨by rw[Hix.out];rfl,rfl⟩
section
variable {S:Nat->Prop}{w:World}{v:Value}
theorem fF.form{l:List Int}(h:fF S w v l):∃A n c,v=.slice A n c/\n<=c/\c<=maxLen/\l.length=n:=by
 obtain⟨A,c,e,_,h1,h2,_⟩:=h;exact⟨A,_,c,e,h1,h2,rfl⟩
theorem fF.rd{A:Option Addr}{n c:Nat}{l:List Int}(h:fF S w (.slice A n c) l):fv w A n l:=by
 obtain⟨A',c',e,h1,_⟩:=h;injection e with e1 e2 e3;subst e1;subst e2;exact h1
theorem gf.form{p:List ByteArray}(h:gf S w v p):∃A n c,v=.slice A n c/\n<=c/\c<=maxLen/\p.length=n:=by
 obtain⟨A,c,e,_,h1,h2,_⟩:=h;exact⟨A,_,c,e,h1,h2,rfl⟩
theorem gf.rd{A:Option Addr}{n c:Nat}{p:List ByteArray}(h:gf S w (.slice A n c) p):vo w A n p:=by
 obtain⟨A',c',e,h1,_⟩:=h;injection e with e1 e2 e3;subst e1;subst e2;exact h1
theorem dR.form{ps:List (List ByteArray)}(h:dR S w v ps):∃A n c,v=.slice A n c/\n<=c/\c<=maxLen/\ps.length=n:=by
 obtain⟨_,⟨A,c,e,_,h1,h2,_⟩,_⟩:=h;exact⟨A,_,c,e,h1,h2,rfl⟩
theorem dR.at_{A:Option Addr}{n c k:Nat}{ps:List (List ByteArray)}(h:dR S w (.slice A n c) ps)(hk:k<n) :
  ∃ad p B m d,A=some ad/\ps[k]?=some p/\w.cell? (ad.add k)=some (.slice B m d)/\gf S w (.slice B m d) p/\m<=d/\d<=maxLen/\p.length=m:=by
 obtain⟨vs,⟨A',c',e,hr,_⟩,h2⟩:=h;injection e with e1 e2 e3;subst e1;subst e2;obtain⟨ad,rfl,hc⟩:=hr.2 (by omega);obtain⟨u,hu,hp⟩:=h2 k _ (List.getElem?_eq_getElem hk);obtain⟨B,m,d,rfl,h3,h4,h5⟩:=hp.form;exact⟨ad,_,B,m,d,rfl,List.getElem?_eq_getElem hk,hc k _ hu,hp,h3,h4,h5⟩
theorem aG.form{fs:List Fa}(h:aG S w v fs):∃A n c,v=.slice A n c/\n<=c/\c<=maxLen/\fs.length=n:=by
 obtain⟨_,⟨A,c,e,_,h1,h2,_⟩,_⟩:=h;exact⟨A,_,c,e,h1,h2,rfl⟩
theorem io(ad:Addr)(i:Nat)(hi:0<i):ad.add i=⟨ad.block,ad.off+i,none⟩:=by
 unfold Addr.add;rw[if_neg (by omega)]
theorem aG.at_{A:Option Addr}{n c k:Nat}{fs:List Fa}(h:aG S w (.slice A n c) fs)(hk:k<n) :
  ∃ad f B m d C q r,A=some ad/\fs[k]?=some f/\w.cell? (ad.add (k*2))=some (.slice B m d)/\w.cell? ⟨(ad.add (k*2)).block,(ad.add (k*2)).off+1,none⟩=some (.slice C q r)/\dR S w (.slice B m d) f.paths/\fF S w (.slice C q r) f.vals/\
   m<=d/\d<=maxLen/\f.paths.length=m/\q<=r/\r<=maxLen/\f.vals.length=q:=by
 obtain⟨ys,⟨A',c',e,hr,_⟩,hl,h2⟩:=h;injection e with e1 e2 e3;subst e1;subst e2;obtain⟨ad,rfl,hc⟩:=hr.2 (by omega);obtain⟨⟨y1,y2⟩,hy,hp,hi⟩:=h2 k _ (List.getElem?_eq_getElem hk);obtain⟨B,m,d,e1,h3,h4,h5⟩:=hp.form;obtain⟨C,q,r,e2,h6,h7,h8⟩:=hi.form;obtain rfl:y1=_:=e1;obtain rfl:y2=_:=e2;have c0:=hc (k*2+0) _ ((dW vC (j:=0) (by omega) hy).trans rfl);have c1:=hc (k*2+1) _ ((dW vC (j:=1) (by omega) hy).trans rfl);rw[<-eK,io _ 1 (by omega)]at c1;exact⟨ad,_,B,m,d,C,q,r,rfl,List.getElem?_eq_getElem hk,c0,c1,hp,hi,h3,h4,h5,h6,h7,h8⟩
end
theorem pP(A:Option Addr)(n c:Nat)(l:List ByteArray)(w:World)(hr:vo w A n l)(hn:n<=maxLen) :
  Calls prog 192 #[.slice A n c] w fun e w'=>e=.returned (.bool (!eq l))/\Below w.heap.size w w':=by
 go_enter func192,ntmps192;go_wp2_with fail;refine(wH _ _ _ _ _ hr hn).mono ?_;rintro e w' ⟨rfl,hb⟩;obtain⟨b,iv⟩:∃b,eq l=b:=⟨_,rfl⟩;rw[iv];have Hb:=zH iv;clear iv
 go_wp2
 go_ret;exact⟨by rw[Hb.out];rfl,hb⟩
theorem yP(A:Option Addr)(n c:Nat)(S:Nat->Prop)(l:List (List ByteArray))(w:World)(hr:dR S w (.slice A n c) l)(hn:n<=maxLen)  :
  Calls prog 200 #[.slice A n c,.func (.func 192) #[] #[]] w fun e w'=>e=.returned (.int .i64 (ke (fun s=>!eq s) l))/\Below w.heap.size w w':=by
 unfold maxLen at hn;have H1:=zH (show l.length=n by obtain⟨_,_,_,e,_,_,h⟩:=hr.form;injection e with _ e;rw[h,<-e]);go_enter func200,ntmps200;go_wp2_with fail
 go_loopw [8] (fun i wr=>∃k:Nat,k<=n/\i=.int .i64 k/\(∀j y,j<k->l[j]?=some y->(fun s=>!eq s) y=false)/\Below w.heap.size w wr) (fun i _=>n-(intOf i).toNat)
 case atStart=>exact⟨0,Nat.zero_le _,rfl,fun j y hj=>by omega,Below.refl _ _⟩
 case round=>
  obtain⟨k,hk,rfl,dO,hb⟩:=hrel;have Hno:=zH dO;clear dO;by_cases aU:k<n
  ·obtain⟨ad,s,B,m,d,rfl,mB,hc,hp,ur,Fe,_⟩:=(hr.keep (bA.below (hb))).at_ aU;cases lr:eq s with
   | false=>
    have Hix:=zH (wv (fun s=>!eq s) l k s mB (by rw[lr];rfl) Hno.out);clear mB;go_wp2_with fail;refine(pP _ _ _ _ _ hp.rd (Nat.le_trans ur Fe)).mono ?_;rintro e w' ⟨rfl,br⟩;rw[lr]
    go_wp2
    go_ret;exact⟨by rw[Hix.out];rfl,ab hb br zl⟩
   | true=>
    have Hst:=zH (show ∀j y,j<k+1->l[j]?=some y->(fun s=>!eq s) y=false from fun j y hj hy=>by
     rcases Nat.lt_or_ge j k with h|h
     ·exact Hno.out j y h hy
     ·obtain rfl:j=k:=by omega
      obtain rfl:s=y:=Option.some.inj (mB.symm.trans hy);show(!eq s)=false;rw[lr];rfl)
    clear mB;go_wp2_with fail;refine(pP _ _ _ _ _ hp.rd (Nat.le_trans ur Fe)).mono ?_;rintro e w' ⟨rfl,br⟩;rw[lr]
    go_wp2
    go_roundw
    case rel=>exact⟨k+1,by omega,by go_num,Hst.out,ab hb br zl⟩
    case measure=>simp[intOf];omega
  ·obtain rfl:k=n:=by omega
   have Hix:=zH (pd (fun s=>!eq s) l (fun j y hy=>Hno.out j y (by rw[<-H1.out];exact(List.getElem?_eq_some_iff.1 hy).1) hy))
   go_wp2
   go_ret;exact⟨by rw[Hix.out];rfl,hb⟩
theorem xQ(A:Option Addr)(n c:Nat)(S:Nat->Prop)(l:List (List ByteArray))(w:World)(hr:dR S w (.slice A n c) l)(hn:n<=maxLen)  :
  Calls prog 191 #[.slice A n c,.func (.func 192) #[] #[]] w fun e w'=>e=.returned (.bool (l.any fun s=>!eq s))/\Below w.heap.size w w':=by
 have Hix:=zH (rL (fun s=>!eq s) l);go_enter func191,ntmps191;go_wp2_with fail;refine(yP _ _ _ _ _ _ hr hn).mono ?_;rintro e w' ⟨rfl,hb⟩;generalize ke (fun s=>!eq s) l=ix at *
 go_wp2
 go_ret;exact⟨by rw[<-Hix.out];rfl,hb⟩
def eN(f:Fa):Bool:=!(f.paths.any fun p=>!eq p)&&(!(f.vals.any fun z:Int=>!iC z)&&(decide (f.paths.length<=3)&&decide (f.vals.length<=2)))
theorem AV(S:Nat->Prop)(A B:Option Addr)(n c m d:Nat)(f:Fa)(w:World)(hp:dR S w (.slice A n c) f.paths)(hv:fF S w (.slice B m d) f.vals)(hn:n<=maxLen)(hm:m<=maxLen) :
  Calls prog 185 #[.agg #[.slice A n c,.slice B m d]] w fun e w'=>e=.returned (.bool (eN f))/\Below w.heap.size w w':=by
 have jo:Below w.heap.size w (w.alloc (.cells #[.slice A n c,.slice B m d] 191)):=zb.alloc zl _;have di:=ao.new w 191 #[.slice A n c,.slice B m d];have DV:=hp.keep (bA.below (S:=S) jo);have aY:=hv.keep (bA.below (S:=S) jo);have H1:=zH (show f.paths.length=n by obtain⟨_,_,_,e,_,_,h⟩:=hp.form;injection e with _ e;rw[h,<-e]);have H2:=zH (show f.vals.length=m by obtain⟨_,_,_,e,_,_,h⟩:=hv.form;injection e with _ e;rw[h,<-e]);go_enter func185,ntmps185;go_wp2_with fail;generalize w.alloc (.cells #[.slice A n c,.slice B m d] 191)=w0 at *;refine(xQ _ _ _ _ _ _ DV hn).mono ?_;rintro e w1 ⟨rfl,br⟩;have lw:=(di.kept br).cell 1;have ci:=aY.keep (bA.below (S:=S) br);have gJ:=jo.trans (br.mono jo.size);simp only[Zx]at lw;have fO:=(di.kept br).cell 0;simp only[List.getElem?_toArray,List.getElem?_cons_zero]at fO;obtain⟨b1,FX⟩:∃b,(f.paths.any fun p=>!eq p)=b:=⟨_,rfl⟩;rw[FX];have HB1:=zH FX;clear FX;go_wp2_with fail;refine(Bc _ _ _ _ _ ci.rd hm).mono ?_;rintro e w2 ⟨rfl,rfl⟩;obtain⟨b2,Cz⟩:∃b,(f.vals.any fun z:Int=>!iC z)=b:=⟨_,rfl⟩;rw[Cz];have HB2:=zH Cz;clear Cz;have HF:=zH (show eN f=(!b1&&(!b2&&(decide (n<=3)&&decide (m<=2)))) by unfold eN;rw[HB1.out,HB2.out,H1.out,H2.out]);have H5:=zH (show decide ((m:Int)<=2)=decide (m<=2)from decide_eq_decide.2 (by omega));cases b1 with
 | true=>
  go_wp2_with fail;go_ret;exact⟨by rw[HF.out];rfl,gJ⟩
 | false=>
  cases b2 with
  | true=>
   go_wp2_with fail;go_ret;exact⟨by rw[HF.out];rfl,gJ⟩
  | false=>
   by_cases h3:n<=3
   ·go_wp2_with fail;go_ret;exact⟨by rw[HF.out,decide_eq_true h3];exact sw H5.out,gJ⟩
   ·have h4:decide ((n:Int)<=3)=false:=by simp;omega
    go_wp2_with fail;go_ret;exact⟨by rw[HF.out,decide_eq_false h3];rfl,gJ⟩
theorem wS(S:Nat->Prop)(A B:Option Addr)(n c m d:Nat)(f:Fa)(w:World)(hp:dR S w (.slice A n c) f.paths)(hv:fF S w (.slice B m d) f.vals)(hn:n<=maxLen)(hm:m<=maxLen) :
  Calls prog 176 #[.agg #[.slice A n c,.slice B m d]] w fun e w'=>e=.returned (.bool (eN f))/\Below w.heap.size w w':=by
 have jo:Below w.heap.size w (w.alloc (.cells #[.slice A n c,.slice B m d] 191)):=zb.alloc zl _;have di:=ao.new w 191 #[.slice A n c,.slice B m d];have DV:=hp.keep (bA.below (S:=S) jo);have aY:=hv.keep (bA.below (S:=S) jo);have H1:=zH (show f.paths.length=n by obtain⟨_,_,_,e,_,_,h⟩:=hp.form;injection e with _ e;rw[h,<-e]);have H2:=zH (show f.vals.length=m by obtain⟨_,_,_,e,_,_,h⟩:=hv.form;injection e with _ e;rw[h,<-e]);obtain⟨fO,lw,-⟩:=di.cs [0,1];simp only[Zx]at fO lw;unfold maxLen at hn hm;go_enter func176,ntmps176;go_wp2_with fail;generalize w.alloc (.cells #[.slice A n c,.slice B m d] 191)=w0 at *;refine(tR _ _ _ _ _ aY.rd (by unfold maxLen;exact hm)).mono ?_;rintro e w1 ⟨rfl,rfl⟩;obtain⟨b2,Cz⟩:∃b,(f.vals.any fun z:Int=>!iC z)=b:=⟨_,rfl⟩;rw[Cz];have HB2:=zH Cz;clear Cz;have HF:=zH (show eN f=(!(f.paths.any fun p=>!eq p)&&(!b2&&(decide (n<=3)&&decide (m<=2)))) by unfold eN;rw[HB2.out,H1.out,H2.out]);cases b2 with
 | true=>
  have HF:=zH (HF.out.trans (show _=false by simp));go_wp2_with fail;go_ret;exact⟨by rw[HF.out];rfl,jo⟩
 | false=>
  by_cases h2:2<m
  ·have HF:=zH (HF.out.trans (show _=false by rw[decide_eq_false (show ¬m<=2 by omega)];simp));go_wp2_with fail;go_ret;exact⟨by rw[HF.out];rfl,jo⟩
  ·by_cases h3:3<n
   ·have HF:=zH (HF.out.trans (show _=false by rw[decide_eq_false (show ¬n<=3 by omega)];simp));go_wp2_with fail;go_ret;exact⟨by rw[HF.out];rfl,jo⟩
   ·have HG:=zH (HF.out.trans (show _=!(f.paths.any fun p=>!eq p) by rw[decide_eq_true (show n<=3 by omega),decide_eq_true (show m<=2 by omega)];simp));go_wp2_with fail
    go_loop [4] (fun i=>∃k:Nat,k<=n/\i=.int .i64 k/\(∀j y,j<k->f.paths[j]?=some y->(fun p=>!eq p) y=false)) (fun i=>n-(intOf i).toNat)
    case atStart=>exact⟨0,Nat.zero_le _,rfl,fun j y hj=>by omega⟩
    case round=>
     obtain⟨k,hk,rfl,dO⟩:=hrel;have Hno:=zH dO;clear dO;by_cases aU:k<n
     ·obtain⟨ad,p,B',m',d',rfl,mB,hc,S8,ur,Fe,_⟩:=DV.at_ aU;cases lr:eq p with
      | false=>
       have Hix:=zH (show(!(f.paths.any fun p=>!eq p))=false by rw[List.any_eq_true.2 ⟨p,List.mem_of_getElem? mB,by rw[lr];rfl⟩];rfl);clear mB;go_wp2_with fail;refine(jD _ _ _ _ _ S8.rd (Nat.le_trans ur Fe)).mono ?_;rintro e w' ⟨rfl,rfl⟩;rw[lr];go_wp2_with fail;go_ret;exact⟨by rw[HG.out,Hix.out];rfl,jo⟩
      | true=>
       have Hst:=zH (show ∀j y,j<k+1->f.paths[j]?=some y->(fun p=>!eq p) y=false from fun j y hj hy=>by
        rcases Nat.lt_or_ge j k with h|h
        ·exact Hno.out j y h hy
        ·obtain rfl:j=k:=by omega
         obtain rfl:p=y:=Option.some.inj (mB.symm.trans hy);show(!eq p)=false;rw[lr];rfl)
       clear mB;go_wp2_with fail;refine(jD _ _ _ _ _ S8.rd (Nat.le_trans ur Fe)).mono ?_;rintro e w' ⟨rfl,rfl⟩;rw[lr];go_wp2_with fail
       go_round
       case rel=>exact⟨k+1,by omega,by go_num,Hst.out⟩
       case measure=>simp[intOf];omega
     ·obtain rfl:k=n:=by omega
      have Hix:=zH (show(!(f.paths.any fun p=>!eq p))=true by
       rw[Bool.not_eq_true',List.any_eq_false];intro s hs;obtain⟨i,hi,e⟩:=List.getElem_of_mem hs;have h1:(!eq s)=false:=Hno.out i s (by rw[<-H1.out];exact hi) (by rw[List.getElem?_eq_getElem hi,e]);rw[h1];simp)
      go_wp2_with fail;go_ret;exact⟨by rw[HG.out,Hix.out];rfl,jo⟩
theorem mJ:(prog.info? 5).map (fun i=>(i.zero,i.size,i.bytes))=some (some (.int .u8 0),1,1):=by kernel_rfl
def Bx(B:Nat)(w:World)(v:Value)(n:Nat):Prop:=
 ∃xs,(∀u∈xs,u.oneCell'=true)/\((∃A,v=.slice A n n/\cn w 1 A n xs)\/w.ownsRow B 5 1 v n xs)
theorem Bx.below{B n:Nat}{w w':World}{v:Value}(h:Bx B w v n)(hb:Below w.heap.size w w'):Bx B w' v n:=by
 obtain⟨xs,h1,h2|h2⟩:=h
 ·obtain⟨A,e,hr⟩:=h2;exact⟨xs,h1,.inl ⟨A,e,hr.below hb⟩⟩
 ·exact⟨xs,h1,.inr (bf h2 hb)⟩
def By(B:Nat)(w:World)(v:Value)(n:Nat):Prop:=∃xs,(∀u∈xs,u.oneCell'=true)/\w.ownsRow B 5 1 v n xs
theorem By.bx{B n:Nat}{w:World}{v:Value}(h:By B w v n):Bx B w v n:=by
 obtain⟨xs,h1,h2⟩:=h;exact⟨xs,h1,.inr h2⟩
theorem By.mono{B B' n:Nat}{w:World}{v:Value}(h:By B w v n)(hb:B'<=B):By B' w v n:=by
 obtain⟨xs,h1,h2⟩:=h;exact⟨xs,h1,eB h2 hb⟩
theorem By.form{B n:Nat}{w:World}{v:Value}(h:By B w v n):∃A c,v=.slice A n c/\n<=c/\c<=maxLen/\∃xs,(∀u∈xs,u.oneCell'=true)/\cn w 1 A n xs:=by
 obtain⟨xs,h1,h2⟩:=h;obtain⟨A,c,rfl,h3,h4⟩:=sh h2;exact⟨A,c,rfl,h3,h4,xs,h1,cn.of_own h2⟩
def Bn(w:World)(v:Value)(n:Nat):Prop:=∃A c xs,v=.slice A n c/\n<=c/\c<=maxLen/\(∀u∈xs,u.oneCell'=true)/\cn w 1 A n xs
theorem By.bn{B n:Nat}{w:World}{v:Value}(h:By B w v n):Bn w v n:=by
 obtain⟨A,c,e,h1,h2,xs,h3,h4⟩:=h.form;exact⟨A,c,xs,e,h1,h2,h3,h4⟩
theorem Bn.nil(w:World):Bn w (.slice none 0 0) 0:=⟨none,0,[],rfl,Nat.le_refl _,Nat.zero_le _,fun _ h=>(by cases h),cn.none_⟩
theorem dH{w:World}{ops:Array Oper}{rest:List Oper}{o:Oper}{a:Act}{Q:Exit->Act->World->Prop}(lq:o.guard=none)(s x:Operand)
  (ho:o.op=.call {callee:=.builtin .append,args:=#[s,x],argTypes:=#[24,24]})
  (B:Nat) {v:Value} {n:Nat} (hs:a.eval s=v) (hv:Bx B w v n) (g:Nat) (u:Value) (hx:a.eval x=.slice (some ⟨g,0,none⟩) 1 1) (hg:ao w g 5 #[u]) (hu:u.oneCell'=true) (hb:n<=100000000) (hB:B<=w.heap.size)
  (h:∀v' w',By B w' v' (n+1)->Below B w w'->wpList prog ops Q rest (a.put o.dst v') w'):wpList prog ops Q (o::rest) a w:=by
 obtain⟨i0,iF,jT,iW,gC⟩:=info_parts mJ;have hr:cn w 1 (some ⟨g,0,none⟩) 1 [u]:=⟨rfl,fun _=>⟨_,rfl,fun j y hy=>by
  have e:(⟨g,0,none⟩:Addr).add j=⟨g,j,none⟩:=by unfold Addr.add;split <;> simp[*]
  rw[e,hg.cell j,<-hy];simp⟩⟩
 obtain⟨xs,h1,h2|h2⟩:=hv
 ·obtain⟨A,rfl,gp⟩:=h2;have GQ:A=none->n=0/\n=0:=fun e=>by
   rcases Nat.eq_zero_or_pos n with h0|h0
   ·exact⟨h0,h0⟩
   ·obtain⟨ad,e',_⟩:=gp.2 h0;rw[e]at e';cases e'
  refine wpList_append_grows w lq s x 24 ho 5 i0 _ 1 1 underlying24 iF jT iW gC rfl (by omega) A n n xs hs GQ gp.1 (fun b hb j y hy=>?_) ⟨g,0,none⟩ 1 1 [u] hx rfl (fun j y hy=>?_) (fun y hy=>by rw[List.mem_singleton.1 hy];exact hu) (by omega) (by unfold maxLen;omega) (by omega) fun v' w' h3 h4=>h v' w' ⟨xs++[u],fun y hy=>?_,eB h3 hB⟩ (zb.grown h4 hB (fun k hk=>by cases hk))
  ·have hl:=(List.getElem?_eq_some_iff.1 hy).1;have h0:0<n:=by have:=gp.1;omega
   obtain⟨ad,e,hc⟩:=gp.2 h0;obtain rfl:=Option.some.inj (hb.symm.trans e);exact hc j y hy
  ·obtain⟨ad,e,hc⟩:=hr.2 (by omega);obtain rfl:=Option.some.inj e;exact hc j y hy
  ·rcases List.mem_append.1 hy with h5|h5
   ·exact h1 y h5
   ·rw[List.mem_singleton.1 h5];exact hu
 ·refine bg w lq s x 24 ho B 5 i0 _ 1 1 underlying24 iF jT iW gC rfl (by omega) v n xs hs h2 (some ⟨g,0,none⟩) 1 1 [u] hx hr (fun y hy=>by rw[List.mem_singleton.1 hy];exact hu) (by unfold maxLen;omega) (by omega) hB fun A' c' w' h3 h4 _=>h _ w' ⟨xs++[u],fun y hy=>?_,h3⟩ (eS h2 h4 hB)
  rcases List.mem_append.1 hy with h5|h5
  ·exact h1 y h5
  ·rw[List.mem_singleton.1 h5];exact hu
theorem FG(A:Option Addr)(n c:Nat)(w:World)(hn:n<=c)(_:c<=maxLen) :
  Calls prog 175 #[.slice A n c] w fun e w'=>e=.returned (.slice A n n)/\w=w':=by
 go_enter func175,ntmps175;go_wp2_with fail;go_ret;exact⟨rfl,rfl⟩
theorem sY(z:Int):∃x:Nat,IntKind.u64.wrap z=x/\x<18446744073709551616:=by
 rw[IntKind.wrap_u64];exact⟨(z%18446744073709551616).toNat,by omega,by omega⟩
theorem FB(op:BinOp)(x y:Int):∃m:Nat,bits op .u64 x y=m/\m<18446744073709551616:=by
 unfold bits;exact sY _
theorem If(x k:Nat)(h:x*128^k<18446744073709551616)(hx:128<=x):k+1<=9/\x/128*128^(k+1)<18446744073709551616:=by
 constructor
 ·rcases Nat.lt_or_ge k 9 with h1|h1
  ·exact h1
  ·exfalso
   have h2:128^9<=128^k:=Nat.pow_le_pow_right (by omega) h1;have h3:128*128^9<=x*128^k:=Nat.mul_le_mul hx h2;omega
 ·refine Nat.lt_of_le_of_lt ?_ h;rw[Nat.pow_succ,Nat.mul_comm (128^k) 128,<-Nat.mul_assoc];exact Nat.mul_le_mul_right _ (Nat.div_mul_le_self x 128)
theorem ep(v:Value)(n:Nat)(z:Int)(w:World)(hv:Bn w v n)(hn:n<=1000000) :
  Calls prog 156 #[v,.int .i64 z] w fun e w'=>∃v' n',e=.returned v'/\By w.heap.size w' v' n'/\n'<=n+10/\Below w.heap.size w w':=by
 obtain⟨A,c,xs,rfl,h1,h2,h3,h4⟩:=hv;have Un:Bx w.heap.size w (.slice A n n) n:=⟨xs,h3,.inl ⟨A,rfl,h4⟩⟩;clear h4 h3;obtain⟨x0,LI,j3⟩:=sY z;obtain⟨x1,tL,cD⟩:=sY (x0*2);obtain⟨x2,xy,dG⟩:=FB .xor IntKind.u64.max x1;go_enter func156,ntmps156;go_wp2_with fail;refine wp_scope_jumps 0 (fun a' w'=>∃(k x:Nat) (v u6 u7 u8 u9 u10 u11 u12 u13 u14 u15 u16 u17 u18 u19 u20 u21 u22 u23 u24 u25 u26 u27 u28 u29:Value),a'={tmps:=#[v,.int .i64 z,undef,undef,.slice none 0 0,.int .u64 x,u6,u7,u8,u9,u10,u11,u12,u13,u14,u15,u16,u17,u18,u19,u20,u21,u22,u23,u24,u25,u26,u27,u28,u29],defers:=[]}/\k<=9/\x*128^k<18446744073709551616/\Bx w.heap.size w' v (n+k)/\Below w.heap.size w w') (fun a' _=>(intOf (a'.tmps.getD 5 undef)).toNat) rfl ?_ ?_
 ·go_wp2_with fail;refine(FG _ _ _ _ h1 h2).mono ?_;rintro e w1 ⟨rfl,rfl⟩;have aI:=fun u:Value=>(Below.refl w.heap.size w).alloc zl (.cells #[u] 5)
  have vP:=fun u:Value=>Un.below (aI u)
  have cO:=aI;by_cases hz:z<0
  ·have hx:x2*128^0<18446744073709551616:=by simp;omega
   go_wp2_with fail
   go_step3
   by_cases hg:128<=x2
   ·obtain⟨cA,yM⟩:=If x2 0 hx hg;have HX:=zH yM;clear yM hx;go_wp2_with (at_builtin;refine dH rfl (.tmp 17) (.tmp 21) rfl w.heap.size rfl (vP _) w.heap.size _ rfl (ao.new _ _ _) rfl (by omega) (cO _).size ?_;intro v5 w5 dK cM)
    go_step3
    refine⟨rfl,1,x2/128,v5,_,_,_,_,_,_,_,_,_,_,_,_,_,_,_,_,_,_,_,_,_,_,_,_,rfl,by omega,HX.out,dK.bx,(cO _).trans cM⟩
   ·go_wp2_with (at_builtin;refine dH rfl (.tmp 25) (.tmp 28) rfl w.heap.size rfl (vP _) w.heap.size _ rfl (ao.new _ _ _) rfl (by omega) (cO _).size ?_;intro v5 w5 dK cM);simp only[Exit.jump];go_ret;exact⟨v5,_,rfl,dK,by omega,(cO _).trans cM⟩
  ·have hx:x1*128^0<18446744073709551616:=by simp;omega
   go_wp2_with fail
   go_step3
   by_cases hg:128<=x1
   ·obtain⟨cA,yM⟩:=If x1 0 hx hg;have HX:=zH yM;clear yM hx;go_wp2_with (at_builtin;refine dH rfl (.tmp 17) (.tmp 21) rfl w.heap.size rfl (vP _) w.heap.size _ rfl (ao.new _ _ _) rfl (by omega) (cO _).size ?_;intro v5 w5 dK cM)
    go_step3
    refine⟨rfl,1,x1/128,v5,_,_,_,_,_,_,_,_,_,_,_,_,_,_,_,_,_,_,_,_,_,_,_,_,rfl,by omega,HX.out,dK.bx,(cO _).trans cM⟩
   ·go_wp2_with (at_builtin;refine dH rfl (.tmp 25) (.tmp 28) rfl w.heap.size rfl (vP _) w.heap.size _ rfl (ao.new _ _ _) rfl (by omega) (cO _).size ?_;intro v5 w5 dK cM);simp only[Exit.jump];go_ret;exact⟨v5,_,rfl,dK,by omega,(cO _).trans cM⟩
 ·rintro a' wr ⟨k,x,v,u6,u7,u8,u9,u10,u11,u12,u13,u14,u15,u16,u17,u18,u19,u20,u21,u22,u23,u24,u25,u26,u27,u28,u29,rfl,hk,hx,fu,hb⟩;have hxl:x<18446744073709551616:=by
   have:=Nat.le_mul_of_pos_right x (Nat.pow_pos (n:=k) (show 0<128 by omega));omega
  have aI:=fun u:Value=>(Below.refl wr.heap.size wr).alloc zl (.cells #[u] 5)
  have vP:=fun u:Value=>fu.below (aI u)
  have cO:=fun u:Value=>ab hb (aI u) zl
  by_cases hg:128<=x
  ·obtain⟨cA,tL⟩:=If x k hx hg;have HX:=zH tL;clear tL hx;go_wp2_with (at_builtin;refine dH rfl (.tmp 17) (.tmp 21) rfl w.heap.size rfl (vP _) wr.heap.size _ rfl (ao.new _ _ _) rfl (by omega) (cO _).size ?_;intro v5 w5 dK cM)
   go_step3
   refine⟨rfl,⟨k+1,x/128,v5,_,_,_,_,_,_,_,_,_,_,_,_,_,_,_,_,_,_,_,_,_,_,_,_,rfl,by omega,HX.out,dK.bx,(cO _).trans cM⟩,?_⟩;simp[intOf];omega
  ·go_wp2_with (at_builtin;refine dH rfl (.tmp 25) (.tmp 28) rfl w.heap.size rfl (vP _) wr.heap.size _ rfl (ao.new _ _ _) rfl (by omega) (cO _).size ?_;intro v5 w5 dK cM);simp only[Exit.jump];go_ret;exact⟨v5,_,rfl,dK,by omega,(cO _).trans cM⟩
section
open Go.Shelf
def CT:Go.Shelf.Ren:=⟨fun|156=>197|165=>205|166=>206|169=>207|240=>209|241=>210|276=>211|277=>212|n=>n,fun|31=>193|9=>9|3=>3|4=>4|0=>0|20=>20|72=>238|76=>241|70=>236|37=>24|75=>240|127=>245|164=>246|5=>5|80=>243|n=>n,fun|n=>n⟩
theorem G9:Go.Proofs.Lays.n156 prog CT:={
 mixed:=by kernel_rfl
 f156:=func197.trans (congrArg some (by kernel_rfl))
 f165:=func205.trans (congrArg some (by kernel_rfl))
 f166:=func206.trans (congrArg some (by kernel_rfl))
 f169:=func207.trans (congrArg some (by kernel_rfl))
 f240:=func209.trans (congrArg some (by kernel_rfl))
 f241:=func210.trans (congrArg some (by kernel_rfl))
 f276:=func211.trans (congrArg some (by kernel_rfl))
 f277:=func212.trans (congrArg some (by kernel_rfl))
 t0:=underlying0
 a0:=isAgg0
 z0:=sizeOf0
 v0:=zeroValue0
 t3:=underlying3
 a3:=isAgg3
 z3:=sizeOf3
 v3:=zeroValue3
 t4:=underlying4
 a4:=isAgg4
 z4:=sizeOf4
 v4:=zeroValue4
 t9:=underlying9
 a9:=isAgg9
 z9:=sizeOf9
 v9:=zeroValue9
 t20:=underlying20
 a20:=isAgg20
 z20:=sizeOf20
 v20:=zeroValue20
 t31:=underlying193
 a31:=isAgg193
 z31:=sizeOf193
 v31:=zeroValue193
 t37:=underlying24
 a37:=isAgg24
 z37:=sizeOf24
 v37:=zeroValue24
 t70:=underlying236
 a70:=isAgg236
 z70:=sizeOf236
 v70:=zeroValue236
 t72:=underlying238
 a72:=isAgg238
 z72:=sizeOf238
 v72:=zeroValue238
 t75:=underlying240
 a75:=isAgg240
 z75:=sizeOf240
 v75:=zeroValue240
 t76:=underlying241
 a76:=isAgg241
 z76:=sizeOf241
 v76:=zeroValue241
 t127:=underlying245
 a127:=isAgg245
 z127:=sizeOf245
 v127:=zeroValue245
 t164:=underlying246
 a164:=isAgg246
 z164:=sizeOf246
 v164:=zeroValue246}
theorem D4:Builder.Extra prog CT:={
 sizeBuilder:=by kernel_rfl
 liesBuilder:=by kernel_rfl
 t5:=underlying5
 a5:=isAgg5
 z5:=sizeOf5
 v5:=zeroValue5
 infoByte:=by kernel_rfl
 cellsByte:=by kernel_rfl
 sizeByte:=by kernel_rfl
 neB5:=by decide}
open Go.RowKit in
theorem xa (bk o c:Nat) (xs:List ByteArray) (sep:ByteArray) (w:World) (lQ:∀(j:Nat) x,xs[j]?=some x->w.cell? ⟨bk,o+j,none⟩=some (.string x)) (gK:bk<w.heap.size) (hN:xs.length<=140737488355328) (DH:xs.length<=c) (af:(Lib.join (xs.map (·.data.toList)) sep.data.toList).length<=140737488355328) :
  Calls prog 197 #[.slice (some ⟨bk,o,none⟩) xs.length c,.string sep] w fun e w'=>e=.returned (.string ⟨(Lib.join (xs.map (·.data.toList)) sep.data.toList).toArray⟩)/\Below w.heap.size w w':=Any.strings_Join G9 D4 bk o c xs sep w lQ gK hN DH af
end
theorem Bn.below{n:Nat}{w w':World}{v:Value}(h:Bn w v n)(hb:Below w.heap.size w w'):Bn w' v n:=by
 obtain⟨A,c,xs,e,h1,h2,h3,h4⟩:=h;exact⟨A,c,xs,e,h1,h2,h3,cn.below h4 hb⟩
theorem BW(x:ByteArray)(r:List ByteArray)(h:∀s∈x::r,s.size<=12)(hl:(x::r).length<=3):(Lib.join ((x::r).map (·.data.toList)) (ByteArray.mk #[47]).data.toList).length<=38:=by
 rw[List.map_cons,Lib.join_length];have hs:∀(l:List ByteArray),(∀s∈l,s.size<=12)->Lib.lens (l.map (·.data.toList))<=12*l.length:=by
  intro l;induction l with
  | nil=>intro _;simp[Lib.lens]
  | cons a l ih=>
   intro h;have h1:=ih fun s hs=>h s (List.mem_cons_of_mem _ hs)
   have h2:=h a List.mem_cons_self;have h3:a.data.toList.length=a.size:=by rw[Array.length_toList];rfl
   simp only[Lib.lens,List.map_cons,List.sum_cons,List.length_cons]at *;omega
 have h1:=hs (x::r) h;simp only[List.map_cons,List.length_cons,List.length_map]at *;simp only[List.length_nil,Nat.zero_add,Nat.one_mul];omega
theorem In(A:Option Addr)(n c:Nat)(p:List ByteArray)(w:World)(hr:vo w A n p)(hn:n<=c)(hp:eq p=true) :
  Calls prog 186 #[.slice A n c] w fun e w'=>∃s:ByteArray,e=.returned (.tuple #[.string s,.int .i64 0])/\s.size<=38/\Below w.heap.size w w':=by
 have hl:=hr.len;have h3:=rU hp;have qo:=pg hp;have Fg:n<=3:=by omega
 have DS:n<=maxLen:=rS Fg (by omega);cases p with
 | nil=>
  obtain rfl:n=0:=by simpa using hl.symm
  go_enter func186,ntmps186;go_wp2_with fail;refine(wH _ _ _ _ _ hr DS).mono ?_;rintro e w1 ⟨rfl,hb⟩;rw[hp];go_wp2_with fail
  go_ret2
  exact⟨_,rfl,by decide,hb⟩
 | cons x r=>
  have lz:0<n:=by simp at hl;omega
  obtain⟨ad,s0,rfl,Vy,fO⟩:=hr.at_ lz;have hj:=BW x r (fun s hs=>rX (qo s hs)) h3;have hl:=zH hl;have J1:ad.spot=none:=by
   rw[ns]at fO;unfold World.cell? at fO;split at fO
   ·split at fO
    ·cases fO
    ·rename_i h;simpa using h
   ·cases fO
  obtain⟨bk,o,sp⟩:=ad;obtain rfl:sp=none:=J1;have gK:=ar fO;rw[bi]at gK;have h0':decide (n=0)=false:=decide_eq_false (by omega);have aH:=fun w1 (hb:Below w.heap.size w w1)=>xa bk o c (x::r) ⟨#[47]⟩ w1 (fun j y hy=>by
   have hj:j<n:=by rw[<-hl.out];exact(List.getElem?_eq_some_iff.1 hy).1
   obtain⟨ad',s',e',XO,Jt⟩:=(hr.below hb).at_ hj;obtain rfl:=Option.some.inj e';rw[hy]at XO;obtain rfl:=Option.some.inj XO;have ea:(⟨bk,o,none⟩:Addr).add j=⟨bk,o+j,none⟩:=by unfold Addr.add;split <;> simp[*]
   rwa [ea]at Jt) (Nat.lt_of_lt_of_le gK hb.size) (by rw[hl.out];omega) (by rw[hl.out];exact hn) (Nat.le_trans hj (by omega))
  have fU:=zH (show(ByteArray.mk (Lib.join ((x::r).map (·.data.toList)) (ByteArray.mk #[47]).data.toList).toArray).size<=38 by show(Lib.join _ _).toArray.size<=38;rw[List.size_toArray];exact hj);generalize ByteArray.mk (Lib.join ((x::r).map (·.data.toList)) (ByteArray.mk #[47]).data.toList).toArray=s at *;rw[hl.out]at aH;have aH:=zH aH;clear hj fO Vy;go_enter func186,ntmps186;go_wp2_with fail;refine(wH _ _ _ _ _ hr DS).mono ?_;rintro e w1 ⟨rfl,hb⟩;rw[hp];have WL:((n:Int)==0)=false:=beq_eq_false_iff_ne.2 (by omega);go_wp2_with fail;refine(aH.out w1 hb).mono ?_;rintro e w2 ⟨rfl,bQ⟩;go_wp2_with fail
  go_ret2
  exact⟨_,rfl,fU.out,ab hb bQ zl⟩
theorem oI(s:ByteArray)(u:Value)(h:u∈Lib.strCells s):u.oneCell'=true:=by
 unfold Lib.strCells at h;obtain⟨b,_,rfl⟩:=List.mem_map.1 h;rfl
theorem zG(v:Value)(n:Nat)(s:ByteArray)(w:World)(hv:Bn w v n)(hn:n<=900000)(hs:s.size<=1000) :
  Calls prog 187 #[v,.string s] w fun e w'=>∃v' n',e=.returned v'/\By w.heap.size w' v' n'/\n'<=n+10+s.size/\Below w.heap.size w w':=by
 obtain⟨i0,iF,jT,iW,gC⟩:=info_parts mJ;go_enter func187,ntmps187;go_wp2_with fail;refine(ep v n _ w hv (by omega)).mono ?_;rintro e w1 ⟨v1,n1,rfl,⟨xs,hx,aB⟩,iU,br⟩;go_wp2_with (at_builtin;refine Lib.wpList_append_own_string _ rfl (.tmp 8) (.tmp 9) 24 9 rfl w.heap.size 5 i0 underlying24 underlying9 iF jT iW gC v1 n1 xs rfl aB s rfl (by unfold maxLen;omega) (by omega) br.size ?_;intro v2 w2 cw qA _);go_ret;exact⟨v2,_,rfl,⟨_,fun u hu=>(List.mem_append.1 hu).elim (hx u) (oI s u),cw⟩,by omega,br.trans (eS aB qA br.size)⟩
def qr(fs:List Fa):Int:=if 8<fs.length then 13 else if fs.any (fun f=>!eN f)then 12 else 0
theorem kO{f:Fa}(h:eN f=true):(∀p∈f.paths,eq p=true)/\f.paths.length<=3/\f.vals.length<=2:=by
 unfold eN at h;simp only[Bool.and_eq_true,Bool.not_eq_true',decide_eq_true_eq,List.any_eq_false]at h;refine⟨fun p hp=>?_,h.2.2.1,h.2.2.2⟩;have:=h.1 p hp;simpa using this
theorem uO{fs:List Fa}(h:8<fs.length):qr fs=13:=if_pos h
theorem zA{fs:List Fa}{f:Fa}(h:¬8<fs.length)(hm:f∈fs)(hp:eN f=false):qr fs=12:=by
 unfold qr;rw[if_neg h,if_pos (List.any_eq_true.2 ⟨f,hm,by rw[hp];rfl⟩)]
theorem C0{fs:List Fa}(h:¬8<fs.length)(hp:∀f∈fs,eN f=true):qr fs=0:=by
 unfold qr;rw[if_neg h,if_neg];rw[List.any_eq_true];rintro⟨f,hf,h1⟩;rw[hp f hf]at h1;cases h1
theorem mw{S:Nat->Prop}{w:World}{A:Option Addr}{n c:Nat}{fs:List Fa}(h:aG S w (.slice A n c) fs):fs.length=n:=by
 obtain⟨_,_,_,e,_,_,h⟩:=h.form;injection e with _ e;rw[h,<-e]
theorem FE(S:Nat->Prop)(v:Value)(m:Nat)(A:Option Addr)(n c:Nat)(fs:List Fa)(w:World)(hv:Bn w v m)(hm:m<=10000)(hf:aG S w (.slice A n c) fs)(hn:n<=maxLen) :
  Calls prog 174 #[v,.slice A n c] w fun e w'=>∃v',e=.returned (.tuple #[v',.int .i64 (qr fs)])/\Below w.heap.size w w':=by
 have H1:=zH (mw hf);unfold maxLen at hn;by_cases h8:8<n
 ·have hE:=zH (uO (fs:=fs) (by rw[H1.out];exact h8));go_enter func174,ntmps174;go_wp2_with fail
  go_ret2
  exact⟨_,by rw[hE.out];rfl,Below.refl _ _⟩
 ·go_enter func174,ntmps174;go_wp2_with fail;refine(ep v m _ w hv (by omega)).mono ?_;rintro e w1 ⟨v1,n1,rfl,G8,iU,br⟩;go_wp2_with fail
  go_loopw [0,23] (fun b i wr=>∃(k q:Nat),k<=n/\i=.int .i64 k/\Bn wr b q/\q<=10010+200*k/\(∀j f,j<k->fs[j]?=some f->eN f=true)/\Below w.heap.size w wr) (fun _ i _=>n-(intOf i).toNat)
  case atStart=>exact⟨0,n1,Nat.zero_le _,rfl,G8.bn,by omega,fun j f h=>by omega,br⟩
  case round=>
   obtain⟨k,q,hk,rfl,fw,hq,dO,hb⟩:=hrel;have Hno:=zH dO;clear dO;by_cases aU:k<n
   ·obtain⟨ad,f,B,mp,d,C,mv,r,rfl,DK,c0,c1,hp,O6,ur,Fe,nA,JR,Lq,wm⟩:=(hf.keep (bA.below (S:=S) hb)).at_ aU;have aI:Below wr.heap.size wr (wr.alloc (.cells #[.slice B mp d,.slice C mv r] 191)):=zb.alloc zl _;have di:=ao.new wr 191 #[.slice B mp d,.slice C mv r];have xr:=hp.keep (bA.below (S:=S) aI);have ci:=O6.keep (bA.below (S:=S) aI);have Uk:=fw.below aI;have gJ:=ab hb aI zl;have aO:=zH (show n-(k+1)<n-k by omega);have Hpl:=zH nA;have Hvl:=zH wm;clear nA wm;go_wp2_with fail;generalize wr.alloc (.cells #[.slice B mp d,.slice C mv r] 191)=w2 at *;generalize wr.heap.size=g at *;refine(AV _ _ _ _ _ _ _ f _ xr ci (Nat.le_trans ur Fe) (Nat.le_trans JR Lq)).mono ?_;rintro e w3 ⟨rfl,bN⟩;obtain⟨fO,lw,-⟩:=(di.kept bN).cs [0,1];simp only[Zx]at fO lw;cases jq:eN f with
    | false=>
     have hE:=zH (zA (fs:=fs) (by rw[H1.out];exact h8) (List.mem_of_getElem? DK) jq);clear DK;go_wp2_with fail
     go_ret2
     exact⟨_,by rw[hE.out];rfl,ab gJ bN zl⟩
    | true=>
     have Hst:=zH (show ∀j y,j<k+1->fs[j]?=some y->eN y=true from fun j y hj hy=>by
      rcases Nat.lt_or_ge j k with h|h
      ·exact Hno.out j y h hy
      ·obtain rfl:j=k:=by omega
       obtain rfl:f=y:=Option.some.inj (DK.symm.trans hy);exact jq)
     obtain⟨OX,rF,gn⟩:=kO jq;rw[Hpl.out]at rF;rw[Hvl.out]at gn;have Hps:=zH OX;clear DK jq OX;go_wp2_with fail;refine(ep _ q _ w3 (Uk.below bN) (by omega)).mono ?_;rintro e w4 ⟨v4,n4,rfl,IN,DS,cO⟩;have qA:=di.lt;have rt:=ab bN cO zl;have Qf:w4.cell? ⟨g,0,none⟩=some (.slice B mp d):=(rt.cell (p:=⟨g,0,none⟩) qA).trans (by rw[<-fO];exact(bN.cell (p:=⟨g,0,none⟩) qA).symm);clear fO;have fO:=Qf;have Rs:=xr.keep (bA.below (S:=S) rt);have iH:=ab gJ rt zl;unfold maxLen at Fe;go_wp2_with fail
     go_loopw [0,38] (fun b i wr'=>∃(k' q':Nat),k'<=mp/\i=.int .i64 k'/\Bn wr' b q'/\q'<=n4+48*k'/\Below w4.heap.size w4 wr') (fun _ i _=>mp-(intOf i).toNat)
     case atStart=>exact⟨0,n4,Nat.zero_le _,rfl,IN.bn,by omega,Below.refl _ _⟩
     case round=>
      obtain⟨k',q',yy,rfl,Gj,Ry,iv⟩:=hrel;by_cases kI:k'<mp
      ·obtain⟨ad',p,B',m',d',rfl,o9,Jt,xu,Rb,UA,Nv⟩:=(Rs.keep (bA.below (S:=S) iv)).at_ kI;have mT:=Hps.out p (List.mem_of_getElem? o9);have fK:=zH (show mp-(k'+1)<mp-k' by omega);clear o9 Nv;go_wp2_with fail;refine(In _ _ _ p _ xu.rd Rb mT).mono ?_;rintro e w5 ⟨s,rfl,hs,cM⟩;go_wp2_with fail;refine(zG _ q' s _ (Gj.below cM) (by omega) (by omega)).mono ?_;rintro e w6 ⟨v6,n6,rfl,VT,Nh,iT⟩;go_wp2_with fail
       go_roundw
       case rel=>exact⟨k'+1,n6,kI,by go_num,VT.bn,by omega,ab (ab iv cM zl) iT zl⟩
       case measure=>simp[intOf];exact fK.out
      ·obtain rfl:k'=mp:=by omega
       obtain⟨w7,rfl⟩:∃wo:World,wo=wr:=⟨_,rfl⟩;have DF:=ab rt iv zl;have Qg:w7.cell? ⟨g,1,none⟩=some (.slice C mv r):=(DF.cell (p:=⟨g,1,none⟩) qA).trans (by rw[<-lw];exact(bN.cell (p:=⟨g,1,none⟩) qA).symm);have mP:=ab iH iv zl;clear lw Qf fO c0 c1;unfold maxLen at Lq;go_wp2_with fail;refine(ep _ q' _ w7 Gj (by omega)).mono ?_;rintro e w8 ⟨v8,n8,rfl,VU,ZD,vO⟩;have lw:w8.cell? ⟨g,1,none⟩=some (.slice C mv r):=((ab DF vO zl).cell (p:=⟨g,1,none⟩) qA).trans ((DF.cell (p:=⟨g,1,none⟩) qA).symm.trans Qg);clear Qg;have xx:=ci.keep (bA.below (S:=S) (ab DF vO zl));have yk:=ab mP vO zl;go_wp2_with fail
       go_loopw [0,59] (fun b i wr'=>∃(j' p':Nat),j'<=mv/\i=.int .i64 j'/\Bn wr' b p'/\p'<=n8+10*j'/\Below w8.heap.size w8 wr') (fun _ i _=>mv-(intOf i).toNat)
       case atStart=>exact⟨0,n8,Nat.zero_le _,rfl,VU.bn,by omega,Below.refl _ _⟩
       case round=>
        obtain⟨j',p',JJ,rfl,yn,S8,yj⟩:=hrel;by_cases yG:j'<mv
        ·obtain⟨ad',rfl,Jt⟩:=(xx.keep (bA.below (S:=S) yj)).rd.at_ yG;have fK:=zH (show mv-(j'+1)<mv-j' by omega);generalize f.vals[j']?.getD 0=z at *;go_wp2_with fail;refine(ep _ p' _ _ yn (by omega)).mono ?_;rintro e w9 ⟨v9,n9,rfl,VV,Va,kX⟩;go_wp2_with fail
         go_roundw
         case rel=>exact⟨j'+1,n9,yG,by go_num,VV.bn,by omega,ab yj kX zl⟩
         case measure=>simp[intOf];exact fK.out
        ·obtain rfl:j'=mv:=by omega
         go_wp2_with fail
         go_roundw
         case rel=>exact⟨k+1,p',aU,by go_num,yn,by omega,Hst.out,ab yk yj zl⟩
         case measure=>simp[intOf];exact aO.out
   ·obtain rfl:k=n:=by omega
    have hE:=zH (C0 (fs:=fs) (by rw[H1.out];exact h8) (fun f hf=>by
     obtain⟨i,hi,e⟩:=List.getElem_of_mem hf;exact Hno.out i f (by rw[<-H1.out];exact hi) (by rw[List.getElem?_eq_getElem hi,e])))
    go_wp2_with fail
    go_ret2
    exact⟨_,by rw[hE.out];rfl,hb⟩
def eA(n least:Int):Bool:=decide (least<=n)&&decide (n<=1099511627776)
theorem dN(n least:Int)(w:World):Calls prog 154 #[.int .i64 n,.int .i64 least] w fun e w'=>e=.returned (.bool (eA n least))/\w=w':=by
 unfold eA;by_cases h:least<=n
 ·go_enter func154,ntmps154;go_wp2_with fail;go_ret;exact⟨by simp[h],rfl⟩
 ·go_enter func154,ntmps154;go_wp2_with fail;go_ret;exact⟨by simp;omega,rfl⟩
def qc(e:En)(v:Value):Value:=.agg #[.int .i64 e.op,.int .i64 e.sess,.int .i64 e.seq,v]
def mM(e:En)(v:Value):Value:=.agg #[.int .i64 e.idx,.int .i64 e.term,.int .i64 e.op,.int .i64 e.sess,.int .i64 e.seq,v]
def ku(e:En):Int:=if e.op<0\/3<e.op then 24 else if(eA e.sess 0&&eA e.seq 0)=false then 1 else qr e.facts
def kw(e:En):Int:=if(eA e.idx 1&&eA e.term 1)=false then 1 else ku e
def dM(e:En):Bool:=decide (kw e=0)
def Sx(r:Int)(w:World)(e:Ending)(w':World):Prop:=∃v',e=.returned (.tuple #[v',.int .i64 r])/\Below w.heap.size w w'
theorem vv{e:En}(h:e.op<0\/3<e.op):ku e=24:=if_pos h
theorem lK{e:En}(h:¬(e.op<0\/3<e.op))(h':(eA e.sess 0&&eA e.seq 0)=false):ku e=1:=by unfold ku;rw[if_neg h,if_pos h']
theorem xO{e:En}(h:¬(e.op<0\/3<e.op))(h1:eA e.sess 0=true)(h2:eA e.seq 0=true):ku e=qr e.facts:=by unfold ku;rw[if_neg h,h1,h2];rfl
theorem Cd(S:Nat->Prop)(v:Value)(m:Nat)(x:En)(A:Option Addr)(n c:Nat)(w:World)(hv:Bn w v m)(hm:m<=9000)(hf:aG S w (.slice A n c) x.facts)(hn:n<=maxLen) :
  Calls prog 155 #[v,qc x (.slice A n c)] w (Sx (ku x) w):=by
 unfold qc;have aI:Below w.heap.size w (w.alloc (.cells #[.int .i64 x.op,.int .i64 x.sess,.int .i64 x.seq,.slice A n c] 42)):=zb.alloc zl _;have di:=ao.new w 42 #[.int .i64 x.op,.int .i64 x.sess,.int .i64 x.seq,.slice A n c];obtain⟨fO,lw,yp,Bu,-⟩:=di.cs [0,1,2,3];simp only[Zx]at fO lw yp Bu;have ci:=hv.below aI;have pH:=hf.keep (bA.below (S:=S) aI);by_cases h0:x.op<0\/3<x.op
 ·have hE:=zH (vv h0);by_cases ZF:x.op<0
  ·go_enter func155,ntmps155;go_wp2_with fail
   go_ret2
   exact⟨_,by rw[hE.out];rfl,aI⟩
  ·have h3:3<x.op:=by omega
   clear h0;have h0:(decide (x.op<0)||decide (3<x.op))=true:=by simp;omega
   go_enter func155,ntmps155;go_wp2_with fail
   go_ret2
   exact⟨_,by rw[hE.out];rfl,aI⟩
 ·have WL:(decide (x.op<0)||decide (3<x.op))=false:=by simp;omega
  have ha:0<=x.op:=by omega
  have hb:x.op<=3:=by omega
  have Px:=zH (fun h=>lK (e:=x) h0 h);have Bi:=zH (fun h h'=>xO (e:=x) h0 h h');clear h0;cases hs:eA x.sess 0 with
  | false=>
   have hE:=zH (Px.out (by rw[hs];rfl));go_enter func155,ntmps155;go_wp2_with fail;refine(dN _ _ _).mono ?_;rintro e w1 ⟨rfl,rfl⟩;rw[hs];go_wp2_with fail
   go_ret2
   exact⟨_,by rw[hE.out];rfl,aI⟩
  | true=>
   cases hq:eA x.seq 0 with
   | false=>
    have hE:=zH (Px.out (by rw[hs,hq];rfl));go_enter func155,ntmps155;go_wp2_with fail;refine(dN _ _ _).mono ?_;rintro e w1 ⟨rfl,rfl⟩;rw[hs];go_wp2_with fail;refine(dN _ _ _).mono ?_;rintro e w1 ⟨rfl,rfl⟩;rw[hq];go_wp2_with fail
    go_ret2
    exact⟨_,by rw[hE.out];rfl,aI⟩
   | true=>
    have hE:=zH (Bi.out hs hq);go_enter func155,ntmps155;go_wp2_with fail;refine(dN _ _ _).mono ?_;rintro e w1 ⟨rfl,rfl⟩;rw[hs];go_wp2_with fail;refine(dN _ _ _).mono ?_;rintro e w1 ⟨rfl,rfl⟩;rw[hq];go_wp2_with fail;generalize w.alloc (.cells #[.int .i64 x.op,.int .i64 x.sess,.int .i64 x.seq,.slice A n c] 42)=w1 at *;generalize JE:w.heap.size=g at *;have k0:=ek (B:=w1.heap.size) fO di.lt;have k1:=ek (B:=w1.heap.size) lw di.lt;have k2:=ek (B:=w1.heap.size) yp di.lt;have k3:=ek (B:=w1.heap.size) Bu di.lt;refine cK (C:=wz w1.heap.size w1) [([0,1,2,4,5,7,8,10,11],3),([],6),([],9),([],12)] [13,14,15,16] (by kernel_rfl) (by kernel_rfl) (fun _ _ _ _ e h=>⟨e.symm.trans h.1,h.2⟩) (fB zb.drew) ?_;refine aF fun K1 cQ=>?_
    simp only[ah,Zx];repeat go_big_quiet_step(fail)
    apply wpQuiet_nil;go_wp2_with fail;have NJ:Bn w1.drew v m:=ci;refine(ep v m _ _ NJ (by omega)).mono ?_;rintro e w2 ⟨v2,n2,rfl,D2,kJ,bQ⟩;have bQ:Below w1.heap.size w1 w2:=(ay (Below.refl w1.heap.size w1) 1).trans bQ;go_wp2_with fail;refine⟨fB bQ,cQ _ _ ?_⟩;refine aF fun K2 iu=>?_
    simp only[ah,Zx];repeat go_big_quiet_step(fail)
    apply wpQuiet_nil;go_wp2_with fail;refine(ep v2 n2 _ _ D2.bn (by omega)).mono ?_;rintro e w3 ⟨v3,n3,rfl,D3,Fg,bN⟩;have bN:=ab bQ bN zl;go_wp2_with fail;refine⟨fB bN,iu _ _ ?_⟩;refine aF fun K3 jY=>?_
    simp only[ah,Zx];repeat go_big_quiet_step(fail)
    apply wpQuiet_nil;go_wp2_with fail;refine(ep v3 n3 _ _ D3.bn (by omega)).mono ?_;rintro e w4 ⟨v4,n4,rfl,IN,DS,cO⟩;have cO:=ab bN cO zl;go_wp2_with fail;refine⟨fB cO,jY _ _ ?_⟩;refine aF fun K4 ro=>?_
    simp only[ah,Zx];repeat go_big_quiet_step(fail)
    apply wpQuiet_nil;go_wp2_with fail;refine(FE S v4 n4 _ _ _ _ _ IN.bn (by omega) (pH.keep (bA.below cO)) hn).mono ?_;rintro e w5 ⟨v5,rfl,cM⟩;have cM:=ab cO cM zl;go_wp2_with fail;refine⟨fB cM,ro _ _ ?_⟩;refine al ?_;simp only[ah,Zx];repeat go_big_quiet_step(fail)
    apply wpQuiet_nil;go_wp2_with fail
    go_ret2
    exact⟨_,by rw[hE.out];rfl,by rw[JE];exact aI.trans (cM.mono (by have:=aI.size;omega))⟩
theorem jX{e:En}(h:(eA e.idx 1&&eA e.term 1)=false):kw e=1:=by unfold kw;rw[if_pos h]
theorem xW{e:En}(h1:eA e.idx 1=true)(h2:eA e.term 1=true):kw e=ku e:=by unfold kw;rw[h1,h2];rfl
theorem wP(S:Nat->Prop)(v:Value)(m:Nat)(x:En)(A:Option Addr)(n c:Nat)(w:World)(hv:Bn w v m)(hm:m<=8000)(hf:aG S w (.slice A n c) x.facts)(hn:n<=maxLen) :
  Calls prog 144 #[v,mM x (.slice A n c)] w (Sx (kw x) w):=by
 unfold mM;have aI:Below w.heap.size w (w.alloc (.cells #[.int .i64 x.idx,.int .i64 x.term,.int .i64 x.op,.int .i64 x.sess,.int .i64 x.seq,.slice A n c] 59)):=zb.alloc zl _;have di:=ao.new w 59 #[.int .i64 x.idx,.int .i64 x.term,.int .i64 x.op,.int .i64 x.sess,.int .i64 x.seq,.slice A n c];obtain⟨fO,lw,yp,Bu,Gk,OJ,-⟩:=di.cs [0,1,2,3,4,5];simp only[Zx]at fO lw yp Bu Gk OJ;have ci:=hv.below aI;have pH:=hf.keep (bA.below (S:=S) aI);cases hs:eA x.idx 1 with
 | false=>
  have hE:=zH (jX (e:=x) (by rw[hs];rfl));go_enter func144,ntmps144;go_wp2_with fail;refine(dN _ _ _).mono ?_;rintro e w1 ⟨rfl,rfl⟩;rw[hs];go_wp2_with fail
  go_ret2
  exact⟨_,by rw[hE.out];rfl,aI⟩
 | true=>
  cases hq:eA x.term 1 with
  | false=>
   have hE:=zH (jX (e:=x) (by rw[hs,hq];rfl));go_enter func144,ntmps144;go_wp2_with fail;refine(dN _ _ _).mono ?_;rintro e w1 ⟨rfl,rfl⟩;rw[hs];go_wp2_with fail;refine(dN _ _ _).mono ?_;rintro e w1 ⟨rfl,rfl⟩;rw[hq];go_wp2_with fail
   go_ret2
   exact⟨_,by rw[hE.out];rfl,aI⟩
  | true=>
   have hE:=zH (xW hs hq);go_enter func144,ntmps144;go_wp2_with fail;refine(dN _ _ _).mono ?_;rintro e w1 ⟨rfl,rfl⟩;rw[hs];go_wp2_with fail;refine(dN _ _ _).mono ?_;rintro e w1 ⟨rfl,rfl⟩;rw[hq];go_wp2_with fail;generalize w.alloc (.cells #[.int .i64 x.idx,.int .i64 x.term,.int .i64 x.op,.int .i64 x.sess,.int .i64 x.seq,.slice A n c] 59)=w1 at *;generalize JE:w.heap.size=g at *;have k0:=ek (B:=w1.heap.size) fO di.lt;have k1:=ek (B:=w1.heap.size) lw di.lt;have k2:=ek (B:=w1.heap.size) yp di.lt;have k3:=ek (B:=w1.heap.size) Bu di.lt;have k4:=ek (B:=w1.heap.size) Gk di.lt;have k5:=ek (B:=w1.heap.size) OJ di.lt;refine cK (C:=wz w1.heap.size w1) [([0,1,2,4,5,7,8],3),([],6),([],9)] [10,11,12,13] (by kernel_rfl) (by kernel_rfl) (fun _ _ _ _ e h=>⟨e.symm.trans h.1,h.2⟩) (fB zb.drew) ?_;refine aF fun K1 cQ=>?_
   simp only[ah,Zx];repeat go_big_quiet_step(fail)
   apply wpQuiet_nil;go_wp2_with fail;have NJ:Bn w1.drew v m:=ci;refine(ep v m _ _ NJ (by omega)).mono ?_;rintro e w2 ⟨v2,n2,rfl,D2,kJ,bQ⟩;have bQ:Below w1.heap.size w1 w2:=(ay (Below.refl w1.heap.size w1) 1).trans bQ;go_wp2_with fail;refine⟨fB bQ,cQ _ _ ?_⟩;refine aF fun K2 iu=>?_
   simp only[ah,Zx];repeat go_big_quiet_step(fail)
   apply wpQuiet_nil;go_wp2_with fail;refine(ep v2 n2 _ _ D2.bn (by omega)).mono ?_;rintro e w3 ⟨v3,n3,rfl,D3,Fg,bN⟩;have bN:=ab bQ bN zl;go_wp2_with fail;refine⟨fB bN,iu _ _ ?_⟩;refine aF fun K3 jY=>?_
   simp only[ah,Zx];repeat go_big_quiet_step(fail)
   apply wpQuiet_nil;go_wp2_with fail;refine(Cd S v3 n3 x _ _ _ _ D3.bn (by omega) (pH.keep (bA.below bN)) hn).mono ?_;rintro e w5 ⟨v5,rfl,cM⟩;have cM:=ab bN cM zl;go_wp2_with fail;refine⟨fB cM,jY _ _ ?_⟩;refine al ?_;simp only[ah,Zx];repeat go_big_quiet_step(fail)
   apply wpQuiet_nil;go_wp2_with fail
   go_ret2
   exact⟨_,by rw[hE.out];rfl,by rw[JE];exact aI.trans (cM.mono (by have:=aI.size;omega))⟩
theorem uN{x:En}{k:Int}(h:kw x=k):dM x=(k==0):=by
 unfold dM;rw[h];rw[Bool.eq_iff_iff,decide_eq_true_eq,beq_iff_eq]
theorem sN(S:Nat->Prop)(x:En)(A:Option Addr)(n c:Nat)(w:World)(hf:aG S w (.slice A n c) x.facts)(hn:n<=maxLen) :
  Calls prog 121 #[mM x (.slice A n c)] w fun e w'=>e=.returned (.bool (dM x))/\Below w.heap.size w w':=by
 have aI:Below w.heap.size w (w.alloc (.cells #[.int .i64 x.idx,.int .i64 x.term,.int .i64 x.op,.int .i64 x.sess,.int .i64 x.seq,.slice A n c] 59)):=zb.alloc zl _;have aH:=wP S (.slice none 0 0) 0 x A n c (w.alloc (.cells #[.int .i64 x.idx,.int .i64 x.term,.int .i64 x.op,.int .i64 x.sess,.int .i64 x.seq,.slice A n c] 59)) (Bn.nil _) (by omega) (hf.keep (bA.below (S:=S) aI)) hn;unfold mM at *;obtain⟨k,hk⟩:=zN (kw x);have hP:=zH (uN hk);rw[hk]at aH;clear hk;go_enter func121,ntmps121;go_wp2_with fail;refine aH.mono ?_;rintro e w1 ⟨v1,rfl,br⟩;have br:=ab aI br zl;go_wp2_with fail;go_ret;exact⟨by rw[hP.out];rfl,br⟩
theorem fv.one(w:World)(y:Int):fv (w.alloc (.cells #[.int .i64 y] 3)) (some ⟨w.heap.size,0,none⟩) 1 [y]:=fv.lit _ _ _ [y] _ 1 _ rfl rfl rfl
def Tq(B:Nat)(w:World)(v:Value)(n:Nat):Prop:=∃(A:Option Addr) (c:Nat) (l:List Int),v=.slice A n c/\w.ownsRow B 3 1 (.slice A n c) n (l.map vi)
theorem Bd(z:Int)(w:World):Calls prog 159 #[.int .i64 z] w fun e w'=>∃v,e=.returned v/\Tq w.heap.size w' v 64/\Below w.heap.size w w':=by
 have aI:=fun y:Int=>(Below.refl w.heap.size w).alloc zl (.cells #[.int .i64 y] 3)
 have h0:∀y:Int,(w.alloc (.cells #[.int .i64 y] 3)).ownsRow w.heap.size 3 1 (.slice none 0 0) 0 (([]:List Int).map vi):=fun _=>bX _ _
 by_cases hz:z<0
 all_goals
  go_enter func159,ntmps159;go_wp2_with (first
   | (at_builtin;refine bh rfl (.tmp 13) (.tmp 14) rfl w.heap.size rfl (h0 _) rfl (fv.one _ _) (by omega) (aI _).size ?_;intro A1 c1 w1 kY iM br)
   | (at_builtin;refine bh rfl (.tmp 16) (.tmp 17) rfl w.heap.size rfl (h0 _) rfl (fv.one _ _) (by omega) (aI _).size ?_;intro A1 c1 w1 kY iM br)
   | fail)
  have gJ:=(aI _).trans br
  go_loopw [0,4,5] (fun n o i wr=>∃(k:Nat) (y:Int) (A:Option Addr) (c:Nat) (l:List Int),k<=63/\i=.int .i64 k/\n=.int .i64 y/\o=.slice A (k+1) c/\wr.ownsRow w.heap.size 3 1 (.slice A (k+1) c) (k+1) (l.map vi)/\Below w.heap.size w wr) (fun _ _ i _=>63-(intOf i).toNat)
  case atStart=>exact⟨0,_,A1,c1,_,Nat.zero_le _,rfl,rfl,rfl,kY,gJ⟩
  case round=>
   clear kY br gJ iM;obtain⟨k,y,A,c,l,hk,rfl,rfl,rfl,aB,hb⟩:=hrel;have dX:=fun y:Int=>(Below.refl wr.heap.size wr).alloc zl (.cells #[.int .i64 y] 3)
   have cw:=fun y:Int=>bf aB (dX y)
   have bQ:=fun y:Int=>ab hb (dX y) zl
   by_cases aU:k<63
   ·have aO:=zH (show 63-(k+1)<63-k by omega);go_wp2_with (at_builtin;refine bh rfl (.tmp 23) (.tmp 26) rfl w.heap.size rfl (cw _) rfl (fv.one _ _) (by omega) (bQ _).size ?_;intro A3 c3 w3 bY iy bN)
    go_roundw
    case rel=>exact⟨k+1,_,A3,c3,_,aU,by go_num,rfl,rfl,bY,(bQ _).trans bN⟩
    case measure=>simp[intOf];omega
   ·obtain rfl:k=63:=by omega
    go_wp2_with fail;go_ret;exact⟨_,rfl,⟨A,c,l,rfl,aB⟩,hb⟩
theorem pq{w:World}{ops:Array Oper}{rest:List Oper}{o:Oper}{a:Act}{Q:Exit->Act->World->Prop}(lq:o.guard=none)(s x:Operand)
  (ho:o.op=.call {callee:=.builtin .append,args:=#[s,x],argTypes:=#[24,24]})
  (B:Nat) (hs:a.eval s=.slice none 0 0) {v:Value} {n:Nat} (hx:a.eval x=v) (hv:Bn w v n) (hb:n<=100000000) (hB:B<=w.heap.size)
  (h:∀v' w',By B w' v' n->Below B w w'->wpList prog ops Q rest (a.put o.dst v') w'):wpList prog ops Q (o::rest) a w:=by
 obtain⟨i0,iF,jT,iW,gC⟩:=info_parts mJ;obtain⟨A,c,xs,rfl,_,_,h1,hr⟩:=hv;refine bg w lq s x 24 ho B 5 i0 _ 1 1 underlying24 iF jT iW gC rfl (by omega) (.slice none 0 0) 0 [] hs (bX _ _) A n c xs hx hr h1 (by unfold maxLen;omega) (by omega) hB fun A' c' w' h3 h4 _=>?_
 rw[Nat.zero_add,List.nil_append]at h3;rw[Nat.zero_add];exact h _ w' ⟨xs,h1,h3⟩ (eS (bX B 5 (size:=1)) h4 hB)
theorem cS(v:Value)(n:Nat)(z:Int)(w:World)(hv:Bn w v n)(hn:n<=1000000) :
  Calls prog 148 #[v,.int .i64 z] w fun e w'=>∃v' n',e=.returned v'/\By w.heap.size w' v' n'/\n'<=n+10/\Below w.heap.size w w':=by
 go_enter func148,ntmps148;go_wp2_with fail;refine(Bd _ _).mono ?_;rintro e w1 ⟨vd,rfl,⟨Ad,cd,ld,rfl,aB⟩,br⟩;have gp:fv w1 Ad 64 ld:=fv.of_own aB;go_wp2_with fail
 go_loop [6,7] (fun t i=>∃k q:Nat,k<=64/\i=.int .i64 k/\q<=63/\t=.int .i64 q) (fun _ i=>64-(intOf i).toNat)
 case atStart=>exact⟨0,0,by omega,rfl,by omega,rfl⟩
 case round=>
  obtain⟨k,q,hk,rfl,hq,rfl⟩:=hrel;by_cases aU:k<64
  ·obtain⟨ad,rfl,hc⟩:=gp.at_ aU;have aO:=zH (show 64-(k+1)<64-k by omega);by_cases h1:ld[k]?.getD 0=1
   ·rw[h1]at hc;clear h1;go_wp2_with fail
    go_round
    case rel=>exact⟨k+1,k,aU,by go_num,by omega,rfl⟩
    case measure=>simp[intOf];omega
   ·have h2:(ld[k]?.getD 0==1)=false:=beq_eq_false_iff_ne.2 h1;generalize ld[k]?.getD 0=y at *;go_wp2_with fail
    go_round
    case rel=>exact⟨k+1,q,aU,by go_num,hq,rfl⟩
    case measure=>simp[intOf];omega
  ·obtain rfl:k=64:=by omega
   have fw:=hv.below br;have S9:q/7<=9:=by omega
   go_wp2_with (at_builtin;refine pq rfl (.tmp 24) (.tmp 25) rfl w1.heap.size rfl rfl fw (by omega) zl ?_;intro v2 w2 D2 bQ)
   go_loopw [8,9] (fun b i wr=>∃(g m:Nat),g<=q/7+1/\i=.int .i64 g/\By w1.heap.size wr b m/\m<=n+g/\Below w1.heap.size w1 wr) (fun _ i _=>q/7+1-(intOf i).toNat)
   case atStart=>exact⟨0,n,by omega,rfl,D2,by omega,bQ⟩
   case round=>
    obtain⟨g,m,hg,rfl,R0,hm,gL⟩:=hrel;have Lu:=fv.below gp gL;have aI:=fun u:Value=>(Below.refl wr.heap.size wr).alloc zl (.cells #[u] 5)
    have vP:=fun u:Value=>R0.bx.below (aI u)
    have cO:=fun u:Value=>ab gL (aI u) zl
    have qm:m<=100000000:=by omega
    by_cases Zv:g<=q/7
    ·have U3:(g:Int)<=(q:Int)/7:=by omega
     go_wp2_with fail
     go_loop [10,11] (fun c k=>∃(y:Int),c=.int .i64 y/\((∃j:Nat,j<=6/\k=.int .i64 j)\/k=.int .i64 (-1))) (fun _ k=>(intOf k+1).toNat)
     case atStart=>exact⟨0,rfl,.inl ⟨6,by omega,rfl⟩⟩
     case round=>
      obtain⟨y,rfl,hj⟩:=hrel;rcases hj with⟨j,hj,rfl⟩|rfl
      ·have du:(∃j':Nat,j'<=6/\(Value.int .i64 ((j:Int)-1))=.int .i64 j')\/(Value.int .i64 ((j:Int)-1))=.int .i64 (-1):=by
        rcases Nat.eq_zero_or_pos j with h0|h0
        ·exact .inr (by rw[h0];rfl)
        ·exact .inl ⟨j-1,by omega,by congr 1;omega⟩
       have du:=zH du;by_cases tE:7*g+j<64
       ·obtain⟨ad,rfl,hc⟩:=Lu.at_ tE;go_wp2_with fail;exact⟨⟨_,rfl,du.out⟩,by first|(simp[intOf];done)|(simp[intOf];omega)⟩
       ·go_wp2_with fail
        go_round
        case rel=>exact⟨_,rfl,du.out⟩
        case measure=>first|(simp[intOf];done)|(simp[intOf];omega)
      ·go_wp2_with (at_builtin;refine dH rfl (.tmp 59) (.tmp 62) rfl w1.heap.size rfl (vP _) wr.heap.size _ rfl (ao.new _ _ _) rfl qm (cO _).size ?_;intro v5 w5 dK cM)
       all_goals
        go_roundw
        case rel=>exact⟨g+1,m+1,by omega,by go_num,dK,by omega,(cO _).trans cM⟩
        case measure=>simp[intOf];omega
    ·have U3:¬(g:Int)<=(q:Int)/7:=by omega
     go_wp2_with fail;go_ret;exact⟨_,rfl,m,R0.mono br.size,by omega,br.trans (gL.mono br.size)⟩
theorem sq(v:Value)(n:Nat)(s:ByteArray)(w:World)(hv:Bn w v n)(hn:n<=900000)(hs:s.size<=1000) :
  Calls prog 178 #[v,.string s] w fun e w'=>∃v' n',e=.returned v'/\By w.heap.size w' v' n'/\n'<=n+10+s.size/\Below w.heap.size w w':=by
 obtain⟨i0,iF,jT,iW,gC⟩:=info_parts mJ;go_enter func178,ntmps178;go_wp2_with fail;refine(cS v n _ w hv (by omega)).mono ?_;rintro e w1 ⟨v1,n1,rfl,⟨xs,hx,aB⟩,iU,br⟩;go_wp2_with (at_builtin;refine Lib.wpList_append_own_string _ rfl (.tmp 10) (.tmp 11) 24 9 rfl w.heap.size 5 i0 underlying24 underlying9 iF jT iW gC v1 n1 xs rfl aB s rfl (by unfold maxLen;omega) (by omega) br.size ?_;intro v2 w2 cw qA _);go_ret;exact⟨v2,_,rfl,⟨_,fun u hu=>(List.mem_append.1 hu).elim (hx u) (oI s u),cw⟩,by omega,br.trans (eS aB qA br.size)⟩
theorem zJ(A:Option Addr)(n c:Nat)(p:List ByteArray)(w:World)(hr:vo w A n p)(hp:eq p=true) :
  Calls prog 177 #[.slice A n c] w fun e w'=>∃s:ByteArray,e=.returned (.tuple #[.string s,.int .i64 0])/\s.size<=39/\Below w.heap.size w w':=by
 have hl:=hr.len;have h3:=rU hp;have qo:=zH (pg hp);have Fg:n<=3:=by omega
 have DS:n<=maxLen:=rS Fg (by omega);have hl:=zH hl;by_cases h0:n=0
 ·subst h0;go_enter func177,ntmps177;go_wp2_with fail;refine(jD _ _ _ _ _ hr DS).mono ?_;rintro e w1 ⟨rfl,rfl⟩;rw[hp];go_wp2_with fail
  go_ret2
  exact⟨_,rfl,by decide,Below.refl _ _⟩
 ·have WL:((n:Int)==0)=false:=beq_eq_false_iff_ne.2 (by omega);go_enter func177,ntmps177;go_wp2_with fail;refine(jD _ _ _ _ _ hr DS).mono ?_;rintro e w1 ⟨rfl,rfl⟩;rw[hp];go_wp2_with fail
  go_loop [5,6] (fun s i=>∃(k:Nat) (t:ByteArray),k<=n/\i=.int .i64 k/\s=.string t/\t.size<=13*k) (fun _ i=>n-(intOf i).toNat)
  case atStart=>exact⟨0,_,Nat.zero_le _,rfl,rfl,by decide⟩
  case round=>
   obtain⟨k,t,hk,rfl,rfl,ht⟩:=hrel;by_cases aU:k<n
   ·obtain⟨ad,s,rfl,mB,hc⟩:=hr.at_ aU;have Vz:=rX (qo.out s (List.mem_of_getElem? mB));clear mB;by_cases UV:0<k
    all_goals
     go_wp2_with fail
     go_round
     case rel=>exact⟨k+1,_,aU,by go_num,rfl,by simp[ByteArray.size_append];first|omega|(have e:(ByteArray.mk #[47]).size=1:=rfl;omega)⟩
     case measure=>simp[intOf];omega
   ·obtain rfl:k=n:=by omega
    go_wp2_with fail
    go_ret2
    exact⟨_,rfl,by omega,Below.refl _ _⟩
end Go.Proofs.YtjcninheccmpoaaGreat
