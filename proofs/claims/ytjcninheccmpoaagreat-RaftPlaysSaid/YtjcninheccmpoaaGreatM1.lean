import Derived.Lib.Hide
import Derived.Handy
import Derived.Below
import Derived.Laws.OwnMore
import Derived.Maps.AppendAt
import Derived.Deep.AppendLies
import Derived.RegionTactic
import Derived.OwnWalk
import Derived.Deep.Draws
import Derived.Deep.RegionLaw
import Derived.Laws.Rows
import Derived.OrdersHeld
import Derived.BigQuiet
import Derived.Deep.Quiet
import Derived.Lib.SlBytesConst
import Derived.Test.YtjcninheccmpoaaGreatRows
import Derived.WalkMore
import Derived.ScopeJumps
import Derived.Lib.Hide
import Derived.Deep.QuietTactic
import Derived.Deep.RegionWith
import Derived.Laws.RangeString
import Derived.Laws.RangeAny
import Derived.ArgAppend
import Derived.Laws.Shifts
import Derived.Shelf.Strings.OnBuilder
import Derived.Test.YtjcninheccmpoaaGreatProg
import Derived.Lib.AppendStr
import Derived.Lib.Join
set_option maxRecDepth 100000
set_option maxHeartbeats 8000000
set_option linter.all false
namespace Go.Proofs.YtjcninheccmpoaaGreat
open Go.RowKit Go.Proofs.Tryz
theorem Za {a:Type}{l:List a}{i:Nat}:l.toArray[i]?=l[i]?:=List.getElem?_toArray
theorem Zb {a:Type}{x:a}{l:List a}:(x::l)[0]?=some x:=List.getElem?_cons_zero
theorem Zc {a:Type}{x:a}{l:List a}{i:Nat}:(x::l)[i+1]?=l[i]?:=List.getElem?_cons_succ
theorem Zd {a:Type}{l:List a}{i:Nat}{x:a}:l.toArray.setIfInBounds i x=(l.set i x).toArray:=List.setIfInBounds_toArray l i x
theorem Ze {a:Type}{x y:a}{l:List a}:(x::l).set 0 y=y::l:=List.set_cons_zero
theorem Zf {a:Type}{x y:a}{l:List a}{i:Nat}:(x::l).set (i+1) y=x::l.set i y:=List.set_cons_succ
theorem Zx {a:Type}:(∀(l:List a)(i:Nat),l.toArray[i]?=l[i]?)/\(∀(x:a)(l:List a),(x::l)[0]?=some x)/\∀(x:a)(l:List a)(i:Nat),(x::l)[i+1]?=l[i]?:=⟨fun _ _=>List.getElem?_toArray,fun _ _=>List.getElem?_cons_zero,fun _ _ _=>List.getElem?_cons_succ⟩
theorem Zy {a:Type}:(∀(l:List a)(i:Nat)(x:a),l.toArray.setIfInBounds i x=(l.set i x).toArray)/\(∀(x y:a)(l:List a),(x::l).set 0 y=y::l)/\∀(x y:a)(l:List a)(i:Nat),(x::l).set (i+1) y=x::l.set i y:=⟨fun l i x=>List.setIfInBounds_toArray l i x,fun _ _ _=>List.set_cons_zero,fun _ _ _ _=>List.set_cons_succ⟩
theorem zl {n:Nat}:n<=n:=Nat.le_refl n
theorem zz {n:Nat}:0<=n:=Nat.zero_le n
theorem zb {B:Nat}{w:World}:Below B w w:=Below.refl B w
theorem zN {a:Type _}(x:a):∃y,x=y:=⟨_,rfl⟩
theorem zH {p:Prop}(h:p):RowKit.Hid p:=h
theorem tI {a b:Type _}{x:a}{y:b}{p q:Prop}(h:q:=by simp):p\/(q/\x=x/\y=y):=.inr ⟨h,rfl,rfl⟩
theorem um (fr:Nat->Value):(List.range 23).map fr=[fr 0,fr 1,fr 2,fr 3,fr 4,fr 5,fr 6,fr 7,fr 8,fr 9,fr 10,fr 11,fr 12,fr 13,fr 14,fr 15,fr 16,fr 17,fr 18,fr 19,fr 20,fr 21,fr 22]:=by kernel_rfl
theorem ll (fr:Nat->Value):(List.range 59).map fr=[fr 0,fr 1,fr 2,fr 3,fr 4,fr 5,fr 6,fr 7,fr 8,fr 9,fr 10,fr 11,fr 12,fr 13,fr 14,fr 15,fr 16,fr 17,fr 18,fr 19,fr 20,fr 21,fr 22,fr 23,fr 24,fr 25,fr 26,fr 27,fr 28,fr 29,fr 30,fr 31,fr 32,fr 33,fr 34,fr 35,fr 36,fr 37,fr 38,fr 39,fr 40,fr 41,fr 42,fr 43,fr 44,fr 45,fr 46,fr 47,fr 48,fr 49,fr 50,fr 51,fr 52,fr 53,fr 54,fr 55,fr 56,fr 57,fr 58]:=by kernel_rfl
theorem jU (fr:Nat->Value):(List.range 100).map fr=[fr 0,fr 1,fr 2,fr 3,fr 4,fr 5,fr 6,fr 7,fr 8,fr 9,fr 10,fr 11,fr 12,fr 13,fr 14,fr 15,fr 16,fr 17,fr 18,fr 19,fr 20,fr 21,fr 22,fr 23,fr 24,fr 25,fr 26,fr 27,fr 28,fr 29,fr 30,fr 31,fr 32,fr 33,fr 34,fr 35,fr 36,fr 37,fr 38,fr 39,fr 40,fr 41,fr 42,fr 43,fr 44,fr 45,fr 46,fr 47,fr 48,fr 49,fr 50,fr 51,fr 52,fr 53,fr 54,fr 55,fr 56,fr 57,fr 58,fr 59,fr 60,fr 61,fr 62,fr 63,fr 64,fr 65,fr 66,fr 67,fr 68,fr 69,fr 70,fr 71,fr 72,fr 73,fr 74,fr 75,fr 76,fr 77,fr 78,fr 79,fr 80,fr 81,fr 82,fr 83,fr 84,fr 85,fr 86,fr 87,fr 88,fr 89,fr 90,fr 91,fr 92,fr 93,fr 94,fr 95,fr 96,fr 97,fr 98,fr 99]:=by kernel_rfl
theorem ie (fr:Nat->Value):(List.range 105).map fr=[fr 0,fr 1,fr 2,fr 3,fr 4,fr 5,fr 6,fr 7,fr 8,fr 9,fr 10,fr 11,fr 12,fr 13,fr 14,fr 15,fr 16,fr 17,fr 18,fr 19,fr 20,fr 21,fr 22,fr 23,fr 24,fr 25,fr 26,fr 27,fr 28,fr 29,fr 30,fr 31,fr 32,fr 33,fr 34,fr 35,fr 36,fr 37,fr 38,fr 39,fr 40,fr 41,fr 42,fr 43,fr 44,fr 45,fr 46,fr 47,fr 48,fr 49,fr 50,fr 51,fr 52,fr 53,fr 54,fr 55,fr 56,fr 57,fr 58,fr 59,fr 60,fr 61,fr 62,fr 63,fr 64,fr 65,fr 66,fr 67,fr 68,fr 69,fr 70,fr 71,fr 72,fr 73,fr 74,fr 75,fr 76,fr 77,fr 78,fr 79,fr 80,fr 81,fr 82,fr 83,fr 84,fr 85,fr 86,fr 87,fr 88,fr 89,fr 90,fr 91,fr 92,fr 93,fr 94,fr 95,fr 96,fr 97,fr 98,fr 99,fr 100,fr 101,fr 102,fr 103,fr 104]:=by kernel_rfl
theorem kZ (fr:Nat->Value):(List.range 115).map fr=[fr 0,fr 1,fr 2,fr 3,fr 4,fr 5,fr 6,fr 7,fr 8,fr 9,fr 10,fr 11,fr 12,fr 13,fr 14,fr 15,fr 16,fr 17,fr 18,fr 19,fr 20,fr 21,fr 22,fr 23,fr 24,fr 25,fr 26,fr 27,fr 28,fr 29,fr 30,fr 31,fr 32,fr 33,fr 34,fr 35,fr 36,fr 37,fr 38,fr 39,fr 40,fr 41,fr 42,fr 43,fr 44,fr 45,fr 46,fr 47,fr 48,fr 49,fr 50,fr 51,fr 52,fr 53,fr 54,fr 55,fr 56,fr 57,fr 58,fr 59,fr 60,fr 61,fr 62,fr 63,fr 64,fr 65,fr 66,fr 67,fr 68,fr 69,fr 70,fr 71,fr 72,fr 73,fr 74,fr 75,fr 76,fr 77,fr 78,fr 79,fr 80,fr 81,fr 82,fr 83,fr 84,fr 85,fr 86,fr 87,fr 88,fr 89,fr 90,fr 91,fr 92,fr 93,fr 94,fr 95,fr 96,fr 97,fr 98,fr 99,fr 100,fr 101,fr 102,fr 103,fr 104,fr 105,fr 106,fr 107,fr 108,fr 109,fr 110,fr 111,fr 112,fr 113,fr 114]:=by kernel_rfl
theorem gc (fr:Nat->Value):(List.range 157).map fr=[fr 0,fr 1,fr 2,fr 3,fr 4,fr 5,fr 6,fr 7,fr 8,fr 9,fr 10,fr 11,fr 12,fr 13,fr 14,fr 15,fr 16,fr 17,fr 18,fr 19,fr 20,fr 21,fr 22,fr 23,fr 24,fr 25,fr 26,fr 27,fr 28,fr 29,fr 30,fr 31,fr 32,fr 33,fr 34,fr 35,fr 36,fr 37,fr 38,fr 39,fr 40,fr 41,fr 42,fr 43,fr 44,fr 45,fr 46,fr 47,fr 48,fr 49,fr 50,fr 51,fr 52,fr 53,fr 54,fr 55,fr 56,fr 57,fr 58,fr 59,fr 60,fr 61,fr 62,fr 63,fr 64,fr 65,fr 66,fr 67,fr 68,fr 69,fr 70,fr 71,fr 72,fr 73,fr 74,fr 75,fr 76,fr 77,fr 78,fr 79,fr 80,fr 81,fr 82,fr 83,fr 84,fr 85,fr 86,fr 87,fr 88,fr 89,fr 90,fr 91,fr 92,fr 93,fr 94,fr 95,fr 96,fr 97,fr 98,fr 99,fr 100,fr 101,fr 102,fr 103,fr 104,fr 105,fr 106,fr 107,fr 108,fr 109,fr 110,fr 111,fr 112,fr 113,fr 114,fr 115,fr 116,fr 117,fr 118,fr 119,fr 120,fr 121,fr 122,fr 123,fr 124,fr 125,fr 126,fr 127,fr 128,fr 129,fr 130,fr 131,fr 132,fr 133,fr 134,fr 135,fr 136,fr 137,fr 138,fr 139,fr 140,fr 141,fr 142,fr 143,fr 144,fr 145,fr 146,fr 147,fr 148,fr 149,fr 150,fr 151,fr 152,fr 153,fr 154,fr 155,fr 156]:=by kernel_rfl
theorem ia (fr:Nat->Value):(List.range 191).map fr=[fr 0,fr 1,fr 2,fr 3,fr 4,fr 5,fr 6,fr 7,fr 8,fr 9,fr 10,fr 11,fr 12,fr 13,fr 14,fr 15,fr 16,fr 17,fr 18,fr 19,fr 20,fr 21,fr 22,fr 23,fr 24,fr 25,fr 26,fr 27,fr 28,fr 29,fr 30,fr 31,fr 32,fr 33,fr 34,fr 35,fr 36,fr 37,fr 38,fr 39,fr 40,fr 41,fr 42,fr 43,fr 44,fr 45,fr 46,fr 47,fr 48,fr 49,fr 50,fr 51,fr 52,fr 53,fr 54,fr 55,fr 56,fr 57,fr 58,fr 59,fr 60,fr 61,fr 62,fr 63,fr 64,fr 65,fr 66,fr 67,fr 68,fr 69,fr 70,fr 71,fr 72,fr 73,fr 74,fr 75,fr 76,fr 77,fr 78,fr 79,fr 80,fr 81,fr 82,fr 83,fr 84,fr 85,fr 86,fr 87,fr 88,fr 89,fr 90,fr 91,fr 92,fr 93,fr 94,fr 95,fr 96,fr 97,fr 98,fr 99,fr 100,fr 101,fr 102,fr 103,fr 104,fr 105,fr 106,fr 107,fr 108,fr 109,fr 110,fr 111,fr 112,fr 113,fr 114,fr 115,fr 116,fr 117,fr 118,fr 119,fr 120,fr 121,fr 122,fr 123,fr 124,fr 125,fr 126,fr 127,fr 128,fr 129,fr 130,fr 131,fr 132,fr 133,fr 134,fr 135,fr 136,fr 137,fr 138,fr 139,fr 140,fr 141,fr 142,fr 143,fr 144,fr 145,fr 146,fr 147,fr 148,fr 149,fr 150,fr 151,fr 152,fr 153,fr 154,fr 155,fr 156,fr 157,fr 158,fr 159,fr 160,fr 161,fr 162,fr 163,fr 164,fr 165,fr 166,fr 167,fr 168,fr 169,fr 170,fr 171,fr 172,fr 173,fr 174,fr 175,fr 176,fr 177,fr 178,fr 179,fr 180,fr 181,fr 182,fr 183,fr 184,fr 185,fr 186,fr 187,fr 188,fr 189,fr 190]:=by kernel_rfl
theorem dR (fr:Nat->Value):(List.range 221).map fr=[fr 0,fr 1,fr 2,fr 3,fr 4,fr 5,fr 6,fr 7,fr 8,fr 9,fr 10,fr 11,fr 12,fr 13,fr 14,fr 15,fr 16,fr 17,fr 18,fr 19,fr 20,fr 21,fr 22,fr 23,fr 24,fr 25,fr 26,fr 27,fr 28,fr 29,fr 30,fr 31,fr 32,fr 33,fr 34,fr 35,fr 36,fr 37,fr 38,fr 39,fr 40,fr 41,fr 42,fr 43,fr 44,fr 45,fr 46,fr 47,fr 48,fr 49,fr 50,fr 51,fr 52,fr 53,fr 54,fr 55,fr 56,fr 57,fr 58,fr 59,fr 60,fr 61,fr 62,fr 63,fr 64,fr 65,fr 66,fr 67,fr 68,fr 69,fr 70,fr 71,fr 72,fr 73,fr 74,fr 75,fr 76,fr 77,fr 78,fr 79,fr 80,fr 81,fr 82,fr 83,fr 84,fr 85,fr 86,fr 87,fr 88,fr 89,fr 90,fr 91,fr 92,fr 93,fr 94,fr 95,fr 96,fr 97,fr 98,fr 99,fr 100,fr 101,fr 102,fr 103,fr 104,fr 105,fr 106,fr 107,fr 108,fr 109,fr 110,fr 111,fr 112,fr 113,fr 114,fr 115,fr 116,fr 117,fr 118,fr 119,fr 120,fr 121,fr 122,fr 123,fr 124,fr 125,fr 126,fr 127,fr 128,fr 129,fr 130,fr 131,fr 132,fr 133,fr 134,fr 135,fr 136,fr 137,fr 138,fr 139,fr 140,fr 141,fr 142,fr 143,fr 144,fr 145,fr 146,fr 147,fr 148,fr 149,fr 150,fr 151,fr 152,fr 153,fr 154,fr 155,fr 156,fr 157,fr 158,fr 159,fr 160,fr 161,fr 162,fr 163,fr 164,fr 165,fr 166,fr 167,fr 168,fr 169,fr 170,fr 171,fr 172,fr 173,fr 174,fr 175,fr 176,fr 177,fr 178,fr 179,fr 180,fr 181,fr 182,fr 183,fr 184,fr 185,fr 186,fr 187,fr 188,fr 189,fr 190,fr 191,fr 192,fr 193,fr 194,fr 195,fr 196,fr 197,fr 198,fr 199,fr 200,fr 201,fr 202,fr 203,fr 204,fr 205,fr 206,fr 207,fr 208,fr 209,fr 210,fr 211,fr 212,fr 213,fr 214,fr 215,fr 216,fr 217,fr 218,fr 219,fr 220]:=by kernel_rfl
theorem fd (fr:Nat->Value):(List.range 236).map fr=[fr 0,fr 1,fr 2,fr 3,fr 4,fr 5,fr 6,fr 7,fr 8,fr 9,fr 10,fr 11,fr 12,fr 13,fr 14,fr 15,fr 16,fr 17,fr 18,fr 19,fr 20,fr 21,fr 22,fr 23,fr 24,fr 25,fr 26,fr 27,fr 28,fr 29,fr 30,fr 31,fr 32,fr 33,fr 34,fr 35,fr 36,fr 37,fr 38,fr 39,fr 40,fr 41,fr 42,fr 43,fr 44,fr 45,fr 46,fr 47,fr 48,fr 49,fr 50,fr 51,fr 52,fr 53,fr 54,fr 55,fr 56,fr 57,fr 58,fr 59,fr 60,fr 61,fr 62,fr 63,fr 64,fr 65,fr 66,fr 67,fr 68,fr 69,fr 70,fr 71,fr 72,fr 73,fr 74,fr 75,fr 76,fr 77,fr 78,fr 79,fr 80,fr 81,fr 82,fr 83,fr 84,fr 85,fr 86,fr 87,fr 88,fr 89,fr 90,fr 91,fr 92,fr 93,fr 94,fr 95,fr 96,fr 97,fr 98,fr 99,fr 100,fr 101,fr 102,fr 103,fr 104,fr 105,fr 106,fr 107,fr 108,fr 109,fr 110,fr 111,fr 112,fr 113,fr 114,fr 115,fr 116,fr 117,fr 118,fr 119,fr 120,fr 121,fr 122,fr 123,fr 124,fr 125,fr 126,fr 127,fr 128,fr 129,fr 130,fr 131,fr 132,fr 133,fr 134,fr 135,fr 136,fr 137,fr 138,fr 139,fr 140,fr 141,fr 142,fr 143,fr 144,fr 145,fr 146,fr 147,fr 148,fr 149,fr 150,fr 151,fr 152,fr 153,fr 154,fr 155,fr 156,fr 157,fr 158,fr 159,fr 160,fr 161,fr 162,fr 163,fr 164,fr 165,fr 166,fr 167,fr 168,fr 169,fr 170,fr 171,fr 172,fr 173,fr 174,fr 175,fr 176,fr 177,fr 178,fr 179,fr 180,fr 181,fr 182,fr 183,fr 184,fr 185,fr 186,fr 187,fr 188,fr 189,fr 190,fr 191,fr 192,fr 193,fr 194,fr 195,fr 196,fr 197,fr 198,fr 199,fr 200,fr 201,fr 202,fr 203,fr 204,fr 205,fr 206,fr 207,fr 208,fr 209,fr 210,fr 211,fr 212,fr 213,fr 214,fr 215,fr 216,fr 217,fr 218,fr 219,fr 220,fr 221,fr 222,fr 223,fr 224,fr 225,fr 226,fr 227,fr 228,fr 229,fr 230,fr 231,fr 232,fr 233,fr 234,fr 235]:=by kernel_rfl
theorem dY (fr:Nat->Value):(List.range 263).map fr=[fr 0,fr 1,fr 2,fr 3,fr 4,fr 5,fr 6,fr 7,fr 8,fr 9,fr 10,fr 11,fr 12,fr 13,fr 14,fr 15,fr 16,fr 17,fr 18,fr 19,fr 20,fr 21,fr 22,fr 23,fr 24,fr 25,fr 26,fr 27,fr 28,fr 29,fr 30,fr 31,fr 32,fr 33,fr 34,fr 35,fr 36,fr 37,fr 38,fr 39,fr 40,fr 41,fr 42,fr 43,fr 44,fr 45,fr 46,fr 47,fr 48,fr 49,fr 50,fr 51,fr 52,fr 53,fr 54,fr 55,fr 56,fr 57,fr 58,fr 59,fr 60,fr 61,fr 62,fr 63,fr 64,fr 65,fr 66,fr 67,fr 68,fr 69,fr 70,fr 71,fr 72,fr 73,fr 74,fr 75,fr 76,fr 77,fr 78,fr 79,fr 80,fr 81,fr 82,fr 83,fr 84,fr 85,fr 86,fr 87,fr 88,fr 89,fr 90,fr 91,fr 92,fr 93,fr 94,fr 95,fr 96,fr 97,fr 98,fr 99,fr 100,fr 101,fr 102,fr 103,fr 104,fr 105,fr 106,fr 107,fr 108,fr 109,fr 110,fr 111,fr 112,fr 113,fr 114,fr 115,fr 116,fr 117,fr 118,fr 119,fr 120,fr 121,fr 122,fr 123,fr 124,fr 125,fr 126,fr 127,fr 128,fr 129,fr 130,fr 131,fr 132,fr 133,fr 134,fr 135,fr 136,fr 137,fr 138,fr 139,fr 140,fr 141,fr 142,fr 143,fr 144,fr 145,fr 146,fr 147,fr 148,fr 149,fr 150,fr 151,fr 152,fr 153,fr 154,fr 155,fr 156,fr 157,fr 158,fr 159,fr 160,fr 161,fr 162,fr 163,fr 164,fr 165,fr 166,fr 167,fr 168,fr 169,fr 170,fr 171,fr 172,fr 173,fr 174,fr 175,fr 176,fr 177,fr 178,fr 179,fr 180,fr 181,fr 182,fr 183,fr 184,fr 185,fr 186,fr 187,fr 188,fr 189,fr 190,fr 191,fr 192,fr 193,fr 194,fr 195,fr 196,fr 197,fr 198,fr 199,fr 200,fr 201,fr 202,fr 203,fr 204,fr 205,fr 206,fr 207,fr 208,fr 209,fr 210,fr 211,fr 212,fr 213,fr 214,fr 215,fr 216,fr 217,fr 218,fr 219,fr 220,fr 221,fr 222,fr 223,fr 224,fr 225,fr 226,fr 227,fr 228,fr 229,fr 230,fr 231,fr 232,fr 233,fr 234,fr 235,fr 236,fr 237,fr 238,fr 239,fr 240,fr 241,fr 242,fr 243,fr 244,fr 245,fr 246,fr 247,fr 248,fr 249,fr 250,fr 251,fr 252,fr 253,fr 254,fr 255,fr 256,fr 257,fr 258,fr 259,fr 260,fr 261,fr 262]:=by kernel_rfl
def Yx(n:Nat):Nat:=if n%2=1 then(n/2) ^^^ 3988292384 else n/2
def PC:Nat->Nat->Nat
 | 0,n=>n
 | k+1,n=>Yx (PC k n)
def SF(n:Nat)(b:UInt8):Nat:=PC 8 (n ^^^ b.toNat)
def Ua(n:Nat)(l:List UInt8):Nat:=l.foldl SF n
def Wc(s:Nat)(l:List UInt8):Nat:=4294967295-Ua (4294967295-s) l
theorem tf{a b:Bool}(h:a=b):Ending.returned (.bool a)=.returned (.bool b):=by rw[h]
theorem uA{α:Type}(l:List α)(z:α)(k:Nat)(h:k<l.length):l.take (k+1)=l.take k++[l[k]?.getD z]:=by
 rw[List.take_succ_eq_append_getElem h,List.getElem?_eq_getElem h];rfl
def ZC(n k:Nat):Nat:=n/256^k
def leS(k n:Nat):List UInt8:=(List.range k).map fun i=>UInt8.ofNat (ZC n i)
def sh2(n k:Nat):Nat:=n/2^k
theorem sW{n k:Nat}(h:n<=k)(hk:k<=1000000000):n<=maxLen:=by unfold maxLen;omega
theorem dJ(a:Addr)(n:Nat):(a.add n).block=a.block:=by unfold Addr.add;split <;> rfl
theorem gY(a:Addr)(i j:Nat):(a.add i).add j=a.add (i+j):=by
 unfold Addr.add;by_cases hi:i=0 <;> by_cases hj:j=0 <;> simp[hi,hj,Nat.add_assoc]
theorem nL(a:Addr):a.add 0=a:=by simp[Addr.add]
theorem aw{w:World}{p:Addr}{v:Value}(h:w.cell? p=some v):p.block<w.heap.size:=by
 rcases Nat.lt_or_ge p.block w.heap.size with aU|tq
 ·exact aU
 ·unfold World.cell? at h;rw[Array.getElem?_eq_none tq]at h;cases h
def cn(w:World)(size:Nat)(A:Option Addr)(n:Nat)(xs:List Value):Prop:=
 xs.length=n*size/\(0<n->∃ad,A=some ad/\∀j u,xs[j]?=some u->w.cell? (ad.add j)=some u)
section
variable {w w':World}{size n:Nat}{A:Option Addr}{xs:List Value}
theorem cn.none_:cn w size A 0 []:=⟨by simp,fun h=>absurd h (by omega)⟩
theorem cn.keep(h:cn w size A n xs)(hk:∀p:Addr,p.block<w.heap.size->w'.cell? p=w.cell? p):cn w' size A n xs:=
 ⟨h.1,fun hn=>by
  obtain⟨ad,e,hc⟩:=h.2 hn;exact⟨ad,e,fun j u hu=>(hk _ (aw (hc j u hu))).trans (hc j u hu)⟩⟩
theorem cn.below(h:cn w size A n xs)(hb:Below w.heap.size w w'):cn w' size A n xs:=h.keep fun _ hp=>hb.cell hp
theorem cn.alloc(h:cn w size A n xs)(o:Obj):cn (w.alloc o) size A n xs:=h.keep fun p hp=>World.cell?_alloc_lt w o p hp
theorem cn.cut(h:cn w size A n xs){k cap:Nat}(hk:k<=n)(hc:n<=cap) :
  cn w size (if cap=k then A else A.map (·.add (k*size))) (n-k) (xs.drop (k*size)):=by
 refine⟨by rw[List.length_drop,h.1,Nat.sub_mul],fun hn=>?_⟩;obtain⟨ad,rfl,ee⟩:=h.2 (by omega);rw[if_neg (by omega)];refine⟨ad.add (k*size),rfl,fun j u hu=>?_⟩;rw[gY];exact ee _ u (by rw[<-hu,List.getElem?_drop])
theorem cn.take(h:cn w size A n xs){k:Nat}(hk:k<=n):cn w size A k (xs.take (k*size)):=by
 refine⟨by rw[List.length_take,h.1];exact Nat.min_eq_left (Nat.mul_le_mul_right _ hk),fun hn=>?_⟩;obtain⟨ad,rfl,ee⟩:=h.2 (by omega);refine⟨ad,rfl,fun j u hu=>ee j u ?_⟩;rw[List.getElem?_take]at hu;split at hu
 ·exact hu
 ·cases hu
theorem cn.of_own{base:Nat}{e:TypeId}{c:Nat}(h:w.ownsRow base e size (.slice A n c) n xs):cn w size A n xs:=by
 refine⟨h.1,fun hn=>?_⟩;obtain⟨g,cap,hv,_,aU⟩:=h.form hn;have hA:A=some ⟨g,0,none⟩:=by injection hv
 subst hA;exact⟨_,rfl,h.cells (g:=g) rfl⟩
theorem rt{base:Nat}{e:TypeId}{v:Value}(h:w.ownsRow base e size v n xs):∃A c,v=.slice A n c/\n<=c/\c<=maxLen:=by
 rcases h.2 with⟨rfl,rfl⟩|⟨g,cap,cur,rfl,_,_,AB,hm,_⟩
 ·exact⟨_,_,rfl,Nat.le_refl _,Nat.zero_le _⟩
 ·exact⟨_,_,rfl,AB,hm⟩
theorem b9(base:Nat)(e:TypeId):w.ownsRow base e size (.slice none 0 0) 0 []:=⟨by simp,.inl ⟨rfl,rfl⟩⟩
theorem qZ(T:TypeId)(cs:List Value)(n:Nat)(hn:cs.length=n*size)(hm:n<=maxLen) :
  (w.alloc (.cells cs.toArray T)).ownsRow w.heap.size T size (.slice (some ⟨w.heap.size,0,none⟩) n n) n cs:=
 ⟨hn,.inr ⟨_,_,cs.toArray,rfl,Nat.le_refl _,heap_alloc_new w _,Nat.le_refl _,hm,by simp[hn],by simp[<-hn]⟩⟩
theorem ed{base base':Nat}{e:TypeId}{v:Value}(h:w.ownsRow base e size v n xs)(hb:base'<=base):w.ownsRow base' e size v n xs:=by
 refine⟨h.1,?_⟩;rcases h.2 with h0|⟨g,cap,cur,h1,h2,h3⟩
 ·exact .inl h0
 ·exact .inr ⟨g,cap,cur,h1,by omega,h3⟩
theorem bf{base:Nat}{e:TypeId}{v:Value}(h:w.ownsRow base e size v n xs)(hb:Below w.heap.size w w'):w'.ownsRow base e size v n xs:=by
 refine⟨h.1,?_⟩;rcases h.2 with h0|⟨g,cap,cur,h1,h2,h3,h4⟩
 ·exact .inl h0
 ·refine .inr ⟨g,cap,cur,h1,h2,(hb.block g ?_).trans h3,h4⟩;rcases Nat.lt_or_ge g w.heap.size with aU|tq
  ·exact aU
  ·rw[Array.getElem?_eq_none tq]at h3;cases h3
theorem aA{B:Nat}{a:World}(h:Below B a w)(n:Nat):Below B a (w.drewN n):=⟨h.os,h.tape,h.output,h.size,h.block⟩
theorem ab{B:Nat}{a b c:World}(h:Below B a b)(h':Below b.heap.size b c)(hB:B<=a.heap.size):Below B a c:=
 h.trans (h'.mono (Nat.le_trans hB h.size))
end
def vb(b:UInt8):Value:=.int .u8 (b.toNat:Nat)
def Rd(w:World)(A:Option Addr)(n:Nat)(l:List UInt8):Prop:=cn w 1 A n (l.map vb)
section
variable {w w':World}{n:Nat}{A:Option Addr}{l:List UInt8}
theorem Rd.len(h:Rd w A n l):l.length=n:=by have:=h.1;simpa using this
theorem Rd.at_(h:Rd w A n l){k:Nat}(hk:k<n):∃ad,A=some ad/\w.cell? (ad.add k)=some (.int .u8 ((l[k]?.getD 0).toNat:Nat)):=by
 obtain⟨ad,e,hc⟩:=h.2 (by omega);refine⟨ad,e,hc k _ ?_⟩;have hl:=h.len;rw[List.getElem?_map,List.getElem?_eq_getElem (by omega)];rfl
theorem Rd.none_:Rd w A 0 []:=cn.none_
theorem Rd.below(h:Rd w A n l)(hb:Below w.heap.size w w'):Rd w' A n l:=cn.below h hb
theorem Gx(u:Value)(h:u∈l.map vb):u.oneCell'=true:=by
 obtain⟨b,_,rfl⟩:=List.mem_map.1 h;rfl
theorem eY{base:Nat}{e:TypeId}{size:Nat}{v:Value}{xs:List Value}(h:w.ownsRow base e size v n xs)(hg:w.grownBy w' v.ownBlock)(hB:base<=w.heap.size):Below base w w':=
 zb.grown hg hB (fun k hk=>by
  rcases h.2 with⟨rfl,_⟩|⟨g,cap,cur,rfl,h2,_⟩
  ·simp[Value.ownBlock]at hk
  ·simp[Value.ownBlock]at hk;omega)
end
section
variable {P:Program}(w:World)
theorem oW(base:Nat)(t ty e:TypeId)(i:TypeInfo)(size:Nat)(ht:P.underlying t=some (.slice e))(hi:P.info? e=some i)
  (v:Value) (n:Nat) (xs:List Value) (aD:w.ownsRow base e size v n xs) (c:Nat):(Builtin.append_ #[t,t] ty #[v,.slice none 0 c]).run P w=.ok v w:=by
 rcases aD.2 with⟨rfl,rfl⟩|⟨g,cap,cur,rfl,_,_,AB,_⟩
 ·simp[Builtin.append_,run_underlying ht,sizeOf,typeInfo,hi,Builtin.lenOf,Builtin.firstCells]
 ·simp[Builtin.append_,run_underlying ht,sizeOf,typeInfo,hi,Builtin.lenOf,Builtin.firstCells,AB,storeCells]
theorem tu(base:Nat)(t ty e:TypeId)(i:TypeInfo)(z:Value)(size bytes:Nat)(ht:P.underlying t=some (.slice e))(hi:P.info? e=some i)(hz:i.zero=some z)
  (xS:i.size=size) (O5:i.bytes=bytes) (Df:z.cells.size=size) (gu:0<size)
  (v:Value) (n:Nat) (xs:List Value) (aD:w.ownsRow base e size v n xs)
  (A:Option Addr) (m c:Nat) (news:List Value) (hr:cn w size A m news) (h1:∀u∈news,u.oneCell'=true)
  (QO:n+m<=maxLen) (rn:(n+m)*bytes<=140737488355328) (bl:base<=w.heap.size) :
  ∃v' w',(Builtin.append_ #[t,t] ty #[v,.slice A m c]).run P w=.ok v' w'/\w'.ownsRow base e size v' (n+m) (xs++news)/\w.grownBy w' v.ownBlock/\
   (v'.ownBlock=v.ownBlock\/v'.ownBlock=some w.heap.size):=by
 rcases A with _|ad
 ·have hm:m=0:=by
   rcases Nat.eq_zero_or_pos m with h0|h0
   ·exact h0
   ·obtain⟨ad,h,_⟩:=hr.2 h0;cases h
  subst hm;have hn:news=[]:=List.eq_nil_of_length_eq_zero (by simpa using hr.1);subst hn;exact⟨v,w,oW w base t ty e i size ht hi v n xs aD c,by simpa using aD,World.grownBy.refl w _,.inl rfl⟩
 ·have mj:∀j u,news[j]?=some u->w.cell? (ad.add j)=some u:=by
   intro j u hu;rcases Nat.eq_zero_or_pos m with h0|h0
   ·subst h0;have hn:news=[]:=List.eq_nil_of_length_eq_zero (by simpa using hr.1);subst hn;simp at hu
   ·obtain⟨ad',h,hc⟩:=hr.2 h0;injection h with h;subst h;exact hc j u hu
  obtain⟨v',w',lv,h2,h3,_,h5⟩:=run_append_own_at (P:=P) w base t ty e i z size bytes ht hi hz xS O5 Df gu v n xs aD ad m c news hr.1 mj h1 QO rn bl;exact⟨v',w',lv,h2,h3,h5⟩
theorem tS{o:Oper}{a:Act}{K:Act->World->Prop}{Q:Exit->Act->World->Prop}(s x:Operand)(t:TypeId)
  (ho:o.op=.call {callee:=.builtin .append,args:=#[s,x],argTypes:=#[t,t]})
  (base:Nat) (e:TypeId) (i:TypeInfo) (z:Value) (size bytes:Nat) (ht:P.underlying t=some (.slice e)) (hi:P.info? e=some i) (hz:i.zero=some z)
  (xS:i.size=size) (O5:i.bytes=bytes) (Df:z.cells.size=size) (gu:0<size)
  (v:Value) (n:Nat) (xs:List Value) (hs:a.eval s=v) (aD:w.ownsRow base e size v n xs)
  (A:Option Addr) (m c:Nat) (news:List Value) (hx:a.eval x=.slice A m c) (hr:cn w size A m news) (h1:∀u∈news,u.oneCell'=true)
  (QO:n+m<=maxLen) (rn:(n+m)*bytes<=140737488355328) (bl:base<=w.heap.size)
  (h:∀A' c' w',w'.ownsRow base e size (.slice A' (n+m) c') (n+m) (xs++news)->w.grownBy w' v.ownBlock->((Value.slice A' (n+m) c').ownBlock=v.ownBlock\/(Value.slice A' (n+m) c').ownBlock=some w.heap.size)->K (a.put o.dst (.slice A' (n+m) c')) w'):o.wp P a w K Q:=by
 obtain⟨v',w',lv,h2,h3,h4⟩:=tu (P:=P) w base t o.type e i z size bytes ht hi hz xS O5 Df gu v n xs aD A m c news hr h1 QO rn bl;obtain⟨A',c',rfl,_,_⟩:=rt h2;unfold Oper.wp execOp;simp only[ho,resolve,invoke,builtin,Sem.run_bind,Sem.run_pure,Result.andThen_ok,List.map_toArray,List.map_cons,List.map_nil,hs,hx,lv];exact h A' c' w' h2 h3 h4
theorem bb{ops:Array Oper}{rest:List Oper}{o:Oper}{a:Act}{Q:Exit->Act->World->Prop}(kt:o.guard=none)(s x:Operand)(t:TypeId)
  (ho:o.op=.call {callee:=.builtin .append,args:=#[s,x],argTypes:=#[t,t]})
  (base:Nat) (e:TypeId) (i:TypeInfo) (z:Value) (size bytes:Nat) (ht:P.underlying t=some (.slice e)) (hi:P.info? e=some i) (hz:i.zero=some z)
  (xS:i.size=size) (O5:i.bytes=bytes) (Df:z.cells.size=size) (gu:0<size)
  (v:Value) (n:Nat) (xs:List Value) (hs:a.eval s=v) (aD:w.ownsRow base e size v n xs)
  (A:Option Addr) (m c:Nat) (news:List Value) (hx:a.eval x=.slice A m c) (hr:cn w size A m news) (h1:∀u∈news,u.oneCell'=true)
  (QO:n+m<=maxLen) (rn:(n+m)*bytes<=140737488355328) (bl:base<=w.heap.size)
  (h:∀A' c' w',w'.ownsRow base e size (.slice A' (n+m) c') (n+m) (xs++news)->w.grownBy w' v.ownBlock->((Value.slice A' (n+m) c').ownBlock=v.ownBlock\/(Value.slice A' (n+m) c').ownBlock=some w.heap.size)->wpList P ops Q rest (a.put o.dst (.slice A' (n+m) c')) w'):wpList P ops Q (o::rest) a w:=
 wpList_plain kt fun _ hK=>tS w s x t ho base e i z size bytes ht hi hz xS O5 Df gu v n xs hs aD A m c news hx hr h1 QO rn bl fun A' c' w' h2 h3 h4=>hK _ _ (h A' c' w' h2 h3 h4)
end
def ar(w:World)(g:Nat)(T:TypeId)(cs:Array Value):Prop:=w.heap[g]?=some (.cells cs T (0,0))
section
variable {w w':World}{g:Nat}{T:TypeId}{cs:Array Value}
theorem ar.lt(h:ar w g T cs):g<w.heap.size:=by
 rcases Nat.lt_or_ge g w.heap.size with aU|tq
 ·exact aU
 ·unfold ar at h;rw[Array.getElem?_eq_none tq]at h;cases h
theorem ar.cell(h:ar w g T cs)(i:Nat):w.cell? ⟨g,i,none⟩=cs[i]?:=cell_of_row w g i cs T (0,0) h
theorem ar.free(h:ar w g T cs)(i:Nat):w.frozen? ⟨g,i,none⟩=false:=by
 unfold ar at h;simp[World.frozen?,h]
theorem ar.new(w:World)(T:TypeId)(cs:Array Value):ar (w.alloc (.cells cs T)) w.heap.size T cs:=heap_alloc_new w _
theorem ar.drew(h:ar w g T cs):ar w.drew g T cs:=h
theorem ar.drewN(h:ar w g T cs)(n:Nat):ar (w.drewN n) g T cs:=h
theorem ar.alloc(h:ar w g T cs)(o:Obj):ar (w.alloc o) g T cs:=(Below.heap_alloc w o g h.lt).trans h
theorem ar.set_(h:ar w g T cs)(i:Nat)(u:Value):ar (w.setCell ⟨g,i,none⟩ u) g T (cs.setIfInBounds i u):=by
 unfold ar at h ⊢;simp[World.setCell,Array.getElem?_modify,h]
theorem ar.far(h:ar w g T cs){p:Addr}(hp:g≠p.block)(u:Value):ar (w.setCell p u) g T cs:=(Below.heap_setCell w p u g hp).trans h
theorem ar.below{B:Nat}(h:ar w g T cs)(hb:Below B w w')(hg:g<B):ar w' g T cs:=(hb.block g hg).trans h
theorem ar.kept(h:ar w g T cs)(hb:Below w.heap.size w w'):ar w' g T cs:=h.below hb h.lt
end
def AC (w:World)(g:Nat)(cs:Array Value):List Nat -> Prop
 |[]=>True
 |i::l=>w.cell? ⟨g,i,none⟩=cs[i]?/\AC w g cs l
theorem ar.cs {w:World}{g:Nat}{T:TypeId}{cs:Array Value}(h:ar w g T cs):∀l,AC w g cs l
 |[]=>trivial
 |i::l=>⟨h.cell i,ar.cs h l⟩
def AF (w:World)(g:Nat):List Nat -> Prop
 |[]=>True
 |i::l=>w.frozen? ⟨g,i,none⟩=false/\AF w g l
theorem ar.fs {w:World}{g:Nat}{T:TypeId}{cs:Array Value}(h:ar w g T cs):∀l,AF w g l
 |[]=>trivial
 |i::l=>⟨h.free i,ar.fs h l⟩
theorem zB (w:World)(T:TypeId)(cs:Array Value):∃v,w.alloc (.cells cs T)=v/\Below w.heap.size w v/\ar v w.heap.size T cs:=⟨_,rfl,(Below.refl _ _).alloc (Nat.le_refl _) _,ar.new w T cs⟩
def tZ(o:Oper):Bool:=
 match o.op with
 | .call c=>(match c.callee with | .builtin .len=>true | .builtin .cap=>true|_=>false)
 | .store .. | .ready _ | .mapUpdate .. | .insert .. | .entryStore .. | .go _ | .defer _ | .select .. | .send .. | .recv .. | .panic _=>false
 | _=>true
theorem no{α:Type}{r:Result α}{f:α->Value}{n:Next}{w':World}(h:(r.andThen fun a w1=>Result.ok (Next.value (f a)) w1)=.ok n w'):∃v,n=.value v:=by
 cases r with
 | ok a w1=>
  simp only[Result.andThen_ok,Result.ok.injEq]at h;exact⟨_,h.1.symm⟩
 | halt x w1=>cases h
def nH(P:Program)(s:Sem Next):Prop:=∀w n w',s.run P w=.ok n w'->∃v,n=.value v
theorem nH.bind{α:Type}{P:Program}{s:Sem α}{f:α->Sem Next}(h:∀a,nH P (f a)):nH P (s >>=f):=by
 intro w n w' hr;rw[Sem.run_bind]at hr;cases he:s.run P w with
 | ok a w1=>rw[he]at hr;exact h a w1 n w' hr
 | halt x w1=>rw[he]at hr;cases hr
theorem nH.pure{P:Program}(v:Value):nH P (Pure.pure (Next.value v)):=by
 intro w n w' h;simp only[Sem.run_pure,Result.ok.injEq]at h;exact⟨_,h.1.symm⟩
theorem nH.nil{P:Program}:nH P (runtimePanic RuntimeError.nilDeref):=by
 intro w n w' h;simp[runtimePanic,goPanic,program,Sem.run]at h
theorem BA(P:Program)(ρ:Operand->Value)(o:Oper)(hc:tZ o=true)(w w':World)(n:Next)(h:(execOp ρ o).run P w=.ok n w'):∃v,n=.value v:=by
 obtain⟨dst,op,type,pos,after,guard⟩:=o;cases op
 case call c=>
  obtain⟨callee,args,argTypes⟩:=c;cases callee with
  | value f=>simp[tZ]at hc
  | invoke r m=>simp[tZ]at hc
  | builtin b=>
   cases b <;> simp[tZ]at hc
   all_goals
    simp only[execOp,resolve,invoke,builtin]at h;simp only[Sem.run_bind,Sem.run_pure,Result.andThen_ok]at h;exact no (f:=id) h
 case nilCheck x=>
  simp only[execOp]at h;split at h
  all_goals first
   | (simp only[Sem.run_pure,Result.ok.injEq]at h;exact⟨_,h.1.symm⟩)
   | exact nH.nil w n w' h
   | skip
  split at h
  ·exact nH.nil w n w' h
  ·refine nH.bind (fun _=>nH.bind fun _=>?_) w n w' h;split
   ·exact nH.bind fun _=>nH.pure _
   ·exact nH.pure _
  ·exact nH.pure _ w n w' h
 all_goals first
  | (simp[tZ]at hc;done)
  | (simp only[execOp,Sem.run_bind,Sem.run_pure]at h;first|exact no (f:=id) h|exact no h|(simp only[Result.ok.injEq]at h;exact⟨_,h.1.symm⟩))
def dE(C:World->Prop)(next:Act->World->Prop)(Q:Exit->Act->World->Prop):Exit->Act->World->Prop
 | .normal,a,w=>C w/\next a w
 | e,a,w=>Q e a w
def af(l:List Oper):List Nat->List Oper
 | []=>[]
 | i::is=>match l[i]? with
  | some o=>o::af l is
  | none=>af l is
def lL(P:Program)(l:List Oper)(C:World->Prop)(Q:Exit->Act->World->Prop):List (List Nat×Nat)->List Nat->Act->World->Prop
 | [],last,a,w=>wpQuiet P l.toArray C (fun a'=>Q .normal a' w) (af l last) a
 | (seg,i)::more,last,a,w=>wpQuiet P l.toArray C (fun a'=>wpList P l.toArray (dE C (lL P l C Q more last) Q) (af l [i]) a' w) (af l seg) a
def ep(l:List Oper):List Nat->Array Bool->Option (Array Bool)
 | [],listed=>some listed
 | i::is,listed=>
  if(Region.ready .any l.toArray listed).contains i&&Region.free .any l.toArray listed i&&((l[i]?).map tZ).getD false then ep l is (listed.setIfInBounds i true)else none
def sm(l:List Oper):List (List Nat×Nat)->List Nat->Array Bool->Bool
 | [],last,listed=>match ep l last listed with
  | some r=>(Region.ready .any l.toArray r).isEmpty
  | none=>false
 | (seg,i)::more,last,listed=>match ep l seg listed with
  | some r=>Region.ready .any l.toArray r==[i]&&sm l more last (r.setIfInBounds i true)
  | none=>false
def MG(l:List Oper)(segs:List (List Nat×Nat))(last:List Nat):Bool:=
 Region.noSelect l.toArray&&(segs.map (fun s=>s.1.length+1)).sum+last.length==l.length&&sm l segs last (Array.replicate l.length false)
section
variable {P:Program}{l:List Oper}{C:World->Prop}{Q:Exit->Act->World->Prop}
theorem uQ(a:Act)(d:Option Tmp)(v:Value):(a.put d v).defers=a.defers:=by cases d <;> rfl
theorem av{seg last:List Nat}{i:Nat}{more:List (List Nat×Nat)}{a:Act}{w:World}
  (h:∀K:Act->World->Prop,(∀a w,lL P l C Q more last a w->K a w)->wpQuiet P l.toArray C (fun a'=>wpList P l.toArray (dE C K Q) (af l [i]) a' w) (af l seg) a) :
  lL P l C Q ((seg,i)::more) last a w:=h _ (fun _ _ h=>h)
theorem aj{last:List Nat}{a:Act}{w:World}(h:wpQuiet P l.toArray C (fun a'=>Q .normal a' w) (af l last) a):lL P l C Q [] last a w:=h
theorem jC{o:Oper}{a:Act}{K:Act->Prop}(hc:tZ o=true)(h:wpQuiet P l.toArray C K [o] a) :
  ∃v,YieldsIf P l.toArray C o v a/\K (a.put o.dst v):=by
 unfold wpQuiet at h;by_cases hw:Region.wanted o (yielded l.toArray a.tmps)=true
 ·rw[if_pos hw]at h;obtain⟨v,hv,hk⟩:=h;refine⟨v,.inl ⟨hw,fun w hCw=>?_⟩,hk⟩;have h1:=hv w hCw;unfold Oper.quietAt at h1;cases hr:(execOp a.eval o).run P w with
  | halt x w1=>rw[hr]at h1;exact h1.elim
  | ok n w1=>
   obtain⟨u,rfl⟩:=BA P a.eval o hc w w1 n hr;rw[hr]at h1;obtain⟨rfl,rfl⟩:=h1;rfl
 ·rw[if_neg hw]at h;exact⟨undef,.inr ⟨by simpa using hw,rfl⟩,h⟩
theorem kj(hs:Region.noSelect l.toArray=true)(hQ:∀c (a b:Act) w,a.defers=b.defers->Q (.panic c) a w->Q (.panic c) b w)(seg:List Nat) :
  ∀(listed r:Array Bool) (a:Act) (w:World) (fuel:Nat) (K:Act->Prop),ep l seg listed=some r->C w->wpQuiet P l.toArray C K (af l seg) a->
   (∀a',K a'->wpAnyH P .any l.toArray Q C fuel r a' w)->wpAnyH P .any l.toArray Q C (seg.length+fuel) listed a w:=by
 induction seg with
 | nil=>
  intro listed r a w fuel K hr hC h hK;simp only[ep,Option.some.injEq]at hr;subst hr;simpa using hK a h
 | cons i is ih=>
  intro listed r a w fuel K hr hC h hK;unfold ep at hr;by_cases hb:((Region.ready .any l.toArray listed).contains i&&Region.free .any l.toArray listed i&&((l[i]?).map tZ).getD false)=true
  ·rw[if_pos hb]at hr;simp only[Bool.and_eq_true]at hb;obtain⟨⟨dx,am⟩,oX⟩:=hb;cases ho:l[i]? with
   | none=>rw[ho]at oX;cases oX
   | some o=>
    rw[ho]at oX;have hp:af l (i::is)=o::af l is:=by simp[af,ho]
    rw[hp]at h;have h':wpQuiet P l.toArray C (wpQuiet P l.toArray C K (af l is)) [o] a:=h;obtain⟨v,hy,hn⟩:=jC oX h';rw[show(i::is).length+fuel=(is.length+fuel)+1 by simp;omega];exact wpAnyH_take (by simpa using ho) hs am dx (fun c a w hq=>hQ c _ _ w (uQ _ _ _) hq) hy hC (ih _ r _ w fuel K hr hC hn hK)
  ·rw[if_neg hb]at hr;cases hr
theorem uG{o:Oper}{a:Act}{w:World}{next K K':Act->World->Prop}(h:∀a w,K a w->K' a w)(hh:o.wp P a w K (dE C next Q)):o.wp P a w K' Q:=by
 unfold Oper.wp at *;generalize(execOp a.eval o).run P w=r at *;cases r with
 | ok n w'=>
  cases n <;> simp only[Oper.upon]at hh ⊢ <;>
   first
    | exact h _ _ hh
    | exact Calls.mono hh (fun e w'' he=>by cases e <;> first|exact h _ _ he|exact he)
    | exact Rows.mono hh (fun _ _ he=>h _ _ he)
 | halt x w'=>cases x <;> simp only[Oper.upon]at hh ⊢ <;> exact hh
theorem I7(hs:Region.noSelect l.toArray=true)(hQ:∀c (a b:Act) w,a.defers=b.defers->Q (.panic c) a w->Q (.panic c) b w)(last:List Nat)(segs:List (List Nat×Nat)) :
  ∀(listed:Array Bool) (a:Act) (w:World),sm l segs last listed=true->C w->lL P l C Q segs last a w->
   wpAnyH P .any l.toArray Q C ((segs.map (fun s=>s.1.length+1)).sum+last.length) listed a w:=by
 induction segs with
 | nil=>
  intro listed a w hr hC h;unfold sm at hr;cases hc:ep l last listed with
  | none=>rw[hc]at hr;cases hr
  | some r=>
   rw[hc]at hr;have:=kj (P:=P) (C:=C) (Q:=Q) hs hQ last listed r a w 0 (fun a'=>Q .normal a' w) hc hC h (fun a' ha=>wpAnyH_done (by simpa using hr) ha 0);simpa using this
 | cons s more ih=>
  obtain⟨seg,i⟩:=s;intro listed a w hr hC h;unfold sm at hr;cases hc:ep l seg listed with
  | none=>rw[hc]at hr;cases hr
  | some r=>
   rw[hc]at hr;simp only[Bool.and_eq_true,beq_iff_eq]at hr;obtain⟨dx,Fp⟩:=hr;have ah:(((seg,i)::more).map (fun s=>s.1.length+1)).sum+last.length=seg.length+(((more.map (fun s=>s.1.length+1)).sum+last.length)+1):=by
    simp;omega
   rw[ah];refine kj (P:=P) (C:=C) (Q:=Q) hs hQ seg listed r a w _ _ hc hC h fun a' ha=>?_
   refine wpAnyH_all dx (by simp) fun j hj=>?_
   obtain rfl:j=i:=by simpa using hj
   have np:j∈Region.ready .any l.toArray r:=by rw[dx];simp
   obtain⟨_,o,ho,_⟩:=mem_ready.1 np;have LO:l[j]?=some o:=by simpa using ho
   have hp:af l [j]=[o]:=by simp[af,LO]
   rw[hp]at ha;unfold wpOp;rw[ho];simp only[];unfold wpList at ha;have jG:∀a2 w2,wpList P l.toArray (dE C (lL P l C Q more last) Q) [] a2 w2->C w2/\wpAnyH P .any l.toArray Q C ((more.map (fun s=>s.1.length+1)).sum+last.length) (r.setIfInBounds j true) a2 w2:=
    fun a2 w2 h2=>⟨h2.1,ih _ a2 w2 Fp h2.1 h2.2⟩
   split
   ·rename_i hw;rw[if_pos hw]at ha;exact ha.imp (uG jG) (fun h2=>h2)
   ·rename_i hw;rw[if_neg hw]at ha;exact jG _ _ ha
theorem cF{id:Nat}{a:Act}{w:World}(segs:List (List Nat×Nat))(last:List Nat)(hm:P.follows .mixedOrders=true)(hB:MG l segs last=true)
  (hQ:∀c (a b:Act) w,a.defers=b.defers->Q (.panic c) a w->Q (.panic c) b w) (hC:C w.drew) (h:lL P l C Q segs last a w.drew):(Code.region id l.toArray true).wp P Q a w:=by
 simp only[MG,Bool.and_eq_true,beq_iff_eq]at hB;obtain⟨⟨hs,ah⟩,bP⟩:=hB;refine wp_region_held (S:=C) hm ?_;have:=I7 (P:=P) hs hQ last segs _ a w.drew bP hC h;rw[ah]at this;simpa using this
end
def TV:World->Prop:=fun w'=>∃x:World,w'=x
attribute [go_sem] TV
def Ic(B:Nat)(w:World):Type:={w':World // Below B w w'}
instance (B:Nat) (w:World):Nonempty (Ic B w):=⟨⟨w,Below.refl _ _⟩⟩
def wm(B:Nat)(w:World):World->Prop:=fun w'=>∃x:Ic B w,w'=x.1
attribute [go_sem] wm
theorem fF{B:Nat}{w w':World}(h:Below B w w'):wm B w w':=⟨⟨w',h⟩,rfl⟩
theorem ei{B:Nat}{w:World}{p:Addr}{v:Value}(h:w.cell? p=some v)(hB:p.block<B):∀x:Ic B w,x.1.cell? p=some v:=
 fun x=>(x.2.cell hB).trans h
def vi(z:Int):Value:=.int .i64 z
def fB(w:World)(A:Option Addr)(n:Nat)(l:List Int):Prop:=cn w 1 A n (l.map vi)
section
variable {w w':World}{n:Nat}{A:Option Addr}{l:List Int}
theorem fB.len(h:fB w A n l):l.length=n:=by have:=h.1;simpa using this
theorem fB.at_(h:fB w A n l){k:Nat}(hk:k<n):∃ad,A=some ad/\w.cell? (ad.add k)=some (.int .i64 (l[k]?.getD 0)):=by
 obtain⟨ad,e,hc⟩:=h.2 (by omega);refine⟨ad,e,hc k _ ?_⟩;have hl:=h.len;rw[List.getElem?_map,List.getElem?_eq_getElem (by omega)];rfl
theorem fB.none_:fB w A 0 []:=cn.none_
theorem fB.below(h:fB w A n l)(hb:Below w.heap.size w w'):fB w' A n l:=cn.below h hb
theorem fB.drew(h:fB w A n l):fB w.drew A n l:=h
theorem fB.alloc(h:fB w A n l)(o:Obj):fB (w.alloc o) A n l:=cn.alloc h o
theorem fB.of_own{base c:Nat}{e:TypeId}(h:w.ownsRow base e 1 (.slice A n c) n (l.map vi)):fB w A n l:=cn.of_own h
theorem MI(u:Value)(h:u∈l.map vi):u.oneCell'=true:=by
 obtain⟨b,_,rfl⟩:=List.mem_map.1 h;rfl
theorem fB.lit(w:World)(T:TypeId)(fz:Nat×Nat)(l:List Int)(cs:Array Value)(n g:Nat)(hc:cs.toList=l.map vi)(hn:l.length=n)(hg:w.heap.size=g) :
  fB (w.alloc (.cells cs T fz)) (some ⟨g,0,none⟩) n l:=by
 subst hg;refine⟨by simp[hn],fun _=>⟨_,rfl,fun j u hu=>?_⟩⟩;have e:(⟨w.heap.size,0,none⟩:Addr).add j=⟨w.heap.size,j,none⟩:=by unfold Addr.add;split <;> simp[*]
 rw[e,cell_of_row _ _ j _ _ _ (heap_alloc_new w _),<-hu,<-hc];simp
theorem lW{base c:Nat}{e:TypeId}(h:w.ownsRow base e 1 (.slice A n c) n (l.map vi)){k:Nat}(hk:k<n) :
  ∃g,A=some ⟨g,0,none⟩/\base<=g/\w.cell? ⟨g,k,none⟩=some (.int .i64 (l[k]?.getD 0))/\w.frozen? ⟨g,k,none⟩=false:=by
 obtain⟨g,cap,hv,hb,_⟩:=h.form (by omega);injection hv with hA _ hc;subst hA;subst hc;refine⟨g,rfl,hb,?_,h.frozenAt k⟩;have hl:l.length=n:=by have:=h.1;simpa using this
 rw[h.cellAt k (by omega),List.getElem?_map,List.getElem?_eq_getElem (by omega)];rfl
end
theorem bA{w:World}{base e size n c:Nat}{A:Option Addr}{xs:List Value}(h:w.ownsRow base e size (.slice A n c) n xs):n<=c/\c<=maxLen:=by
 rcases h.2 with⟨h0,_⟩|⟨g,cap,cur,h0,_,_,AB,hm,_⟩
 ·injection h0 with _ _ hc;subst hc;exact⟨by omega,Nat.zero_le _⟩
 ·injection h0 with _ _ hc;subst hc;exact⟨AB,hm⟩
theorem rJ:(prog.info? 3).map (fun i=>(i.zero,i.size,i.bytes))=some (some (.int .i64 0),1,8):=by kernel_rfl
theorem bi{w:World}{ops:Array Oper}{rest:List Oper}{o:Oper}{a:Act}{Q:Exit->Act->World->Prop}(kt:o.guard=none)(s x:Operand)
  (ho:o.op=.call {callee:=.builtin .append,args:=#[s,x],argTypes:=#[76,76]})
  (base:Nat) {A:Option Addr} {n c:Nat} {l:List Int} (hs:a.eval s=.slice A n c) (aD:w.ownsRow base 3 1 (.slice A n c) n (l.map vi))
  {B:Option Addr} {m d:Nat} {r:List Int} (hx:a.eval x=.slice B m d) (hr:fB w B m r) (hb:n+m<=1000000000) (bl:base<=w.heap.size)
  (h:∀A' c' w',w'.ownsRow base 3 1 (.slice A' (n+m) c') (n+m) ((l++r).map vi)->w.grownBy w' (Value.slice A n c).ownBlock->Below base w w'->wpList prog ops Q rest (a.put o.dst (.slice A' (n+m) c')) w'):wpList prog ops Q (o::rest) a w:=by
 obtain⟨i0,iy,jK,iL,gL⟩:=info_parts rJ;refine bb w kt s x 76 ho base 3 i0 _ 1 8 underlying76 iy jK iL gL rfl (by omega) _ n _ hs aD B m d _ hx hr (fun u hu=>MI u hu) (by unfold maxLen;omega) (by omega) bl ?_;intro A' c' w' h1 h2 _;exact h A' c' w' (by rw[List.map_append];exact h1) h2 (eY aD h2 bl)
def Od(s:ByteArray):Value:=.string s
structure Fa where
 paths:List (List ByteArray)
 vals:List Int
structure En where
 idx:Int
 term:Int
 op:Int
 sess:Int
 seq:Int
 facts:List Fa
def gk:En:=⟨0,0,0,0,0,[]⟩
section
variable {α:Type}{f:α->List Value}{k:Nat}
theorem fv(hf:∀z,(f z).length=k)(l:List α):(l.flatMap f).length=l.length*k:=by
 induction l with
 | nil=>simp
 | cons z l ih=>rw[List.flatMap_cons,List.length_append,ih,hf,List.length_cons,Nat.succ_mul];omega
theorem eo(hf:∀z,(f z).length=k){l:List α}{i j:Nat}{z:α}(hj:j<k)(hz:l[i]?=some z):(l.flatMap f)[i*k+j]?=(f z)[j]?:=by
 induction l generalizing i with
 | nil=>simp at hz
 | cons y l ih=>
  rw[List.flatMap_cons];cases i with
  | zero=>
   simp only[List.getElem?_cons_zero,Option.some.injEq]at hz;subst hz;rw[Nat.zero_mul,Nat.zero_add,List.getElem?_append_left (by rw[hf];exact hj)]
  | succ i=>
   simp only[List.getElem?_cons_succ]at hz;have e:(i+1)*k+j=(f y).length+(i*k+j):=by rw[hf,Nat.succ_mul];omega
   rw[e,List.getElem?_append_right (Nat.le_add_right _ _),Nat.add_sub_cancel_left];exact ih hz
theorem ph(hf:∀z,(f z).length=k)(l:List α)(m:Nat):(l.take m).flatMap f=(l.flatMap f).take (m*k):=by
 induction l generalizing m with
 | nil=>simp
 | cons y l ih=>
  cases m with
  | zero=>simp
  | succ m=>
   rw[List.take_succ_cons,List.flatMap_cons,List.flatMap_cons,ih,List.take_append,hf];have e1:(m+1)*k-k=m*k:=by rw[Nat.succ_mul];omega
   rw[e1,List.take_of_length_le (l:=f y) (by rw[hf,Nat.succ_mul];omega)]
theorem mH(hf:∀z,(f z).length=k)(l:List α)(m:Nat):(l.drop m).flatMap f=(l.flatMap f).drop (m*k):=by
 induction l generalizing m with
 | nil=>simp
 | cons y l ih=>
  cases m with
  | zero=>simp
  | succ m=>
   rw[List.drop_succ_cons,List.flatMap_cons,ih,List.drop_append,hf];have e1:(m+1)*k-k=m*k:=by rw[Nat.succ_mul];omega
   rw[e1,show List.drop ((m+1)*k) (f y)=[]from List.drop_eq_nil_of_le (by rw[hf,Nat.succ_mul];omega),List.nil_append]
end
def Sl(S:Nat->Prop)(w:World)(size:Nat)(v:Value)(n:Nat)(xs:List Value):Prop:=
 ∃A c,v=.slice A n c/\cn w size A n xs/\n<=c/\c<=maxLen/\(0<n->∀ad,A=some ad->S ad.block)
def bz(S:Nat->Prop)(w w':World):Prop:=∀j,S j->j<w.heap.size->w'.heap[j]?=w.heap[j]?
section
variable {S S':Nat->Prop}{w w':World}
theorem bz.below(h:Below w.heap.size w w'):bz S w w':=fun _ _ hj=>h.block _ hj
theorem cn.stay{size n:Nat}{A:Option Addr}{xs:List Value}(h:cn w size A n xs)(hA:0<n->∀ad,A=some ad->S ad.block)(hk:bz S w w'):cn w' size A n xs:=by
 refine⟨h.1,fun h0=>?_⟩;obtain⟨ad,rfl,hc⟩:=h.2 h0;refine⟨ad,rfl,fun j u hu=>?_⟩;have h1:=hc j u hu;have aU:=aw h1;have e:(ad.add j).block=ad.block:=dJ ad j;rw[<-h1];exact World.cell?_of_block (by rw[e]at aU ⊢;exact hk _ (hA h0 ad rfl) aU)
theorem cn.lt{size n:Nat}{A:Option Addr}{xs:List Value}{ad:Addr}(h:cn w size A n xs)(h0:0<n)(hs:0<size)(hA:A=some ad):ad.block<w.heap.size:=by
 subst hA;obtain⟨ad',e,hc⟩:=h.2 h0;injection e with e;subst e;have hl:0<xs.length:=by rw[h.1];exact Nat.mul_pos h0 hs
 have:=aw (hc 0 _ (List.getElem?_eq_getElem hl))
 rwa [dJ]at this
theorem Sl.keep{size n:Nat}{v:Value}{xs:List Value}(h:Sl S w size v n xs)(hk:bz S w w'):Sl S w' size v n xs:=by
 obtain⟨A,c,rfl,hr,h1,h2,h3⟩:=h;exact⟨A,c,rfl,hr.stay h3 hk,h1,h2,h3⟩
theorem Sl.mono{size n:Nat}{v:Value}{xs:List Value}(h:Sl S w size v n xs)(hs:0<size)(hS:∀j,j<w.heap.size->S j->S' j):Sl S' w size v n xs:=by
 obtain⟨A,c,rfl,hr,h1,h2,h3⟩:=h;exact⟨A,c,rfl,hr,h1,h2,fun h0 ad e=>hS _ (hr.lt h0 hs e) (h3 h0 ad e)⟩
theorem Sl.nil(S:Nat->Prop)(w:World)(size:Nat):Sl S w size (.slice none 0 0) 0 []:=⟨none,0,rfl,cn.none_,Nat.le_refl _,Nat.zero_le _,fun h=>absurd h (by omega)⟩
theorem Sl.of_own{base size n c:Nat}{e:TypeId}{A:Option Addr}{xs:List Value}(h:w.ownsRow base e size (.slice A n c) n xs)(hS:∀g,base<=g->g<w.heap.size->(∃cs,w.heap[g]?=some (.cells cs e (0,0)))->S g):Sl S w size (.slice A n c) n xs:=by
 have hb:=bA h;refine⟨A,c,rfl,cn.of_own h,hb.1,hb.2,fun h0 ad e=>?_⟩;subst e;rcases h.2 with⟨h1,_⟩|⟨g,cap,cur,h1,h2,h3,_⟩
 ·cases h1
 ·injection h1 with h1;injection h1 with h1;subst h1;refine hS g h2 ?_ ⟨cur,h3⟩;rcases Nat.lt_or_ge g w.heap.size with aU|tq
  ·exact aU
  ·rw[Array.getElem?_eq_none tq]at h3;cases h3
def gm(S:Nat->Prop)(w:World)(v:Value)(p:List ByteArray):Prop:=Sl S w 1 v p.length (p.map Od)
def fJ(S:Nat->Prop)(w:World)(v:Value)(l:List Int):Prop:=Sl S w 1 v l.length (l.map vi)
def dS(S:Nat->Prop)(w:World)(v:Value)(ps:List (List ByteArray)):Prop:=∃vs,Sl S w 1 v ps.length vs/\∀(i:Nat) p,ps[i]?=some p->∃u,vs[i]?=some u/\gm S w u p
def Qk(y:Value×Value):List Value:=[y.1,y.2]
theorem wJ(y:Value×Value):(Qk y).length=2:=rfl
def aG(S:Nat->Prop)(w:World)(v:Value)(fs:List Fa):Prop:=
 ∃ys:List (Value×Value),Sl S w 2 v fs.length (ys.flatMap Qk)/\ys.length=fs.length/\∀(i:Nat) f,fs[i]?=some f->∃y,ys[i]?=some y/\dS S w y.1 f.paths/\fJ S w y.2 f.vals
def bY(z:Value×En):List Value:=[vi z.2.idx,vi z.2.term,vi z.2.op,vi z.2.sess,vi z.2.seq,z.1]
theorem fj(z:Value×En):(bY z).length=6:=rfl
def bq(S:Nat->Prop)(w:World)(zs:List (Value×En)):Prop:=∀z∈zs,aG S w z.1 z.2.facts
theorem gm.keep{v:Value}{p:List ByteArray}(h:gm S w v p)(hk:bz S w w'):gm S w' v p:=Sl.keep h hk
theorem gm.mono{v:Value}{p:List ByteArray}(h:gm S w v p)(hS:∀j,j<w.heap.size->S j->S' j):gm S' w v p:=Sl.mono h (by omega) hS
theorem fJ.keep{v:Value}{p:List Int}(h:fJ S w v p)(hk:bz S w w'):fJ S w' v p:=Sl.keep h hk
theorem fJ.mono{v:Value}{p:List Int}(h:fJ S w v p)(hS:∀j,j<w.heap.size->S j->S' j):fJ S' w v p:=Sl.mono h (by omega) hS
theorem dS.keep{v:Value}{p:List (List ByteArray)}(h:dS S w v p)(hk:bz S w w'):dS S w' v p:=by
 obtain⟨vs,h1,h2⟩:=h;exact⟨vs,h1.keep hk,fun i p hp=>by obtain⟨u,h3,h4⟩:=h2 i p hp;exact⟨u,h3,h4.keep hk⟩⟩
theorem dS.mono{v:Value}{p:List (List ByteArray)}(h:dS S w v p)(hS:∀j,j<w.heap.size->S j->S' j):dS S' w v p:=by
 obtain⟨vs,h1,h2⟩:=h;exact⟨vs,h1.mono (by omega) hS,fun i p hp=>by obtain⟨u,h3,h4⟩:=h2 i p hp;exact⟨u,h3,h4.mono hS⟩⟩
theorem aG.keep{v:Value}{p:List Fa}(h:aG S w v p)(hk:bz S w w'):aG S w' v p:=by
 obtain⟨ys,h1,h0,h2⟩:=h;exact⟨ys,h1.keep hk,h0,fun i f hf=>by obtain⟨y,h3,h4,h5⟩:=h2 i f hf;exact⟨y,h3,h4.keep hk,h5.keep hk⟩⟩
theorem aG.mono{v:Value}{p:List Fa}(h:aG S w v p)(hS:∀j,j<w.heap.size->S j->S' j):aG S' w v p:=by
 obtain⟨ys,h1,h0,h2⟩:=h;exact⟨ys,h1.mono (by omega) hS,h0,fun i f hf=>by obtain⟨y,h3,h4,h5⟩:=h2 i f hf;exact⟨y,h3,h4.mono hS,h5.mono hS⟩⟩
theorem aG.nil(S:Nat->Prop)(w:World):aG S w (.slice none 0 0) []:=⟨[],Sl.nil S w 2,rfl,fun i f h=>by cases h⟩
theorem bq.keep{zs:List (Value×En)}(h:bq S w zs)(hk:bz S w w'):bq S w' zs:=fun z hz=>(h z hz).keep hk
theorem bq.mono{zs:List (Value×En)}(h:bq S w zs)(hS:∀j,j<w.heap.size->S j->S' j):bq S' w zs:=fun z hz=>(h z hz).mono hS
theorem bq.sub{zs ys:List (Value×En)}(h:bq S w zs)(hs:∀y∈ys,y∈zs):bq S w ys:=fun y hy=>h y (hs y hy)
theorem bq.append{zs ys:List (Value×En)}(h:bq S w zs)(h':bq S w ys):bq S w (zs++ys):=fun z hz=>by
 rcases List.mem_append.1 hz with h1|h1
 ·exact h z h1
 ·exact h' z h1
end
def wu(w:World)(A:Option Addr)(n:Nat)(l:List ByteArray):Prop:=cn w 1 A n (l.map Od)
theorem wu.len{w:World}{A:Option Addr}{n:Nat}{l:List ByteArray}(h:wu w A n l):l.length=n:=by have:=h.1;simpa using this
theorem wu.at_{w:World}{A:Option Addr}{n:Nat}{l:List ByteArray}(h:wu w A n l){k:Nat}(hk:k<n):∃ad s,A=some ad/\l[k]?=some s/\w.cell? (ad.add k)=some (.string s):=by
 obtain⟨ad,e,hc⟩:=h.2 (by omega);have hl:=h.len;refine⟨ad,l[k]'(by omega),e,List.getElem?_eq_getElem (by omega),hc k _ ?_⟩;rw[List.getElem?_map,List.getElem?_eq_getElem (by omega)];rfl
theorem wu.below{w w':World}{A:Option Addr}{n:Nat}{l:List ByteArray}(h:wu w A n l)(hb:Below w.heap.size w w'):wu w' A n l:=cn.below h hb
def IA(r:Nat):Bool:=decide (97<=r/\r<=122\/48<=r/\r<=57\/r=45\/r=95)
def dX(s:ByteArray):Bool:=decide (1<=s.size/\s.size<=12/\∀i (h:i<s.size),IA (s[i]'h).toNat=true)
theorem wQ{r:Nat}(h:IA r=true):(97<=r/\r<=122)\/(48<=r/\r<=57)\/r=45\/r=95:=of_decide_eq_true h
theorem FF{r:Nat}(h:IA r=false):r<45\/(45<r/\r<48)\/(57<r/\r<95)\/r=96\/122<r:=by
 have:=of_decide_eq_false h;omega
theorem vU(s:ByteArray):s.toList.isEmpty=decide (s.size=0):=by
 rw[Bool.eq_iff_iff,List.isEmpty_iff,ByteArray.toList_eq,decide_eq_true_eq,<-List.length_eq_zero_iff];exact Iff.rfl
theorem yJ(n:Nat):(!decide (n=0)&&decide ((n:Int)<=12))=decide (1<=n/\n<=12):=by
 rw[Bool.eq_iff_iff,Bool.and_eq_true,Bool.not_eq_true',decide_eq_true_eq,decide_eq_false_iff_not,decide_eq_true_eq];omega
theorem Fm(s:ByteArray)(w:World):Calls prog 203 #[.string s] w fun e w'=>e=.returned (.bool (dX s))/\Below w.heap.size w w':=by
 go_enter func203,ntmps203
 go_wp2
 have Vj:∀pos,Below w.heap.size w (w.iter s pos):=fun pos=>zb.alloc zl _
 go_loopw [4,7,8,9,10,11,12,13,14,15,16,17,18,19,20,21,22,23,24,25,26,27,28,29,30,31,32] (fun _ _ _ _ _ _ _ _ _ _ _ _ _ _ _ _ _ _ _ _ _ _ _ _ _ _ _ w'=>∃pos:Nat,pos<=s.size/\w'=w.iter s pos/\∀i (h:i<s.size),i<pos->IA (s[i]'h).toNat=true) (fun _ _ _ _ _ _ _ _ _ _ _ _ _ _ _ _ _ _ _ _ _ _ _ _ _ _ _ w'=>s.size-w'.iterPos w.heap.size)
 case atStart=>exact⟨0,Nat.zero_le _,rfl,fun i _ h=>by omega⟩
 case round=>
  obtain⟨pos,N8,rfl,cB⟩:=hrel;have Hok:=zH cB;clear cB;by_cases hp:pos<s.size
  ·by_cases ha:(s[pos]'hp).toNat<128
   ·have ci:∀ty,(Instr.next (.pointer (some ⟨w.heap.size,0,none⟩)) true ty).run prog (w.iter s pos)=_:=fun ty=>run_next_ascii w s pos ty hp ha
    cases pD:IA (s[pos]'hp).toNat with
    | true=>
     have aE:∀i (h:i<s.size),i<pos+1->IA (s[i]'h).toNat=true:=fun i h hi=>by
      rcases Nat.lt_or_ge i pos with h1|h1
      ·exact Hok.out i h h1
      ·obtain rfl:i=pos:=by omega
       exact pD
     have Hst:=zH aE;have eB:=wQ pD;clear aE pD;generalize(s[pos]'hp).toNat=r at *;rcases eB with⟨h1,h2⟩|⟨h1,h2⟩|h1|h1
     all_goals
      go_wp2
      go_roundw
      case rel=>exact⟨pos+1,by omega,rfl,Hst.out⟩
      case measure=>simp;omega
    | false=>
     have fV:dX s=false:=decide_eq_false fun e=>by have:=e.2.2 pos hp;rw[pD]at this;cases this
     have Hne:=zH fV;have eB:=FF pD;clear fV pD;generalize(s[pos]'hp).toNat=r at *;rcases eB with h1|⟨h1,h2⟩|⟨h1,h2⟩|h1|h1
     all_goals
      have E1:(((r:Nat):Int)==45)=false:=by simp;omega
      have E2:(((r:Nat):Int)==95)=false:=by simp;omega
      go_wp2
      all_goals first
       | (go_ret;exact⟨by rw[Hne.out];rfl,Vj _⟩)
       | (exfalso;rename_i hx;simp only[Bool.not_eq_false',decide_eq_true_eq]at hx;omega)
   ·have ci:∀ty,(Instr.next (.pointer (some ⟨w.heap.size,0,none⟩)) true ty).run prog (w.iter s pos)=_:=fun ty=>run_next_any w s pos ty hp
    have fV:dX s=false:=decide_eq_false fun e=>by
     have h1:=e.2.2 pos hp;have h2:=wQ h1;omega
    have Hne:=zH fV;have SX:=(decode_high s pos hp (by omega)).1;clear fV ha;generalize(Utf8.decode s pos).1=r at *;generalize(Utf8.decode s pos).2=k at *;have E1:(((r:Nat):Int)==45)=false:=by simp;omega
    have E2:(((r:Nat):Int)==95)=false:=by simp;omega
    go_wp2
    all_goals first
     | (go_ret;exact⟨by rw[Hne.out];rfl,Vj _⟩)
     | (exfalso;rename_i hx;simp only[Bool.not_eq_false',decide_eq_true_eq]at hx;omega)
  ·obtain rfl:pos=s.size:=by omega
   have ci:∀ty,(Instr.next (.pointer (some ⟨w.heap.size,0,none⟩)) true ty).run prog (w.iter s s.size)=_:=fun ty=>run_next_end w s s.size ty hp
   have fV:dX s=decide (1<=s.size/\s.size<=12):=by
    unfold dX;exact decide_eq_decide.2 ⟨fun h=>⟨h.1,h.2.1⟩,fun h=>⟨h.1,h.2,fun i hi=>Hok.out i hi hi⟩⟩
   have Hne:=zH fV;have Hse:=zH (vU s);clear fV
   go_wp2
   all_goals
    go_ret;refine⟨?_,Vj _⟩;rw[Hne.out];have h1:=Hse.out;rename_i hx
   ·rw[hx]at h1;exact tf (decide_eq_false (fun h=>by have:=of_decide_eq_true h1.symm;omega)).symm
   ·refine tf ?_;rw[h1,yJ]
theorem rE{s:ByteArray}(h:dX s=true):s.size<=12:=(of_decide_eq_true h).2.1
theorem ql(s:ByteArray)(w:World):Calls prog 199 #[.string s] w fun e w'=>e=.returned (.bool (dX s))/\w=w':=by
 by_cases h1:s.size<1
 ·have fV:dX s=false:=decide_eq_false fun e=>by omega
  have Hne:=zH fV;clear fV;go_enter func199,ntmps199
  go_wp2
  go_ret;exact⟨by rw[Hne.out];rfl,rfl⟩
 ·by_cases h2:12<s.size
  ·have fV:dX s=false:=decide_eq_false fun e=>by omega
   have Hne:=zH fV;clear fV;go_enter func199,ntmps199
   go_wp2
   go_ret;exact⟨by rw[Hne.out];rfl,rfl⟩
  ·go_enter func199,ntmps199
   go_wp2
   go_loop [3,4,5,6,15,16,17,18,19,20,21,22,23,24,25,26,27,28,29,30,31,32,33,34,35,36,37,38,39,40,41,42,43,44,45,46,47,48,49] (fun i _ _ _ _ _ _ _ _ _ _ _ _ _ _ _ _ _ _ _ _ _ _ _ _ _ _ _ _ _ _ _ _ _ _ _ _ _ _=>∃k:Nat,k<=s.size/\i=.int .i64 k/\∀j (h:j<s.size),j<k->IA (s[j]'h).toNat=true) (fun i _ _ _ _ _ _ _ _ _ _ _ _ _ _ _ _ _ _ _ _ _ _ _ _ _ _ _ _ _ _ _ _ _ _ _ _ _ _=>s.size-(intOf i).toNat)
   case atStart=>exact⟨0,Nat.zero_le _,rfl,fun j _ h=>by omega⟩
   case round=>
    obtain⟨k,hk,rfl,cB⟩:=hrel;have Hok:=zH cB;clear cB;by_cases aU:k<s.size
    ·cases pD:IA (s[k]'aU).toNat with
     | true=>
      have aE:∀i (h:i<s.size),i<k+1->IA (s[i]'h).toNat=true:=fun i h hi=>by
       rcases Nat.lt_or_ge i k with h1|h1
       ·exact Hok.out i h h1
       ·obtain rfl:i=k:=by omega
        exact pD
      have Hst:=zH aE;have eB:=wQ pD;clear aE pD;rcases eB with⟨h1,h2⟩|⟨h1,h2⟩|h1|h1
      all_goals
       go_wp2
       go_round
       case rel=>exact⟨k+1,by omega,by go_num,Hst.out⟩
       case measure=>simp[intOf];omega
     | false=>
      have fV:dX s=false:=decide_eq_false fun e=>by have:=e.2.2 k aU;rw[pD]at this;cases this
      have Hne:=zH fV;have eB:=FF pD;have E1:(((s[k]'aU).toNat:Int)==45)=false:=by simp;omega
      have E2:(((s[k]'aU).toNat:Int)==95)=false:=by simp;omega
      have E3:(((s[k]'aU).toNat:Int) !=45)=true:=by simp;omega
      have E4:(((s[k]'aU).toNat:Int) !=95)=true:=by simp;omega
      clear fV pD;rcases eB with h1|⟨h1,h2⟩|⟨h1,h2⟩|h1|h1
      all_goals
       go_wp2
       all_goals first
        | (go_ret;exact⟨by rw[Hne.out];rfl,rfl⟩)
        | (exfalso;rename_i hx;simp only[Bool.not_eq_false',decide_eq_true_eq]at hx;omega)
    ·obtain rfl:k=s.size:=by omega
     have fV:dX s=true:=decide_eq_true ⟨by omega,by omega,fun i hi=>Hok.out i hi hi⟩;have Hne:=zH fV;clear fV
     go_wp2
     go_ret;exact⟨by rw[Hne.out];rfl,rfl⟩
theorem qg(s:ByteArray)(w:World):Calls prog 202 #[.string s] w fun e w'=>e=.returned (.bool (!dX s))/\Below w.heap.size w w':=by
 go_enter func202,ntmps202;go_wp2_with fail;refine(Fm _ _).mono ?_;rintro e w' ⟨rfl,hb⟩
 go_wp2
 go_ret;exact⟨rfl,hb⟩
def ko{α:Type}(p:α->Bool):List α->Int
 | []=>-1
 | x::l=>if p x then 0 else if ko p l<0 then -1 else ko p l+1
theorem JK{α:Type}(p:α->Bool)(l:List α):-1<=ko p l:=by
 induction l with
 | nil=>simp[ko]
 | cons x l ih=>unfold ko;split <;> (try split) <;> omega
theorem wO{α:Type}(p:α->Bool)(l:List α)(k:Nat)(x:α)(hx:l[k]?=some x)(hp:p x=true)(hb:∀j y,j<k->l[j]?=some y->p y=false):ko p l=k:=by
 induction l generalizing k with
 | nil=>simp at hx
 | cons y l ih=>
  cases k with
  | zero=>
   simp at hx;subst hx;simp[ko,hp]
  | succ k=>
   have h0:=hb 0 y (by omega) rfl;have:=ih k (by simpa using hx) (fun j z hj hz=>hb (j+1) z (by omega) (by simpa using hz));unfold ko;rw[h0,this];simp;omega
theorem pG{α:Type}(p:α->Bool)(l:List α)(hb:∀(j:Nat) y,l[j]?=some y->p y=false):ko p l=-1:=by
 induction l with
 | nil=>rfl
 | cons y l ih=>
  have h0:=hb 0 y rfl;have:=ih (fun j z hz=>hb (j+1) z (by simpa using hz));unfold ko;rw[h0,this];simp
theorem ry{α:Type}(p:α->Bool)(l:List α):decide (0<=ko p l)=l.any p:=by
 induction l with
 | nil=>rfl
 | cons y l ih=>
  have:=JK p l;rw[List.any_cons,<-ih];show decide (0<=if p y=true then 0 else if ko p l<0 then -1 else ko p l+1)=_;cases p y
  ·by_cases h:ko p l<0
   ·rw[if_neg (by simp),if_pos h,decide_eq_false (by omega),decide_eq_false (by omega)];rfl
   ·rw[if_neg (by simp),if_neg h,decide_eq_true (by omega),decide_eq_true (by omega)];rfl
  ·simp
theorem xT(A:Option Addr)(n c:Nat)(l:List ByteArray)(w:World)(hr:wu w A n l)(hn:n<=maxLen)  :
  Calls prog 208 #[.slice A n c,.func (.func 202) #[] #[]] w fun e w'=>e=.returned (.int .i64 (ko (fun s=>!dX s) l))/\Below w.heap.size w w':=by
 unfold maxLen at hn;have H1:=zH hr.len;go_enter func208,ntmps208;go_wp2_with fail
 go_loopw [8] (fun i wr=>∃k:Nat,k<=n/\i=.int .i64 k/\(∀j y,j<k->l[j]?=some y->(fun s=>!dX s) y=false)/\Below w.heap.size w wr) (fun i _=>n-(intOf i).toNat)
 case atStart=>exact⟨0,Nat.zero_le _,rfl,fun j y hj=>by omega,Below.refl _ _⟩
 case round=>
  obtain⟨k,hk,rfl,dt,hb⟩:=hrel;have Hno:=zH dt;clear dt;by_cases aU:k<n
  ·obtain⟨ad,s,rfl,mA,hc⟩:=(hr.below hb).at_ aU;cases lA:dX s with
   | false=>
    have Hix:=zH (wO (fun s=>!dX s) l k s mA (by rw[lA];rfl) Hno.out);clear mA;go_wp2_with fail;refine(qg _ _).mono ?_;rintro e w' ⟨rfl,bs⟩;rw[lA]
    go_wp2
    go_ret;exact⟨by rw[Hix.out];rfl,ab hb bs zl⟩
   | true=>
    have Hst:=zH (show ∀j y,j<k+1->l[j]?=some y->(fun s=>!dX s) y=false from fun j y hj hy=>by
     rcases Nat.lt_or_ge j k with h|h
     ·exact Hno.out j y h hy
     ·obtain rfl:j=k:=by omega
      obtain rfl:s=y:=Option.some.inj (mA.symm.trans hy);show(!dX s)=false;rw[lA];rfl)
    clear mA;go_wp2_with fail;refine(qg _ _).mono ?_;rintro e w' ⟨rfl,bs⟩;rw[lA]
    go_wp2
    go_roundw
    case rel=>exact⟨k+1,by omega,by go_num,Hst.out,ab hb bs zl⟩
    case measure=>simp[intOf];omega
  ·obtain rfl:k=n:=by omega
   have Hix:=zH (pG (fun s=>!dX s) l (fun j y hy=>Hno.out j y (by rw[<-H1.out];exact(List.getElem?_eq_some_iff.1 hy).1) hy))
   go_wp2
   go_ret;exact⟨by rw[Hix.out];rfl,hb⟩
theorem Ai(A:Option Addr)(n c:Nat)(l:List ByteArray)(w:World)(hr:wu w A n l)(hn:n<=maxLen)  :
  Calls prog 201 #[.slice A n c,.func (.func 202) #[] #[]] w fun e w'=>e=.returned (.bool (l.any fun s=>!dX s))/\Below w.heap.size w w':=by
 have Hix:=zH (ry (fun s=>!dX s) l);go_enter func201,ntmps201;go_wp2_with fail;refine(xT _ _ _ _ _ hr hn).mono ?_;rintro e w' ⟨rfl,hb⟩;generalize ko (fun s=>!dX s) l=ix at *
 go_wp2
 go_ret;exact⟨by rw[<-Hix.out];rfl,hb⟩
def ek(p:List ByteArray):Bool:=decide (p.length<=3)&&!(p.any fun s=>!dX s)
theorem rz{p:List ByteArray}(h:ek p=true):p.length<=3:=by
 unfold ek at h;rw[Bool.and_eq_true,decide_eq_true_eq]at h;exact h.1
theorem pi{p:List ByteArray}(h:ek p=true):∀s∈p,dX s=true:=fun s hs=>by
 unfold ek at h;rw[Bool.and_eq_true,Bool.not_eq_true']at h;cases hn:dX s with
 | true=>rfl
 | false=>
  have h1:(p.any fun s=>!dX s)=true:=List.any_eq_true.2 ⟨s,hs,by rw[hn];rfl⟩;rw[h.2]at h1;cases h1
theorem xk(A:Option Addr)(n c:Nat)(l:List ByteArray)(w:World)(hr:wu w A n l)(hn:n<=maxLen) :
  Calls prog 193 #[.slice A n c] w fun e w'=>e=.returned (.bool (ek l))/\Below w.heap.size w w':=by
 have H1:=zH hr.len;by_cases h3:n<=3
 ·have hm:=zH (show ek l=!(l.any fun s=>!dX s) by unfold ek;rw[decide_eq_true (by rw[H1.out];exact h3)];rfl);go_enter func193,ntmps193;go_wp2_with fail;refine(Ai _ _ _ _ _ hr hn).mono ?_;rintro e w' ⟨rfl,hb⟩
  go_wp2
  go_ret;exact⟨by rw[hm.out];rfl,hb⟩
 ·have hm:=zH (show ek l=false by unfold ek;rw[decide_eq_false (by rw[H1.out];exact h3)];rfl);have h4:decide ((n:Int)<=3)=false:=by simp;omega
  go_enter func193,ntmps193;go_wp2_with fail;go_ret;exact⟨by rw[hm.out];rfl,Below.refl _ _⟩
theorem jF(A:Option Addr)(n c:Nat)(l:List ByteArray)(w:World)(hr:wu w A n l)(hn:n<=maxLen) :
  Calls prog 189 #[.slice A n c] w fun e w'=>e=.returned (.bool (ek l))/\w=w':=by
 unfold maxLen at hn;have H1:=zH hr.len;by_cases h3:3<n
 ·have hm:=zH (show ek l=false by unfold ek;rw[decide_eq_false (by rw[H1.out];omega)];rfl);go_enter func189,ntmps189;go_wp2_with fail;go_ret;exact⟨by rw[hm.out];rfl,rfl⟩
 ·go_enter func189,ntmps189;go_wp2_with fail
  go_loop [3] (fun i=>∃k:Nat,k<=n/\i=.int .i64 k/\∀j s,j<k->l[j]?=some s->dX s=true) (fun i=>n-(intOf i).toNat)
  case atStart=>exact⟨0,Nat.zero_le _,rfl,fun j s hj=>by omega⟩
  case round=>
   obtain⟨k,hk,rfl,dt⟩:=hrel;have Hno:=zH dt;clear dt;by_cases aU:k<n
   ·obtain⟨ad,s,rfl,mA,hc⟩:=hr.at_ aU;cases lA:dX s with
    | false=>
     have hm:=zH (show ek l=false by
      cases h:ek l with
      | false=>rfl
      | true=>exact absurd (pi h s (List.mem_of_getElem? mA)) (by rw[lA];simp))
     clear mA;go_wp2_with fail;refine(ql _ _).mono ?_;rintro e w' ⟨rfl,rfl⟩;rw[lA]
     go_wp2
     go_ret;exact⟨by rw[hm.out];rfl,rfl⟩
    | true=>
     have Hst:=zH (show ∀j y,j<k+1->l[j]?=some y->dX y=true from fun j y hj hy=>by
      rcases Nat.lt_or_ge j k with h|h
      ·exact Hno.out j y h hy
      ·obtain rfl:j=k:=by omega
       obtain rfl:s=y:=Option.some.inj (mA.symm.trans hy);exact lA)
     clear mA;go_wp2_with fail;refine(ql _ _).mono ?_;rintro e w' ⟨rfl,rfl⟩;rw[lA]
     go_wp2
     go_round
     case rel=>exact⟨k+1,by omega,by go_num,Hst.out⟩
     case measure=>simp[intOf];omega
   ·obtain rfl:k=n:=by omega
    have hm:=zH (show ek l=true by
     unfold ek;rw[decide_eq_true (by rw[H1.out];omega),Bool.true_and,Bool.not_eq_true',List.any_eq_false];intro s hs;obtain⟨i,hi,e⟩:=List.getElem_of_mem hs;rw[Hno.out i s (by rw[<-H1.out];exact hi) (by rw[List.getElem?_eq_getElem hi,e])];simp)
    go_wp2
    go_ret;exact⟨by rw[hm.out];rfl,rfl⟩
def iD(z:Int):Bool:=decide (-2305843009213693952<=z)&&decide (z<=2305843009213693952)
theorem Gv(z:Int)(w:World):Calls prog 196 #[.int .i64 z] w fun e w'=>e=.returned (.bool (iD z))/\w=w':=by
 unfold iD;by_cases h:-2305843009213693952<=z
 ·go_enter func196,ntmps196;go_wp2_with fail;go_ret;exact⟨by simp[h],rfl⟩
 ·go_enter func196,ntmps196;go_wp2_with fail;go_ret;exact⟨by simp;omega,rfl⟩
theorem tv(z:Int)(w:World):Calls prog 195 #[.int .i64 z] w fun e w'=>e=.returned (.bool (!iD z))/\w=w':=by
 go_enter func195,ntmps195;go_wp2_with fail;refine(Gv _ _).mono ?_;rintro e w' ⟨rfl,rfl⟩;obtain⟨b,hb⟩:=zN (iD z);rw[hb];have Hb:=zH hb;clear hb
 go_wp2
 go_ret;exact⟨by rw[Hb.out];rfl,rfl⟩
theorem Bm(A:Option Addr)(n c:Nat)(l:List Int)(w:World)(hr:fB w A n l)(hn:n<=maxLen)  :
  Calls prog 204 #[.slice A n c,.func (.func 195) #[] #[]] w fun e w'=>e=.returned (.int .i64 (ko (fun z:Int=>!iD z) l))/\w=w':=by
 unfold maxLen at hn;have H1:=zH hr.len;go_enter func204,ntmps204;go_wp2_with fail
 go_loop [8] (fun i=>∃k:Nat,k<=n/\i=.int .i64 k/\(∀j y,j<k->l[j]?=some y->(fun z:Int=>!iD z) y=false)) (fun i=>n-(intOf i).toNat)
 case atStart=>exact⟨0,Nat.zero_le _,rfl,fun j y hj=>by omega⟩
 case round=>
  obtain⟨k,hk,rfl,dt⟩:=hrel;have Hno:=zH dt;clear dt;by_cases aU:k<n
  ·obtain⟨ad,rfl,hc⟩:=hr.at_ aU;have mA:l[k]?=some (l[k]?.getD 0):=by rw[List.getElem?_eq_getElem (by rw[H1.out];exact aU)];rfl
   generalize l[k]?.getD 0=s at *;cases lA:!iD s with
   | true=>
    have Hix:=zH (wO (fun z:Int=>!iD z) l k s mA lA Hno.out);clear mA;go_wp2_with fail;refine(tv _ _).mono ?_;rintro e w' ⟨rfl,rfl⟩;rw[lA]
    go_wp2
    go_ret;exact⟨by rw[Hix.out];rfl,rfl⟩
   | false=>
    have Hst:=zH (show ∀j y,j<k+1->l[j]?=some y->(fun z:Int=>!iD z) y=false from fun j y hj hy=>by
     rcases Nat.lt_or_ge j k with h|h
     ·exact Hno.out j y h hy
     ·obtain rfl:j=k:=by omega
      obtain rfl:s=y:=Option.some.inj (mA.symm.trans hy);exact lA)
    clear mA;go_wp2_with fail;refine(tv _ _).mono ?_;rintro e w' ⟨rfl,rfl⟩;rw[lA]
    go_wp2
    go_round
    case rel=>exact⟨k+1,by omega,by go_num,Hst.out⟩
    case measure=>simp[intOf];omega
  ·obtain rfl:k=n:=by omega
   have Hix:=zH (pG (fun z:Int=>!iD z) l (fun j y hy=>Hno.out j y (by rw[<-H1.out];exact(List.getElem?_eq_some_iff.1 hy).1) hy))
   go_wp2
   go_ret;exact⟨by rw[Hix.out];rfl,rfl⟩
theorem AX(A:Option Addr)(n c:Nat)(l:List Int)(w:World)(hr:fB w A n l)(hn:n<=maxLen)  :
  Calls prog 194 #[.slice A n c,.func (.func 195) #[] #[]] w fun e w'=>e=.returned (.bool (l.any fun z:Int=>!iD z))/\w=w':=by
 have Hix:=zH (ry (fun z:Int=>!iD z) l);go_enter func194,ntmps194;go_wp2_with fail;refine(Bm _ _ _ _ _ hr hn).mono ?_;rintro e w' ⟨rfl,rfl⟩;generalize ko (fun z:Int=>!iD z) l=ix at *
 go_wp2
 go_ret;exact⟨by rw[<-Hix.out];rfl,rfl⟩
theorem uq(z:Int)(w:World):Calls prog 198 #[.int .i64 z,.int .i64 2305843009213693952] w fun e w'=>e=.returned (.bool (iD z))/\w=w':=by
 unfold iD;by_cases h:-2305843009213693952<=z
 ·go_enter func198,ntmps198;go_wp2_with fail;go_ret;exact⟨by simp[h],rfl⟩
 ·go_enter func198,ntmps198;go_wp2_with fail;go_ret;exact⟨by simp;omega,rfl⟩
theorem uf(A:Option Addr)(n c:Nat)(l:List Int)(w:World)(hr:fB w A n l)(hn:n<=maxLen) :
  Calls prog 188 #[.int .i64 n,.slice A n c] w fun e w'=>e=.returned (.bool (!(l.any fun z:Int=>!iD z)))/\w=w':=by
 unfold maxLen at hn;have H1:=zH hr.len;go_enter func188,ntmps188;go_wp2_with fail
 go_loop [5] (fun i=>∃k:Nat,k<=n/\i=.int .i64 k/\(∀j y,j<k->l[j]?=some y->(fun z:Int=>!iD z) y=false)) (fun i=>n-(intOf i).toNat)
 case atStart=>exact⟨0,Nat.zero_le _,rfl,fun j y hj=>by omega⟩
 case round=>
  obtain⟨k,hk,rfl,dt⟩:=hrel;have Hno:=zH dt;clear dt;by_cases aU:k<n
  ·obtain⟨ad,rfl,hc⟩:=hr.at_ aU;have mA:l[k]?=some (l[k]?.getD 0):=by rw[List.getElem?_eq_getElem (by rw[H1.out];exact aU)];rfl
   generalize l[k]?.getD 0=s at *;cases lA:iD s with
   | false=>
    have Hix:=zH (show(!(l.any fun z:Int=>!iD z))=false by rw[List.any_eq_true.2 ⟨s,List.mem_of_getElem? mA,by rw[lA];rfl⟩];rfl);clear mA;go_wp2_with fail;refine(uq _ _).mono ?_;rintro e w' ⟨rfl,rfl⟩;rw[lA]
    go_wp2
    go_ret;exact⟨by rw[Hix.out];rfl,rfl⟩
   | true=>
    have Hst:=zH (show ∀j y,j<k+1->l[j]?=some y->(fun z:Int=>!iD z) y=false from fun j y hj hy=>by
     rcases Nat.lt_or_ge j k with h|h
     ·exact Hno.out j y h hy
     ·obtain rfl:j=k:=by omega
      obtain rfl:s=y:=Option.some.inj (mA.symm.trans hy);show(!iD s)=false;rw[lA];rfl)
    clear mA;go_wp2_with fail;refine(uq _ _).mono ?_;rintro e w' ⟨rfl,rfl⟩;rw[lA]
    go_wp2
    go_round
    case rel=>exact⟨k+1,by omega,by go_num,Hst.out⟩
    case measure=>simp[intOf];omega
  ·obtain rfl:k=n:=by omega
   have Hix:=zH (show(l.any fun z:Int=>!iD z)=false by
    rw[List.any_eq_false];intro s hs;obtain⟨i,hi,e⟩:=List.getElem_of_mem hs;have h1:(!iD s)=false:=Hno.out i s (by rw[<-H1.out];exact hi) (by rw[List.getElem?_eq_getElem hi,e]);rw[h1];simp)
   go_wp2
   go_ret;exact⟨by rw[Hix.out];rfl,rfl⟩
section
variable {S:Nat->Prop}{w:World}{v:Value}
theorem fJ.form{l:List Int}(h:fJ S w v l):∃A n c,v=.slice A n c/\n<=c/\c<=maxLen/\l.length=n:=by
 obtain⟨A,c,e,_,h1,h2,_⟩:=h;exact⟨A,_,c,e,h1,h2,rfl⟩
theorem fJ.rd{A:Option Addr}{n c:Nat}{l:List Int}(h:fJ S w (.slice A n c) l):fB w A n l:=by
 obtain⟨A',c',e,h1,_⟩:=h;injection e with e1 e2 e3;subst e1;subst e2;exact h1
theorem gm.form{p:List ByteArray}(h:gm S w v p):∃A n c,v=.slice A n c/\n<=c/\c<=maxLen/\p.length=n:=by
 obtain⟨A,c,e,_,h1,h2,_⟩:=h;exact⟨A,_,c,e,h1,h2,rfl⟩
theorem gm.rd{A:Option Addr}{n c:Nat}{p:List ByteArray}(h:gm S w (.slice A n c) p):wu w A n p:=by
 obtain⟨A',c',e,h1,_⟩:=h;injection e with e1 e2 e3;subst e1;subst e2;exact h1
theorem dS.form{ps:List (List ByteArray)}(h:dS S w v ps):∃A n c,v=.slice A n c/\n<=c/\c<=maxLen/\ps.length=n:=by
 obtain⟨_,⟨A,c,e,_,h1,h2,_⟩,_⟩:=h;exact⟨A,_,c,e,h1,h2,rfl⟩
theorem dS.at_{A:Option Addr}{n c k:Nat}{ps:List (List ByteArray)}(h:dS S w (.slice A n c) ps)(hk:k<n) :
  ∃ad p B m d,A=some ad/\ps[k]?=some p/\w.cell? (ad.add k)=some (.slice B m d)/\gm S w (.slice B m d) p/\m<=d/\d<=maxLen/\p.length=m:=by
 obtain⟨vs,⟨A',c',e,hr,_⟩,h2⟩:=h;injection e with e1 e2 e3;subst e1;subst e2;obtain⟨ad,rfl,hc⟩:=hr.2 (by omega);obtain⟨u,hu,hp⟩:=h2 k _ (List.getElem?_eq_getElem hk);obtain⟨B,m,d,rfl,h3,h4,h5⟩:=hp.form;exact⟨ad,_,B,m,d,rfl,List.getElem?_eq_getElem hk,hc k _ hu,hp,h3,h4,h5⟩
theorem aG.form{fs:List Fa}(h:aG S w v fs):∃A n c,v=.slice A n c/\n<=c/\c<=maxLen/\fs.length=n:=by
 obtain⟨_,⟨A,c,e,_,h1,h2,_⟩,_⟩:=h;exact⟨A,_,c,e,h1,h2,rfl⟩
theorem ml(ad:Addr)(i:Nat)(hi:0<i):ad.add i=⟨ad.block,ad.off+i,none⟩:=by
 unfold Addr.add;rw[if_neg (by omega)]
theorem aG.at_{A:Option Addr}{n c k:Nat}{fs:List Fa}(h:aG S w (.slice A n c) fs)(hk:k<n) :
  ∃ad f B m d C q r,A=some ad/\fs[k]?=some f/\w.cell? (ad.add (k*2))=some (.slice B m d)/\w.cell? ⟨(ad.add (k*2)).block,(ad.add (k*2)).off+1,none⟩=some (.slice C q r)/\dS S w (.slice B m d) f.paths/\fJ S w (.slice C q r) f.vals/\
   m<=d/\d<=maxLen/\f.paths.length=m/\q<=r/\r<=maxLen/\f.vals.length=q:=by
 obtain⟨ys,⟨A',c',e,hr,_⟩,hl,h2⟩:=h;injection e with e1 e2 e3;subst e1;subst e2;obtain⟨ad,rfl,hc⟩:=hr.2 (by omega);obtain⟨⟨y1,y2⟩,hy,hp,hi⟩:=h2 k _ (List.getElem?_eq_getElem hk);obtain⟨B,m,d,e1,h3,h4,h5⟩:=hp.form;obtain⟨C,q,r,e2,h6,h7,h8⟩:=hi.form;obtain rfl:y1=_:=e1;obtain rfl:y2=_:=e2;have c0:=hc (k*2+0) _ ((eo wJ (j:=0) (by omega) hy).trans rfl);have c1:=hc (k*2+1) _ ((eo wJ (j:=1) (by omega) hy).trans rfl);rw[<-gY,ml _ 1 (by omega)]at c1;exact⟨ad,_,B,m,d,C,q,r,rfl,List.getElem?_eq_getElem hk,c0,c1,hp,hi,h3,h4,h5,h6,h7,h8⟩
end
theorem pT(A:Option Addr)(n c:Nat)(l:List ByteArray)(w:World)(hr:wu w A n l)(hn:n<=maxLen) :
  Calls prog 192 #[.slice A n c] w fun e w'=>e=.returned (.bool (!ek l))/\Below w.heap.size w w':=by
 go_enter func192,ntmps192;go_wp2_with fail;refine(xk _ _ _ _ _ hr hn).mono ?_;rintro e w' ⟨rfl,hb⟩;obtain⟨b,jH⟩:∃b,ek l=b:=⟨_,rfl⟩;rw[jH];have Hb:=zH jH;clear jH
 go_wp2
 go_ret;exact⟨by rw[Hb.out];rfl,hb⟩
theorem zu(A:Option Addr)(n c:Nat)(S:Nat->Prop)(l:List (List ByteArray))(w:World)(hr:dS S w (.slice A n c) l)(hn:n<=maxLen)  :
  Calls prog 200 #[.slice A n c,.func (.func 192) #[] #[]] w fun e w'=>e=.returned (.int .i64 (ko (fun s=>!ek s) l))/\Below w.heap.size w w':=by
 unfold maxLen at hn;have H1:=zH (show l.length=n by obtain⟨_,_,_,e,_,_,h⟩:=hr.form;injection e with _ e;rw[h,<-e]);go_enter func200,ntmps200;go_wp2_with fail
 go_loopw [8] (fun i wr=>∃k:Nat,k<=n/\i=.int .i64 k/\(∀j y,j<k->l[j]?=some y->(fun s=>!ek s) y=false)/\Below w.heap.size w wr) (fun i _=>n-(intOf i).toNat)
 case atStart=>exact⟨0,Nat.zero_le _,rfl,fun j y hj=>by omega,Below.refl _ _⟩
 case round=>
  obtain⟨k,hk,rfl,dt,hb⟩:=hrel;have Hno:=zH dt;clear dt;by_cases aU:k<n
  ·obtain⟨ad,s,B,m,d,rfl,mA,hc,hp,vw,Fb,_⟩:=(hr.keep (bz.below (hb))).at_ aU;cases lA:ek s with
   | false=>
    have Hix:=zH (wO (fun s=>!ek s) l k s mA (by rw[lA];rfl) Hno.out);clear mA;go_wp2_with fail;refine(pT _ _ _ _ _ hp.rd (Nat.le_trans vw Fb)).mono ?_;rintro e w' ⟨rfl,bs⟩;rw[lA]
    go_wp2
    go_ret;exact⟨by rw[Hix.out];rfl,ab hb bs zl⟩
   | true=>
    have Hst:=zH (show ∀j y,j<k+1->l[j]?=some y->(fun s=>!ek s) y=false from fun j y hj hy=>by
     rcases Nat.lt_or_ge j k with h|h
     ·exact Hno.out j y h hy
     ·obtain rfl:j=k:=by omega
      obtain rfl:s=y:=Option.some.inj (mA.symm.trans hy);show(!ek s)=false;rw[lA];rfl)
    clear mA;go_wp2_with fail;refine(pT _ _ _ _ _ hp.rd (Nat.le_trans vw Fb)).mono ?_;rintro e w' ⟨rfl,bs⟩;rw[lA]
    go_wp2
    go_roundw
    case rel=>exact⟨k+1,by omega,by go_num,Hst.out,ab hb bs zl⟩
    case measure=>simp[intOf];omega
  ·obtain rfl:k=n:=by omega
   have Hix:=zH (pG (fun s=>!ek s) l (fun j y hy=>Hno.out j y (by rw[<-H1.out];exact(List.getElem?_eq_some_iff.1 hy).1) hy))
   go_wp2
   go_ret;exact⟨by rw[Hix.out];rfl,hb⟩
theorem xR(A:Option Addr)(n c:Nat)(S:Nat->Prop)(l:List (List ByteArray))(w:World)(hr:dS S w (.slice A n c) l)(hn:n<=maxLen)  :
  Calls prog 191 #[.slice A n c,.func (.func 192) #[] #[]] w fun e w'=>e=.returned (.bool (l.any fun s=>!ek s))/\Below w.heap.size w w':=by
 have Hix:=zH (ry (fun s=>!ek s) l);go_enter func191,ntmps191;go_wp2_with fail;refine(zu _ _ _ _ _ _ hr hn).mono ?_;rintro e w' ⟨rfl,hb⟩;generalize ko (fun s=>!ek s) l=ix at *
 go_wp2
 go_ret;exact⟨by rw[<-Hix.out];rfl,hb⟩
def eP(f:Fa):Bool:=!(f.paths.any fun p=>!ek p)&&(!(f.vals.any fun z:Int=>!iD z)&&(decide (f.paths.length<=3)&&decide (f.vals.length<=2)))
theorem BO(S:Nat->Prop)(A B:Option Addr)(n c m d:Nat)(f:Fa)(w:World)(hp:dS S w (.slice A n c) f.paths)(hv:fJ S w (.slice B m d) f.vals)(hn:n<=maxLen)(hm:m<=maxLen) :
  Calls prog 185 #[.agg #[.slice A n c,.slice B m d]] w fun e w'=>e=.returned (.bool (eP f))/\Below w.heap.size w w':=by
 have jA:Below w.heap.size w (w.alloc (.cells #[.slice A n c,.slice B m d] 191)):=zb.alloc zl _;have dv:=ar.new w 191 #[.slice A n c,.slice B m d];have Bh:=hp.keep (bz.below (S:=S) jA);have aS:=hv.keep (bz.below (S:=S) jA);have H1:=zH (show f.paths.length=n by obtain⟨_,_,_,e,_,_,h⟩:=hp.form;injection e with _ e;rw[h,<-e]);have H2:=zH (show f.vals.length=m by obtain⟨_,_,_,e,_,_,h⟩:=hv.form;injection e with _ e;rw[h,<-e]);go_enter func185,ntmps185;go_wp2_with fail;generalize w.alloc (.cells #[.slice A n c,.slice B m d] 191)=w0 at *;refine(xR _ _ _ _ _ _ Bh hn).mono ?_;rintro e w1 ⟨rfl,bs⟩;have gC:=(dv.kept bs).cell 1;have bH:=aS.keep (bz.below (S:=S) bs);have iM:=jA.trans (bs.mono jA.size);simp only[Zx]at gC;have fX:=(dv.kept bs).cell 0;simp only[List.getElem?_toArray,List.getElem?_cons_zero]at fX;obtain⟨b1,nR⟩:∃b,(f.paths.any fun p=>!ek p)=b:=⟨_,rfl⟩;rw[nR];have HB1:=zH nR;clear nR;go_wp2_with fail;refine(AX _ _ _ _ _ bH.rd hm).mono ?_;rintro e w2 ⟨rfl,rfl⟩;obtain⟨b2,xx⟩:∃b,(f.vals.any fun z:Int=>!iD z)=b:=⟨_,rfl⟩;rw[xx];have HB2:=zH xx;clear xx;have HF:=zH (show eP f=(!b1&&(!b2&&(decide (n<=3)&&decide (m<=2)))) by unfold eP;rw[HB1.out,HB2.out,H1.out,H2.out]);have H5:=zH (show decide ((m:Int)<=2)=decide (m<=2)from decide_eq_decide.2 (by omega));cases b1 with
 | true=>
  go_wp2_with fail;go_ret;exact⟨by rw[HF.out];rfl,iM⟩
 | false=>
  cases b2 with
  | true=>
   go_wp2_with fail;go_ret;exact⟨by rw[HF.out];rfl,iM⟩
  | false=>
   by_cases h3:n<=3
   ·go_wp2_with fail;go_ret;exact⟨by rw[HF.out,decide_eq_true h3];exact tf H5.out,iM⟩
   ·have h4:decide ((n:Int)<=3)=false:=by simp;omega
    go_wp2_with fail;go_ret;exact⟨by rw[HF.out,decide_eq_false h3];rfl,iM⟩
theorem vR(S:Nat->Prop)(A B:Option Addr)(n c m d:Nat)(f:Fa)(w:World)(hp:dS S w (.slice A n c) f.paths)(hv:fJ S w (.slice B m d) f.vals)(hn:n<=maxLen)(hm:m<=maxLen) :
  Calls prog 176 #[.agg #[.slice A n c,.slice B m d]] w fun e w'=>e=.returned (.bool (eP f))/\Below w.heap.size w w':=by
 have jA:Below w.heap.size w (w.alloc (.cells #[.slice A n c,.slice B m d] 191)):=zb.alloc zl _;have dv:=ar.new w 191 #[.slice A n c,.slice B m d];have Bh:=hp.keep (bz.below (S:=S) jA);have aS:=hv.keep (bz.below (S:=S) jA);have H1:=zH (show f.paths.length=n by obtain⟨_,_,_,e,_,_,h⟩:=hp.form;injection e with _ e;rw[h,<-e]);have H2:=zH (show f.vals.length=m by obtain⟨_,_,_,e,_,_,h⟩:=hv.form;injection e with _ e;rw[h,<-e]);obtain⟨fX,gC,-⟩:=dv.cs [0,1];simp only[Zx]at fX gC;unfold maxLen at hn hm;go_enter func176,ntmps176;go_wp2_with fail;generalize w.alloc (.cells #[.slice A n c,.slice B m d] 191)=w0 at *;refine(uf _ _ _ _ _ aS.rd (by unfold maxLen;exact hm)).mono ?_;rintro e w1 ⟨rfl,rfl⟩;obtain⟨b2,xx⟩:∃b,(f.vals.any fun z:Int=>!iD z)=b:=⟨_,rfl⟩;rw[xx];have HB2:=zH xx;clear xx;have HF:=zH (show eP f=(!(f.paths.any fun p=>!ek p)&&(!b2&&(decide (n<=3)&&decide (m<=2)))) by unfold eP;rw[HB2.out,H1.out,H2.out]);cases b2 with
 | true=>
  have HF:=zH (HF.out.trans (show _=false by simp));go_wp2_with fail;go_ret;exact⟨by rw[HF.out];rfl,jA⟩
 | false=>
  by_cases h2:2<m
  ·have HF:=zH (HF.out.trans (show _=false by rw[decide_eq_false (show ¬m<=2 by omega)];simp));go_wp2_with fail;go_ret;exact⟨by rw[HF.out];rfl,jA⟩
  ·by_cases h3:3<n
   ·have HF:=zH (HF.out.trans (show _=false by rw[decide_eq_false (show ¬n<=3 by omega)];simp));go_wp2_with fail;go_ret;exact⟨by rw[HF.out];rfl,jA⟩
   ·have HG:=zH (HF.out.trans (show _=!(f.paths.any fun p=>!ek p) by rw[decide_eq_true (show n<=3 by omega),decide_eq_true (show m<=2 by omega)];simp));go_wp2_with fail
    go_loop [4] (fun i=>∃k:Nat,k<=n/\i=.int .i64 k/\(∀j y,j<k->f.paths[j]?=some y->(fun p=>!ek p) y=false)) (fun i=>n-(intOf i).toNat)
    case atStart=>exact⟨0,Nat.zero_le _,rfl,fun j y hj=>by omega⟩
    case round=>
     obtain⟨k,hk,rfl,dt⟩:=hrel;have Hno:=zH dt;clear dt;by_cases aU:k<n
     ·obtain⟨ad,p,B',m',d',rfl,mA,hc,RQ,vw,Fb,_⟩:=Bh.at_ aU;cases lA:ek p with
      | false=>
       have Hix:=zH (show(!(f.paths.any fun p=>!ek p))=false by rw[List.any_eq_true.2 ⟨p,List.mem_of_getElem? mA,by rw[lA];rfl⟩];rfl);clear mA;go_wp2_with fail;refine(jF _ _ _ _ _ RQ.rd (Nat.le_trans vw Fb)).mono ?_;rintro e w' ⟨rfl,rfl⟩;rw[lA];go_wp2_with fail;go_ret;exact⟨by rw[HG.out,Hix.out];rfl,jA⟩
      | true=>
       have Hst:=zH (show ∀j y,j<k+1->f.paths[j]?=some y->(fun p=>!ek p) y=false from fun j y hj hy=>by
        rcases Nat.lt_or_ge j k with h|h
        ·exact Hno.out j y h hy
        ·obtain rfl:j=k:=by omega
         obtain rfl:p=y:=Option.some.inj (mA.symm.trans hy);show(!ek p)=false;rw[lA];rfl)
       clear mA;go_wp2_with fail;refine(jF _ _ _ _ _ RQ.rd (Nat.le_trans vw Fb)).mono ?_;rintro e w' ⟨rfl,rfl⟩;rw[lA];go_wp2_with fail
       go_round
       case rel=>exact⟨k+1,by omega,by go_num,Hst.out⟩
       case measure=>simp[intOf];omega
     ·obtain rfl:k=n:=by omega
      have Hix:=zH (show(!(f.paths.any fun p=>!ek p))=true by
       rw[Bool.not_eq_true',List.any_eq_false];intro s hs;obtain⟨i,hi,e⟩:=List.getElem_of_mem hs;have h1:(!ek s)=false:=Hno.out i s (by rw[<-H1.out];exact hi) (by rw[List.getElem?_eq_getElem hi,e]);rw[h1];simp)
      go_wp2_with fail;go_ret;exact⟨by rw[HG.out,Hix.out];rfl,jA⟩
theorem mz:(prog.info? 5).map (fun i=>(i.zero,i.size,i.bytes))=some (some (.int .u8 0),1,1):=by kernel_rfl
def Bx(B:Nat)(w:World)(v:Value)(n:Nat):Prop:=
 ∃xs,(∀u∈xs,u.oneCell'=true)/\((∃A,v=.slice A n n/\cn w 1 A n xs)\/w.ownsRow B 5 1 v n xs)
theorem Bx.below{B n:Nat}{w w':World}{v:Value}(h:Bx B w v n)(hb:Below w.heap.size w w'):Bx B w' v n:=by
 obtain⟨xs,h1,h2|h2⟩:=h
 ·obtain⟨A,e,hr⟩:=h2;exact⟨xs,h1,.inl ⟨A,e,hr.below hb⟩⟩
 ·exact⟨xs,h1,.inr (bf h2 hb)⟩
def By(B:Nat)(w:World)(v:Value)(n:Nat):Prop:=∃xs,(∀u∈xs,u.oneCell'=true)/\w.ownsRow B 5 1 v n xs
theorem By.bx{B n:Nat}{w:World}{v:Value}(h:By B w v n):Bx B w v n:=by
 obtain⟨xs,h1,h2⟩:=h;exact⟨xs,h1,.inr h2⟩
theorem By.mono{B B' n:Nat}{w:World}{v:Value}(h:By B w v n)(hb:B'<=B):By B' w v n:=by
 obtain⟨xs,h1,h2⟩:=h;exact⟨xs,h1,ed h2 hb⟩
theorem By.form{B n:Nat}{w:World}{v:Value}(h:By B w v n):∃A c,v=.slice A n c/\n<=c/\c<=maxLen/\∃xs,(∀u∈xs,u.oneCell'=true)/\cn w 1 A n xs:=by
 obtain⟨xs,h1,h2⟩:=h;obtain⟨A,c,rfl,h3,h4⟩:=rt h2;exact⟨A,c,rfl,h3,h4,xs,h1,cn.of_own h2⟩
def Bn(w:World)(v:Value)(n:Nat):Prop:=∃A c xs,v=.slice A n c/\n<=c/\c<=maxLen/\(∀u∈xs,u.oneCell'=true)/\cn w 1 A n xs
theorem By.bn{B n:Nat}{w:World}{v:Value}(h:By B w v n):Bn w v n:=by
 obtain⟨A,c,e,h1,h2,xs,h3,h4⟩:=h.form;exact⟨A,c,xs,e,h1,h2,h3,h4⟩
theorem Bn.nil(w:World):Bn w (.slice none 0 0) 0:=⟨none,0,[],rfl,Nat.le_refl _,Nat.zero_le _,fun _ h=>(by cases h),cn.none_⟩
theorem dF{w:World}{ops:Array Oper}{rest:List Oper}{o:Oper}{a:Act}{Q:Exit->Act->World->Prop}(kt:o.guard=none)(s x:Operand)
  (ho:o.op=.call {callee:=.builtin .append,args:=#[s,x],argTypes:=#[24,24]})
  (B:Nat) {v:Value} {n:Nat} (hs:a.eval s=v) (hv:Bx B w v n) (g:Nat) (u:Value) (hx:a.eval x=.slice (some ⟨g,0,none⟩) 1 1) (hg:ar w g 5 #[u]) (hu:u.oneCell'=true) (hb:n<=100000000) (hB:B<=w.heap.size)
  (h:∀v' w',By B w' v' (n+1)->Below B w w'->wpList prog ops Q rest (a.put o.dst v') w'):wpList prog ops Q (o::rest) a w:=by
 obtain⟨i0,iy,jK,iL,gL⟩:=info_parts mz;have hr:cn w 1 (some ⟨g,0,none⟩) 1 [u]:=⟨rfl,fun _=>⟨_,rfl,fun j y hy=>by
  have e:(⟨g,0,none⟩:Addr).add j=⟨g,j,none⟩:=by unfold Addr.add;split <;> simp[*]
  rw[e,hg.cell j,<-hy];simp⟩⟩
 obtain⟨xs,h1,h2|h2⟩:=hv
 ·obtain⟨A,rfl,dx⟩:=h2;have FX:A=none->n=0/\n=0:=fun e=>by
   rcases Nat.eq_zero_or_pos n with h0|h0
   ·exact⟨h0,h0⟩
   ·obtain⟨ad,e',_⟩:=dx.2 h0;rw[e]at e';cases e'
  refine wpList_append_grows w kt s x 24 ho 5 i0 _ 1 1 underlying24 iy jK iL gL rfl (by omega) A n n xs hs FX dx.1 (fun b hb j y hy=>?_) ⟨g,0,none⟩ 1 1 [u] hx rfl (fun j y hy=>?_) (fun y hy=>by rw[List.mem_singleton.1 hy];exact hu) (by omega) (by unfold maxLen;omega) (by omega) fun v' w' h3 h4=>h v' w' ⟨xs++[u],fun y hy=>?_,ed h3 hB⟩ (zb.grown h4 hB (fun k hk=>by cases hk))
  ·have hl:=(List.getElem?_eq_some_iff.1 hy).1;have h0:0<n:=by have:=dx.1;omega
   obtain⟨ad,e,hc⟩:=dx.2 h0;obtain rfl:=Option.some.inj (hb.symm.trans e);exact hc j y hy
  ·obtain⟨ad,e,hc⟩:=hr.2 (by omega);obtain rfl:=Option.some.inj e;exact hc j y hy
  ·rcases List.mem_append.1 hy with h5|h5
   ·exact h1 y h5
   ·rw[List.mem_singleton.1 h5];exact hu
 ·refine bb w kt s x 24 ho B 5 i0 _ 1 1 underlying24 iy jK iL gL rfl (by omega) v n xs hs h2 (some ⟨g,0,none⟩) 1 1 [u] hx hr (fun y hy=>by rw[List.mem_singleton.1 hy];exact hu) (by unfold maxLen;omega) (by omega) hB fun A' c' w' h3 h4 _=>h _ w' ⟨xs++[u],fun y hy=>?_,h3⟩ (eY h2 h4 hB)
  rcases List.mem_append.1 hy with h5|h5
  ·exact h1 y h5
  ·rw[List.mem_singleton.1 h5];exact hu
theorem Gn(A:Option Addr)(n c:Nat)(w:World)(hn:n<=c)(_:c<=maxLen) :
  Calls prog 175 #[.slice A n c] w fun e w'=>e=.returned (.slice A n n)/\w=w':=by
 go_enter func175,ntmps175;go_wp2_with fail;go_ret;exact⟨rfl,rfl⟩
theorem rQ(z:Int):∃x:Nat,IntKind.u64.wrap z=x/\x<18446744073709551616:=by
 rw[IntKind.wrap_u64];exact⟨(z%18446744073709551616).toNat,by omega,by omega⟩
theorem H6(op:BinOp)(x y:Int):∃m:Nat,bits op .u64 x y=m/\m<18446744073709551616:=by
 unfold bits;exact rQ _
theorem HP(x k:Nat)(h:x*128^k<18446744073709551616)(hx:128<=x):k+1<=9/\x/128*128^(k+1)<18446744073709551616:=by
 constructor
 ·rcases Nat.lt_or_ge k 9 with h1|h1
  ·exact h1
  ·exfalso
   have h2:128^9<=128^k:=Nat.pow_le_pow_right (by omega) h1;have h3:128*128^9<=x*128^k:=Nat.mul_le_mul hx h2;omega
 ·refine Nat.lt_of_le_of_lt ?_ h;rw[Nat.pow_succ,Nat.mul_comm (128^k) 128,<-Nat.mul_assoc];exact Nat.mul_le_mul_right _ (Nat.div_mul_le_self x 128)
theorem eh(v:Value)(n:Nat)(z:Int)(w:World)(hv:Bn w v n)(hn:n<=1000000) :
  Calls prog 156 #[v,.int .i64 z] w fun e w'=>∃v' n',e=.returned v'/\By w.heap.size w' v' n'/\n'<=n+10/\Below w.heap.size w w':=by
 obtain⟨A,c,xs,rfl,h1,h2,h3,h4⟩:=hv;have Sk:Bx w.heap.size w (.slice A n n) n:=⟨xs,h3,.inl ⟨A,rfl,h4⟩⟩;clear h4 h3;obtain⟨x0,Kx,jq⟩:=rQ z;obtain⟨x1,om,cy⟩:=rQ (x0*2);obtain⟨x2,zm,dM⟩:=H6 .xor IntKind.u64.max x1;go_enter func156,ntmps156;go_wp2_with fail;refine wp_scope_jumps 0 (fun a' w'=>∃(k x:Nat) (v u6 u7 u8 u9 u10 u11 u12 u13 u14 u15 u16 u17 u18 u19 u20 u21 u22 u23 u24 u25 u26 u27 u28 u29:Value),a'={tmps:=#[v,.int .i64 z,undef,undef,.slice none 0 0,.int .u64 x,u6,u7,u8,u9,u10,u11,u12,u13,u14,u15,u16,u17,u18,u19,u20,u21,u22,u23,u24,u25,u26,u27,u28,u29],defers:=[]}/\k<=9/\x*128^k<18446744073709551616/\Bx w.heap.size w' v (n+k)/\Below w.heap.size w w') (fun a' _=>(intOf (a'.tmps.getD 5 undef)).toNat) rfl ?_ ?_
 ·go_wp2_with fail;refine(Gn _ _ _ _ h1 h2).mono ?_;rintro e w1 ⟨rfl,rfl⟩;have aI:=fun u:Value=>(Below.refl w.heap.size w).alloc zl (.cells #[u] 5)
  have vP:=fun u:Value=>Sk.below (aI u)
  have cz:=aI;by_cases hz:z<0
  ·have hx:x2*128^0<18446744073709551616:=by simp;omega
   go_wp2_with fail
   go_step3
   by_cases hg:128<=x2
   ·obtain⟨cl,GV⟩:=HP x2 0 hx hg;have HX:=zH GV;clear GV hx;go_wp2_with (at_builtin;refine dF rfl (.tmp 17) (.tmp 21) rfl w.heap.size rfl (vP _) w.heap.size _ rfl (ar.new _ _ _) rfl (by omega) (cz _).size ?_;intro v5 w5 cA cD)
    go_step3
    refine⟨rfl,1,x2/128,v5,_,_,_,_,_,_,_,_,_,_,_,_,_,_,_,_,_,_,_,_,_,_,_,_,rfl,by omega,HX.out,cA.bx,(cz _).trans cD⟩
   ·go_wp2_with (at_builtin;refine dF rfl (.tmp 25) (.tmp 28) rfl w.heap.size rfl (vP _) w.heap.size _ rfl (ar.new _ _ _) rfl (by omega) (cz _).size ?_;intro v5 w5 cA cD);simp only[Exit.jump];go_ret;exact⟨v5,_,rfl,cA,by omega,(cz _).trans cD⟩
  ·have hx:x1*128^0<18446744073709551616:=by simp;omega
   go_wp2_with fail
   go_step3
   by_cases hg:128<=x1
   ·obtain⟨cl,GV⟩:=HP x1 0 hx hg;have HX:=zH GV;clear GV hx;go_wp2_with (at_builtin;refine dF rfl (.tmp 17) (.tmp 21) rfl w.heap.size rfl (vP _) w.heap.size _ rfl (ar.new _ _ _) rfl (by omega) (cz _).size ?_;intro v5 w5 cA cD)
    go_step3
    refine⟨rfl,1,x1/128,v5,_,_,_,_,_,_,_,_,_,_,_,_,_,_,_,_,_,_,_,_,_,_,_,_,rfl,by omega,HX.out,cA.bx,(cz _).trans cD⟩
   ·go_wp2_with (at_builtin;refine dF rfl (.tmp 25) (.tmp 28) rfl w.heap.size rfl (vP _) w.heap.size _ rfl (ar.new _ _ _) rfl (by omega) (cz _).size ?_;intro v5 w5 cA cD);simp only[Exit.jump];go_ret;exact⟨v5,_,rfl,cA,by omega,(cz _).trans cD⟩
 ·rintro a' wr ⟨k,x,v,u6,u7,u8,u9,u10,u11,u12,u13,u14,u15,u16,u17,u18,u19,u20,u21,u22,u23,u24,u25,u26,u27,u28,u29,rfl,hk,hx,eK,hb⟩;have hxl:x<18446744073709551616:=by
   have:=Nat.le_mul_of_pos_right x (Nat.pow_pos (n:=k) (show 0<128 by omega));omega
  have aI:=fun u:Value=>(Below.refl wr.heap.size wr).alloc zl (.cells #[u] 5)
  have vP:=fun u:Value=>eK.below (aI u)
  have cz:=fun u:Value=>ab hb (aI u) zl
  by_cases hg:128<=x
  ·obtain⟨cl,om⟩:=HP x k hx hg;have HX:=zH om;clear om hx;go_wp2_with (at_builtin;refine dF rfl (.tmp 17) (.tmp 21) rfl w.heap.size rfl (vP _) wr.heap.size _ rfl (ar.new _ _ _) rfl (by omega) (cz _).size ?_;intro v5 w5 cA cD)
   go_step3
   refine⟨rfl,⟨k+1,x/128,v5,_,_,_,_,_,_,_,_,_,_,_,_,_,_,_,_,_,_,_,_,_,_,_,_,rfl,by omega,HX.out,cA.bx,(cz _).trans cD⟩,?_⟩;simp[intOf];omega
  ·go_wp2_with (at_builtin;refine dF rfl (.tmp 25) (.tmp 28) rfl w.heap.size rfl (vP _) wr.heap.size _ rfl (ar.new _ _ _) rfl (by omega) (cz _).size ?_;intro v5 w5 cA cD);simp only[Exit.jump];go_ret;exact⟨v5,_,rfl,cA,by omega,(cz _).trans cD⟩
section
open Go.Shelf
def Cz:Go.Shelf.Ren:=⟨fun|156=>197|165=>205|166=>206|169=>207|240=>209|241=>210|276=>211|277=>212|n=>n,fun|31=>193|9=>9|3=>3|4=>4|0=>0|20=>20|72=>238|76=>241|70=>236|37=>24|75=>240|127=>245|164=>246|5=>5|80=>243|n=>n,fun|n=>n⟩
theorem GM:Go.Proofs.Lays.n156 prog Cz:={
 mixed:=by kernel_rfl
 f156:=func197.trans (congrArg some (by kernel_rfl))
 f165:=func205.trans (congrArg some (by kernel_rfl))
 f166:=func206.trans (congrArg some (by kernel_rfl))
 f169:=func207.trans (congrArg some (by kernel_rfl))
 f240:=func209.trans (congrArg some (by kernel_rfl))
 f241:=func210.trans (congrArg some (by kernel_rfl))
 f276:=func211.trans (congrArg some (by kernel_rfl))
 f277:=func212.trans (congrArg some (by kernel_rfl))
 t0:=underlying0
 a0:=isAgg0
 z0:=sizeOf0
 v0:=zeroValue0
 t3:=underlying3
 a3:=isAgg3
 z3:=sizeOf3
 v3:=zeroValue3
 t4:=underlying4
 a4:=isAgg4
 z4:=sizeOf4
 v4:=zeroValue4
 t9:=underlying9
 a9:=isAgg9
 z9:=sizeOf9
 v9:=zeroValue9
 t20:=underlying20
 a20:=isAgg20
 z20:=sizeOf20
 v20:=zeroValue20
 t31:=underlying193
 a31:=isAgg193
 z31:=sizeOf193
 v31:=zeroValue193
 t37:=underlying24
 a37:=isAgg24
 z37:=sizeOf24
 v37:=zeroValue24
 t70:=underlying236
 a70:=isAgg236
 z70:=sizeOf236
 v70:=zeroValue236
 t72:=underlying238
 a72:=isAgg238
 z72:=sizeOf238
 v72:=zeroValue238
 t75:=underlying240
 a75:=isAgg240
 z75:=sizeOf240
 v75:=zeroValue240
 t76:=underlying241
 a76:=isAgg241
 z76:=sizeOf241
 v76:=zeroValue241
 t127:=underlying245
 a127:=isAgg245
 z127:=sizeOf245
 v127:=zeroValue245
 t164:=underlying246
 a164:=isAgg246
 z164:=sizeOf246
 v164:=zeroValue246}
theorem Ef:Builder.Extra prog Cz:={
 sizeBuilder:=by kernel_rfl
 liesBuilder:=by kernel_rfl
 t5:=underlying5
 a5:=isAgg5
 z5:=sizeOf5
 v5:=zeroValue5
 infoByte:=by kernel_rfl
 cellsByte:=by kernel_rfl
 sizeByte:=by kernel_rfl
 neB5:=by decide}
open Go.RowKit in
theorem wK (bk o c:Nat) (xs:List ByteArray) (sep:ByteArray) (w:World) (mj:∀(j:Nat) x,xs[j]?=some x->w.cell? ⟨bk,o+j,none⟩=some (.string x)) (gN:bk<w.heap.size) (hN:xs.length<=140737488355328) (Dl:xs.length<=c) (ah:(Lib.join (xs.map (·.data.toList)) sep.data.toList).length<=140737488355328) :
  Calls prog 197 #[.slice (some ⟨bk,o,none⟩) xs.length c,.string sep] w fun e w'=>e=.returned (.string ⟨(Lib.join (xs.map (·.data.toList)) sep.data.toList).toArray⟩)/\Below w.heap.size w w':=Any.strings_Join GM Ef bk o c xs sep w mj gN hN Dl ah
end
theorem Bn.below{n:Nat}{w w':World}{v:Value}(h:Bn w v n)(hb:Below w.heap.size w w'):Bn w' v n:=by
 obtain⟨A,c,xs,e,h1,h2,h3,h4⟩:=h;exact⟨A,c,xs,e,h1,h2,h3,cn.below h4 hb⟩
theorem BR(x:ByteArray)(r:List ByteArray)(h:∀s∈x::r,s.size<=12)(hl:(x::r).length<=3):(Lib.join ((x::r).map (·.data.toList)) (ByteArray.mk #[47]).data.toList).length<=38:=by
 rw[List.map_cons,Lib.join_length];have hs:∀(l:List ByteArray),(∀s∈l,s.size<=12)->Lib.lens (l.map (·.data.toList))<=12*l.length:=by
  intro l;induction l with
  | nil=>intro _;simp[Lib.lens]
  | cons a l ih=>
   intro h;have h1:=ih fun s hs=>h s (List.mem_cons_of_mem _ hs)
   have h2:=h a List.mem_cons_self;have h3:a.data.toList.length=a.size:=by rw[Array.length_toList];rfl
   simp only[Lib.lens,List.map_cons,List.sum_cons,List.length_cons]at *;omega
 have h1:=hs (x::r) h;simp only[List.map_cons,List.length_cons,List.length_map]at *;simp only[List.length_nil,Nat.zero_add,Nat.one_mul];omega
theorem GA(A:Option Addr)(n c:Nat)(p:List ByteArray)(w:World)(hr:wu w A n p)(hn:n<=c)(hp:ek p=true) :
  Calls prog 186 #[.slice A n c] w fun e w'=>∃s:ByteArray,e=.returned (.tuple #[.string s,.int .i64 0])/\s.size<=38/\Below w.heap.size w w':=by
 have hl:=hr.len;have h3:=rz hp;have tL:=pi hp;have AN:n<=3:=by omega
 have Em:n<=maxLen:=sW AN (by omega);cases p with
 | nil=>
  obtain rfl:n=0:=by simpa using hl.symm
  go_enter func186,ntmps186;go_wp2_with fail;refine(xk _ _ _ _ _ hr Em).mono ?_;rintro e w1 ⟨rfl,hb⟩;rw[hp];go_wp2_with fail
  go_ret2
  exact⟨_,rfl,by decide,hb⟩
 | cons x r=>
  have rD:0<n:=by simp at hl;omega
  obtain⟨ad,s0,rfl,Um,fX⟩:=hr.at_ rD;have hj:=BR x r (fun s hs=>rE (tL s hs)) h3;have hl:=zH hl;have QM:ad.spot=none:=by
   rw[nL]at fX;unfold World.cell? at fX;split at fX
   ·split at fX
    ·cases fX
    ·rename_i h;simpa using h
   ·cases fX
  obtain⟨bk,o,sp⟩:=ad;obtain rfl:sp=none:=QM;have gN:=aw fX;rw[dJ]at gN;have h0':decide (n=0)=false:=decide_eq_false (by omega);have aH:=fun w1 (hb:Below w.heap.size w w1)=>wK bk o c (x::r) ⟨#[47]⟩ w1 (fun j y hy=>by
   have hj:j<n:=by rw[<-hl.out];exact(List.getElem?_eq_some_iff.1 hy).1
   obtain⟨ad',s',e',VG,IF⟩:=(hr.below hb).at_ hj;obtain rfl:=Option.some.inj e';rw[hy]at VG;obtain rfl:=Option.some.inj VG;have ea:(⟨bk,o,none⟩:Addr).add j=⟨bk,o+j,none⟩:=by unfold Addr.add;split <;> simp[*]
   rwa [ea]at IF) (Nat.lt_of_lt_of_le gN hb.size) (by rw[hl.out];omega) (by rw[hl.out];exact hn) (Nat.le_trans hj (by omega))
  have gu:=zH (show(ByteArray.mk (Lib.join ((x::r).map (·.data.toList)) (ByteArray.mk #[47]).data.toList).toArray).size<=38 by show(Lib.join _ _).toArray.size<=38;rw[List.size_toArray];exact hj);generalize ByteArray.mk (Lib.join ((x::r).map (·.data.toList)) (ByteArray.mk #[47]).data.toList).toArray=s at *;rw[hl.out]at aH;have aH:=zH aH;clear hj fX Um;go_enter func186,ntmps186;go_wp2_with fail;refine(xk _ _ _ _ _ hr Em).mono ?_;rintro e w1 ⟨rfl,hb⟩;rw[hp];have Vq:((n:Int)==0)=false:=beq_eq_false_iff_ne.2 (by omega);go_wp2_with fail;refine(aH.out w1 hb).mono ?_;rintro e w2 ⟨rfl,bJ⟩;go_wp2_with fail
  go_ret2
  exact⟨_,rfl,gu.out,ab hb bJ zl⟩
theorem oa(s:ByteArray)(u:Value)(h:u∈Lib.strCells s):u.oneCell'=true:=by
 unfold Lib.strCells at h;obtain⟨b,_,rfl⟩:=List.mem_map.1 h;rfl
theorem yU(v:Value)(n:Nat)(s:ByteArray)(w:World)(hv:Bn w v n)(hn:n<=900000)(hs:s.size<=1000) :
  Calls prog 187 #[v,.string s] w fun e w'=>∃v' n',e=.returned v'/\By w.heap.size w' v' n'/\n'<=n+10+s.size/\Below w.heap.size w w':=by
 obtain⟨i0,iy,jK,iL,gL⟩:=info_parts mz;go_enter func187,ntmps187;go_wp2_with fail;refine(eh v n _ w hv (by omega)).mono ?_;rintro e w1 ⟨v1,n1,rfl,⟨xs,hx,aD⟩,iI,bs⟩;go_wp2_with (at_builtin;refine Lib.wpList_append_own_string _ rfl (.tmp 8) (.tmp 9) 24 9 rfl w.heap.size 5 i0 underlying24 underlying9 iy jK iL gL v1 n1 xs rfl aD s rfl (by unfold maxLen;omega) (by omega) bs.size ?_;intro v2 w2 cv tX _);go_ret;exact⟨v2,_,rfl,⟨_,fun u hu=>(List.mem_append.1 hu).elim (hx u) (oa s u),cv⟩,by omega,bs.trans (eY aD tX bs.size)⟩
def qK(fs:List Fa):Int:=if 8<fs.length then 13 else if fs.any (fun f=>!eP f)then 12 else 0
theorem kK{f:Fa}(h:eP f=true):(∀p∈f.paths,ek p=true)/\f.paths.length<=3/\f.vals.length<=2:=by
 unfold eP at h;simp only[Bool.and_eq_true,Bool.not_eq_true',decide_eq_true_eq,List.any_eq_false]at h;refine⟨fun p hp=>?_,h.2.2.1,h.2.2.2⟩;have:=h.1 p hp;simpa using this
theorem uo{fs:List Fa}(h:8<fs.length):qK fs=13:=if_pos h
theorem zh{fs:List Fa}{f:Fa}(h:¬8<fs.length)(hm:f∈fs)(hp:eP f=false):qK fs=12:=by
 unfold qK;rw[if_neg h,if_pos (List.any_eq_true.2 ⟨f,hm,by rw[hp];rfl⟩)]
theorem CL{fs:List Fa}(h:¬8<fs.length)(hp:∀f∈fs,eP f=true):qK fs=0:=by
 unfold qK;rw[if_neg h,if_neg];rw[List.any_eq_true];rintro⟨f,hf,h1⟩;rw[hp f hf]at h1;cases h1
theorem mC{S:Nat->Prop}{w:World}{A:Option Addr}{n c:Nat}{fs:List Fa}(h:aG S w (.slice A n c) fs):fs.length=n:=by
 obtain⟨_,_,_,e,_,_,h⟩:=h.form;injection e with _ e;rw[h,<-e]
theorem GN(S:Nat->Prop)(v:Value)(m:Nat)(A:Option Addr)(n c:Nat)(fs:List Fa)(w:World)(hv:Bn w v m)(hm:m<=10000)(hf:aG S w (.slice A n c) fs)(hn:n<=maxLen) :
  Calls prog 174 #[v,.slice A n c] w fun e w'=>∃v',e=.returned (.tuple #[v',.int .i64 (qK fs)])/\Below w.heap.size w w':=by
 have H1:=zH (mC hf);unfold maxLen at hn;by_cases h8:8<n
 ·have hE:=zH (uo (fs:=fs) (by rw[H1.out];exact h8));go_enter func174,ntmps174;go_wp2_with fail
  go_ret2
  exact⟨_,by rw[hE.out];rfl,Below.refl _ _⟩
 ·go_enter func174,ntmps174;go_wp2_with fail;refine(eh v m _ w hv (by omega)).mono ?_;rintro e w1 ⟨v1,n1,rfl,Sv,iI,bs⟩;go_wp2_with fail
  go_loopw [0,23] (fun b i wr=>∃(k q:Nat),k<=n/\i=.int .i64 k/\Bn wr b q/\q<=10010+200*k/\(∀j f,j<k->fs[j]?=some f->eP f=true)/\Below w.heap.size w wr) (fun _ i _=>n-(intOf i).toNat)
  case atStart=>exact⟨0,n1,Nat.zero_le _,rfl,Sv.bn,by omega,fun j f h=>by omega,bs⟩
  case round=>
   obtain⟨k,q,hk,rfl,fi,hq,dt,hb⟩:=hrel;have Hno:=zH dt;clear dt;by_cases aU:k<n
   ·obtain⟨ad,f,B,mp,d,C,mv,r,rfl,DW,c0,c1,hp,Oh,vw,Fb,mx,JU,KP,wN⟩:=(hf.keep (bz.below (S:=S) hb)).at_ aU;have aI:Below wr.heap.size wr (wr.alloc (.cells #[.slice B mp d,.slice C mv r] 191)):=zb.alloc zl _;have dv:=ar.new wr 191 #[.slice B mp d,.slice C mv r];have Fc:=hp.keep (bz.below (S:=S) aI);have bH:=Oh.keep (bz.below (S:=S) aI);have U8:=fi.below aI;have iM:=ab hb aI zl;have aP:=zH (show n-(k+1)<n-k by omega);have Hpl:=zH mx;have Hvl:=zH wN;clear mx wN;go_wp2_with fail;generalize wr.alloc (.cells #[.slice B mp d,.slice C mv r] 191)=w2 at *;generalize wr.heap.size=g at *;refine(BO _ _ _ _ _ _ _ f _ Fc bH (Nat.le_trans vw Fb) (Nat.le_trans JU KP)).mono ?_;rintro e w3 ⟨rfl,bS⟩;obtain⟨fX,gC,-⟩:=(dv.kept bS).cs [0,1];simp only[Zx]at fX gC;cases jv:eP f with
    | false=>
     have hE:=zH (zh (fs:=fs) (by rw[H1.out];exact h8) (List.mem_of_getElem? DW) jv);clear DW;go_wp2_with fail
     go_ret2
     exact⟨_,by rw[hE.out];rfl,ab iM bS zl⟩
    | true=>
     have Hst:=zH (show ∀j y,j<k+1->fs[j]?=some y->eP y=true from fun j y hj hy=>by
      rcases Nat.lt_or_ge j k with h|h
      ·exact Hno.out j y h hy
      ·obtain rfl:j=k:=by omega
       obtain rfl:f=y:=Option.some.inj (DW.symm.trans hy);exact jv)
     obtain⟨N8,Ex,fY⟩:=kK jv;rw[Hpl.out]at Ex;rw[Hvl.out]at fY;have Hps:=zH N8;clear DW jv N8;go_wp2_with fail;refine(eh _ q _ w3 (U8.below bS) (by omega)).mono ?_;rintro e w4 ⟨v4,n4,rfl,LW,Em,cz⟩;have tX:=dv.lt;have rZ:=ab bS cz zl;have OM:w4.cell? ⟨g,0,none⟩=some (.slice B mp d):=(rZ.cell (p:=⟨g,0,none⟩) tX).trans (by rw[<-fX];exact(bS.cell (p:=⟨g,0,none⟩) tX).symm);clear fX;have fX:=OM;have U6:=Fc.keep (bz.below (S:=S) rZ);have iN:=ab iM rZ zl;unfold maxLen at Fb;go_wp2_with fail
     go_loopw [0,38] (fun b i wr'=>∃(k' q':Nat),k'<=mp/\i=.int .i64 k'/\Bn wr' b q'/\q'<=n4+48*k'/\Below w4.heap.size w4 wr') (fun _ i _=>mp-(intOf i).toNat)
     case atStart=>exact⟨0,n4,Nat.zero_le _,rfl,LW.bn,by omega,Below.refl _ _⟩
     case round=>
      obtain⟨k',q',BK,rfl,Fn,PZ,jH⟩:=hrel;by_cases ku:k'<mp
      ·obtain⟨ad',p,B',m',d',rfl,jz,IF,xA,Qr,U7,NH⟩:=(U6.keep (bz.below (S:=S) jH)).at_ ku;have mO:=Hps.out p (List.mem_of_getElem? jz);have fM:=zH (show mp-(k'+1)<mp-k' by omega);clear jz NH;go_wp2_with fail;refine(GA _ _ _ p _ xA.rd Qr mO).mono ?_;rintro e w5 ⟨s,rfl,hs,cD⟩;go_wp2_with fail;refine(yU _ q' s _ (Fn.below cD) (by omega) (by omega)).mono ?_;rintro e w6 ⟨v6,n6,rfl,SS,Kj,gz⟩;go_wp2_with fail
       go_roundw
       case rel=>exact⟨k'+1,n6,ku,by go_num,SS.bn,by omega,ab (ab jH cD zl) gz zl⟩
       case measure=>simp[intOf];exact fM.out
      ·obtain rfl:k'=mp:=by omega
       obtain⟨w7,rfl⟩:∃wo:World,wo=wr:=⟨_,rfl⟩;have DD:=ab rZ jH zl;have Q4:w7.cell? ⟨g,1,none⟩=some (.slice C mv r):=(DD.cell (p:=⟨g,1,none⟩) tX).trans (by rw[<-gC];exact(bS.cell (p:=⟨g,1,none⟩) tX).symm);have mR:=ab iN jH zl;clear gC OM fX c0 c1;unfold maxLen at KP;go_wp2_with fail;refine(eh _ q' _ w7 Fn (by omega)).mono ?_;rintro e w8 ⟨v8,n8,rfl,ST,YF,ug⟩;have gC:w8.cell? ⟨g,1,none⟩=some (.slice C mv r):=((ab DD ug zl).cell (p:=⟨g,1,none⟩) tX).trans ((DD.cell (p:=⟨g,1,none⟩) tX).symm.trans Q4);clear Q4;have xy:=bH.keep (bz.below (S:=S) (ab DD ug zl));have xO:=ab mR ug zl;go_wp2_with fail
       go_loopw [0,59] (fun b i wr'=>∃(j' p':Nat),j'<=mv/\i=.int .i64 j'/\Bn wr' b p'/\p'<=n8+10*j'/\Below w8.heap.size w8 wr') (fun _ i _=>mv-(intOf i).toNat)
       case atStart=>exact⟨0,n8,Nat.zero_le _,rfl,ST.bn,by omega,Below.refl _ _⟩
       case round=>
        obtain⟨j',p',Jt,rfl,zQ,RQ,xU⟩:=hrel;by_cases yz:j'<mv
        ·obtain⟨ad',rfl,IF⟩:=(xy.keep (bz.below (S:=S) xU)).rd.at_ yz;have fM:=zH (show mv-(j'+1)<mv-j' by omega);generalize f.vals[j']?.getD 0=z at *;go_wp2_with fail;refine(eh _ p' _ _ zQ (by omega)).mono ?_;rintro e w9 ⟨v9,n9,rfl,Tf,PY,my⟩;go_wp2_with fail
         go_roundw
         case rel=>exact⟨j'+1,n9,yz,by go_num,Tf.bn,by omega,ab xU my zl⟩
         case measure=>simp[intOf];exact fM.out
        ·obtain rfl:j'=mv:=by omega
         go_wp2_with fail
         go_roundw
         case rel=>exact⟨k+1,p',aU,by go_num,zQ,by omega,Hst.out,ab xO xU zl⟩
         case measure=>simp[intOf];exact aP.out
   ·obtain rfl:k=n:=by omega
    have hE:=zH (CL (fs:=fs) (by rw[H1.out];exact h8) (fun f hf=>by
     obtain⟨i,hi,e⟩:=List.getElem_of_mem hf;exact Hno.out i f (by rw[<-H1.out];exact hi) (by rw[List.getElem?_eq_getElem hi,e])))
    go_wp2_with fail
    go_ret2
    exact⟨_,by rw[hE.out];rfl,hb⟩
def eC(n least:Int):Bool:=decide (least<=n)&&decide (n<=1099511627776)
theorem dK(n least:Int)(w:World):Calls prog 154 #[.int .i64 n,.int .i64 least] w fun e w'=>e=.returned (.bool (eC n least))/\w=w':=by
 unfold eC;by_cases h:least<=n
 ·go_enter func154,ntmps154;go_wp2_with fail;go_ret;exact⟨by simp[h],rfl⟩
 ·go_enter func154,ntmps154;go_wp2_with fail;go_ret;exact⟨by simp;omega,rfl⟩
def qL(e:En)(v:Value):Value:=.agg #[.int .i64 e.op,.int .i64 e.sess,.int .i64 e.seq,v]
def ni(e:En)(v:Value):Value:=.agg #[.int .i64 e.idx,.int .i64 e.term,.int .i64 e.op,.int .i64 e.sess,.int .i64 e.seq,v]
def kY(e:En):Int:=if e.op<0\/3<e.op then 24 else if(eC e.sess 0&&eC e.seq 0)=false then 1 else qK e.facts
def kH(e:En):Int:=if(eC e.idx 1&&eC e.term 1)=false then 1 else kY e
def dI(e:En):Bool:=decide (kH e=0)
def RJ(r:Int)(w:World)(e:Ending)(w':World):Prop:=∃v',e=.returned (.tuple #[v',.int .i64 r])/\Below w.heap.size w w'
theorem wP{e:En}(h:e.op<0\/3<e.op):kY e=24:=if_pos h
theorem lQ{e:En}(h:¬(e.op<0\/3<e.op))(h':(eC e.sess 0&&eC e.seq 0)=false):kY e=1:=by unfold kY;rw[if_neg h,if_pos h']
theorem yN{e:En}(h:¬(e.op<0\/3<e.op))(h1:eC e.sess 0=true)(h2:eC e.seq 0=true):kY e=qK e.facts:=by unfold kY;rw[if_neg h,h1,h2];rfl
theorem BW(S:Nat->Prop)(v:Value)(m:Nat)(x:En)(A:Option Addr)(n c:Nat)(w:World)(hv:Bn w v m)(hm:m<=9000)(hf:aG S w (.slice A n c) x.facts)(hn:n<=maxLen) :
  Calls prog 155 #[v,qL x (.slice A n c)] w (RJ (kY x) w):=by
 unfold qL;have aI:Below w.heap.size w (w.alloc (.cells #[.int .i64 x.op,.int .i64 x.sess,.int .i64 x.seq,.slice A n c] 42)):=zb.alloc zl _;have dv:=ar.new w 42 #[.int .i64 x.op,.int .i64 x.sess,.int .i64 x.seq,.slice A n c];obtain⟨fX,gC,tF,Br,-⟩:=dv.cs [0,1,2,3];simp only[Zx]at fX gC tF Br;have bH:=hv.below aI;have nc:=hf.keep (bz.below (S:=S) aI);by_cases h0:x.op<0\/3<x.op
 ·have hE:=zH (wP h0);by_cases Zn:x.op<0
  ·go_enter func155,ntmps155;go_wp2_with fail
   go_ret2
   exact⟨_,by rw[hE.out];rfl,aI⟩
  ·have h3:3<x.op:=by omega
   clear h0;have h0:(decide (x.op<0)||decide (3<x.op))=true:=by simp;omega
   go_enter func155,ntmps155;go_wp2_with fail
   go_ret2
   exact⟨_,by rw[hE.out];rfl,aI⟩
 ·have Vq:(decide (x.op<0)||decide (3<x.op))=false:=by simp;omega
  have ha:0<=x.op:=by omega
  have hb:x.op<=3:=by omega
  have Oi:=zH (fun h=>lQ (e:=x) h0 h);have Cb:=zH (fun h h'=>yN (e:=x) h0 h h');clear h0;cases hs:eC x.sess 0 with
  | false=>
   have hE:=zH (Oi.out (by rw[hs];rfl));go_enter func155,ntmps155;go_wp2_with fail;refine(dK _ _ _).mono ?_;rintro e w1 ⟨rfl,rfl⟩;rw[hs];go_wp2_with fail
   go_ret2
   exact⟨_,by rw[hE.out];rfl,aI⟩
  | true=>
   cases hq:eC x.seq 0 with
   | false=>
    have hE:=zH (Oi.out (by rw[hs,hq];rfl));go_enter func155,ntmps155;go_wp2_with fail;refine(dK _ _ _).mono ?_;rintro e w1 ⟨rfl,rfl⟩;rw[hs];go_wp2_with fail;refine(dK _ _ _).mono ?_;rintro e w1 ⟨rfl,rfl⟩;rw[hq];go_wp2_with fail
    go_ret2
    exact⟨_,by rw[hE.out];rfl,aI⟩
   | true=>
    have hE:=zH (Cb.out hs hq);go_enter func155,ntmps155;go_wp2_with fail;refine(dK _ _ _).mono ?_;rintro e w1 ⟨rfl,rfl⟩;rw[hs];go_wp2_with fail;refine(dK _ _ _).mono ?_;rintro e w1 ⟨rfl,rfl⟩;rw[hq];go_wp2_with fail;generalize w.alloc (.cells #[.int .i64 x.op,.int .i64 x.sess,.int .i64 x.seq,.slice A n c] 42)=w1 at *;generalize J8:w.heap.size=g at *;have k0:=ei (B:=w1.heap.size) fX dv.lt;have k1:=ei (B:=w1.heap.size) gC dv.lt;have k2:=ei (B:=w1.heap.size) tF dv.lt;have k3:=ei (B:=w1.heap.size) Br dv.lt;refine cF (C:=wm w1.heap.size w1) [([0,1,2,4,5,7,8,10,11],3),([],6),([],9),([],12)] [13,14,15,16] (by kernel_rfl) (by kernel_rfl) (fun _ _ _ _ e h=>⟨e.symm.trans h.1,h.2⟩) (fF zb.drew) ?_;refine av fun K1 ct=>?_
    simp only[af,Zx];repeat go_big_quiet_step(fail)
    apply wpQuiet_nil;go_wp2_with fail;have Ni:Bn w1.drew v m:=bH;refine(eh v m _ _ Ni (by omega)).mono ?_;rintro e w2 ⟨v2,n2,rfl,II,lB,bJ⟩;have bJ:Below w1.heap.size w1 w2:=(aA (Below.refl w1.heap.size w1) 1).trans bJ;go_wp2_with fail;refine⟨fF bJ,ct _ _ ?_⟩;refine av fun K2 ge=>?_
    simp only[af,Zx];repeat go_big_quiet_step(fail)
    apply wpQuiet_nil;go_wp2_with fail;refine(eh v2 n2 _ _ II.bn (by omega)).mono ?_;rintro e w3 ⟨v3,n3,rfl,MR,AN,bS⟩;have bS:=ab bJ bS zl;go_wp2_with fail;refine⟨fF bS,ge _ _ ?_⟩;refine av fun K3 jx=>?_
    simp only[af,Zx];repeat go_big_quiet_step(fail)
    apply wpQuiet_nil;go_wp2_with fail;refine(eh v3 n3 _ _ MR.bn (by omega)).mono ?_;rintro e w4 ⟨v4,n4,rfl,LW,Em,cz⟩;have cz:=ab bS cz zl;go_wp2_with fail;refine⟨fF cz,jx _ _ ?_⟩;refine av fun K4 tj=>?_
    simp only[af,Zx];repeat go_big_quiet_step(fail)
    apply wpQuiet_nil;go_wp2_with fail;refine(GN S v4 n4 _ _ _ _ _ LW.bn (by omega) (nc.keep (bz.below cz)) hn).mono ?_;rintro e w5 ⟨v5,rfl,cD⟩;have cD:=ab cz cD zl;go_wp2_with fail;refine⟨fF cD,tj _ _ ?_⟩;refine aj ?_;simp only[af,Zx];repeat go_big_quiet_step(fail)
    apply wpQuiet_nil;go_wp2_with fail
    go_ret2
    exact⟨_,by rw[hE.out];rfl,by rw[J8];exact aI.trans (cD.mono (by have:=aI.size;omega))⟩
theorem ke{e:En}(h:(eC e.idx 1&&eC e.term 1)=false):kH e=1:=by unfold kH;rw[if_pos h]
theorem xE{e:En}(h1:eC e.idx 1=true)(h2:eC e.term 1=true):kH e=kY e:=by unfold kH;rw[h1,h2];rfl
theorem vM(S:Nat->Prop)(v:Value)(m:Nat)(x:En)(A:Option Addr)(n c:Nat)(w:World)(hv:Bn w v m)(hm:m<=8000)(hf:aG S w (.slice A n c) x.facts)(hn:n<=maxLen) :
  Calls prog 144 #[v,ni x (.slice A n c)] w (RJ (kH x) w):=by
 unfold ni;have aI:Below w.heap.size w (w.alloc (.cells #[.int .i64 x.idx,.int .i64 x.term,.int .i64 x.op,.int .i64 x.sess,.int .i64 x.seq,.slice A n c] 59)):=zb.alloc zl _;have dv:=ar.new w 59 #[.int .i64 x.idx,.int .i64 x.term,.int .i64 x.op,.int .i64 x.sess,.int .i64 x.seq,.slice A n c];obtain⟨fX,gC,tF,Br,Ft,N1,-⟩:=dv.cs [0,1,2,3,4,5];simp only[Zx]at fX gC tF Br Ft N1;have bH:=hv.below aI;have nc:=hf.keep (bz.below (S:=S) aI);cases hs:eC x.idx 1 with
 | false=>
  have hE:=zH (ke (e:=x) (by rw[hs];rfl));go_enter func144,ntmps144;go_wp2_with fail;refine(dK _ _ _).mono ?_;rintro e w1 ⟨rfl,rfl⟩;rw[hs];go_wp2_with fail
  go_ret2
  exact⟨_,by rw[hE.out];rfl,aI⟩
 | true=>
  cases hq:eC x.term 1 with
  | false=>
   have hE:=zH (ke (e:=x) (by rw[hs,hq];rfl));go_enter func144,ntmps144;go_wp2_with fail;refine(dK _ _ _).mono ?_;rintro e w1 ⟨rfl,rfl⟩;rw[hs];go_wp2_with fail;refine(dK _ _ _).mono ?_;rintro e w1 ⟨rfl,rfl⟩;rw[hq];go_wp2_with fail
   go_ret2
   exact⟨_,by rw[hE.out];rfl,aI⟩
  | true=>
   have hE:=zH (xE hs hq);go_enter func144,ntmps144;go_wp2_with fail;refine(dK _ _ _).mono ?_;rintro e w1 ⟨rfl,rfl⟩;rw[hs];go_wp2_with fail;refine(dK _ _ _).mono ?_;rintro e w1 ⟨rfl,rfl⟩;rw[hq];go_wp2_with fail;generalize w.alloc (.cells #[.int .i64 x.idx,.int .i64 x.term,.int .i64 x.op,.int .i64 x.sess,.int .i64 x.seq,.slice A n c] 59)=w1 at *;generalize J8:w.heap.size=g at *;have k0:=ei (B:=w1.heap.size) fX dv.lt;have k1:=ei (B:=w1.heap.size) gC dv.lt;have k2:=ei (B:=w1.heap.size) tF dv.lt;have k3:=ei (B:=w1.heap.size) Br dv.lt;have k4:=ei (B:=w1.heap.size) Ft dv.lt;have k5:=ei (B:=w1.heap.size) N1 dv.lt;refine cF (C:=wm w1.heap.size w1) [([0,1,2,4,5,7,8],3),([],6),([],9)] [10,11,12,13] (by kernel_rfl) (by kernel_rfl) (fun _ _ _ _ e h=>⟨e.symm.trans h.1,h.2⟩) (fF zb.drew) ?_;refine av fun K1 ct=>?_
   simp only[af,Zx];repeat go_big_quiet_step(fail)
   apply wpQuiet_nil;go_wp2_with fail;have Ni:Bn w1.drew v m:=bH;refine(eh v m _ _ Ni (by omega)).mono ?_;rintro e w2 ⟨v2,n2,rfl,II,lB,bJ⟩;have bJ:Below w1.heap.size w1 w2:=(aA (Below.refl w1.heap.size w1) 1).trans bJ;go_wp2_with fail;refine⟨fF bJ,ct _ _ ?_⟩;refine av fun K2 ge=>?_
   simp only[af,Zx];repeat go_big_quiet_step(fail)
   apply wpQuiet_nil;go_wp2_with fail;refine(eh v2 n2 _ _ II.bn (by omega)).mono ?_;rintro e w3 ⟨v3,n3,rfl,MR,AN,bS⟩;have bS:=ab bJ bS zl;go_wp2_with fail;refine⟨fF bS,ge _ _ ?_⟩;refine av fun K3 jx=>?_
   simp only[af,Zx];repeat go_big_quiet_step(fail)
   apply wpQuiet_nil;go_wp2_with fail;refine(BW S v3 n3 x _ _ _ _ MR.bn (by omega) (nc.keep (bz.below bS)) hn).mono ?_;rintro e w5 ⟨v5,rfl,cD⟩;have cD:=ab bS cD zl;go_wp2_with fail;refine⟨fF cD,jx _ _ ?_⟩;refine aj ?_;simp only[af,Zx];repeat go_big_quiet_step(fail)
   apply wpQuiet_nil;go_wp2_with fail
   go_ret2
   exact⟨_,by rw[hE.out];rfl,by rw[J8];exact aI.trans (cD.mono (by have:=aI.size;omega))⟩
theorem uX{x:En}{k:Int}(h:kH x=k):dI x=(k==0):=by
 unfold dI;rw[h];rw[Bool.eq_iff_iff,decide_eq_true_eq,beq_iff_eq]
theorem sr(S:Nat->Prop)(x:En)(A:Option Addr)(n c:Nat)(w:World)(hf:aG S w (.slice A n c) x.facts)(hn:n<=maxLen) :
  Calls prog 121 #[ni x (.slice A n c)] w fun e w'=>e=.returned (.bool (dI x))/\Below w.heap.size w w':=by
 have aI:Below w.heap.size w (w.alloc (.cells #[.int .i64 x.idx,.int .i64 x.term,.int .i64 x.op,.int .i64 x.sess,.int .i64 x.seq,.slice A n c] 59)):=zb.alloc zl _;have aH:=vM S (.slice none 0 0) 0 x A n c (w.alloc (.cells #[.int .i64 x.idx,.int .i64 x.term,.int .i64 x.op,.int .i64 x.sess,.int .i64 x.seq,.slice A n c] 59)) (Bn.nil _) (by omega) (hf.keep (bz.below (S:=S) aI)) hn;unfold ni at *;obtain⟨k,hk⟩:=zN (kH x);have hP:=zH (uX hk);rw[hk]at aH;clear hk;go_enter func121,ntmps121;go_wp2_with fail;refine aH.mono ?_;rintro e w1 ⟨v1,rfl,bs⟩;have bs:=ab aI bs zl;go_wp2_with fail;go_ret;exact⟨by rw[hP.out];rfl,bs⟩
theorem fB.one(w:World)(y:Int):fB (w.alloc (.cells #[.int .i64 y] 3)) (some ⟨w.heap.size,0,none⟩) 1 [y]:=fB.lit _ _ _ [y] _ 1 _ rfl rfl rfl
def Sn(B:Nat)(w:World)(v:Value)(n:Nat):Prop:=∃(A:Option Addr) (c:Nat) (l:List Int),v=.slice A n c/\w.ownsRow B 3 1 (.slice A n c) n (l.map vi)
theorem Cq(z:Int)(w:World):Calls prog 159 #[.int .i64 z] w fun e w'=>∃v,e=.returned v/\Sn w.heap.size w' v 64/\Below w.heap.size w w':=by
 have aI:=fun y:Int=>(Below.refl w.heap.size w).alloc zl (.cells #[.int .i64 y] 3)
 have h0:∀y:Int,(w.alloc (.cells #[.int .i64 y] 3)).ownsRow w.heap.size 3 1 (.slice none 0 0) 0 (([]:List Int).map vi):=fun _=>b9 _ _
 by_cases hz:z<0
 all_goals
  go_enter func159,ntmps159;go_wp2_with (first
   | (at_builtin;refine bi rfl (.tmp 13) (.tmp 14) rfl w.heap.size rfl (h0 _) rfl (fB.one _ _) (by omega) (aI _).size ?_;intro A1 c1 w1 lr iQ bs)
   | (at_builtin;refine bi rfl (.tmp 16) (.tmp 17) rfl w.heap.size rfl (h0 _) rfl (fB.one _ _) (by omega) (aI _).size ?_;intro A1 c1 w1 lr iQ bs)
   | fail)
  have iM:=(aI _).trans bs
  go_loopw [0,4,5] (fun n o i wr=>∃(k:Nat) (y:Int) (A:Option Addr) (c:Nat) (l:List Int),k<=63/\i=.int .i64 k/\n=.int .i64 y/\o=.slice A (k+1) c/\wr.ownsRow w.heap.size 3 1 (.slice A (k+1) c) (k+1) (l.map vi)/\Below w.heap.size w wr) (fun _ _ i _=>63-(intOf i).toNat)
  case atStart=>exact⟨0,_,A1,c1,_,Nat.zero_le _,rfl,rfl,rfl,lr,iM⟩
  case round=>
   clear lr bs iM iQ;obtain⟨k,y,A,c,l,hk,rfl,rfl,rfl,aD,hb⟩:=hrel;have dH:=fun y:Int=>(Below.refl wr.heap.size wr).alloc zl (.cells #[.int .i64 y] 3)
   have cv:=fun y:Int=>bf aD (dH y)
   have bJ:=fun y:Int=>ab hb (dH y) zl
   by_cases aU:k<63
   ·have aP:=zH (show 63-(k+1)<63-k by omega);go_wp2_with (at_builtin;refine bi rfl (.tmp 23) (.tmp 26) rfl w.heap.size rfl (cv _) rfl (fB.one _ _) (by omega) (bJ _).size ?_;intro A3 c3 w3 bF gK bS)
    go_roundw
    case rel=>exact⟨k+1,_,A3,c3,_,aU,by go_num,rfl,rfl,bF,(bJ _).trans bS⟩
    case measure=>simp[intOf];omega
   ·obtain rfl:k=63:=by omega
    go_wp2_with fail;go_ret;exact⟨_,rfl,⟨A,c,l,rfl,aD⟩,hb⟩
theorem pK{w:World}{ops:Array Oper}{rest:List Oper}{o:Oper}{a:Act}{Q:Exit->Act->World->Prop}(kt:o.guard=none)(s x:Operand)
  (ho:o.op=.call {callee:=.builtin .append,args:=#[s,x],argTypes:=#[24,24]})
  (B:Nat) (hs:a.eval s=.slice none 0 0) {v:Value} {n:Nat} (hx:a.eval x=v) (hv:Bn w v n) (hb:n<=100000000) (hB:B<=w.heap.size)
  (h:∀v' w',By B w' v' n->Below B w w'->wpList prog ops Q rest (a.put o.dst v') w'):wpList prog ops Q (o::rest) a w:=by
 obtain⟨i0,iy,jK,iL,gL⟩:=info_parts mz;obtain⟨A,c,xs,rfl,_,_,h1,hr⟩:=hv;refine bb w kt s x 24 ho B 5 i0 _ 1 1 underlying24 iy jK iL gL rfl (by omega) (.slice none 0 0) 0 [] hs (b9 _ _) A n c xs hx hr h1 (by unfold maxLen;omega) (by omega) hB fun A' c' w' h3 h4 _=>?_
 rw[Nat.zero_add,List.nil_append]at h3;rw[Nat.zero_add];exact h _ w' ⟨xs,h1,h3⟩ (eY (b9 B 5 (size:=1)) h4 hB)
theorem cO(v:Value)(n:Nat)(z:Int)(w:World)(hv:Bn w v n)(hn:n<=1000000) :
  Calls prog 148 #[v,.int .i64 z] w fun e w'=>∃v' n',e=.returned v'/\By w.heap.size w' v' n'/\n'<=n+10/\Below w.heap.size w w':=by
 go_enter func148,ntmps148;go_wp2_with fail;refine(Cq _ _).mono ?_;rintro e w1 ⟨vd,rfl,⟨Ad,cd,ld,rfl,aD⟩,bs⟩;have dx:fB w1 Ad 64 ld:=fB.of_own aD;go_wp2_with fail
 go_loop [6,7] (fun t i=>∃k q:Nat,k<=64/\i=.int .i64 k/\q<=63/\t=.int .i64 q) (fun _ i=>64-(intOf i).toNat)
 case atStart=>exact⟨0,0,by omega,rfl,by omega,rfl⟩
 case round=>
  obtain⟨k,q,hk,rfl,hq,rfl⟩:=hrel;by_cases aU:k<64
  ·obtain⟨ad,rfl,hc⟩:=dx.at_ aU;have aP:=zH (show 64-(k+1)<64-k by omega);by_cases h1:ld[k]?.getD 0=1
   ·rw[h1]at hc;clear h1;go_wp2_with fail
    go_round
    case rel=>exact⟨k+1,k,aU,by go_num,by omega,rfl⟩
    case measure=>simp[intOf];omega
   ·have h2:(ld[k]?.getD 0==1)=false:=beq_eq_false_iff_ne.2 h1;generalize ld[k]?.getD 0=y at *;go_wp2_with fail
    go_round
    case rel=>exact⟨k+1,q,aU,by go_num,hq,rfl⟩
    case measure=>simp[intOf];omega
  ·obtain rfl:k=64:=by omega
   have fi:=hv.below bs;have Sc:q/7<=9:=by omega
   go_wp2_with (at_builtin;refine pK rfl (.tmp 24) (.tmp 25) rfl w1.heap.size rfl rfl fi (by omega) zl ?_;intro v2 w2 II bJ)
   go_loopw [8,9] (fun b i wr=>∃(g m:Nat),g<=q/7+1/\i=.int .i64 g/\By w1.heap.size wr b m/\m<=n+g/\Below w1.heap.size w1 wr) (fun _ i _=>q/7+1-(intOf i).toNat)
   case atStart=>exact⟨0,n,by omega,rfl,II,by omega,bJ⟩
   case round=>
    obtain⟨g,m,hg,rfl,PJ,hm,gQ⟩:=hrel;have Kv:=fB.below dx gQ;have aI:=fun u:Value=>(Below.refl wr.heap.size wr).alloc zl (.cells #[u] 5)
    have vP:=fun u:Value=>PJ.bx.below (aI u)
    have cz:=fun u:Value=>ab gQ (aI u) zl
    have qy:m<=100000000:=by omega
    by_cases XN:g<=q/7
    ·have U0:(g:Int)<=(q:Int)/7:=by omega
     go_wp2_with fail
     go_loop [10,11] (fun c k=>∃(y:Int),c=.int .i64 y/\((∃j:Nat,j<=6/\k=.int .i64 j)\/k=.int .i64 (-1))) (fun _ k=>(intOf k+1).toNat)
     case atStart=>exact⟨0,rfl,.inl ⟨6,by omega,rfl⟩⟩
     case round=>
      obtain⟨y,rfl,hj⟩:=hrel;rcases hj with⟨j,hj,rfl⟩|rfl
      ·have dh:(∃j':Nat,j'<=6/\(Value.int .i64 ((j:Int)-1))=.int .i64 j')\/(Value.int .i64 ((j:Int)-1))=.int .i64 (-1):=by
        rcases Nat.eq_zero_or_pos j with h0|h0
        ·exact .inr (by rw[h0];rfl)
        ·exact .inl ⟨j-1,by omega,by congr 1;omega⟩
       have dh:=zH dh;by_cases lC:7*g+j<64
       ·obtain⟨ad,rfl,hc⟩:=Kv.at_ lC;go_wp2_with fail;exact⟨⟨_,rfl,dh.out⟩,by first|(simp[intOf];done)|(simp[intOf];omega)⟩
       ·go_wp2_with fail
        go_round
        case rel=>exact⟨_,rfl,dh.out⟩
        case measure=>first|(simp[intOf];done)|(simp[intOf];omega)
      ·go_wp2_with (at_builtin;refine dF rfl (.tmp 59) (.tmp 62) rfl w1.heap.size rfl (vP _) wr.heap.size _ rfl (ar.new _ _ _) rfl qy (cz _).size ?_;intro v5 w5 cA cD)
       all_goals
        go_roundw
        case rel=>exact⟨g+1,m+1,by omega,by go_num,cA,by omega,(cz _).trans cD⟩
        case measure=>simp[intOf];omega
    ·have U0:¬(g:Int)<=(q:Int)/7:=by omega
     go_wp2_with fail;go_ret;exact⟨_,rfl,m,PJ.mono bs.size,by omega,bs.trans (gQ.mono bs.size)⟩
theorem sA(v:Value)(n:Nat)(s:ByteArray)(w:World)(hv:Bn w v n)(hn:n<=900000)(hs:s.size<=1000) :
  Calls prog 178 #[v,.string s] w fun e w'=>∃v' n',e=.returned v'/\By w.heap.size w' v' n'/\n'<=n+10+s.size/\Below w.heap.size w w':=by
 obtain⟨i0,iy,jK,iL,gL⟩:=info_parts mz;go_enter func178,ntmps178;go_wp2_with fail;refine(cO v n _ w hv (by omega)).mono ?_;rintro e w1 ⟨v1,n1,rfl,⟨xs,hx,aD⟩,iI,bs⟩;go_wp2_with (at_builtin;refine Lib.wpList_append_own_string _ rfl (.tmp 10) (.tmp 11) 24 9 rfl w.heap.size 5 i0 underlying24 underlying9 iy jK iL gL v1 n1 xs rfl aD s rfl (by unfold maxLen;omega) (by omega) bs.size ?_;intro v2 w2 cv tX _);go_ret;exact⟨v2,_,rfl,⟨_,fun u hu=>(List.mem_append.1 hu).elim (hx u) (oa s u),cv⟩,by omega,bs.trans (eY aD tX bs.size)⟩
theorem xM(A:Option Addr)(n c:Nat)(p:List ByteArray)(w:World)(hr:wu w A n p)(hp:ek p=true) :
  Calls prog 177 #[.slice A n c] w fun e w'=>∃s:ByteArray,e=.returned (.tuple #[.string s,.int .i64 0])/\s.size<=39/\Below w.heap.size w w':=by
 have hl:=hr.len;have h3:=rz hp;have tL:=zH (pi hp);have AN:n<=3:=by omega
 have Em:n<=maxLen:=sW AN (by omega);have hl:=zH hl;by_cases h0:n=0
 ·subst h0;go_enter func177,ntmps177;go_wp2_with fail;refine(jF _ _ _ _ _ hr Em).mono ?_;rintro e w1 ⟨rfl,rfl⟩;rw[hp];go_wp2_with fail
  go_ret2
  exact⟨_,rfl,by decide,Below.refl _ _⟩
 ·have Vq:((n:Int)==0)=false:=beq_eq_false_iff_ne.2 (by omega);go_enter func177,ntmps177;go_wp2_with fail;refine(jF _ _ _ _ _ hr Em).mono ?_;rintro e w1 ⟨rfl,rfl⟩;rw[hp];go_wp2_with fail
  go_loop [5,6] (fun s i=>∃(k:Nat) (t:ByteArray),k<=n/\i=.int .i64 k/\s=.string t/\t.size<=13*k) (fun _ i=>n-(intOf i).toNat)
  case atStart=>exact⟨0,_,Nat.zero_le _,rfl,rfl,by decide⟩
  case round=>
   obtain⟨k,t,hk,rfl,rfl,ht⟩:=hrel;by_cases aU:k<n
   ·obtain⟨ad,s,rfl,mA,hc⟩:=hr.at_ aU;have Xe:=rE (tL.out s (List.mem_of_getElem? mA));clear mA;by_cases TK:0<k
    all_goals
     go_wp2_with fail
     go_round
     case rel=>exact⟨k+1,_,aU,by go_num,rfl,by simp[ByteArray.size_append];first|omega|(have e:(ByteArray.mk #[47]).size=1:=rfl;omega)⟩
     case measure=>simp[intOf];omega
   ·obtain rfl:k=n:=by omega
    go_wp2_with fail
    go_ret2
    exact⟨_,rfl,by omega,Below.refl _ _⟩
end Go.Proofs.YtjcninheccmpoaaGreat
