/-
  The library's strings.Join, laid at this translation.
-/
import Derived.Shelf.Strings.OnBuilder
import Derived.Test.YtojmkbhihnnmaaaProg
namespace Go.Proofs.Ytojmkbhihnnmaaa
open Go.Shelf
def joinRen : Go.Shelf.Ren := ⟨fun | 156 => 111 | 165 => 114 | 166 => 115 | 169 => 116 | 240 => 117 | 241 => 118 | 276 => 119 | 277 => 120 | n => n, fun | 31 => 23 | 9 => 9 | 3 => 3 | 4 => 4 | 0 => 0 | 20 => 20 | 72 => 128 | 76 => 132 | 70 => 126 | 37 => 61 | 75 => 131 | 127 => 135 | 164 => 136 | 5 => 5 | 80 => 134 | n => n, fun | n => n⟩
theorem joinLaid : Go.Proofs.Lays.n156 Try.prog joinRen := {
  mixed := by kernel_rfl
  f156 := Try.func111.trans (congrArg some (by kernel_rfl))
  f165 := Try.func114.trans (congrArg some (by kernel_rfl))
  f166 := Try.func115.trans (congrArg some (by kernel_rfl))
  f169 := Try.func116.trans (congrArg some (by kernel_rfl))
  f240 := Try.func117.trans (congrArg some (by kernel_rfl))
  f241 := Try.func118.trans (congrArg some (by kernel_rfl))
  f276 := Try.func119.trans (congrArg some (by kernel_rfl))
  f277 := Try.func120.trans (congrArg some (by kernel_rfl))
  t0 := Try.underlying0
  a0 := Try.isAgg0
  z0 := Try.sizeOf0
  v0 := Try.zeroValue0
  t3 := Try.underlying3
  a3 := Try.isAgg3
  z3 := Try.sizeOf3
  v3 := Try.zeroValue3
  t4 := Try.underlying4
  a4 := Try.isAgg4
  z4 := Try.sizeOf4
  v4 := Try.zeroValue4
  t9 := Try.underlying9
  a9 := Try.isAgg9
  z9 := Try.sizeOf9
  v9 := Try.zeroValue9
  t20 := Try.underlying20
  a20 := Try.isAgg20
  z20 := Try.sizeOf20
  v20 := Try.zeroValue20
  t31 := Try.underlying23
  a31 := Try.isAgg23
  z31 := Try.sizeOf23
  v31 := Try.zeroValue23
  t37 := Try.underlying61
  a37 := Try.isAgg61
  z37 := Try.sizeOf61
  v37 := Try.zeroValue61
  t70 := Try.underlying126
  a70 := Try.isAgg126
  z70 := Try.sizeOf126
  v70 := Try.zeroValue126
  t72 := Try.underlying128
  a72 := Try.isAgg128
  z72 := Try.sizeOf128
  v72 := Try.zeroValue128
  t75 := Try.underlying131
  a75 := Try.isAgg131
  z75 := Try.sizeOf131
  v75 := Try.zeroValue131
  t76 := Try.underlying132
  a76 := Try.isAgg132
  z76 := Try.sizeOf132
  v76 := Try.zeroValue132
  t127 := Try.underlying135
  a127 := Try.isAgg135
  z127 := Try.sizeOf135
  v127 := Try.zeroValue135
  t164 := Try.underlying136
  a164 := Try.isAgg136
  z164 := Try.sizeOf136
  v164 := Try.zeroValue136 }
theorem joinExtra : Builder.Extra Try.prog joinRen := {
  sizeBuilder := by kernel_rfl
  liesBuilder := by kernel_rfl
  t5 := Try.underlying5
  a5 := Try.isAgg5
  z5 := Try.sizeOf5
  v5 := Try.zeroValue5
  infoByte := by kernel_rfl
  cellsByte := by kernel_rfl
  sizeByte := by kernel_rfl
  neB5 := by decide }
open Go.RowKit in
theorem strings_join (bk o c : Nat) (xs : List ByteArray) (sep : ByteArray) (w : World) (hcells : ∀ (j : Nat) x, xs[j]? = some x → w.cell? ⟨bk, o + j, none⟩ = some (.string x)) (hbk : bk < w.heap.size) (hN : xs.length ≤ 140737488355328) (hcap : xs.length ≤ c) (hlen : (Lib.join (xs.map (·.data.toList)) sep.data.toList).length ≤ 140737488355328) :
    Calls Try.prog 111 #[.slice (some ⟨bk, o, none⟩) xs.length c, .string sep] w fun e w' => e = .returned (.string ⟨(Lib.join (xs.map (·.data.toList)) sep.data.toList).toArray⟩) ∧ Below w.heap.size w w' := Any.strings_Join joinLaid joinExtra bk o c xs sep w hcells hbk hN hcap hlen
end Go.Proofs.Ytojmkbhihnnmaaa
