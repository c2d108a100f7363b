/- strings.Join at the seat: the laid contract, and joinX in its place. -/
import Derived.Shelf.Strings.Builder1
import Derived.Shelf.Strings.Builder2
import Derived.Shelf.Strings.OnBuilder
import Derived.Test.YtopkkjgjohgogaaGreatDoorProg
import Derived.KernelRfl
import Derived.Test.YtopkkjgjohgogaaGreatDoorHxYp
namespace Go.Proofs
open Go.Shelf
def Tryz.lays156_ren : Go.Shelf.Ren := ⟨fun | 156 => 139 | 165 => 185 | 166 => 186 | 169 => 187 | 240 => 208 | 241 => 209 | 276 => 230 | 277 => 231 | n => n, fun | 31 => 66 | 9 => 9 | 3 => 3 | 4 => 4 | 0 => 0 | 20 => 20 | 72 => 266 | 76 => 270 | 70 => 264 | 37 => 131 | 75 => 269 | 127 => 300 | 164 => 318 | 5 => 5 | 80 => 138 | n => n, fun | n => n⟩
theorem Tryz.lays156 : Go.Proofs.Lays.n156 Tryz.prog Tryz.lays156_ren := {
  mixed := by kernel_rfl
  f156 := Tryz.func139.trans (congrArg some (by kernel_rfl))
  f165 := Tryz.func185.trans (congrArg some (by kernel_rfl))
  f166 := Tryz.func186.trans (congrArg some (by kernel_rfl))
  f169 := Tryz.func187.trans (congrArg some (by kernel_rfl))
  f240 := Tryz.func208.trans (congrArg some (by kernel_rfl))
  f241 := Tryz.func209.trans (congrArg some (by kernel_rfl))
  f276 := Tryz.func230.trans (congrArg some (by kernel_rfl))
  f277 := Tryz.func231.trans (congrArg some (by kernel_rfl))
  t0 := Tryz.underlying0
  a0 := Tryz.isAgg0
  z0 := Tryz.sizeOf0
  v0 := Tryz.zeroValue0
  t3 := Tryz.underlying3
  a3 := Tryz.isAgg3
  z3 := Tryz.sizeOf3
  v3 := Tryz.zeroValue3
  t4 := Tryz.underlying4
  a4 := Tryz.isAgg4
  z4 := Tryz.sizeOf4
  v4 := Tryz.zeroValue4
  t9 := Tryz.underlying9
  a9 := Tryz.isAgg9
  z9 := Tryz.sizeOf9
  v9 := Tryz.zeroValue9
  t20 := Tryz.underlying20
  a20 := Tryz.isAgg20
  z20 := Tryz.sizeOf20
  v20 := Tryz.zeroValue20
  t31 := Tryz.underlying66
  a31 := Tryz.isAgg66
  z31 := Tryz.sizeOf66
  v31 := Tryz.zeroValue66
  t37 := Tryz.underlying131
  a37 := Tryz.isAgg131
  z37 := Tryz.sizeOf131
  v37 := Tryz.zeroValue131
  t70 := Tryz.underlying264
  a70 := Tryz.isAgg264
  z70 := Tryz.sizeOf264
  v70 := Tryz.zeroValue264
  t72 := Tryz.underlying266
  a72 := Tryz.isAgg266
  z72 := Tryz.sizeOf266
  v72 := Tryz.zeroValue266
  t75 := Tryz.underlying269
  a75 := Tryz.isAgg269
  z75 := Tryz.sizeOf269
  v75 := Tryz.zeroValue269
  t76 := Tryz.underlying270
  a76 := Tryz.isAgg270
  z76 := Tryz.sizeOf270
  v76 := Tryz.zeroValue270
  t127 := Tryz.underlying300
  a127 := Tryz.isAgg300
  z127 := Tryz.sizeOf300
  v127 := Tryz.zeroValue300
  t164 := Tryz.underlying318
  a164 := Tryz.isAgg318
  z164 := Tryz.sizeOf318
  v164 := Tryz.zeroValue318 }
theorem Tryz.Builder_Extra_156 : Builder.Extra Tryz.prog Tryz.lays156_ren := {
  sizeBuilder := by kernel_rfl
  liesBuilder := by kernel_rfl
  t5 := Tryz.underlying5
  a5 := Tryz.isAgg5
  z5 := Tryz.sizeOf5
  v5 := Tryz.zeroValue5
  infoByte := by kernel_rfl
  cellsByte := by kernel_rfl
  sizeByte := by kernel_rfl
  neB5 := by decide }
open Go.RowKit in
theorem Tryz.strings_Join_none (a : Option Addr) (c : Nat) (sep : ByteArray) (w : World) :
    Calls Tryz.prog 139 #[.slice a 0 c, .string sep] w fun e w' => e = .returned (.string ⟨#[]⟩) ∧ w' = w := Any.strings_Join_none Tryz.lays156 Tryz.Builder_Extra_156 a c sep w
open Go.RowKit in
theorem Tryz.strings_Join (bk o c : Nat) (xs : List ByteArray) (sep : ByteArray) (w : World) (hcells : ∀ (j : Nat) x, xs[j]? = some x → w.cell? ⟨bk, o + j, none⟩ = some (.string x)) (hbk : bk < w.heap.size) (hN : xs.length ≤ 140737488355328) (hcap : xs.length ≤ c) (hlen : (Lib.join (xs.map (·.data.toList)) sep.data.toList).length ≤ 140737488355328) :
    Calls Tryz.prog 139 #[.slice (some ⟨bk, o, none⟩) xs.length c, .string sep] w fun e w' => e = .returned (.string ⟨(Lib.join (xs.map (·.data.toList)) sep.data.toList).toArray⟩) ∧ Below w.heap.size w w' := Any.strings_Join Tryz.lays156 Tryz.Builder_Extra_156 bk o c xs sep w hcells hbk hN hcap hlen
end Go.Proofs
namespace Go.Proofs.YtopkkjgjohgogaaGreatDoor
open Hx
theorem jB : Tryz.f139.body = some (fnBody Tryz.f139) := by kernel_rfl
theorem ovJs : OvOk Tryz.prog 139 joinX := join_ok ⟨_, _, Tryz.func139, jB⟩ (fun a c sep w => Tryz.strings_Join_none a c sep w) (fun bk o c xs sep w h1 h2 h3 h4 h5 => Tryz.strings_Join bk o c xs sep w h1 h2 h3 h4 h5)
end Go.Proofs.YtopkkjgjohgogaaGreatDoor
