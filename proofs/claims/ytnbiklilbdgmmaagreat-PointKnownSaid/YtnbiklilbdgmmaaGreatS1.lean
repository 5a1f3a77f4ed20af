/- Part of the proof of a given law: see the claim's last text. -/
import Derived.Shelf.SlIterI.Nil
import Derived.Test.YtnbiklilbdgmmaaGreatProg
set_option linter.constructorNameAsVariable false
namespace Go.AM.Sb
open Go Go.Proofs Go.RowKit Go.Maps Go.Sort Go.Shelf
def coll_ren : Ren :=
{
  f := fun x =>
    match x with
    | 8 => 191
    | 11 => 254
    | n => n,
  t := fun x =>
    match x with
    | 26 => 3
    | 28 => 213
    | 24 => 85
    | 0 => 0
    | 33 => 147
    | 4 => 4
    | n => n,
  g := fun x =>
    have n := x;
    n }
set_option maxRecDepth 100000 in
theorem coll : Go.Proofs.SlLaysZI.n8 Tryz.prog coll_ren := { mixed := rfl, f8 := ⟨"slices.Collect[int]", ⟨by decide, Go.Proofs.Tryz.func191.trans (congrArg some rfl)⟩⟩, f11 := ⟨"slices.AppendSeq[[]int,int]", ⟨by decide, Go.Proofs.Tryz.func254.trans (congrArg some rfl)⟩⟩, t0 := Go.Proofs.Tryz.underlying0, a0 := Go.Proofs.Tryz.isAgg0, z0 := Go.Proofs.Tryz.sizeOf0, v0 := Go.Proofs.Tryz.zeroValue0, t24 := Go.Proofs.Tryz.underlying85, a24 := Go.Proofs.Tryz.isAgg85, z24 := Go.Proofs.Tryz.sizeOf85, v24 := Go.Proofs.Tryz.zeroValue85, t26 := Go.Proofs.Tryz.underlying3, a26 := Go.Proofs.Tryz.isAgg3, z26 := Go.Proofs.Tryz.sizeOf3, v26 := Go.Proofs.Tryz.zeroValue3, t28 := Go.Proofs.Tryz.underlying213, a28 := Go.Proofs.Tryz.isAgg213, z28 := Go.Proofs.Tryz.sizeOf213, v28 := Go.Proofs.Tryz.zeroValue213, i26 := rfl }
def keysA_ren : Ren :=
{
  f := fun x =>
    match x with
    | 10 => 193
    | n => n,
  t := fun x =>
    match x with
    | 33 => 147
    | 23 => 81
    | 0 => 0
    | 4 => 4
    | 26 => 3
    | 3 => 3
    | n => n,
  g := fun x =>
    have n := x;
    n }
set_option maxRecDepth 100000 in
theorem keysA : Go.Proofs.SlLaysZI.n10 Tryz.prog keysA_ren := { mixed := rfl, f10 := ⟨"maps.Keys[map[int]int,int,int]$1", ⟨by decide, Go.Proofs.Tryz.func193.trans (congrArg some rfl)⟩⟩, t0 := Go.Proofs.Tryz.underlying0, a0 := Go.Proofs.Tryz.isAgg0, z0 := Go.Proofs.Tryz.sizeOf0, v0 := Go.Proofs.Tryz.zeroValue0, t4 := Go.Proofs.Tryz.underlying4, a4 := Go.Proofs.Tryz.isAgg4, z4 := Go.Proofs.Tryz.sizeOf4, v4 := Go.Proofs.Tryz.zeroValue4, t23 := Go.Proofs.Tryz.underlying81, a23 := Go.Proofs.Tryz.isAgg81, z23 := Go.Proofs.Tryz.sizeOf81, v23 := Go.Proofs.Tryz.zeroValue81, t26 := Go.Proofs.Tryz.underlying3, a26 := Go.Proofs.Tryz.isAgg3, z26 := Go.Proofs.Tryz.sizeOf3, v26 := Go.Proofs.Tryz.zeroValue3, t33 := Go.Proofs.Tryz.underlying147, a33 := Go.Proofs.Tryz.isAgg147, z33 := Go.Proofs.Tryz.sizeOf147, v33 := Go.Proofs.Tryz.zeroValue147 }
def keysB_ren : Ren :=
{
  f := fun x =>
    match x with
    | 10 => 285
    | n => n,
  t := fun x =>
    match x with
    | 33 => 147
    | 23 => 204
    | 0 => 0
    | 4 => 4
    | 26 => 3
    | 3 => 257
    | n => n,
  g := fun x =>
    have n := x;
    n }
set_option maxRecDepth 100000 in
theorem keysB : Go.Proofs.SlLaysZI.n10 Tryz.prog keysB_ren := { mixed := rfl, f10 := ⟨"maps.Keys[map[int]*argosy/recv.Stream,int,*argosy/recv.Stream]$1", ⟨by decide, Go.Proofs.Tryz.func285.trans (congrArg some rfl)⟩⟩, t0 := Go.Proofs.Tryz.underlying0, a0 := Go.Proofs.Tryz.isAgg0, z0 := Go.Proofs.Tryz.sizeOf0, v0 := Go.Proofs.Tryz.zeroValue0, t4 := Go.Proofs.Tryz.underlying4, a4 := Go.Proofs.Tryz.isAgg4, z4 := Go.Proofs.Tryz.sizeOf4, v4 := Go.Proofs.Tryz.zeroValue4, t23 := Go.Proofs.Tryz.underlying204, a23 := Go.Proofs.Tryz.isAgg204, z23 := Go.Proofs.Tryz.sizeOf204, v23 := Go.Proofs.Tryz.zeroValue204, t26 := Go.Proofs.Tryz.underlying3, a26 := Go.Proofs.Tryz.isAgg3, z26 := Go.Proofs.Tryz.sizeOf3, v26 := Go.Proofs.Tryz.zeroValue3, t33 := Go.Proofs.Tryz.underlying147, a33 := Go.Proofs.Tryz.isAgg147, z33 := Go.Proofs.Tryz.sizeOf147, v33 := Go.Proofs.Tryz.zeroValue147 }
def keysC_ren : Ren :=
{
  f := fun x =>
    match x with
    | 10 => 299
    | n => n,
  t := fun x =>
    match x with
    | 33 => 147
    | 23 => 203
    | 0 => 0
    | 4 => 4
    | 26 => 3
    | 3 => 167
    | n => n,
  g := fun x =>
    have n := x;
    n }
set_option maxRecDepth 100000 in
theorem keysC : Go.Proofs.SlLaysZI.n10 Tryz.prog keysC_ren := { mixed := rfl, f10 := ⟨"maps.Keys[map[int]*argosy/send.Stream,int,*argosy/send.Stream]$1", ⟨by decide, Go.Proofs.Tryz.func299.trans (congrArg some rfl)⟩⟩, t0 := Go.Proofs.Tryz.underlying0, a0 := Go.Proofs.Tryz.isAgg0, z0 := Go.Proofs.Tryz.sizeOf0, v0 := Go.Proofs.Tryz.zeroValue0, t4 := Go.Proofs.Tryz.underlying4, a4 := Go.Proofs.Tryz.isAgg4, z4 := Go.Proofs.Tryz.sizeOf4, v4 := Go.Proofs.Tryz.zeroValue4, t23 := Go.Proofs.Tryz.underlying203, a23 := Go.Proofs.Tryz.isAgg203, z23 := Go.Proofs.Tryz.sizeOf203, v23 := Go.Proofs.Tryz.zeroValue203, t26 := Go.Proofs.Tryz.underlying3, a26 := Go.Proofs.Tryz.isAgg3, z26 := Go.Proofs.Tryz.sizeOf3, v26 := Go.Proofs.Tryz.zeroValue3, t33 := Go.Proofs.Tryz.underlying147, a33 := Go.Proofs.Tryz.isAgg147, z33 := Go.Proofs.Tryz.sizeOf147, v33 := Go.Proofs.Tryz.zeroValue147 }
end Go.AM.Sb
