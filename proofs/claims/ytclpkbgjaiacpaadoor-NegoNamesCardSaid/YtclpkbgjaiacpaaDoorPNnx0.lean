-- printed by the kit's print.py for the functions Nn, as this session called it: Lean checks it
import Derived.Test.YtclpkbgjaiacpaaDoorProg
import Derived.Below
import Derived.Deep.Draws
import Derived.Deep.AppendLies
import Derived.Maps.AppendAt
import Derived.OwnWalk
import Derived.Laws.BytesArg
import Derived.Laws.MakeOwn
import Derived.Laws.OwnMore
import Derived.Deep.OwnRows
import Derived.Tactics
import Derived.Lib.ConvBytes
import Derived.Laws.Slices
import Derived.WalkKit
import Derived.KernelRfl
import Derived.RowKit3
import Derived.Deep.LoopGhost
import Derived.Deep.QuietTactic
import Derived.BigQuiet
import Derived.WideLaws
import Derived.Deep.DeepCutAuto
import Derived.Deep.CutBlock
import Derived.Deep.RegionHeld3
import Derived.Laws.Rows
import Derived.Lib.AppendStr
import Derived.ArgAppend
import Derived.Laws.IdiomCopy
import Derived.OrdersHeld
import Derived.Laws.BitsLemmas
import Derived.RowKit
import Derived.Test.YtclpkbgjaiacpaaDoorWWords
import Derived.Test.YtclpkbgjaiacpaaDoorWLast
import Derived.Test.YtclpkbgjaiacpaaDoorWTab
import Derived.Test.YtclpkbgjaiacpaaDoorWFour
import Derived.Test.YtclpkbgjaiacpaaDoorWQPut
import Derived.Test.YtclpkbgjaiacpaaDoorWApart
import Derived.Test.YtclpkbgjaiacpaaDoorWArr
import Derived.Test.YtclpkbgjaiacpaaDoorWZeros
import Derived.Test.YtclpkbgjaiacpaaDoorWFoot
import Derived.Test.YtclpkbgjaiacpaaDoorWKept
import Derived.Test.YtclpkbgjaiacpaaDoorWShare
import Derived.Test.YtclpkbgjaiacpaaDoorWN
import Derived.Test.YtclpkbgjaiacpaaDoorWFootNe
import Derived.Test.YtclpkbgjaiacpaaDoorWAt
import Derived.Test.YtclpkbgjaiacpaaDoorWEqStruct
import Derived.Test.YtclpkbgjaiacpaaDoorWRepsOne
import Derived.Test.YtclpkbgjaiacpaaDoorWInv
import Derived.Test.YtclpkbgjaiacpaaDoorWInvWords
import Derived.Test.YtclpkbgjaiacpaaDoorWGuard
import Derived.Test.YtclpkbgjaiacpaaDoorWNEv
import Derived.Test.YtclpkbgjaiacpaaDoorWMore
namespace Go.Proofs.YtclpkbgjaiacpaaDoor.PNn
open Go.RowKit Go.Proofs.YtclpkbgjaiacpaaDoorW.PrintWords Go.Proofs.YtclpkbgjaiacpaaDoorW.PrintLast Go.Proofs.YtclpkbgjaiacpaaDoorW.PrintMore
attribute [local go_sem] max2_int min2_int max_two min_two max_three min_three max_four min_four   -- for this text's walks alone
set_option linter.unusedVariables false
set_option linter.unusedSimpArgs false



def errW : Option Int → Value
  | none => .nilIface
  | some c => .iface 0 (.int .i64 c)
theorem errW_none : errW none = .nilIface := rfl
theorem errW_some (c : Int) : errW (some c) = .iface 0 (.int .i64 c) := rfl

theorem info5 : (Tryd.prog.info? 5).map (fun i => (i.zero, i.size, i.bytes)) = some (some (.int .u8 0), 1, 1) := by kernel_rfl
theorem info9 : (Tryd.prog.info? 9).map (fun i => (i.zero, i.size, i.bytes)) = some (some (.string ⟨#[]⟩), 1, 16) := by kernel_rfl
-- the values' own types

end Go.Proofs.YtclpkbgjaiacpaaDoor.PNn
