-- PRINTED BY print.sh 35421559b90ae4d0a3588c463048766b98c2df88dd9212a6774a882060cdf62d: not written by this session
import Derived.Test.YtajhahgaeihfaaaProg
import Derived.Below
import Derived.Deep.Draws
import Derived.Deep.AppendLies
import Derived.Maps.AppendAt
import Derived.OwnWalk
import Derived.Laws.BytesArg
import Derived.Laws.MakeOwn
import Derived.Laws.OwnMore
import Derived.Deep.OwnRows
import Derived.Tactics
import Derived.Lib.ConvBytes
import Derived.Laws.Slices
import Derived.WalkKit
import Derived.KernelRfl
import Derived.RowKit3
import Derived.Deep.LoopGhost
import Derived.Deep.QuietTactic
import Derived.BigQuiet
import Derived.WideLaws
import Derived.Deep.DeepCutAuto
import Derived.Deep.CutBlock
import Derived.Deep.RegionHeld3
import Derived.Laws.Rows
import Derived.Lib.AppendStr
import Derived.ArgAppend
import Derived.Laws.IdiomCopy
import Derived.OrdersHeld
import Derived.Laws.BitsLemmas
import Derived.RowKit
import Derived.Test.YtajhahgaeihfaaaWWords
import Derived.Test.YtajhahgaeihfaaaWLast
import Derived.Test.YtajhahgaeihfaaaWTab
import Derived.Test.YtajhahgaeihfaaaWFour
import Derived.Test.YtajhahgaeihfaaaWQPut
import Derived.Test.YtajhahgaeihfaaaWApart
import Derived.Test.YtajhahgaeihfaaaWArr
import Derived.Test.YtajhahgaeihfaaaWZeros
import Derived.Test.YtajhahgaeihfaaaWFoot
import Derived.Test.YtajhahgaeihfaaaWKept
import Derived.Test.YtajhahgaeihfaaaWShare
import Derived.Test.YtajhahgaeihfaaaWN
import Derived.Test.YtajhahgaeihfaaaWFootNe
import Derived.Test.YtajhahgaeihfaaaWAt
import Derived.Test.YtajhahgaeihfaaaWEqStruct
import Derived.Test.YtajhahgaeihfaaaWRepsOne
import Derived.Test.YtajhahgaeihfaaaWInv
import Derived.Test.YtajhahgaeihfaaaWInvWords
import Derived.Test.YtajhahgaeihfaaaWGuard
import Derived.Test.YtajhahgaeihfaaaWNEv
import Derived.Test.YtajhahgaeihfaaaWMore
namespace Go.Proofs.Ytajhahgaeihfaaa.PConfRights
open Go.RowKit Go.Proofs.YtajhahgaeihfaaaW.PrintWords Go.Proofs.YtajhahgaeihfaaaW.PrintLast Go.Proofs.YtajhahgaeihfaaaW.PrintMore
attribute [local go_sem] max2_int min2_int max_two min_two max_three min_three max_four min_four   -- for this text's walks alone
set_option linter.unusedVariables false
set_option linter.unusedSimpArgs false



def errW : Option Int → Value
  | none => .nilIface
  | some c => .iface 0 (.int .i64 c)
theorem errW_none : errW none = .nilIface := rfl
theorem errW_some (c : Int) : errW (some c) = .iface 0 (.int .i64 c) := rfl

-- the values' own types

end Go.Proofs.Ytajhahgaeihfaaa.PConfRights
