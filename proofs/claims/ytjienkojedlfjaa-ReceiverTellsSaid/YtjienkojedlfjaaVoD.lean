import Derived.Test.YtjienkojedlfjaaVoC
import Derived.Test.YtjienkojedlfjaaVoY
namespace Vai.L04c
open Go Go.RowKit Go.Proofs Vai Vai.L04 Vai.R3c
set_option maxRecDepth 100000
set_option linter.unusedVariables false
set_option linter.unusedSimpArgs false
def pre8 : Code → Code
  | .region id ops d => .region id (ops.extract 0 8) d
  | c => c
noncomputable abbrev IL : Code := lc Try.prog 102 0
noncomputable abbrev IX : Code := sub IL [1, 1, 0, 0]
noncomputable def fnOf (f : Nat) : Func := (Try.prog.funcs[f]?).getD default
noncomputable def codeOf (f : Nat) : Code := (fnOf f).body.getD .skip
def rngA : Code → Code
  | .block _ (.rangeFunc _ _ a _) => a
  | _ => .skip
def rngB : Code → Code
  | .block _ (.rangeFunc _ _ _ b) => b
  | _ => .skip
noncomputable abbrev CR : Code := (flat (codeOf 60)).getD 5 .skip
end Vai.L04c
