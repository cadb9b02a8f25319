import Derived.Test.YtjienkojedlfjaaN04
import Derived.Test.YtjienkojedlfjaaVoY
namespace Vai.R3c
open Go Go.Proofs Vai Vai.L04
set_option maxRecDepth 100000
set_option linter.unusedVariables false
set_option linter.unusedSimpArgs false
noncomputable def cfg : Cfg := { P := Try.prog, skip := fun _ => false, inl := fun f => ([94, 91] : List Nat).contains f, ext := fun f => if ([57, 90] : List Nat).contains f then some (envV [F_may, F_one, F_told] f) else none, cln := fun _ => none }
theorem prog_ok : ProgOk cfg := progOk_of (by kernel_rfl)
theorem mixed : cfg.P.follows .mixedOrders = true := by kernel_rfl
theorem ext_ok : ExtOk cfg := by
  refine ⟨fun f g xs r hg h => ?_, fun f z b h => (nomatch h), fun f g xs bs r hg h => (nomatch hg)⟩
  have hg : (if ([57, 90] : List Nat).contains f then some (envV [F_may, F_one, F_told] f) else none) = some g := hg
  split at hg
  · cases hg; exact envV_ok _ h
  · cases hg
theorem ans_ext {f : FuncId} {xs : List AV} {r : AV} (hf : ([57, 90] : List Nat).contains f = true) (h : envV [F_may, F_one, F_told] f xs = some r) : Ans cfg f xs r := Ev.of fun k => by
  have e : cfg.ext f = some (envV [F_may, F_one, F_told] f) := if_pos hf
  unfold fnV
  rw [e]
  exact h
end Vai.R3c
namespace Vai.L04c
open Go Go.Proofs Vai Vai.L04 Vai.R3c
def oneP (a b : Int) : Bool := Spn.one ⟨a, b⟩
theorem pone_ok (a b : Int) : Ans cfg 90 [.agg [.int .i64 a, .int .i64 b]] (.bool (oneP a b)) := ans_ext rfl (envV_at F_one ⟨a, b⟩ trivial [F_may] [F_told] rfl)
theorem pmay_ok (l : List Spn) (hl : l.length ≤ 9223372036854775806) : Ans cfg 57 [.osl (prows l)] (.bool (mayP l)) := ans_ext rfl (envV_at F_may l hl [] [F_one, F_told] rfl)
end Vai.L04c
