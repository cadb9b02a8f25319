/- The round's configuration: spans.Cut is told of by its own proof. -/
import Derived.Test.YtjienkojedlfjaaQ04
namespace Vai.L04
open Go Vai
theorem av_inj {s t : Spn} (h : s.av = t.av) : s = t := by
  obtain ⟨a, b⟩ := s; obtain ⟨c, d⟩ := t
  simp only [Spn.av, AV.agg.injEq, List.cons.injEq, AV.int.injEq, true_and, and_true] at h
  rw [h.1, h.2]
theorem prows_inj : ∀ {l m : List Spn}, prows l = prows m → l = m
  | [], [], _ => rfl
  | [], _ :: _, h => by cases h
  | _ :: _, [], h => by cases h
  | s :: l, t :: m, h => by
    have h : s.av :: prows l = t.av :: prows m := h
    rw [List.cons.injEq] at h
    rw [av_inj h.1, prows_inj h.2]
end Vai.L04
namespace Vai.R3
open Go Go.Proofs Vai Vai.L04 Vai.L04c
set_option maxRecDepth 100000
set_option linter.unusedVariables false
set_option linter.unusedSimpArgs false

abbrev argC (l : List Spn) (s : Spn) : List AV := [.osl (prows l), .agg [.int .i64 s.a, .int .i64 s.b]]
abbrev ansC (l : List Spn) (s : Spn) : AV := .tup [.osl (prows (cutR l s)), .int .i64 (cutE l s)]
def IsCut (xs : List AV) (r : AV) : Prop := ∃ (l : List Spn) (s : Spn), l.length ≤ 9223372036854775806 ∧ xs = argC l s ∧ r = ansC l s
noncomputable def extCut (xs : List AV) : Option AV := @dite _ (∃ r, IsCut xs r) (Classical.propDecidable _) (fun h => some h.choose) fun _ => none
theorem extCut_ok {xs : List AV} {r : AV} (h : extCut xs = some r) : FnOk Try.prog 60 xs r := by
  unfold extCut at h
  split at h
  · rename_i hx
    obtain ⟨l, s, hl, rfl, hr⟩ := hx.choose_spec
    simp only [Option.some.injEq] at h
    rw [← h, hr]
    exact cut_fn l s hl
  · cases h
theorem extCut_at {l : List Spn} {s : Spn} (hl : l.length ≤ 9223372036854775806) : extCut (argC l s) = some (ansC l s) := by
  have hx : ∃ r, IsCut (argC l s) r := ⟨_, l, s, hl, rfl, rfl⟩
  unfold extCut
  rw [dif_pos hx]
  obtain ⟨l', s', hl', he, hr⟩ := hx.choose_spec
  simp only [argC, List.cons.injEq, AV.osl.injEq, and_true] at he
  obtain ⟨e1, e2⟩ := he
  have e2 : s.av = s'.av := e2
  rw [hr, prows_inj e1, av_inj e2]
noncomputable def cfg : Cfg := { R3c.cfg with ext := fun f => if f = 60 then some extCut else none }
theorem prog_ok : ProgOk cfg := progOk_of (by kernel_rfl)
theorem mixed : cfg.P.follows .mixedOrders = true := R3c.mixed
theorem ext_ok : ExtOk cfg := by
  refine ⟨fun f g xs r h hg => ?_, fun f z b h => R3c.ext_ok.2 f z b h⟩
  have h : (if f = 60 then some extCut else none) = some g := h
  split at h
  · cases h; subst_vars; exact extCut_ok hg
  · cases h
/-- What spans.Cut answers. -/
theorem pcut_ok (l : List Spn) (s : Spn) (hl : l.length ≤ 9223372036854775806) : Ans cfg 60 (argC l s) (ansC l s) := Ev.of fun k => by
  show fnV cfg (exec cfg k) 60 (argC l s) = _
  unfold fnV
  have : cfg.ext 60 = some extCut := rfl
  rw [this]
  exact extCut_at hl
end Vai.R3
