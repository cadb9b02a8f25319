/- The row of SentAll: for every input the law returns true. -/
import Derived.Test.YtcnjoldhaijbmaaRows
import Derived.Test.YtcnjoldhaijbmaaK12
import Derived.Test.YtcnjoldhaijbmaaVaiT
import Derived.WalkKit
import Derived.ProofKit
import Derived.OpenShut
import Derived.ShutString
import Derived.ChangeOld
import Derived.Below
import Derived.SizedLaws
namespace Go.Proofs.Ytcnjoldhaijbmaa.sentAll
open Go.ChangeShapes Go.WideShapes Go.ChangeAt Go.RowKit
open Go.ChangeMaps (open_string shut_string)
set_option linter.unusedVariables false
theorem own : ownKnob Try.prog.godebug = none := by kernel_rfl
theorem laidOut : laidOutB Try.prog = true := by kernel_rfl
set_option maxRecDepth 100000 in
theorem lifted (os : Os) (started : os.Started) (H : Type) (enc : TypeId × Value → H) :
    ReturnsInHanded {} Try.checked os 6 .any (Rows.sentAllSpec.pre6 enc Try.prog Try.f6 Rows.sentAllRow.domain false) (Rows.sentAllSpec.post enc Try.prog Try.f6 false true false false) := by
  refine returnsInHanded_of_change_sized (C := Try.checked) own started (by kernel_rfl) Try.func6
    (ChangeSpec.witness6 (enc := enc) (C := Try.checked) false ⟨#[], #[.slice none 0 0], []⟩ 8 (by kernel_rfl) (by kernel_rfl) (by kernel_rfl) (by kernel_rfl)) ?_
  intro W base args ds gs before hval0 hW hcnd hsz0 _
  have hval : ∀ (j : Nat) t v, Try.f6.params[j]? = some t → args[j]? = some v → Value.okWide Try.prog W .any base t v := hval0
  have hW' := hW
  obtain ⟨p, q, hA0, hV, rfl, hfz, hnd⟩ := hW
  have hA : DataW.TrodAll enc Try.prog W 0 (fun _ => true) true Try.f6.params.toList args.toList ds p := hA0
  rw [Try.params6] at hA hval
  obtain ⟨v0, vs0, d0, ds0, p0, q0, hargs, rfl, rfl, h0, r0⟩ := trodAll_cons hA
  obtain ⟨rfl, rfl, rfl⟩ := trodAll_nil r0
  obtain rfl : args = #[v0] := by cases args; simp_all
  obtain ⟨rfl, rfl⟩ := trodVars_none hV
  have k0 := h0
  have lt0 : ∀ x ∈ p0, x.block < W.heap.size := by obtain ⟨m, hm⟩ := k0; exact DataW.trod_lt m _ _ _ hm
  obtain ⟨a0, len0, cap0, rfl⟩ := okWide_slice Try.underlying24 (hval 0 24 v0 rfl rfl)
  obtain ⟨m0, hm0⟩ := h0
  obtain ⟨l0, H0, _, C0⟩ := Vai.trod_has m0 _ _ _ 4 _ hm0 Vai.L12.sh24
  have H0' := H0
  obtain ⟨l0, rfl, hl0, hok0⟩ := Vai.L12.hasSnts H0'
  obtain ⟨z0, hz0, R0⟩ := Vai.rf_one (s := _) rfl H0 C0 rfl
  obtain rfl : z0 = _ := by injection hz0 with h; exact h.symm
  obtain ⟨kk, hk⟩ := (Vai.L12.sentAll_all l0 hl0).get
  have hcall := Vai.law_calls Vai.R2.prog_ok Vai.R2.ext_ok Vai.R2.mixed (f := 6) (fn := Try.f6) Try.func6 rfl (by kernel_rfl) hk (W := W) (.cons R0 (Vai.RFs.nil))
  refine hcall.mono fun e W' ⟨he, bel⟩ => ?_
  subst he
  exact ⟨_, rfl, _, _, _, [], _, [], hW', trodAll_mk1 (shut_bool Try.underlying4 _), (trodAll_cons_mk (Below.trod laidOut (by kernel_rfl) (of_decide_eq_true (by kernel_rfl)) k0 bel lt0) trodAll_mk0), rfl, bel.frame _, fun h => by cases h⟩
theorem over : Rows.sentAllRow.holds Try.pinned (OpenSpec.ofChange Rows.sentAllSpec) :=
  OpenClaim.holds_of_wide 6 Try.f6 rfl rfl rfl rfl rfl rfl rfl ⟨rfl, rfl, rfl, rfl, rfl⟩ rfl rfl rfl rfl rfl (by kernel_rfl) Try.func6 (by kernel_rfl)
    (of_decide_eq_true (by kernel_rfl)) (by unfold Func.isWrapper; first | (rw [if_pos (by decide +kernel)]; kernel_rfl) | (rw [if_neg (by decide +kernel)]; exact ⟨rfl, rfl⟩))
    (fun os started H enc _ => lifted os started H enc)
theorem proved : Rows.SentAllSaid := over
end Go.Proofs.Ytcnjoldhaijbmaa.sentAll
namespace Go.Proofs.Ytcnjoldhaijbmaa
/-- The row, under a short name, for the claim. -/
theorem sentAll_holds : Rows.SentAllSaid := sentAll.proved
end Go.Proofs.Ytcnjoldhaijbmaa
