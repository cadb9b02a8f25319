/- The row of ReceiverPrefix: for every input the law returns true. -/
import Derived.Test.YtjienkojedlfjaaRows
import Derived.Test.YtjienkojedlfjaaN21p
import Derived.Test.YtjienkojedlfjaaVbW
import Derived.WalkKit
import Derived.ProofKit
import Derived.OpenShut
import Derived.ShutString
import Derived.ChangeOld
import Derived.Below
import Derived.SizedLaws
namespace Go.Proofs.Ytjienkojedlfjaa.receiverPrefix
open Go.ChangeShapes Go.WideShapes Go.ChangeAt Go.RowKit
open Go.ChangeMaps (open_string shut_string)
set_option linter.unusedVariables false
theorem own : ownKnob Try.prog.godebug = none := by kernel_rfl
theorem laidOut : laidOutB Try.prog = true := by kernel_rfl
set_option maxRecDepth 100000 in
theorem lifted (os : Os) (started : os.Started) (H : Type) (enc : TypeId × Value → H) :
    ReturnsInHanded {} Try.checked os 12 .any (Rows.receiverPrefixSpec.pre6 enc Try.prog Try.f12 Rows.receiverPrefixRow.domain false) (Rows.receiverPrefixSpec.post enc Try.prog Try.f12 false true false false) := by
  refine returnsInHanded_of_change_sized (C := Try.checked) own started (by kernel_rfl) Try.func12
    (ChangeSpec.witness6 (enc := enc) (C := Try.checked) false ⟨#[], #[.slice none 0 0, .slice none 0 0, .int .i64 0], []⟩ 8 (by kernel_rfl) (by kernel_rfl) (by kernel_rfl) (by kernel_rfl)) ?_
  intro W base args ds gs before hval0 hW hcnd hsz0 _
  have hval : ∀ (j : Nat) t v, Try.f12.params[j]? = some t → args[j]? = some v → Value.okWide Try.prog W .any base t v := hval0
  have hW' := hW
  obtain ⟨p, q, hA0, hV, rfl, hfz, hnd⟩ := hW
  have hA : DataW.TrodAll enc Try.prog W 0 (fun _ => true) true Try.f12.params.toList args.toList ds p := hA0
  rw [Try.params12] at hA hval
  obtain ⟨v0, vs0, d0, ds0, p0, q0, hargs, rfl, rfl, h0, r0⟩ := trodAll_cons hA
  obtain ⟨v1, vs1, d1, ds1, p1, q1, rfl, rfl, rfl, h1, r1⟩ := trodAll_cons r0
  obtain ⟨v2, vs2, d2, ds2, p2, q2, rfl, rfl, rfl, h2, r2⟩ := trodAll_cons r1
  obtain ⟨rfl, rfl, rfl⟩ := trodAll_nil r2
  obtain rfl : args = #[v0, v1, v2] := by cases args; simp_all
  obtain ⟨rfl, rfl⟩ := trodVars_none hV
  have k0 := h0
  have lt0 : ∀ x ∈ p0, x.block < W.heap.size := by obtain ⟨m, hm⟩ := k0; exact DataW.trod_lt m _ _ _ hm
  have k1 := h1
  have lt1 : ∀ x ∈ p1, x.block < W.heap.size := by obtain ⟨m, hm⟩ := k1; exact DataW.trod_lt m _ _ _ hm
  have k2 := h2
  have lt2 : ∀ x ∈ p2, x.block < W.heap.size := by obtain ⟨m, hm⟩ := k2; exact DataW.trod_lt m _ _ _ hm
  obtain ⟨a0, len0, cap0, rfl⟩ := okWide_slice Try.underlying22 (hval 0 22 v0 rfl rfl)
  obtain ⟨m0, hm0⟩ := h0
  obtain ⟨l0, H0, _, C0⟩ := Vai.trod_has m0 _ _ _ _ _ hm0 Vai.L21.sh_byts
  have H0' := H0
  obtain ⟨b0, rfl, hl0, hb0⟩ := Vai.hasBytes H0'
  obtain ⟨z0, hz0, R0⟩ := Vai.rf_one (s := _) rfl H0 C0 rfl
  obtain rfl : z0 = _ := by injection hz0 with h; exact h.symm
  obtain ⟨a1, len1, cap1, rfl⟩ := okWide_slice Try.underlying77 (hval 1 77 v1 rfl rfl)
  obtain ⟨m1, hm1⟩ := h1
  obtain ⟨l1, H1, _, C1⟩ := Vai.trod_has m1 _ _ _ _ _ hm1 Vai.L21.sh_stps
  have H1' := H1
  obtain ⟨st1, rfl⟩ := Vai.L21.hasStps H1'
  obtain ⟨z1, hz1, R1⟩ := Vai.rf_one (s := _) rfl H1 C1 rfl
  obtain rfl : z1 = _ := by injection hz1 with h; exact h.symm
  obtain ⟨n2, rfl, _, _, w2⟩ := open_int Try.underlying3 (hval 2 3 v2 rfl rfl) h2
  have w2 := Vai.i64_range w2
  have hcall := Vai.law_callsF (f := 12) (fn := Try.f12) Try.func12 rfl (by kernel_rfl) (Vai.L21.lpre_ok b0 hb0 st1 n2) (W := W) (.cons R0 (.cons R1 (.cons (.int .i64 n2) (Vai.RFs.nil))))
  refine hcall.mono fun e W' ⟨he, bel⟩ => ?_
  subst he
  exact ⟨_, rfl, _, _, _, [], _, [], hW', trodAll_mk1 (shut_bool Try.underlying4 _), (trodAll_cons_mk (Below.trod laidOut (by kernel_rfl) (of_decide_eq_true (by kernel_rfl)) k0 bel lt0) (trodAll_cons_mk (Below.trod laidOut (by kernel_rfl) (of_decide_eq_true (by kernel_rfl)) k1 bel lt1) (trodAll_cons_mk (Below.trod laidOut (by kernel_rfl) (of_decide_eq_true (by kernel_rfl)) k2 bel lt2) trodAll_mk0))), rfl, bel.frame _, fun h => by cases h⟩
theorem over : Rows.receiverPrefixRow.holds Try.pinned (OpenSpec.ofChange Rows.receiverPrefixSpec) :=
  OpenClaim.holds_of_wide 12 Try.f12 rfl rfl rfl rfl rfl rfl rfl ⟨rfl, rfl, rfl, rfl, rfl⟩ rfl rfl rfl rfl rfl (by kernel_rfl) Try.func12 (by kernel_rfl)
    (of_decide_eq_true (by kernel_rfl)) (by unfold Func.isWrapper; first | (rw [if_pos (by decide +kernel)]; kernel_rfl) | (rw [if_neg (by decide +kernel)]; exact ⟨rfl, rfl⟩))
    (fun os started H enc _ => lifted os started H enc)
theorem proved : Rows.ReceiverPrefixSaid := over
end Go.Proofs.Ytjienkojedlfjaa.receiverPrefix
namespace Go.Proofs.Ytjienkojedlfjaa
/-- The row, under a short name, for the claim. -/
theorem receiverPrefix_holds : Rows.ReceiverPrefixSaid := receiverPrefix.proved
end Go.Proofs.Ytjienkojedlfjaa
