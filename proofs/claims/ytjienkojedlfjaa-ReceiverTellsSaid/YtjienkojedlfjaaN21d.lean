import Derived.Test.YtjienkojedlfjaaN21b
import Derived.Test.YtjienkojedlfjaaNR6b
namespace Vai.L21
open Go Go.Proofs Vai Vai.L04 Vai.L06
set_option maxRecDepth 100000
set_option linter.unusedVariables false
set_option linter.unusedSimpArgs false
section
variable {R : Type} {V : EV} {M : EM} {G : Nat → CS → Option R} {K : Res → Option R}
noncomputable abbrev Dr7may : EV → EM → Dn := dnV Try.prog 81 [] [] []
theorem r7may_0 (a0 : AV) : (Dr7may V M).stepK G K 0 ⟨[wS ((a0))], []⟩ =
    (bif decide (ci a0 0 < (0 : Int)) then K (AV.bool false, []) else (bif decide (ci a0 0 > (4 : Int)) then K (AV.bool false, []) else (bif decide (ci a0 1 < (0 : Int)) then K (AV.bool false, []) else (bif decide (ci a0 1 > (3 : Int)) then K (AV.bool false, []) else (bif decide (ci a0 8 < (0 : Int)) then K (AV.bool false, []) else (bif decide (ci a0 8 > (65535 : Int)) then K (AV.bool false, []) else (bif decide (ci a0 9 < (0 : Int)) then K (AV.bool false, []) else (bif decide (ci a0 9 > (7 : Int)) then K (AV.bool false, []) else (bif decide (ci a0 10 < (16777216 : Int)) then (bif decide ((↑(List.length (cl a0 13)) : Int) ≤ (3 : Int)) then K (AV.bool (decide ((↑(List.length (cl a0 14)) : Int) ≤ (1460 : Int))), []) else K (AV.bool false, [])) else K (AV.bool false, [])))))))))) := by kernel_rfl
noncomputable abbrev Dr2unw : EV → EM → Dn := dnV Try.prog 82 [99] [] [(506, [0, 1, 5, 6, 7])]
theorem r2unw_0 (a0 : Int) (a1 : Int) : (Dr2unw V M).stepK G K 0 ⟨[.int .i64 a0, .int .u32 a1], []⟩ =
    (bif decide (a0 < (0 : Int)) then G 506 ({ vs := [AV.int .i64 (0 : Int), AV.int .u32 a1, AV.int .i64 (0 : Int), AV.int .i64 (-1 : Int), AV.int .i64 (IntKind.wrap .i64 ((0 : Int) - (1 : Int)))], bs := [] }) else (bif decide (a0 > (4611686018427387904 : Int)) then G 506 ({ vs := [AV.int .i64 (4611686018427387904 : Int), AV.int .u32 a1, AV.int .i64 (1073741824 : Int), AV.int .i64 (-1 : Int), AV.int .i64 (1073741823 : Int)], bs := [] }) else G 506 ({ vs := [AV.int .i64 a0, AV.int .u32 a1, AV.int .i64 (IntKind.wrap .i64 (Int.tdiv a0 (4294967296 : Int))), AV.int .i64 (-1 : Int), AV.int .i64 (IntKind.wrap .i64 (IntKind.wrap .i64 (Int.tdiv a0 (4294967296 : Int)) - (1 : Int)))], bs := [] }))) := by kernel_rfl
theorem r2unw_1 (n0 : Int) (n1 : Int) (n2 : Int) (n3 : Int) (n4 : Int) : (Dr2unw V M).stepK G K 506 ⟨[(.int .i64 n0), (.int .u32 n1), (.int .i64 n2), (.int .i64 n3), (.int .i64 n4)], []⟩ =
    (bif decide (n4 ≤ IntKind.wrap .i64 (n2 + (1 : Int))) then (bif decide (n4 ≥ (0 : Int)) then (bif decide (n3 < (0 : Int)) then G 506 ({ vs := [AV.int .i64 n0, AV.int .u32 n1, AV.int .i64 n2, AV.int .i64 (IntKind.wrap .i64 (IntKind.wrap .i64 ((4294967296 : Int) * n4) + IntKind.wrap .i64 n1)), AV.int .i64 (IntKind.wrap .i64 (n4 + (1 : Int)))], bs := [] }) else Option.bind (V 99 [AV.int .i64 (IntKind.wrap .i64 (IntKind.wrap .i64 ((4294967296 : Int) * n4) + IntKind.wrap .i64 n1)), AV.int .i64 n0]) (fun x0 => gd (fitA [.one (.int .i64)] x0) (Option.bind (V 99 [AV.int .i64 n3, AV.int .i64 n0]) (fun x1 => gd (fitA [.one (.int .i64)] x1) ((bif decide (AV.geti x0 < AV.geti x1) then G 506 ({ vs := [AV.int .i64 n0, AV.int .u32 n1, AV.int .i64 n2, AV.int .i64 (IntKind.wrap .i64 (IntKind.wrap .i64 ((4294967296 : Int) * n4) + IntKind.wrap .i64 n1)), AV.int .i64 (IntKind.wrap .i64 (n4 + (1 : Int)))], bs := [] }) else G 506 ({ vs := [AV.int .i64 n0, AV.int .u32 n1, AV.int .i64 n2, AV.int .i64 n3, AV.int .i64 (IntKind.wrap .i64 (n4 + (1 : Int)))], bs := [] }))))))) else G 506 ({ vs := [AV.int .i64 n0, AV.int .u32 n1, AV.int .i64 n2, AV.int .i64 n3, AV.int .i64 (IntKind.wrap .i64 (n4 + (1 : Int)))], bs := [] })) else K (AV.int .i64 n3, [])) := by kernel_rfl
noncomputable abbrev Dr2far : EV → EM → Dn := dnV Try.prog 99 [] [] []
theorem r2far_0 (a0 : Int) (a1 : Int) : (Dr2far V M).stepK G K 0 ⟨[.int .i64 a0, .int .i64 a1], []⟩ =
    (bif decide (a0 < a1) then K (AV.int .i64 (IntKind.wrap .i64 (a1 - a0)), []) else K (AV.int .i64 (IntKind.wrap .i64 (a0 - a1)), [])) := by kernel_rfl
noncomputable abbrev Dr2low : EV → EM → Dn := dnV Try.prog 86 [] [] []
theorem r2low_0 (a0 : Int) : (Dr2low V M).stepK G K 0 ⟨[.int .i64 a0], []⟩ =
    (bif decide (Int.tmod a0 (4294967296 : Int) < (0 : Int)) then K (AV.int .u32 (IntKind.wrap .u32 (IntKind.wrap .i64 (Int.tmod a0 (4294967296 : Int) + (4294967296 : Int)))), []) else K (AV.int .u32 (IntKind.wrap .u32 (Int.tmod a0 (4294967296 : Int))), [])) := by kernel_rfl
noncomputable abbrev Dr10in : EV → EM → Dn := dnV Try.prog 100 [] [] []
theorem r10in_0 (a0 : Int) : (Dr10in V M).stepK G K 0 ⟨[.int .i64 a0], []⟩ =
    (bif decide (a0 ≥ (0 : Int)) then K (AV.bool (decide (a0 ≤ (1152921504606846976 : Int))), []) else K (AV.bool false, [])) := by kernel_rfl
noncomputable abbrev Dr10may : EV → EM → Dn := dnV Try.prog 85 [100] [] []
theorem r10may_0 (a0 : AV) : (Dr10may V M).stepK G K 0 ⟨[wM ((a0))], []⟩ =
    Option.bind (V 100 [AV.int .i64 (ci a0 0)]) (fun x0 => gd (fitA [.one .bool] x0) ((bif AV.getb x0 then Option.bind (V 100 [AV.int .i64 (ci a0 1)]) (fun x1 => gd (fitA [.one .bool] x1) ((bif AV.getb x1 then Option.bind (V 100 [AV.int .i64 (ci a0 2)]) (fun x2 => gd (fitA [.one .bool] x2) ((bif AV.getb x2 then (bif decide (ci a0 3 ≥ (0 : Int)) then (bif decide (ci a0 3 ≤ ci a0 2) then (bif decide (ci a0 4 ≥ (0 : Int)) then K (AV.bool (decide (ci a0 4 ≤ (1024 : Int))), []) else K (AV.bool false, [])) else K (AV.bool false, [])) else K (AV.bool false, [])) else K (AV.bool false, [])))) else K (AV.bool false, [])))) else K (AV.bool false, [])))) := by kernel_rfl
noncomputable abbrev Dr10told : EV → EM → Dn := dnV Try.prog 87 [85] [] []
theorem r10told_0 (a0 : AV) : (Dr10told V M).stepK G K 0 ⟨[wM ((a0))], []⟩ =
    Option.bind (V 85 [wM ((a0))]) (fun x0 => gd (fitA [.one .bool] x0) ((bif !AV.getb x0 then K (AV.tup [AV.int .i64 (0 : Int), AV.int .u32 (0 : Int)], []) else K (AV.tup [AV.int .i64 (Int.tmod (ci a0 0) (8 : Int)), AV.int .u32 (IntKind.wrap .u32 (Int.tmod (ci a0 1) (16777216 : Int)))], [])))) := by kernel_rfl
noncomputable abbrev Dr21far : EV → EM → Dn := dnV Try.prog 84 [30] [] []
theorem r21far_0 (a0 : AV) : (Dr21far V M).stepK G K 0 ⟨[wW ((a0))], []⟩ =
    Option.bind (V 30 [wW ((a0))]) (fun x0 => gd (fitA [.one (.int .i64)] x0) ((bif ci a0 4 == IntKind.wrap .i64 (ci a0 0 + AV.geti x0) then K (AV.int .i64 (IntKind.wrap .i64 (IntKind.wrap .i64 (ci a0 0 + AV.geti x0) + (1 : Int))), []) else K (AV.int .i64 (IntKind.wrap .i64 (ci a0 0 + AV.geti x0)), [])))) := by kernel_rfl
noncomputable abbrev Dr21new : EV → EM → Dn := dnV Try.prog 48 [29] [] []
theorem r21new_0 (a0 : Int) : (Dr21new V M).stepK G K 0 ⟨[.int .i64 a0], []⟩ =
    Option.bind (V 29 [AV.int .i64 a0]) (fun x0 => gd (fitA [.agg kW, .one (.int .i64)] x0) (K (AV.tup [AV.agg (List.append (vwL kW 0 (AV.getc (List.getD (AV.gett x0) 0 .undef))) zT), AV.int .i64 (ti x0 1)], []))) := by kernel_rfl
noncomputable abbrev Dr21read : EV → EM → Dn := dnV Try.prog 46 [28, 43, 50] [] []
theorem r21read_0 (a0 : AV) (a1 : Int) : (Dr21read V M).stepK G K 0 ⟨[wR ((a0)), .int .i64 a1], []⟩ =
    Option.bind (V 50 [wR ((a0))]) (fun x0 => gd (fitA [.one .bool] x0) ((bif !AV.getb x0 then K (AV.tup [AV.agg zR, AV.osl [], AV.int .i64 (1 : Int)], []) else Option.bind (V 28 [wW ((a0)), AV.int .i64 a1]) (fun x1 => gd (fitA [.agg kW, .one .sl, .one (.int .i64)] x1) ((bif !ti x1 2 == (0 : Int) then K (AV.tup [AV.agg zR, AV.osl [], AV.int .i64 (ti x1 2)], []) else Option.bind (V 43 [wR ((a0))]) (fun x2 => gd (fitA [.agg kR] x2) (K (AV.tup [AV.agg (List.append (vwL kW 0 (AV.getc (List.getD (AV.gett x1) 0 .undef))) (vwL kT 5 (AV.getc x2))), AV.osl (tl x1 1), AV.int .i64 (0 : Int)], []))))))))) := by kernel_rfl
noncomputable abbrev Dr21may : EV → EM → Dn := dnV Try.prog 50 [33, 66, 85] [] []
theorem r21may_0 (a0 : AV) : (Dr21may V M).stepK G K 0 ⟨[wR ((a0))], []⟩ =
    Option.bind (V 66 [AV.osl (cl a0 5)]) (fun x0 => gd (fitA [.one .bool] x0) (Option.bind (V 85 [AV.agg (vwL kM 6 (AV.getc a0))]) (fun x1 => gd (fitA [.one .bool] x1) ((bif !AV.getb x0 then K (AV.bool false, []) else (bif !AV.getb x1 then K (AV.bool false, []) else Option.bind (V 66 [AV.osl (cl a0 11)]) (fun x2 => gd (fitA [.one .bool] x2) (Option.bind (V 85 [AV.agg (vwL kM 12 (AV.getc a0))]) (fun x3 => gd (fitA [.one .bool] x3) ((bif !AV.getb x2 then K (AV.bool false, []) else (bif !AV.getb x3 then K (AV.bool false, []) else Option.bind (V 66 [AV.osl (cl a0 17)]) (fun x4 => gd (fitA [.one .bool] x4) (Option.bind (V 85 [AV.agg (vwL kM 18 (AV.getc a0))]) (fun x5 => gd (fitA [.one .bool] x5) ((bif !AV.getb x4 then K (AV.bool false, []) else (bif !AV.getb x5 then K (AV.bool false, []) else Option.bind (V 66 [AV.osl (cl a0 23)]) (fun x6 => gd (fitA [.one .bool] x6) (Option.bind (V 85 [AV.agg (vwL kM 24 (AV.getc a0))]) (fun x7 => gd (fitA [.one .bool] x7) ((bif !AV.getb x6 then K (AV.bool false, []) else (bif !AV.getb x7 then K (AV.bool false, []) else Option.bind (V 33 [wW ((a0))]) (fun x8 => gd (fitA [.one .bool] x8) (K (AV.bool (AV.getb x8), []))))))))))))))))))))))))))) := by kernel_rfl
noncomputable abbrev Dr21own : EV → EM → Dn := dnV Try.prog 43 [25] [] []
theorem r21own_0 (a0 : AV) : (Dr21own V M).stepK G K 0 ⟨[wR ((a0))], []⟩ =
    Option.bind (V 25 [wW ((a0))]) (fun x0 => gd (fitA [.agg kW] x0) (gd (gRow 2 (cl a0 5)) (gd (gLen (0 + List.length (cl a0 5)) 16) (gd (gRow 2 (cl a0 11)) (gd (gLen (0 + List.length (cl a0 11)) 16) (gd (gRow 2 (cl a0 17)) (gd (gLen (0 + List.length (cl a0 17)) 16) (gd (gRow 2 (cl a0 23)) (gd (gLen (0 + List.length (cl a0 23)) 16) (gd (decide (0 + (0 + List.length (cl a0 5)) ≤ List.length (cl a0 5))) (gd (gFree 2 (List.take (0 + List.length (cl a0 5)) (List.drop 0 (cl a0 5)))) (gd (decide (0 + (0 + List.length (cl a0 11)) ≤ List.length (cl a0 11))) (gd (gFree 2 (List.take (0 + List.length (cl a0 11)) (List.drop 0 (cl a0 11)))) (gd (decide (0 + (0 + List.length (cl a0 17)) ≤ List.length (cl a0 17))) (gd (gFree 2 (List.take (0 + List.length (cl a0 17)) (List.drop 0 (cl a0 17)))) (gd (decide (0 + (0 + List.length (cl a0 23)) ≤ List.length (cl a0 23))) (gd (gFree 2 (List.take (0 + List.length (cl a0 23)) (List.drop 0 (cl a0 23)))) (K (AV.agg (List.append (vwL kW 0 (AV.getc x0)) (List.append [AV.osl (List.take (0 + List.length (cl a0 5)) (List.drop 0 (cl a0 5)))] (List.append (vwL kM 6 (AV.getc a0)) (List.append [AV.osl (List.take (0 + List.length (cl a0 11)) (List.drop 0 (cl a0 11)))] (List.append (vwL kM 12 (AV.getc a0)) (List.append [AV.osl (List.take (0 + List.length (cl a0 17)) (List.drop 0 (cl a0 17)))] (List.append (vwL kM 18 (AV.getc a0)) (List.append [AV.osl (List.take (0 + List.length (cl a0 23)) (List.drop 0 (cl a0 23)))] (vwL kM 24 (AV.getc a0)))))))))), []))))))))))))))))))) := by kernel_rfl
end
theorem r10in_ok (n : Int) : FnOk Try.prog 100 [.int .i64 n] (.bool (decide (0 ≤ n ∧ n ≤ 1152921504606846976))) := by
  refine fn_mk [] [] (by kernel_rfl) mixed (by kernel_rfl) (From.of ((r10in_0 n).trans ?_))
  rw [bif_and]
  exact some_bool _ (by rw [← Bool.decide_and])
noncomputable def F_r10in : Fam Try.prog := { f := 100, ι := Int, pre := fun _ => True, args := fun n => [.int .i64 n], res := fun n => .bool (decide (0 ≤ n ∧ n ≤ 1152921504606846976)), ok := fun n _ => r10in_ok n, inj := fun s t h => by simp at h; rw [h] }
theorem r10may_from {V : EV} {M : EM} (x : Mk) (h : HasV V F_r10in) : (Dr10may V M).From 0 ⟨[x.av], []⟩ = some (.bool x.may, []) := by
  refine From.of ((r10may_0 x.av).trans ?_)
  have e : ∀ n : Int, V 100 [.int .i64 n] = some (.bool (decide (0 ≤ n ∧ n ≤ 1152921504606846976))) := fun n => h n trivial
  simp only [e, V21, bif_and]
  refine some_bool _ ?_
  rw [Bool.eq_iff_iff, Mk.may_iff]
  simp only [Bool.and_eq_true, decide_eq_true_eq]
  omega
theorem r10may_ok (x : Mk) : FnOk Try.prog 85 [x.av] (.bool x.may) := fn_mk [F_r10in] [] (by kernel_rfl) mixed (by kernel_rfl) (r10may_from x (hasV 0 rfl rfl))
noncomputable def F_r10may : Fam Try.prog := { f := 85, ι := Mk, pre := fun _ => True, args := fun x => [x.av], res := fun x => .bool x.may, ok := fun x _ => r10may_ok x, inj := fun s t h => by rw [mk_inj (List.cons.inj h).1] }
theorem r10told_from {V : EV} {M : EM} (x : Mk) (h : HasV V F_r10may) : (Dr10told V M).From 0 ⟨[x.av], []⟩ = some (.tup [.int .i64 (aceP x), .int .u32 (ceP x)], []) := by
  refine From.of ((r10told_0 x.av).trans ?_)
  have e : V 85 [x.av] = some (.bool x.may) := h x trivial
  simp only [e, V21]
  unfold aceP ceP
  cases hm : x.may <;> rfl
theorem r10told_ok (x : Mk) : FnOk Try.prog 87 [x.av] (.tup [.int .i64 (aceP x), .int .u32 (ceP x)]) := fn_mk [F_r10may] [] (by kernel_rfl) mixed (by kernel_rfl) (r10told_from x (hasV 0 rfl rfl))
noncomputable def F_r10told : Fam Try.prog := { f := 87, ι := Mk, pre := fun _ => True, args := fun x => [x.av], res := fun x => .tup [.int .i64 (aceP x), .int .u32 (ceP x)], ok := fun x _ => r10told_ok x, inj := fun s t h => by rw [mk_inj (List.cons.inj h).1] }
theorem r7may_ok (x : Sg) : FnOk Try.prog 81 [x.av] (.bool x.may) := by
  refine fn_mk [] [] (by kernel_rfl) mixed (by kernel_rfl) (From.of ((r7may_0 x.av).trans ?_))
  simp only [V21, bif_and, bif_nand]
  refine some_bool _ ?_
  rw [Bool.eq_iff_iff, Sg.may_iff]
  simp only [Bool.and_eq_true, decide_eq_true_eq, Bool.not_eq_true', decide_eq_false_iff_not, qrows_len]
  omega
noncomputable def F_r7may : Fam Try.prog := { f := 81, ι := Sg, pre := fun _ => True, args := fun x => [x.av], res := fun x => .bool x.may, ok := fun x _ => r7may_ok x, inj := fun s t h => by rw [sg_inj (List.cons.inj h).1] }
def fA (a b : Int) : Int := if a < b then b - a else a - b
theorem r2far_ok (a b : Int) (h : (0 ≤ a ∧ a ≤ 4611686031312289792) ∧ 0 ≤ b ∧ b ≤ 4611686031312289792) : FnOk Try.prog 99 [.int .i64 a, .int .i64 b] (.int .i64 (fA a b)) := by
  refine fn_mk [] [] (by kernel_rfl) mixed (by kernel_rfl) (From.of ((r2far_0 a b).trans ?_))
  unfold fA
  by_cases c : a < b
  · rw [decide_eq_true c, if_pos c, w64 (n := b - a) (by omega) (by omega)]; rfl
  · rw [decide_eq_false c, if_neg c, w64 (n := a - b) (by omega) (by omega)]; rfl
noncomputable def F_r2far : Fam Try.prog := { f := 99, ι := Int × Int, pre := fun p => (0 ≤ p.1 ∧ p.1 ≤ 4611686031312289792) ∧ 0 ≤ p.2 ∧ p.2 ≤ 4611686031312289792, args := fun p => [.int .i64 p.1, .int .i64 p.2], res := fun p => .int .i64 (fA p.1 p.2), ok := fun p h => r2far_ok p.1 p.2 h, inj := fun s t h => by simp at h; rw [h.1, h.2] }
theorem r2low_ok (n : Int) (h : -9223372036854775808 ≤ n ∧ n ≤ 9223372036854775807) : FnOk Try.prog 86 [.int .i64 n] (.int .u32 (lowP n)) := by
  refine fn_mk [] [] (by kernel_rfl) mixed (by kernel_rfl) (From.of ((r2low_0 n).trans ?_))
  have hr := Int.tmod_lt_of_pos n (show (0 : Int) < 4294967296 by decide)
  have hr2 := Int.lt_tmod_of_pos n (show (0 : Int) < 4294967296 by decide)
  have hd := Int.tmod_add_mul_tdiv n 4294967296
  unfold lowP
  by_cases c : Int.tmod n 4294967296 < 0
  · rw [decide_eq_true c, w64 (by omega) (by omega)]
    simp only [cond_true]
    refine congrArg (fun z => (some (AV.int .u32 z, []) : Option Res)) ?_
    rw [IntKind.wrap_u32, IntKind.wrap_u32]; omega
  · rw [decide_eq_false c]
    simp only [cond_false]
    refine congrArg (fun z => (some (AV.int .u32 z, []) : Option Res)) ?_
    rw [IntKind.wrap_u32, IntKind.wrap_u32]; omega
noncomputable def F_r2low : Fam Try.prog := { f := 86, ι := Int, pre := fun n => -9223372036854775808 ≤ n ∧ n ≤ 9223372036854775807, args := fun n => [.int .i64 n], res := fun n => .int .u32 (lowP n), ok := r2low_ok, inj := fun s t h => by simp at h; rw [h] }
theorem r2u_end {V : EV} {M : EM} (m low b o : Int) (hb : 0 ≤ b ∧ b ≤ 1073741824) : (Dr2unw V M).From 506 ⟨[.int .i64 m, .int .u32 low, .int .i64 b, .int .i64 o, .int .i64 (b + 2)], []⟩ = some (.int .i64 o, []) := by
  refine From.of ((r2unw_1 m low b o (b + 2)).trans ?_)
  rw [w64 (n := b + 1) (by omega) (by omega), decide_eq_false (by omega)]; rfl
theorem r2u_step {V : EV} {M : EM} (m low b o k : Int) (h : HasV V F_r2far) (hb : 0 ≤ b ∧ b ≤ 1073741824) (hm : 0 ≤ m ∧ m ≤ 4611686018427387904) (hl : 0 ≤ low ∧ low < 4294967296) (hk : 0 ≤ k ∧ k ≤ b + 1) (ho : 0 ≤ o ∧ o ≤ 4611686031312289792) :
    (Dr2unw V M).From 506 ⟨[.int .i64 m, .int .u32 low, .int .i64 b, .int .i64 o, .int .i64 k], []⟩ =
    (Dr2unw V M).From 506 ⟨[.int .i64 m, .int .u32 low, .int .i64 b, .int .i64 (if fA (4294967296 * k + low) m < fA o m then 4294967296 * k + low else o), .int .i64 (k + 1)], []⟩ := by
  refine From.of ((r2unw_1 m low b o k).trans ?_)
  have e1 : V 99 [.int .i64 (4294967296 * k + low), .int .i64 m] = some (.int .i64 (fA (4294967296 * k + low) m)) := h (4294967296 * k + low, m) ⟨⟨by simp only; omega, by simp only; omega⟩, by simp only; omega, by simp only; omega⟩
  have e2 : V 99 [.int .i64 o, .int .i64 m] = some (.int .i64 (fA o m)) := h (o, m) ⟨ho, by simp only; omega, by simp only; omega⟩
  rw [w64 (n := b + 1) (by omega) (by omega), decide_eq_true hk.2, cond_true, decide_eq_true hk.1, cond_true, decide_eq_false (show ¬ o < 0 by omega), cond_false, w64 (n := 4294967296 * k) (by omega) (by omega), w64 (n := low) (by omega) (by omega), w64 (n := 4294967296 * k + low) (by omega) (by omega), w64 (n := k + 1) (by omega) (by omega)]
  simp only [V21, e1, e2]
  by_cases c : fA (4294967296 * k + low) m < fA o m
  · rw [decide_eq_true c, if_pos c]; rfl
  · rw [decide_eq_false c, if_neg c]; rfl
theorem r2u_first {V : EV} {M : EM} (m low b k : Int) (hb : 0 ≤ b ∧ b ≤ 1073741824) (hl : 0 ≤ low ∧ low < 4294967296) (hk : 0 ≤ k ∧ k ≤ b + 1) :
    (Dr2unw V M).From 506 ⟨[.int .i64 m, .int .u32 low, .int .i64 b, .int .i64 (-1), .int .i64 k], []⟩ =
    (Dr2unw V M).From 506 ⟨[.int .i64 m, .int .u32 low, .int .i64 b, .int .i64 (4294967296 * k + low), .int .i64 (k + 1)], []⟩ := by
  refine From.of ((r2unw_1 m low b (-1) k).trans ?_)
  rw [w64 (n := b + 1) (by omega) (by omega), decide_eq_true hk.2, cond_true, decide_eq_true hk.1, cond_true, decide_eq_true (show (-1 : Int) < 0 by omega), cond_true, w64 (n := 4294967296 * k) (by omega) (by omega), w64 (n := low) (by omega) (by omega), w64 (n := 4294967296 * k + low) (by omega) (by omega), w64 (n := k + 1) (by omega) (by omega)]
theorem r2u_run {V : EV} {M : EM} (m low b : Int) (h : HasV V F_r2far) (hm : 0 ≤ m ∧ m ≤ 4611686018427387904) (hb : b = m / 4294967296) (hl : 0 ≤ low ∧ low < 4294967296) :
    (Dr2unw V M).From 506 ⟨[.int .i64 m, .int .u32 low, .int .i64 b, .int .i64 (-1), .int .i64 (b - 1)], []⟩ =
    some (.int .i64 (if m - m % 4294967296 + low - m ≥ 2147483648 then (if m - m % 4294967296 + low ≥ 4294967296 then m - m % 4294967296 + low - 4294967296 else m - m % 4294967296 + low) else if m - (m - m % 4294967296 + low) > 2147483648 then m - m % 4294967296 + low + 4294967296 else m - m % 4294967296 + low), []) := by
  have hb2 : 0 ≤ b ∧ b ≤ 1073741824 := by omega
  by_cases c : b = 0
  · have e0 : (Dr2unw V M).From 506 ⟨[.int .i64 m, .int .u32 low, .int .i64 b, .int .i64 (-1), .int .i64 (b - 1)], []⟩ = (Dr2unw V M).From 506 ⟨[.int .i64 m, .int .u32 low, .int .i64 b, .int .i64 (-1), .int .i64 b], []⟩ := by
      refine From.of ((r2unw_1 m low b (-1) (b - 1)).trans ?_)
      rw [w64 (n := b + 1) (by omega) (by omega), decide_eq_true (by omega), cond_true, decide_eq_false (by omega), cond_false, w64 (n := b - 1 + 1) (by omega) (by omega), show b - 1 + 1 = b by omega]
    rw [e0, r2u_first m low b b hb2 hl ⟨by omega, by omega⟩, r2u_step m low b _ (b + 1) h hb2 hm hl ⟨by omega, by omega⟩ ⟨by omega, by omega⟩, show b + 1 + 1 = b + 2 by omega, r2u_end m low b _ hb2]
    refine congrArg (fun z => (some (AV.int .i64 z, []) : Option Res)) ?_
    unfold fA
    split <;> split <;> split <;> split <;> first | omega | (split <;> omega)
  · rw [r2u_first m low b (b - 1) hb2 hl ⟨by omega, by omega⟩, show b - 1 + 1 = b by omega, r2u_step m low b _ b h hb2 hm hl ⟨by omega, by omega⟩ ⟨by omega, by omega⟩]
    rw [r2u_step m low b _ (b + 1) h hb2 hm hl ⟨by omega, by omega⟩ ⟨by split <;> omega, by split <;> omega⟩, show b + 1 + 1 = b + 2 by omega, r2u_end m low b _ hb2]
    refine congrArg (fun z => (some (AV.int .i64 z, []) : Option Res)) ?_
    have f0 : fA (4294967296 * (b - 1) + low) m = m - (4294967296 * (b - 1) + low) := by unfold fA; rw [if_pos (by omega)]
    have f2 : fA (4294967296 * (b + 1) + low) m = 4294967296 * (b + 1) + low - m := by unfold fA; rw [if_neg (by omega)]
    by_cases d : 4294967296 * b + low < m
    · have f1 : fA (4294967296 * b + low) m = m - (4294967296 * b + low) := by unfold fA; rw [if_pos d]
      rw [f1, f0, if_pos (show m - (4294967296 * b + low) < m - (4294967296 * (b - 1) + low) by omega), f1, f2]
      split <;> split <;> first | omega | (split <;> omega)
    · have f1 : fA (4294967296 * b + low) m = 4294967296 * b + low - m := by unfold fA; rw [if_neg d]
      rw [f1, f0]
      by_cases c2 : 4294967296 * b + low - m < m - (4294967296 * (b - 1) + low)
      · rw [if_pos c2, f1, f2]
        split <;> split <;> first | omega | (split <;> omega)
      · rw [if_neg c2, f0, f2]
        split <;> split <;> first | omega | (split <;> omega)
theorem r2unw_from {V : EV} {M : EM} (n low : Int) (hl : 0 ≤ low ∧ low < 4294967296) (hn : -9223372036854775808 ≤ n ∧ n ≤ 9223372036854775807) (h : HasV V F_r2far) : (Dr2unw V M).From 0 ⟨[.int .i64 n, .int .u32 low], []⟩ = some (.int .i64 (unwP n low), []) := by
  refine From.of ((r2unw_0 n low).trans ?_)
  have hm := nearP_rng n
  have key := r2u_run (V := V) (M := M) (nearP n) low (nearP n / 4294967296) h hm rfl hl
  unfold unwP
  dsimp only
  refine Eq.trans ?_ key
  by_cases c : n < 0
  · have e : nearP n = 0 := by unfold nearP; rw [if_neg (show ¬ (4611686018427387904 : Int) < n by omega), if_neg (by omega)]
    rw [decide_eq_true c, cond_true, e]; rfl
  · rw [decide_eq_false c, cond_false]
    by_cases c2 : n > 4611686018427387904
    · have e : nearP n = 4611686018427387904 := by unfold nearP; rw [if_pos c2, if_pos (by decide)]
      rw [decide_eq_true c2, cond_true, e]; rfl
    · have e : nearP n = n := nearP_of (by omega) (by omega)
      have ht : Int.tdiv n 4294967296 = n / 4294967296 := Int.tdiv_eq_ediv_of_nonneg (by omega)
      rw [decide_eq_false c2, cond_false, e, ht, w64 (n := n / 4294967296) (by omega) (by omega), w64 (n := n / 4294967296 - 1) (by omega) (by omega)]
theorem r2unw_ok (n low : Int) (hl : 0 ≤ low ∧ low < 4294967296) (hn : -9223372036854775808 ≤ n ∧ n ≤ 9223372036854775807) : FnOk Try.prog 82 [.int .i64 n, .int .u32 low] (.int .i64 (unwP n low)) := fn_mk [F_r2far] [] (by kernel_rfl) mixed (by kernel_rfl) (r2unw_from n low hl hn (hasV 0 rfl rfl))
noncomputable def F_r2unw : Fam Try.prog := { f := 82, ι := Int × Int, pre := fun p => (0 ≤ p.2 ∧ p.2 < 4294967296) ∧ -9223372036854775808 ≤ p.1 ∧ p.1 ≤ 9223372036854775807, args := fun p => [.int .i64 p.1, .int .u32 p.2], res := fun p => .int .i64 (unwP p.1 p.2), ok := fun p h => r2unw_ok p.1 p.2 h.1 h.2, inj := fun s t h => by simp at h; rw [h.1, h.2] }
theorem r21may_from {V : EV} {M : EM} (r : Rc) (h : r.Sm) (h1 : HasV V F_r6may) (h2 : HasV V F_r4may) (h3 : HasV V F_r10may) : (Dr21may V M).From 0 ⟨[r.av], []⟩ = some (.bool r.may, []) := by
  refine From.of ((r21may_0 r.av).trans ?_)
  have e1 : V 33 [r.w.av] = some (.bool r.w.may) := h1 r.w h.w
  have e2 : ∀ l : List Spn, l.length ≤ 90000 → V 66 [.osl (prows l)] = some (.bool (mayP l)) := fun l hl => h2 l (by show l.length ≤ _; omega)
  have e3 : ∀ x : Mk, V 85 [x.av] = some (.bool x.may) := fun x => h3 x trivial
  simp only [V21, vRm0, vRm1, vRm2, vRm3, e1, e2 _ h.l0, e2 _ h.l1, e2 _ h.l2, e2 _ h.l3, e3, bif_nand]
  refine some_bool _ ?_
  unfold Rc.may Il.may
  cases mayP r.s0.got <;> cases r.s0.m.may <;> cases mayP r.s1.got <;> cases r.s1.m.may <;> cases mayP r.s2.got <;> cases r.s2.m.may <;> cases mayP r.s3.got <;> cases r.s3.m.may <;> cases r.w.may <;> rfl
theorem r21may_ok (r : Rc) (h : r.Sm) : FnOk Try.prog 50 [r.av] (.bool r.may) := fn_mk [F_r6may, F_r4may, F_r10may] [] (by kernel_rfl) mixed (by kernel_rfl) (r21may_from r h (hasV 0 rfl rfl) (hasV 1 rfl rfl) (hasV 2 rfl rfl))
noncomputable def F_r21may : Fam Try.prog := { f := 50, ι := Rc, pre := Rc.Sm, args := fun r => [r.av], res := fun r => .bool r.may, ok := r21may_ok, inj := fun s t h => by rw [rc_inj (List.cons.inj h).1] }
theorem gLen16' {n : Nat} (h : n ≤ 90000) : gLen (0 + n) 16 = true := gLen_of (by omega) (by omega)
theorem tkp' (l : List Spn) : List.take (0 + l.length) (List.drop 0 (prows l)) = prows l := by rw [List.drop_zero, Nat.zero_add, take_rows]
theorem r21own_from {V : EV} {M : EM} (r : Rc) (h : r.Sm) (h1 : HasV V F_r6own) : (Dr21own V M).From 0 ⟨[r.av], []⟩ = some (r.av, []) := by
  refine From.of ((r21own_0 r.av).trans ?_)
  have e1 : V 25 [r.w.av] = some r.w.av := h1 r.w h.w
  have hz : ∀ n : Nat, decide (0 + (0 + n) ≤ n) = true := fun n => decide_eq_true (by omega)
  simp only [V21, e1, tkp', hz, gRow_rows, gFree_rows, prows_len, gLen16' h.l0, gLen16' h.l1, gLen16' h.l2, gLen16' h.l3]
  rfl
theorem r21own_ok (r : Rc) (h : r.Sm) : FnOk Try.prog 43 [r.av] r.av := fn_mk [F_r6own] [] (by kernel_rfl) mixed (by kernel_rfl) (r21own_from r h (hasV 0 rfl rfl))
noncomputable def F_r21own : Fam Try.prog := { f := 43, ι := Rc, pre := Rc.Sm, args := fun r => [r.av], res := fun r => r.av, ok := r21own_ok, inj := fun s t h => by rw [rc_inj (List.cons.inj h).1] }
theorem r21far_from {V : EV} {M : EM} (w : Wv) (h : w.Sm) (hm : w.may = true) (h1 : HasV V F_r6ready) : (Dr21far V M).From 0 ⟨[w.av], []⟩ = some (.int .i64 (farP w), []) := by
  refine From.of ((r21far_0 w.av).trans ?_)
  have e1 : V 30 [w.av] = some (.int .i64 (readyP w)) := h1 w h
  obtain ⟨g1, g2, g3, g4, g5⟩ := ready_le hm
  have hb := h.bl
  have h0 := (mayOf hm).b0; have h2 := (mayOf hm).b1
  simp only [V21, e1]
  rw [w64 (n := w.base + readyP w) (by omega) (by omega), w64 (n := w.base + readyP w + 1) (by omega) (by omega)]
  unfold farP
  by_cases c : w.base + readyP w = w.end_
  · rw [if_pos c, show (w.end_ == w.base + readyP w) = true by rw [beq_iff_eq]; exact c.symm]; rfl
  · rw [if_neg c, show (w.end_ == w.base + readyP w) = false by rw [beq_eq_false_iff_ne]; exact fun hh => c hh.symm]; rfl
theorem r21far_ok (w : Wv) (h : w.Sm ∧ w.may = true) : FnOk Try.prog 84 [w.av] (.int .i64 (farP w)) := fn_mk [F_r6ready] [] (by kernel_rfl) mixed (by kernel_rfl) (r21far_from w h.1 h.2 (hasV 0 rfl rfl))
noncomputable def F_r21far : Fam Try.prog := { f := 84, ι := Wv, pre := fun w => w.Sm ∧ w.may = true, args := fun w => [w.av], res := fun w => .int .i64 (farP w), ok := r21far_ok, inj := fun s t h => by rw [wv_inj (List.cons.inj h).1] }
theorem r21new_from {V : EV} {M : EM} (n : Int) (h1 : HasV V F_r6new) : (Dr21new V M).From 0 ⟨[.int .i64 n], []⟩ = some (.tup [(newR n).av, .int .i64 (newE n)], []) := by
  refine From.of ((r21new_0 n).trans ?_)
  have e1 : V 29 [.int .i64 n] = some (.tup [(newW n).av, .int .i64 (newE n)]) := h1 n trivial
  simp only [V21, e1]
  unfold newR
  by_cases c : newE n = 0
  · rw [if_pos c]
  · rw [if_neg c]
    have : newW n = Wv.none := by
      unfold newE at c
      unfold newW
      split
      · rfl
      · rename_i h; rw [if_neg h] at c; exact absurd rfl c
    rw [this]; rfl
theorem r21new_ok (n : Int) : FnOk Try.prog 48 [.int .i64 n] (.tup [(newR n).av, .int .i64 (newE n)]) := fn_mk [F_r6new] [] (by kernel_rfl) mixed (by kernel_rfl) (r21new_from n (hasV 0 rfl rfl))
noncomputable def F_r21new : Fam Try.prog := { f := 48, ι := Int, pre := fun _ => True, args := fun n => [.int .i64 n], res := fun n => .tup [(newR n).av, .int .i64 (newE n)], ok := fun n _ => r21new_ok n, inj := fun s t h => by simp at h; rw [h] }
theorem r21read_from {V : EV} {M : EM} (r : Rc) (h : r.Sm) (n : Int) (h1 : HasV V F_r6read) (h2 : HasV V F_r21may) (h3 : HasV V F_r21own) : (Dr21read V M).From 0 ⟨[r.av, .int .i64 n], []⟩ = some (.tup [(readR r n).av, .osl (readRB r n), .int .i64 (readRE r n)], []) := by
  refine From.of ((r21read_0 r.av n).trans ?_)
  have e1 : V 28 [r.w.av, .int .i64 n] = some (.tup [(readW r.w n).av, .osl (readB r.w n), .int .i64 (readE r.w n)]) := h1 (r.w, n) h.w
  have e2 : V 50 [r.av] = some (.bool r.may) := h2 r h
  have e3 : V 43 [r.av] = some r.av := h3 r h
  simp only [V21, e1, e2, e3]
  unfold readR readRB readRE
  cases hm : r.may with
  | false => simp
  | true =>
    by_cases c : readE r.w n = 0
    · simp [c, Bool.cond_eq_ite]
    · simp [c, Bool.cond_eq_ite]
theorem r21read_ok (r : Rc) (h : r.Sm) (n : Int) : FnOk Try.prog 46 [r.av, .int .i64 n] (.tup [(readR r n).av, .osl (readRB r n), .int .i64 (readRE r n)]) := fn_mk [F_r6read, F_r21own, F_r21may] [] (by kernel_rfl) mixed (by kernel_rfl) (r21read_from r h n (hasV 0 rfl rfl) (hasV 2 rfl rfl) (hasV 1 rfl rfl))
noncomputable def F_r21read : Fam Try.prog := { f := 46, ι := Rc × Int, pre := fun p => p.1.Sm, args := fun p => [p.1.av, .int .i64 p.2], res := fun p => .tup [(readR p.1 p.2).av, .osl (readRB p.1 p.2), .int .i64 (readRE p.1 p.2)], ok := fun p h => r21read_ok p.1 h p.2, inj := fun s t h => by rw [rn_inj h] }
end Vai.L21
