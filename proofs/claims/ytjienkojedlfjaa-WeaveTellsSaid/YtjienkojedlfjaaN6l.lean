/- Weaves: the laws, run. -/
import Derived.Test.YtjienkojedlfjaaN6p
namespace Vai.L06
open Go Go.Proofs Vai Vai.L04
set_option maxRecDepth 100000
set_option linter.unusedVariables false
set_option linter.unusedSimpArgs false
section
variable {R : Type} {V : EV} {M : EM} {G : Nat → CS → Option R} {K : Res → Option R}
noncomputable abbrev Dawake : EV → EM → Dn := dnV Try.prog 13 [15, 17, 18, 19, 20] [] []
theorem awake_0  : (Dawake V M).stepK G K 0 ⟨[], []⟩ =
    Option.bind (V 20 [AV.int .i64 (10 : Int)]) (fun x0 => gd (fitA [.agg [.int .i64, .sl, .sl, .int .i64, .int .i64], .one (.int .i64)] x0) (Option.bind (V 15 [AV.agg [AV.int .i64 (AV.geti (List.getD (AV.getc (List.getD (AV.gett x0) 0 .undef)) 0 .undef)), AV.osl (AV.getl (List.getD (AV.getc (List.getD (AV.gett x0) 0 .undef)) 1 .undef)), AV.osl (AV.getl (List.getD (AV.getc (List.getD (AV.gett x0) 0 .undef)) 2 .undef)), AV.int .i64 (AV.geti (List.getD (AV.getc (List.getD (AV.gett x0) 0 .undef)) 3 .undef)), AV.int .i64 (AV.geti (List.getD (AV.getc (List.getD (AV.gett x0) 0 .undef)) 4 .undef))], AV.int .i64 (2 : Int), AV.osl [AV.int .u8 (99 : Int), AV.int .u8 (100 : Int)]]) (fun x1 => gd (fitA [.agg [.int .i64, .sl, .sl, .int .i64, .int .i64], .one (.int .i64), .one (.int .i64)] x1) (Option.bind (V 19 [AV.agg [AV.int .i64 (AV.geti (List.getD (AV.getc (List.getD (AV.gett x1) 0 .undef)) 0 .undef)), AV.osl (AV.getl (List.getD (AV.getc (List.getD (AV.gett x1) 0 .undef)) 1 .undef)), AV.osl (AV.getl (List.getD (AV.getc (List.getD (AV.gett x1) 0 .undef)) 2 .undef)), AV.int .i64 (AV.geti (List.getD (AV.getc (List.getD (AV.gett x1) 0 .undef)) 3 .undef)), AV.int .i64 (AV.geti (List.getD (AV.getc (List.getD (AV.gett x1) 0 .undef)) 4 .undef))]]) (fun x2 => gd (fitA [.one (.int .i64)] x2) (Option.bind (V 15 [AV.agg [AV.int .i64 (AV.geti (List.getD (AV.getc (List.getD (AV.gett x1) 0 .undef)) 0 .undef)), AV.osl (AV.getl (List.getD (AV.getc (List.getD (AV.gett x1) 0 .undef)) 1 .undef)), AV.osl (AV.getl (List.getD (AV.getc (List.getD (AV.gett x1) 0 .undef)) 2 .undef)), AV.int .i64 (AV.geti (List.getD (AV.getc (List.getD (AV.gett x1) 0 .undef)) 3 .undef)), AV.int .i64 (AV.geti (List.getD (AV.getc (List.getD (AV.gett x1) 0 .undef)) 4 .undef))], AV.int .i64 (0 : Int), AV.osl [AV.int .u8 (97 : Int), AV.int .u8 (98 : Int)]]) (fun x3 => gd (fitA [.agg [.int .i64, .sl, .sl, .int .i64, .int .i64], .one (.int .i64), .one (.int .i64)] x3) ((bif ti x0 1 == (0 : Int) then (bif ti x1 2 == (0 : Int) then (bif ti x3 2 == (0 : Int) then (bif ti x1 1 == (2 : Int) then (bif ti x3 1 == (2 : Int) then (bif AV.geti x2 == (0 : Int) then Option.bind (V 19 [AV.agg [AV.int .i64 (AV.geti (List.getD (AV.getc (List.getD (AV.gett x3) 0 .undef)) 0 .undef)), AV.osl (AV.getl (List.getD (AV.getc (List.getD (AV.gett x3) 0 .undef)) 1 .undef)), AV.osl (AV.getl (List.getD (AV.getc (List.getD (AV.gett x3) 0 .undef)) 2 .undef)), AV.int .i64 (AV.geti (List.getD (AV.getc (List.getD (AV.gett x3) 0 .undef)) 3 .undef)), AV.int .i64 (AV.geti (List.getD (AV.getc (List.getD (AV.gett x3) 0 .undef)) 4 .undef))]]) (fun x4 => gd (fitA [.one (.int .i64)] x4) ((bif AV.geti x4 == (4 : Int) then Option.bind (V 17 [AV.agg [AV.int .i64 (AV.geti (List.getD (AV.getc (List.getD (AV.gett x3) 0 .undef)) 0 .undef)), AV.osl (AV.getl (List.getD (AV.getc (List.getD (AV.gett x3) 0 .undef)) 1 .undef)), AV.osl (AV.getl (List.getD (AV.getc (List.getD (AV.gett x3) 0 .undef)) 2 .undef)), AV.int .i64 (AV.geti (List.getD (AV.getc (List.getD (AV.gett x3) 0 .undef)) 3 .undef)), AV.int .i64 (AV.geti (List.getD (AV.getc (List.getD (AV.gett x3) 0 .undef)) 4 .undef))]]) (fun x5 => gd (fitA [.one .bool] x5) ((bif AV.getb x5 then Option.bind (V 18 [AV.agg [AV.int .i64 (AV.geti (List.getD (AV.getc (List.getD (AV.gett x3) 0 .undef)) 0 .undef)), AV.osl (AV.getl (List.getD (AV.getc (List.getD (AV.gett x3) 0 .undef)) 1 .undef)), AV.osl (AV.getl (List.getD (AV.getc (List.getD (AV.gett x3) 0 .undef)) 2 .undef)), AV.int .i64 (AV.geti (List.getD (AV.getc (List.getD (AV.gett x3) 0 .undef)) 3 .undef)), AV.int .i64 (AV.geti (List.getD (AV.getc (List.getD (AV.gett x3) 0 .undef)) 4 .undef))]]) (fun x6 => gd (fitA [.one (.int .i64)] x6) (K (AV.bool (AV.geti x6 == (10 : Int)), []))) else K (AV.bool false, [])))) else K (AV.bool false, [])))) else K (AV.bool false, [])) else K (AV.bool false, [])) else K (AV.bool false, [])) else K (AV.bool false, [])) else K (AV.bool false, [])) else K (AV.bool false, [])))))))))) := by kernel_rfl
noncomputable abbrev Dfew : EV → EM → Dn := dnV Try.prog 14 [] [] []
theorem few_0 (a0_0 : Int) (a0_1 : List AV) (a0_2 : List AV) (a0_3 : Int) (a0_4 : Int) : (Dfew V M).stepK G K 0 ⟨[.agg [.int .i64 a0_0, .osl a0_1, .osl a0_2, .int .i64 a0_3, .int .i64 a0_4]], []⟩ =
    (bif decide ((↑(List.length a0_1) : Int) ≤ (300 : Int)) then K (AV.bool (decide ((↑(List.length a0_2) : Int) ≤ (100 : Int))), []) else K (AV.bool false, [])) := by kernel_rfl
noncomputable abbrev Dlshut : EV → EM → Dn := dnV Try.prog 7 [13, 14, 15, 17, 19, 21, 22, 23] [] []
theorem lshut_0 (a0_0 : Int) (a0_1 : List AV) (a0_2 : List AV) (a0_3 : Int) (a0_4 : Int) (a1 : Int) (a2 : List AV) : (Dlshut V M).stepK G K 0 ⟨[.agg [.int .i64 a0_0, .osl a0_1, .osl a0_2, .int .i64 a0_3, .int .i64 a0_4], .int .i64 a1, .osl a2], []⟩ =
    Option.bind (V 13 []) (fun x0 => gd (fitA [.one .bool] x0) (Option.bind (V 14 [AV.agg [AV.int .i64 a0_0, AV.osl a0_1, AV.osl a0_2, AV.int .i64 a0_3, AV.int .i64 a0_4]]) (fun x1 => gd (fitA [.one .bool] x1) ((bif !AV.getb x0 then K (AV.bool (AV.getb x0), []) else (bif !AV.getb x1 then K (AV.bool (AV.getb x0), []) else (bif decide ((↑(List.length a2) : Int) > (300 : Int)) then K (AV.bool (AV.getb x0), []) else Option.bind (V 17 [AV.agg [AV.int .i64 a0_0, AV.osl a0_1, AV.osl a0_2, AV.int .i64 a0_3, AV.int .i64 a0_4]]) (fun x2 => gd (fitA [.one .bool] x2) ((bif !AV.getb x2 then K (AV.bool (AV.getb x0), []) else Option.bind (V 21 [AV.agg [AV.int .i64 a0_0, AV.osl a0_1, AV.osl a0_2, AV.int .i64 a0_3, AV.int .i64 a0_4], AV.int .i64 a1]) (fun x3 => gd (fitA [.agg [.int .i64, .sl, .sl, .int .i64, .int .i64], .one (.int .i64)] x3) ((bif !ti x3 1 == (0 : Int) then (bif (↑(List.length (AV.getl (List.getD (AV.getc (List.getD (AV.gett x3) 0 .undef)) 1 .undef))) : Int) == (0 : Int) then K (AV.bool (AV.geti (List.getD (AV.getc (List.getD (AV.gett x3) 0 .undef)) 3 .undef) == (0 : Int)), []) else K (AV.bool false, [])) else Option.bind (V 15 [AV.agg [AV.int .i64 (AV.geti (List.getD (AV.getc (List.getD (AV.gett x3) 0 .undef)) 0 .undef)), AV.osl (AV.getl (List.getD (AV.getc (List.getD (AV.gett x3) 0 .undef)) 1 .undef)), AV.osl (AV.getl (List.getD (AV.getc (List.getD (AV.gett x3) 0 .undef)) 2 .undef)), AV.int .i64 (AV.geti (List.getD (AV.getc (List.getD (AV.gett x3) 0 .undef)) 3 .undef)), AV.int .i64 (AV.geti (List.getD (AV.getc (List.getD (AV.gett x3) 0 .undef)) 4 .undef))], AV.int .i64 a1, AV.osl a2]) (fun x4 => gd (fitA [.agg [.int .i64, .sl, .sl, .int .i64, .int .i64], .one (.int .i64), .one (.int .i64)] x4) (Option.bind (V 21 [AV.agg [AV.int .i64 (AV.geti (List.getD (AV.getc (List.getD (AV.gett x3) 0 .undef)) 0 .undef)), AV.osl (AV.getl (List.getD (AV.getc (List.getD (AV.gett x3) 0 .undef)) 1 .undef)), AV.osl (AV.getl (List.getD (AV.getc (List.getD (AV.gett x3) 0 .undef)) 2 .undef)), AV.int .i64 (AV.geti (List.getD (AV.getc (List.getD (AV.gett x3) 0 .undef)) 3 .undef)), AV.int .i64 (AV.geti (List.getD (AV.getc (List.getD (AV.gett x3) 0 .undef)) 4 .undef))], AV.int .i64 a1]) (fun x5 => gd (fitA [.agg [.int .i64, .sl, .sl, .int .i64, .int .i64], .one (.int .i64)] x5) (Option.bind (V 21 [AV.agg [AV.int .i64 (AV.geti (List.getD (AV.getc (List.getD (AV.gett x3) 0 .undef)) 0 .undef)), AV.osl (AV.getl (List.getD (AV.getc (List.getD (AV.gett x3) 0 .undef)) 1 .undef)), AV.osl (AV.getl (List.getD (AV.getc (List.getD (AV.gett x3) 0 .undef)) 2 .undef)), AV.int .i64 (AV.geti (List.getD (AV.getc (List.getD (AV.gett x3) 0 .undef)) 3 .undef)), AV.int .i64 (AV.geti (List.getD (AV.getc (List.getD (AV.gett x3) 0 .undef)) 4 .undef))], AV.int .i64 (IntKind.wrap .i64 (a1 + (1 : Int)))]) (fun x6 => gd (fitA [.agg [.int .i64, .sl, .sl, .int .i64, .int .i64], .one (.int .i64)] x6) (Option.bind (V 23 [AV.agg [AV.int .i64 (AV.geti (List.getD (AV.getc (List.getD (AV.gett x3) 0 .undef)) 0 .undef)), AV.osl (AV.getl (List.getD (AV.getc (List.getD (AV.gett x3) 0 .undef)) 1 .undef)), AV.osl (AV.getl (List.getD (AV.getc (List.getD (AV.gett x3) 0 .undef)) 2 .undef)), AV.int .i64 (AV.geti (List.getD (AV.getc (List.getD (AV.gett x3) 0 .undef)) 3 .undef)), AV.int .i64 (AV.geti (List.getD (AV.getc (List.getD (AV.gett x3) 0 .undef)) 4 .undef))], AV.int .i64 (70000 : Int)]) (fun x7 => gd (fitA [.agg [.int .i64, .sl, .sl, .int .i64, .int .i64], .one .sl, .one (.int .i64)] x7) (Option.bind (V 22 [AV.agg [AV.int .i64 (AV.geti (List.getD (AV.getc (List.getD (AV.gett x7) 0 .undef)) 0 .undef)), AV.osl (AV.getl (List.getD (AV.getc (List.getD (AV.gett x7) 0 .undef)) 1 .undef)), AV.osl (AV.getl (List.getD (AV.getc (List.getD (AV.gett x7) 0 .undef)) 2 .undef)), AV.int .i64 (AV.geti (List.getD (AV.getc (List.getD (AV.gett x7) 0 .undef)) 3 .undef)), AV.int .i64 (AV.geti (List.getD (AV.getc (List.getD (AV.gett x7) 0 .undef)) 4 .undef))]]) (fun x8 => gd (fitA [.one .bool] x8) ((bif decide (a1 < (0 : Int)) then K (AV.bool false, []) else (bif !AV.geti (List.getD (AV.getc (List.getD (AV.gett x3) 0 .undef)) 4 .undef) == a1 then K (AV.bool false, []) else (bif !ti x5 1 == (0 : Int) then K (AV.bool false, []) else (bif ti x6 1 == (0 : Int) then K (AV.bool false, []) else (bif !ti x7 2 == (0 : Int) then K (AV.bool false, []) else (bif decide ((↑(List.length a2) : Int) > (0 : Int)) then (bif ti x4 2 == (0 : Int) then K (AV.bool false, []) else (bif AV.getb x8 == (AV.geti (List.getD (AV.getc (List.getD (AV.gett x7) 0 .undef)) 0 .undef) == a1) then (bif !AV.getb x8 then K (AV.bool true, []) else Option.bind (V 19 [AV.agg [AV.int .i64 (AV.geti (List.getD (AV.getc (List.getD (AV.gett x7) 0 .undef)) 0 .undef)), AV.osl (AV.getl (List.getD (AV.getc (List.getD (AV.gett x7) 0 .undef)) 1 .undef)), AV.osl (AV.getl (List.getD (AV.getc (List.getD (AV.gett x7) 0 .undef)) 2 .undef)), AV.int .i64 (AV.geti (List.getD (AV.getc (List.getD (AV.gett x7) 0 .undef)) 3 .undef)), AV.int .i64 (AV.geti (List.getD (AV.getc (List.getD (AV.gett x7) 0 .undef)) 4 .undef))]]) (fun x10 => gd (fitA [.one (.int .i64)] x10) (K (AV.bool (AV.geti x10 == (0 : Int)), [])))) else K (AV.bool false, []))) else (bif AV.getb x8 == (AV.geti (List.getD (AV.getc (List.getD (AV.gett x7) 0 .undef)) 0 .undef) == a1) then (bif !AV.getb x8 then K (AV.bool true, []) else Option.bind (V 19 [AV.agg [AV.int .i64 (AV.geti (List.getD (AV.getc (List.getD (AV.gett x7) 0 .undef)) 0 .undef)), AV.osl (AV.getl (List.getD (AV.getc (List.getD (AV.gett x7) 0 .undef)) 1 .undef)), AV.osl (AV.getl (List.getD (AV.getc (List.getD (AV.gett x7) 0 .undef)) 2 .undef)), AV.int .i64 (AV.geti (List.getD (AV.getc (List.getD (AV.gett x7) 0 .undef)) 3 .undef)), AV.int .i64 (AV.geti (List.getD (AV.getc (List.getD (AV.gett x7) 0 .undef)) 4 .undef))]]) (fun x9 => gd (fitA [.one (.int .i64)] x9) (K (AV.bool (AV.geti x9 == (0 : Int)), [])))) else K (AV.bool false, []))))))))))))))))))))))))))))))) := by kernel_rfl
end

/-! ### The chapter's example -/
def awk1 : Wv := ⟨0, [.int .u8 0, .int .u8 0, .int .u8 99, .int .u8 100], [⟨2, 4⟩], 10, -1⟩
def awk2 : Wv := ⟨0, [.int .u8 97, .int .u8 98, .int .u8 99, .int .u8 100], [⟨0, 4⟩], 10, -1⟩
theorem awk_new : newW 10 = ⟨0, [], [], 10, -1⟩ ∧ newE 10 = 0 := ⟨by kernel_rfl, by kernel_rfl⟩
theorem awk_p1 : putW ⟨0, [], [], 10, -1⟩ 2 [.int .u8 99, .int .u8 100] = awk1 := by kernel_rfl
theorem awk_m1 : putM ⟨0, [], [], 10, -1⟩ 2 [.int .u8 99, .int .u8 100] = 2 := by kernel_rfl
theorem awk_k1 : putK ⟨0, [], [], 10, -1⟩ 2 [.int .u8 99, .int .u8 100] = 0 := by kernel_rfl
theorem awk_r1 : readyP awk1 = 0 := by kernel_rfl
theorem awk_p2 : putW awk1 0 [.int .u8 97, .int .u8 98] = awk2 := by kernel_rfl
theorem awk_m2 : putM awk1 0 [.int .u8 97, .int .u8 98] = 2 := by kernel_rfl
theorem awk_k2 : putK awk1 0 [.int .u8 97, .int .u8 98] = 0 := by kernel_rfl
theorem awk_r2 : readyP awk2 = 4 := by kernel_rfl
theorem awk_may : awk2.may = true := by kernel_rfl
theorem awk_edge : edgeW awk2 = 10 := by kernel_rfl
theorem awk_ok : Wv.Ok ⟨0, [], [], 10, -1⟩ ∧ awk1.Ok ∧ awk2.Ok := by
  refine ⟨⟨IsB.nil, by decide, by decide⟩, ⟨?_, by decide, by decide⟩, ⟨?_, by decide, by decide⟩⟩ <;> intro x hx <;> simp [awk1, awk2] at hx <;> rcases hx with rfl | rfl | rfl | rfl <;> exact ⟨_, rfl⟩
theorem isb2 (a b : Int) : IsB [AV.int .u8 a, .int .u8 b] := by intro x hx; simp at hx; rcases hx with rfl | rfl <;> exact ⟨_, rfl⟩
theorem awake_from {V : EV} {M : EM} (e0 : V 20 [.int .i64 10] = some (.tup [.agg [.int .i64 0, .osl [], .osl [], .int .i64 10, .int .i64 (-1)], .int .i64 0]))
    (e1 : V 15 [.agg [.int .i64 0, .osl [], .osl [], .int .i64 10, .int .i64 (-1)], .int .i64 2, .osl [.int .u8 99, .int .u8 100]] = some (.tup [awk1.av, .int .i64 2, .int .i64 0]))
    (e2 : V 19 [awk1.av] = some (.int .i64 0)) (e3 : V 15 [awk1.av, .int .i64 0, .osl [.int .u8 97, .int .u8 98]] = some (.tup [awk2.av, .int .i64 2, .int .i64 0]))
    (e4 : V 19 [awk2.av] = some (.int .i64 4)) (e5 : V 17 [awk2.av] = some (.bool true)) (e6 : V 18 [awk2.av] = some (.int .i64 10)) :
    (Dawake V M).From 0 ⟨[], []⟩ = some (.bool true, []) := by
  refine From.of (awake_0.trans ?_)
  simp only [e0, e1, e2, e3, e4, e5, e6, Option.bind_some, fitA_tup, fitA_one, fitA_nil, fitR_cons, fitR_nil, fit_one, fit_agg, okL_cons, okL_nil, ok1_int, ok1_bool, ok1_sl, decide_true, Bool.and_self, gd_true, ti_tup, tl_tup, tb_tup, gett_tup, getc_agg, List.getD_cons_zero, List.getD_cons_succ, geti_int', getl_osl, getb_bool, Bool.not_true, Bool.not_false, cond_true, cond_false, beq_self_eq_true]
theorem awake_ok : FnOk Try.prog 13 [] (.bool true) := by
  obtain ⟨o0, o1, o2⟩ := awk_ok
  have q1 := envV_at F_wput (⟨0, [], [], 10, -1⟩, 2, [.int .u8 99, .int .u8 100]) ⟨o0, isb2 _ _, by decide⟩ [] [F_wmay, F_wedge, F_wready, F_wnew] rfl
  have q2 := envV_at F_wready awk1 o1 [F_wput, F_wmay, F_wedge] [F_wnew] rfl
  have q3 := envV_at F_wput (awk1, 0, [.int .u8 97, .int .u8 98]) ⟨o1, isb2 _ _, by decide⟩ [] [F_wmay, F_wedge, F_wready, F_wnew] rfl
  have q4 := envV_at F_wready awk2 o2 [F_wput, F_wmay, F_wedge] [F_wnew] rfl
  have q5 := envV_at F_wmay awk2 o2 [F_wput] [F_wedge, F_wready, F_wnew] rfl
  have q6 := envV_at F_wedge awk2 o2 [F_wput, F_wmay] [F_wready, F_wnew] rfl
  have q0 := envV_at F_wnew (10 : Int) trivial [F_wput, F_wmay, F_wedge, F_wready] [] rfl
  refine fn_mk [F_wput, F_wmay, F_wedge, F_wready, F_wnew] [] (by kernel_rfl) mixed (by kernel_rfl) (awake_from q0 (q1.trans ?_) (q2.trans ?_) (q3.trans ?_) (q4.trans ?_) (q5.trans ?_) (q6.trans ?_))
  · show some (AV.tup [(putW _ _ _).av, _, _]) = _
    rw [awk_p1, awk_m1, awk_k1]
  · show some (AV.int _ (readyP awk1)) = _
    rw [awk_r1]
  · show some (AV.tup [(putW _ _ _).av, _, _]) = _
    rw [awk_p2, awk_m2, awk_k2]
  · show some (AV.int _ (readyP awk2)) = _
    rw [awk_r2]
  · show some (AV.bool awk2.may) = _
    rw [awk_may]
  · show some (AV.int _ (edgeW awk2)) = _
    rw [awk_edge]

/-! ### What is left behind a reading -/
theorem cutL_lo : ∀ {l : List Spn} {s : Spn}, (∀ x ∈ l, s.a ≤ x.a ∧ x.a < x.b) → (cutL l s).length ≤ l.length
  | [], _, _ => by simp [cutL]
  | x :: l, s, h => by
    have e : (cutL (x :: l) s).length = (cutF s x).length + (cutL l s).length := by unfold cutL; simp
    have h1 := h x (List.mem_cons_self ..)
    have h2 : (cutF s x).length ≤ 1 := by
      have k1 := lft_cases s x
      unfold cutF
      rw [if_neg (by omega)]
      split <;> simp
    have := cutL_lo fun y hy => h y (List.mem_cons_of_mem _ hy)
    rw [e, List.length_cons]; omega
structure ReadF (base : Int) (k : Nat) (b : List AV) (l : List Spn) (cap end_ : Int) : Prop where
  e0 : cutE l ⟨base, base + k⟩ = 0
  er : cutR l ⟨base, base + k⟩ = cutL l ⟨base, base + k⟩
  me : ∀ n, mem (cutR l ⟨base, base + k⟩) n ↔ mem l n ∧ ¬ (base ≤ n ∧ n < base + k)
  ln : (cutR l ⟨base, base + k⟩).length ≤ l.length
  may : MayW (base + k) (b.drop k) (cutR l ⟨base, base + k⟩) cap end_
  up : uptoP (base + k) (cutR l ⟨base, base + k⟩) = uptoP base l
theorem read_facts {base : Int} {k : Nat} {b : List AV} {l : List Spn} {cap end_ : Int} (hm : MayW base b l cap end_) (hk : 0 < k) (hg : ∀ n, base ≤ n → n < base + k → mem l n) : ReadF base k b l cap end_ := by
  have ht := upto_lt (base := base) hm.can (hg (base + k - 1) (by omega) (by omega))
  have he := hm.edge
  have hue := hm.ue
  have hb0 := hm.b0
  have hbl := hm.bl
  have hs : (⟨base, base + k⟩ : Spn).a < (⟨base, base + k⟩ : Spn).b := by show base < base + k; omega
  have hlen : (cutL l ⟨base, base + k⟩).length ≤ l.length := cutL_lo fun x hx => ⟨hm.lo x.a ⟨x, hx, Int.le_refl _, (hm.can.one x hx).2.1⟩, (hm.can.one x hx).2.1⟩
  have hll := hm.ll
  have e0 : cutE l ⟨base, base + k⟩ = 0 := by
    unfold cutE
    rw [if_pos ⟨may_iff.2 ⟨hm.ll, hm.can⟩, one_iff.2 ⟨hb0, hs, by show base + k ≤ _; omega⟩⟩, if_neg (by omega)]
  have er : cutR l ⟨base, base + k⟩ = cutL l ⟨base, base + k⟩ := by unfold cutR; rw [if_pos e0]
  have me : ∀ n, mem (cutR l ⟨base, base + k⟩) n ↔ mem l n ∧ ¬ (base ≤ n ∧ n < base + k) := fun n => by rw [er]; exact cutL_mem l hs n
  have can : Can (cutR l ⟨base, base + k⟩) := by rw [er]; exact cutL_can hm.can hs
  have lo : ∀ n, mem (cutR l ⟨base, base + k⟩) n → base + k ≤ n := fun n hn => by
    obtain ⟨h1, h2⟩ := (me n).1 hn
    have := hm.lo n h1; omega
  have up : uptoP (base + k) (cutR l ⟨base, base + k⟩) = uptoP base l := by
    have u1 : uptoP (base + k) (cutR l ⟨base, base + k⟩) ≤ uptoP base l := upto_le can (by omega) fun n hn => upto_lt hm.can ((me n).1 hn).1
    have u2 := upto_ge (base := base + k) can lo
    by_cases c : uptoP base l = base + k
    · omega
    · have h0 : 0 < l.length := by
        rcases Nat.eq_zero_or_pos l.length with h | h
        · rw [List.length_eq_zero_iff.1 h, upto_nil] at ht; omega
        · exact h
      have := upto_mem (base := base) hm.can h0
      have := upto_lt (base := base + k) can ((me _).2 ⟨this, by omega⟩)
      omega
  have hed : edgeP base cap ≤ edgeP (base + k) cap := by unfold edgeP; split <;> split <;> omega
  refine ⟨e0, er, me, by rw [er]; exact hlen, ⟨hm.c0, hm.c1, by omega, by omega, by rw [er]; omega, can, lo, by omega, by rw [List.length_drop]; omega, by rw [up]; exact hm.en, fun j hj hn => ?_⟩, up⟩
  rw [byteAt_drop]
  rw [List.length_drop] at hj
  refine hm.bz (k + j) (by omega) fun h => hn ((me _).2 ⟨?_, by omega⟩)
  rw [show base + (k : Int) + (j : Int) = base + ((k + j : Nat) : Int) by omega]; exact h
theorem gap_has {w : Wv} (h : w.may = true) : ∀ k : Nat, (k : Int) ≤ readyP w → ∀ n, w.base ≤ n → n < w.base + k → mem w.l n := fun k hk n h1 h2 => by
  obtain ⟨g1, g2, g3, g4, g5⟩ := ready_le h
  exact g4 n h1 (by omega)
theorem readK_le {w : Wv} {n : Int} (h : w.may = true) (hn : 0 ≤ n) : (readK w n : Int) = (if readyP w < n then readyP w else n) ∧ 0 ≤ readyP w ∧ readyP w ≤ w.b.length ∧ readK w n ≤ w.b.length ∧ (readK w n : Int) ≤ readyP w ∧ (readK w n : Int) ≤ n := by
  obtain ⟨g1, g2, g3, g4, g5⟩ := ready_le h
  unfold readK
  split <;> omega
theorem readW_may {w : Wv} {n : Int} (h : w.may = true) (hn : 0 ≤ n) : (readW w n).may = true ∧ (readW w n).end_ = w.end_ ∧ (readW w n).cap = w.cap ∧ (readW w n).base = w.base + readK w n ∧ (readW w n).b = w.b.drop (readK w n) ∧
    (∀ m, mem (readW w n).l m ↔ mem w.l m ∧ ¬ (w.base ≤ m ∧ m < w.base + readK w n)) ∧ (readW w n).l.length ≤ w.l.length ∧ uptoP (readW w n).base (readW w n).l = uptoP w.base w.l := by
  obtain ⟨k1, k2, k3, k4, k5, k6⟩ := readK_le h hn
  unfold readW
  rw [if_pos ⟨h, hn⟩]
  by_cases c : readK w n = 0
  · rw [if_pos c, c]
    refine ⟨h, rfl, rfl, by simp, by simp, fun m => ⟨fun x => ⟨x, by omega⟩, fun x => x.1⟩, Nat.le_refl _, rfl⟩
  · rw [if_neg c]
    have f := read_facts (mayOf h) (by omega) (gap_has h (readK w n) k5)
    exact ⟨mayW_plain.2 f.may, rfl, rfl, rfl, rfl, f.me, f.ln, f.up⟩
theorem readW_ok {w : Wv} (hw : w.Ok) {n : Int} (h : w.may = true) (hn : 0 ≤ n) : (readW w n).Ok := by
  obtain ⟨r1, r2, r3, r4, r5, r6, r7, r8⟩ := readW_may h hn
  have := hw.bl; have := hw.ll
  exact ⟨by rw [r5]; exact IsB.drop hw.b _, by rw [r5, List.length_drop]; omega, by omega⟩

/-! ### WeaveShut -/
noncomputable def F_awake : Fam Try.prog := { f := 13, ι := Unit, pre := fun _ => True, args := fun _ => [], res := fun _ => .bool true, ok := fun _ _ => awake_ok, inj := fun s t h => rfl }
def fewP (w : Wv) : Bool := decide (w.b.length ≤ 300) && decide (w.l.length ≤ 100)
theorem few_ok (w : Wv) : FnOk Try.prog 14 [w.av] (.bool (fewP w)) := by
  refine fn_mk [] [] (by kernel_rfl) mixed (by kernel_rfl) (From.of ((few_0 _ _ _ _ _).trans ?_))
  unfold fewP
  have e1 : decide ((w.b.length : Int) ≤ 300) = decide (w.b.length ≤ 300) := decide_eq_decide.2 (by omega)
  have e2 : decide (((prows w.l).length : Int) ≤ 100) = decide (w.l.length ≤ 100) := decide_eq_decide.2 (by rw [prows_length]; omega)
  rw [e1, e2]
  cases decide (w.b.length ≤ 300) <;> rfl
noncomputable def F_few : Fam Try.prog := { f := 14, ι := Wv, pre := fun _ => True, args := fun w => [w.av], res := fun w => .bool (fewP w), ok := fun w _ => few_ok w, inj := fun s t h => by rw [wv_inj (List.cons.inj h).1] }
theorem shutW_may {w : Wv} {n : Int} (e : shutE w n = 0) : w.may = true ∧ shutW w n = { w with end_ := n } ∧ 0 ≤ n ∧ n ≤ 2305843009213693952 ∧ uptoP w.base w.l ≤ n ∧ (shutW w n).may = true := by
  have e2 : shutW w n = { w with end_ := n } := by unfold shutW; rw [if_pos e]
  unfold shutE at e
  split at e
  · rename_i h
    split at e
    · cases e
    · rename_i h2
      have hm := mayOf h.1
      refine ⟨h.1, e2, h.2.1, h.2.2, by omega, ?_⟩
      rw [e2]
      exact mayW_plain.2 ⟨hm.c0, hm.c1, hm.b0, hm.b1, hm.ll, hm.can, hm.lo, hm.ue, hm.bl, .inr (by show uptoP w.base w.l ≤ n; omega), hm.bz⟩
  · cases e
theorem shutW_ok {w : Wv} (hw : w.Ok) (n : Int) : (shutW w n).Ok := by
  unfold shutW
  split
  · exact ⟨hw.b, hw.bl, hw.ll⟩
  · exact ⟨IsB.nil, by decide, by decide⟩
theorem wNone_ok : Wv.none.Ok := ⟨IsB.nil, by decide, by decide⟩
theorem lshut_from {V : EV} {M : EM} (w : Wv) (n : Int) (bs : List AV) (hn : -9223372036854775808 ≤ n ∧ n ≤ 9223372036854775807)
    (e0 : V 13 [] = some (.bool true)) (e1 : V 14 [w.av] = some (.bool (fewP w)))
    (e2 : fewP w = true → V 17 [w.av] = some (.bool w.may)) (e3 : fewP w = true → V 21 [w.av, .int .i64 n] = some (.tup [(shutW w n).av, .int .i64 (shutE w n)]))
    (e4 : fewP w = true → bs.length ≤ 300 → V 15 [(shutW w n).av, .int .i64 n, .osl bs] = some (.tup [(putW (shutW w n) n bs).av, .int .i64 (putM (shutW w n) n bs), .int .i64 (putK (shutW w n) n bs)]))
    (e5 : fewP w = true → V 21 [(shutW w n).av, .int .i64 n] = some (.tup [(shutW (shutW w n) n).av, .int .i64 (shutE (shutW w n) n)]))
    (e6 : fewP w = true → V 21 [(shutW w n).av, .int .i64 (n + 1)] = some (.tup [(shutW (shutW w n) (n + 1)).av, .int .i64 (shutE (shutW w n) (n + 1))]))
    (e7 : fewP w = true → V 23 [(shutW w n).av, .int .i64 70000] = some (.tup [(readW (shutW w n) 70000).av, .osl (readB (shutW w n) 70000), .int .i64 (readE (shutW w n) 70000)]))
    (e8 : fewP w = true → (shutW w n).may = true → V 22 [(readW (shutW w n) 70000).av] = some (.bool (overW (readW (shutW w n) 70000))))
    (e9 : fewP w = true → (shutW w n).may = true → V 19 [(readW (shutW w n) 70000).av] = some (.int .i64 (readyP (readW (shutW w n) 70000)))) :
    (Dlshut V M).From 0 ⟨[w.av, .int .i64 n, .osl bs], []⟩ = some (.bool true, []) := by
  refine From.of ((lshut_0 _ _ _ _ _ _ _).trans ?_)
  simp only [e0, e1, Option.bind_some, fitA_tup, fitA_one, fitA_nil, fitR_cons, fitR_nil, fit_one, fit_agg, okL_cons, okL_nil, ok1_int, ok1_bool, ok1_sl, decide_true, Bool.and_self, gd_true, ti_tup, tl_tup, tb_tup, gett_tup, getc_agg, List.getD_cons_zero, List.getD_cons_succ, geti_int', getl_osl, getb_bool, Bool.not_true, Bool.not_false, cond_true, cond_false, beq_self_eq_true]
  cases hf : fewP w with
  | false => rfl
  | true =>
    by_cases hb : (bs.length : Int) > 300
    · rw [decide_eq_true hb]; rfl
    · rw [decide_eq_false hb]
      simp only [e2 hf, Option.bind_some, fitA_tup, fitA_one, fitA_nil, fitR_cons, fitR_nil, fit_one, fit_agg, okL_cons, okL_nil, ok1_int, ok1_bool, ok1_sl, decide_true, Bool.and_self, gd_true, ti_tup, tl_tup, tb_tup, gett_tup, getc_agg, List.getD_cons_zero, List.getD_cons_succ, geti_int', getl_osl, getb_bool, Bool.not_true, Bool.not_false, cond_true, cond_false, beq_self_eq_true]
      cases hm : w.may with
      | false => rfl
      | true =>
        simp only [e3 hf, Option.bind_some, fitA_tup, fitA_one, fitA_nil, fitR_cons, fitR_nil, fit_one, fit_agg, okL_cons, okL_nil, ok1_int, ok1_bool, ok1_sl, decide_true, Bool.and_self, gd_true, ti_tup, tl_tup, tb_tup, gett_tup, getc_agg, List.getD_cons_zero, List.getD_cons_succ, geti_int', getl_osl, getb_bool, Bool.not_true, Bool.not_false, cond_true, cond_false, beq_self_eq_true]
        by_cases he : shutE w n = 0
        · obtain ⟨m1, m2, m3, m4, m5, m6⟩ := shutW_may he
          simp only [he, w64 (n := n + 1) (by omega) (by omega), e4 hf (by omega), e5 hf, e6 hf, e7 hf, e8 hf m6, Option.bind_some, fitA_tup, fitA_one, fitA_nil, fitR_cons, fitR_nil, fit_one, fit_agg, okL_cons, okL_nil, ok1_int, ok1_bool, ok1_sl, decide_true, Bool.and_self, gd_true, ti_tup, tl_tup, tb_tup, gett_tup, getc_agg, List.getD_cons_zero, List.getD_cons_succ, geti_int', getl_osl, getb_bool, Bool.not_true, Bool.not_false, cond_true, cond_false, beq_self_eq_true]
          obtain ⟨r1, r2, r3, r4, r5, r6, r7, r8⟩ := readW_may m6 (show (0 : Int) ≤ 70000 by omega)
          have q5 : shutE (shutW w n) n = 0 := by
            unfold shutE; rw [if_pos ⟨m6, m3, m4⟩, if_neg]; rw [m2]; rintro (h | h) <;> simp at h; omega
          have q6 : shutE (shutW w n) (n + 1) ≠ 0 := by
            unfold shutE
            split
            · rw [if_pos (.inl (by rw [m2]; show n ≠ -1 ∧ n ≠ n + 1; omega))]; decide
            · decide
          have q7 : readE (shutW w n) 70000 = 0 := by unfold readE; rw [if_pos ⟨m6, by omega⟩]
          have q4 : 0 < bs.length → putK (shutW w n) n bs ≠ 0 := fun hl => by
            unfold putK
            split
            · decide
            · rw [if_pos (by rw [m2]; show n ≠ -1 ∧ _ > n; omega)]; decide
          have en : (readW (shutW w n) 70000).end_ = n := by rw [r2, m2]
          have qo : overW (readW (shutW w n) 70000) = ((readW (shutW w n) 70000).base == n) := by unfold overW; rw [r1, en, Bool.true_and]
          have qr : (readW (shutW w n) 70000).base = n → readyP (readW (shutW w n) 70000) = 0 := fun hb => by
            obtain ⟨g1, g2, g3, g4, g5⟩ := ready_le r1
            have hmm := mayOf r1
            rw [g3]
            by_cases c : (readW (shutW w n) 70000).base < gapP (readW (shutW w n) 70000).l (readW (shutW w n) 70000).base
            · have := upto_lt (base := (readW (shutW w n) 70000).base) hmm.can (g4 (readW (shutW w n) 70000).base (by omega) c)
              have := hmm.en; have := hmm.b0; omega
            · omega
          rw [show (shutW w n).end_ = n by rw [m2], q5, q7, decide_eq_false (show ¬ n < 0 by omega)]
          simp only [Option.bind_some, fitA_tup, fitA_one, fitA_nil, fitR_cons, fitR_nil, fit_one, fit_agg, okL_cons, okL_nil, ok1_int, ok1_bool, ok1_sl, decide_true, Bool.and_self, gd_true, ti_tup, tl_tup, tb_tup, gett_tup, getc_agg, List.getD_cons_zero, List.getD_cons_succ, geti_int', getl_osl, getb_bool, Bool.not_true, Bool.not_false, cond_true, cond_false, beq_self_eq_true, e9 hf m6, show (shutE (shutW w n) (n + 1) == 0) = false by simpa using q6, qo]
          have fin : (bif !((readW (shutW w n) 70000).base == n) then some (AV.bool true, ([] : List (Option CB))) else some (AV.bool (readyP (readW (shutW w n) 70000) == 0), [])) = some (AV.bool true, []) := by
            cases hc : (readW (shutW w n) 70000).base == n with
            | false => rfl
            | true => rw [qr (by simpa using hc)]; rfl
          by_cases hl : 0 < bs.length
          · rw [decide_eq_true (show (bs.length : Int) > 0 by omega), show (putK (shutW w n) n bs == 0) = false by simpa using q4 hl]; exact fin
          · rw [decide_eq_false (show ¬ (bs.length : Int) > 0 by omega)]; exact fin
        · rw [show (shutE w n == 0) = false by simpa using he]
          have : shutW w n = Wv.none := by unfold shutW; rw [if_neg he]
          rw [this]; rfl
structure Wv.In (w : Wv) : Prop where
  b : IsB w.b
  bl : w.b.length ≤ 9223372036854775807
  ll : w.l.length ≤ 9223372036854775807
theorem Wv.In.ok {w : Wv} (h : w.In) (hf : fewP w = true) : w.Ok := by
  unfold fewP at hf
  rw [Bool.and_eq_true, decide_eq_true_eq, decide_eq_true_eq] at hf
  exact ⟨h.b, by omega, by omega⟩
theorem lshut_ok (w : Wv) (hw : w.In) (n : Int) (hn : -9223372036854775808 ≤ n ∧ n ≤ 9223372036854775807) (bs : List AV) (hb : IsB bs) : FnOk Try.prog 7 [w.av, .int .i64 n, .osl bs] (.bool true) :=
  fn_mk [F_awake, F_few, F_wput, F_wmay, F_wready, F_wshut, F_wover, F_wread] [] (by kernel_rfl) mixed (by kernel_rfl) (lshut_from w n bs hn
    (envV_at F_awake () trivial [] _ rfl) (envV_at F_few w trivial [F_awake] _ rfl) (fun hf => envV_at F_wmay w (hw.ok hf) [F_awake, F_few, F_wput] _ rfl) (fun hf => envV_at F_wshut (w, n) (hw.ok hf) [F_awake, F_few, F_wput, F_wmay, F_wready] _ rfl)
    (fun hf h => envV_at F_wput (shutW w n, n, bs) ⟨shutW_ok (hw.ok hf) n, hb, by show bs.length ≤ _; omega⟩ [F_awake, F_few] _ rfl)
    (fun hf => envV_at F_wshut (shutW w n, n) (shutW_ok (hw.ok hf) n) [F_awake, F_few, F_wput, F_wmay, F_wready] _ rfl) (fun hf => envV_at F_wshut (shutW w n, n + 1) (shutW_ok (hw.ok hf) n) [F_awake, F_few, F_wput, F_wmay, F_wready] _ rfl)
    (fun hf => envV_at F_wread (shutW w n, 70000) (shutW_ok (hw.ok hf) n) [F_awake, F_few, F_wput, F_wmay, F_wready, F_wshut, F_wover] _ rfl)
    (fun hf m => envV_at F_wover (readW (shutW w n) 70000) (readW_ok (shutW_ok (hw.ok hf) n) m (by omega)) [F_awake, F_few, F_wput, F_wmay, F_wready, F_wshut] _ rfl)
    (fun hf m => envV_at F_wready (readW (shutW w n) 70000) (readW_ok (shutW_ok (hw.ok hf) n) m (by omega)) [F_awake, F_few, F_wput, F_wmay] _ rfl))
/-! ### The shapes -/
abbrev shWv : Sh := .parts [.int .i64, .slice (.int .u8) false, .slice shSpn true, .int .i64, .int .i64]
theorem hasWv {l : List AV} (h : Has shWv l) : ∃ base b q cap end_, l = [.int .i64 base, .osl b, .osl (prows q), .int .i64 cap, .int .i64 end_] ∧ IsB b ∧ b.length ≤ 9223372036854775807 ∧ q.length ≤ 9223372036854775807 := by
  obtain ⟨a, r, rfl, h0, h⟩ := hasCons h
  obtain ⟨b, r, rfl, h1, h⟩ := hasCons h
  obtain ⟨c, r, rfl, h2, h⟩ := hasCons h
  obtain ⟨d, r, rfl, h3, h⟩ := hasCons h
  obtain ⟨e, r, rfl, h4, h⟩ := hasCons h
  obtain rfl := hasNil h
  obtain ⟨base, rfl, w0⟩ := hasI64 h0
  obtain ⟨xs, rfl, hl, hx⟩ := hasBytes h1
  obtain ⟨q, rfl, hq, _⟩ := hasSpns h2
  obtain ⟨cap, rfl, w2⟩ := hasI64 h3
  obtain ⟨end_, rfl, w3⟩ := hasI64 h4
  exact ⟨base, xs, q, cap, end_, rfl, hx, hl, hq⟩
theorem sh_wv : shOf Try.prog 4 25 = some shWv := by kernel_rfl
theorem sh_bytes : shOf Try.prog 4 22 = some (.slice (.int .u8) false) := by kernel_rfl

end Vai.L06
