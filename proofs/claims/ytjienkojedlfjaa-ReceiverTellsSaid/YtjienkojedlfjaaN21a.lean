import Derived.Test.YtjienkojedlfjaaK21
namespace Vai.L21
open Go Go.Proofs Vai Vai.L04 Vai.L06
set_option maxRecDepth 100000
set_option linter.unusedVariables false
set_option linter.unusedSimpArgs false
section
variable {R : Type} {V : EV} {M : EM} {G : Nat → CS → Option R} {K : Res → Option R}
noncomputable abbrev Dm_in : EV → EM → Dn := dnV Try.prog 97 [] [] []
theorem m_in_0 (a0 : Int) (a1 : Int) : (Dm_in V M).stepK G K 0 ⟨[.int .i64 a0, .int .i64 a1], []⟩ =
    (bif decide (a0 ≥ (0 : Int)) then K (AV.bool (decide (a0 ≤ a1)), []) else K (AV.bool false, [])) := by kernel_rfl
noncomputable abbrev Dm_may : EV → EM → Dn := dnV Try.prog 77 [97] [] []
theorem m_may_0 (a0 : AV) : (Dm_may V M).stepK G K 0 ⟨[wM ((a0))], []⟩ =
    Option.bind (V 97 [AV.int .i64 (ci a0 0), AV.int .i64 (1152921504606846976 : Int)]) (fun x0 => gd (fitA [.one .bool] x0) ((bif AV.getb x0 then Option.bind (V 97 [AV.int .i64 (ci a0 1), AV.int .i64 (1152921504606846976 : Int)]) (fun x1 => gd (fitA [.one .bool] x1) ((bif AV.getb x1 then Option.bind (V 97 [AV.int .i64 (ci a0 2), AV.int .i64 (1152921504606846976 : Int)]) (fun x2 => gd (fitA [.one .bool] x2) ((bif AV.getb x2 then Option.bind (V 97 [AV.int .i64 (ci a0 3), AV.int .i64 (ci a0 2)]) (fun x3 => gd (fitA [.one .bool] x3) ((bif AV.getb x3 then Option.bind (V 97 [AV.int .i64 (ci a0 4), AV.int .i64 (1024 : Int)]) (fun x4 => gd (fitA [.one .bool] x4) (K (AV.bool (AV.getb x4), []))) else K (AV.bool false, [])))) else K (AV.bool false, [])))) else K (AV.bool false, [])))) else K (AV.bool false, [])))) := by kernel_rfl
noncomputable abbrev Dm_told : EV → EM → Dn := dnV Try.prog 72 [77] [] []
theorem m_told_0 (a0 : AV) : (Dm_told V M).stepK G K 0 ⟨[wM ((a0))], []⟩ =
    Option.bind (V 77 [wM ((a0))]) (fun x0 => gd (fitA [.one .bool] x0) ((bif !AV.getb x0 then K (AV.tup [AV.int .i64 (0 : Int), AV.int .u32 (0 : Int)], []) else K (AV.tup [AV.int .i64 (Int.tmod (ci a0 0) (8 : Int)), AV.int .u32 (IntKind.wrap .u32 (Int.tmod (ci a0 1) (16777216 : Int)))], [])))) := by kernel_rfl
noncomputable abbrev Dw_in : EV → EM → Dn := dnV Try.prog 78 [] [] []
theorem w_in_0 (a0 : Int) (a1 : Int) : (Dw_in V M).stepK G K 0 ⟨[.int .i64 a0, .int .i64 a1], []⟩ =
    (bif decide (a0 ≥ (0 : Int)) then K (AV.bool (decide (a0 ≤ a1)), []) else K (AV.bool false, [])) := by kernel_rfl
noncomputable abbrev Dwi_may : EV → EM → Dn := dnV Try.prog 40 [78] [] []
theorem wi_may_0 (a0 : AV) : (Dwi_may V M).stepK G K 0 ⟨[wS ((a0))], []⟩ =
    Option.bind (V 78 [AV.int .i64 (ci a0 0), AV.int .i64 (4 : Int)]) (fun x0 => gd (fitA [.one .bool] x0) ((bif AV.getb x0 then Option.bind (V 78 [AV.int .i64 (ci a0 1), AV.int .i64 (3 : Int)]) (fun x1 => gd (fitA [.one .bool] x1) ((bif AV.getb x1 then Option.bind (V 78 [AV.int .i64 (ci a0 8), AV.int .i64 (65535 : Int)]) (fun x2 => gd (fitA [.one .bool] x2) ((bif AV.getb x2 then Option.bind (V 78 [AV.int .i64 (ci a0 9), AV.int .i64 (7 : Int)]) (fun x3 => gd (fitA [.one .bool] x3) ((bif AV.getb x3 then (bif decide (ci a0 10 < (16777216 : Int)) then (bif decide ((↑(List.length (cl a0 13)) : Int) ≤ (3 : Int)) then K (AV.bool (decide ((↑(List.length (cl a0 14)) : Int) ≤ (1460 : Int))), []) else K (AV.bool false, [])) else K (AV.bool false, [])) else K (AV.bool false, [])))) else K (AV.bool false, [])))) else K (AV.bool false, [])))) else K (AV.bool false, [])))) := by kernel_rfl
noncomputable abbrev Dlow : EV → EM → Dn := dnV Try.prog 68 [] [] []
theorem low_0 (a0 : Int) : (Dlow V M).stepK G K 0 ⟨[.int .i64 a0], []⟩ =
    K (AV.int .u32 (IntKind.wrap .u32 a0), []) := by kernel_rfl
noncomputable abbrev Dunw : EV → EM → Dn := dnV Try.prog 75 [] [] []
theorem unw_0 (a0 : Int) (a1 : Int) : (Dunw V M).stepK G K 0 ⟨[.int .i64 a0, .int .u32 a1], []⟩ =
    (bif decide (IntKind.wrap .i64 (IntKind.wrap .i64 (IntKind.wrap .i64 ((if (if (4611686018427387904 : Int) < a0 then (4611686018427387904 : Int) else a0) > (0 : Int) then if (4611686018427387904 : Int) < a0 then (4611686018427387904 : Int) else a0 else (0 : Int)) - Int.tmod (if (if (4611686018427387904 : Int) < a0 then (4611686018427387904 : Int) else a0) > (0 : Int) then if (4611686018427387904 : Int) < a0 then (4611686018427387904 : Int) else a0 else (0 : Int)) (4294967296 : Int)) + IntKind.wrap .i64 a1) - if (if (4611686018427387904 : Int) < a0 then (4611686018427387904 : Int) else a0) > (0 : Int) then if (4611686018427387904 : Int) < a0 then (4611686018427387904 : Int) else a0 else (0 : Int)) > (2147483648 : Int)) then (bif decide (IntKind.wrap .i64 (IntKind.wrap .i64 ((if (if (4611686018427387904 : Int) < a0 then (4611686018427387904 : Int) else a0) > (0 : Int) then if (4611686018427387904 : Int) < a0 then (4611686018427387904 : Int) else a0 else (0 : Int)) - Int.tmod (if (if (4611686018427387904 : Int) < a0 then (4611686018427387904 : Int) else a0) > (0 : Int) then if (4611686018427387904 : Int) < a0 then (4611686018427387904 : Int) else a0 else (0 : Int)) (4294967296 : Int)) + IntKind.wrap .i64 a1) ≥ (4294967296 : Int)) then K (AV.int .i64 (IntKind.wrap .i64 (IntKind.wrap .i64 (IntKind.wrap .i64 ((if (if (4611686018427387904 : Int) < a0 then (4611686018427387904 : Int) else a0) > (0 : Int) then if (4611686018427387904 : Int) < a0 then (4611686018427387904 : Int) else a0 else (0 : Int)) - Int.tmod (if (if (4611686018427387904 : Int) < a0 then (4611686018427387904 : Int) else a0) > (0 : Int) then if (4611686018427387904 : Int) < a0 then (4611686018427387904 : Int) else a0 else (0 : Int)) (4294967296 : Int)) + IntKind.wrap .i64 a1) - (4294967296 : Int))), []) else K (AV.int .i64 (IntKind.wrap .i64 (IntKind.wrap .i64 ((if (if (4611686018427387904 : Int) < a0 then (4611686018427387904 : Int) else a0) > (0 : Int) then if (4611686018427387904 : Int) < a0 then (4611686018427387904 : Int) else a0 else (0 : Int)) - Int.tmod (if (if (4611686018427387904 : Int) < a0 then (4611686018427387904 : Int) else a0) > (0 : Int) then if (4611686018427387904 : Int) < a0 then (4611686018427387904 : Int) else a0 else (0 : Int)) (4294967296 : Int)) + IntKind.wrap .i64 a1)), [])) else (bif decide (IntKind.wrap .i64 ((if (if (4611686018427387904 : Int) < a0 then (4611686018427387904 : Int) else a0) > (0 : Int) then if (4611686018427387904 : Int) < a0 then (4611686018427387904 : Int) else a0 else (0 : Int)) - IntKind.wrap .i64 (IntKind.wrap .i64 ((if (if (4611686018427387904 : Int) < a0 then (4611686018427387904 : Int) else a0) > (0 : Int) then if (4611686018427387904 : Int) < a0 then (4611686018427387904 : Int) else a0 else (0 : Int)) - Int.tmod (if (if (4611686018427387904 : Int) < a0 then (4611686018427387904 : Int) else a0) > (0 : Int) then if (4611686018427387904 : Int) < a0 then (4611686018427387904 : Int) else a0 else (0 : Int)) (4294967296 : Int)) + IntKind.wrap .i64 a1)) > (2147483648 : Int)) then (bif IntKind.wrap .i64 (IntKind.wrap .i64 (IntKind.wrap .i64 (IntKind.wrap .i64 ((if (if (4611686018427387904 : Int) < a0 then (4611686018427387904 : Int) else a0) > (0 : Int) then if (4611686018427387904 : Int) < a0 then (4611686018427387904 : Int) else a0 else (0 : Int)) - Int.tmod (if (if (4611686018427387904 : Int) < a0 then (4611686018427387904 : Int) else a0) > (0 : Int) then if (4611686018427387904 : Int) < a0 then (4611686018427387904 : Int) else a0 else (0 : Int)) (4294967296 : Int)) + IntKind.wrap .i64 a1) + (4294967296 : Int)) - if (if (4611686018427387904 : Int) < a0 then (4611686018427387904 : Int) else a0) > (0 : Int) then if (4611686018427387904 : Int) < a0 then (4611686018427387904 : Int) else a0 else (0 : Int)) == (2147483648 : Int) then (bif decide (IntKind.wrap .i64 (IntKind.wrap .i64 (IntKind.wrap .i64 ((if (if (4611686018427387904 : Int) < a0 then (4611686018427387904 : Int) else a0) > (0 : Int) then if (4611686018427387904 : Int) < a0 then (4611686018427387904 : Int) else a0 else (0 : Int)) - Int.tmod (if (if (4611686018427387904 : Int) < a0 then (4611686018427387904 : Int) else a0) > (0 : Int) then if (4611686018427387904 : Int) < a0 then (4611686018427387904 : Int) else a0 else (0 : Int)) (4294967296 : Int)) + IntKind.wrap .i64 a1) + (4294967296 : Int)) ≥ (4294967296 : Int)) then K (AV.int .i64 (IntKind.wrap .i64 (IntKind.wrap .i64 (IntKind.wrap .i64 (IntKind.wrap .i64 ((if (if (4611686018427387904 : Int) < a0 then (4611686018427387904 : Int) else a0) > (0 : Int) then if (4611686018427387904 : Int) < a0 then (4611686018427387904 : Int) else a0 else (0 : Int)) - Int.tmod (if (if (4611686018427387904 : Int) < a0 then (4611686018427387904 : Int) else a0) > (0 : Int) then if (4611686018427387904 : Int) < a0 then (4611686018427387904 : Int) else a0 else (0 : Int)) (4294967296 : Int)) + IntKind.wrap .i64 a1) + (4294967296 : Int)) - (4294967296 : Int))), []) else K (AV.int .i64 (IntKind.wrap .i64 (IntKind.wrap .i64 (IntKind.wrap .i64 ((if (if (4611686018427387904 : Int) < a0 then (4611686018427387904 : Int) else a0) > (0 : Int) then if (4611686018427387904 : Int) < a0 then (4611686018427387904 : Int) else a0 else (0 : Int)) - Int.tmod (if (if (4611686018427387904 : Int) < a0 then (4611686018427387904 : Int) else a0) > (0 : Int) then if (4611686018427387904 : Int) < a0 then (4611686018427387904 : Int) else a0 else (0 : Int)) (4294967296 : Int)) + IntKind.wrap .i64 a1) + (4294967296 : Int))), [])) else K (AV.int .i64 (IntKind.wrap .i64 (IntKind.wrap .i64 (IntKind.wrap .i64 ((if (if (4611686018427387904 : Int) < a0 then (4611686018427387904 : Int) else a0) > (0 : Int) then if (4611686018427387904 : Int) < a0 then (4611686018427387904 : Int) else a0 else (0 : Int)) - Int.tmod (if (if (4611686018427387904 : Int) < a0 then (4611686018427387904 : Int) else a0) > (0 : Int) then if (4611686018427387904 : Int) < a0 then (4611686018427387904 : Int) else a0 else (0 : Int)) (4294967296 : Int)) + IntKind.wrap .i64 a1) + (4294967296 : Int))), [])) else (bif IntKind.wrap .i64 (IntKind.wrap .i64 (IntKind.wrap .i64 ((if (if (4611686018427387904 : Int) < a0 then (4611686018427387904 : Int) else a0) > (0 : Int) then if (4611686018427387904 : Int) < a0 then (4611686018427387904 : Int) else a0 else (0 : Int)) - Int.tmod (if (if (4611686018427387904 : Int) < a0 then (4611686018427387904 : Int) else a0) > (0 : Int) then if (4611686018427387904 : Int) < a0 then (4611686018427387904 : Int) else a0 else (0 : Int)) (4294967296 : Int)) + IntKind.wrap .i64 a1) - if (if (4611686018427387904 : Int) < a0 then (4611686018427387904 : Int) else a0) > (0 : Int) then if (4611686018427387904 : Int) < a0 then (4611686018427387904 : Int) else a0 else (0 : Int)) == (2147483648 : Int) then (bif decide (IntKind.wrap .i64 (IntKind.wrap .i64 ((if (if (4611686018427387904 : Int) < a0 then (4611686018427387904 : Int) else a0) > (0 : Int) then if (4611686018427387904 : Int) < a0 then (4611686018427387904 : Int) else a0 else (0 : Int)) - Int.tmod (if (if (4611686018427387904 : Int) < a0 then (4611686018427387904 : Int) else a0) > (0 : Int) then if (4611686018427387904 : Int) < a0 then (4611686018427387904 : Int) else a0 else (0 : Int)) (4294967296 : Int)) + IntKind.wrap .i64 a1) ≥ (4294967296 : Int)) then K (AV.int .i64 (IntKind.wrap .i64 (IntKind.wrap .i64 (IntKind.wrap .i64 ((if (if (4611686018427387904 : Int) < a0 then (4611686018427387904 : Int) else a0) > (0 : Int) then if (4611686018427387904 : Int) < a0 then (4611686018427387904 : Int) else a0 else (0 : Int)) - Int.tmod (if (if (4611686018427387904 : Int) < a0 then (4611686018427387904 : Int) else a0) > (0 : Int) then if (4611686018427387904 : Int) < a0 then (4611686018427387904 : Int) else a0 else (0 : Int)) (4294967296 : Int)) + IntKind.wrap .i64 a1) - (4294967296 : Int))), []) else K (AV.int .i64 (IntKind.wrap .i64 (IntKind.wrap .i64 ((if (if (4611686018427387904 : Int) < a0 then (4611686018427387904 : Int) else a0) > (0 : Int) then if (4611686018427387904 : Int) < a0 then (4611686018427387904 : Int) else a0 else (0 : Int)) - Int.tmod (if (if (4611686018427387904 : Int) < a0 then (4611686018427387904 : Int) else a0) > (0 : Int) then if (4611686018427387904 : Int) < a0 then (4611686018427387904 : Int) else a0 else (0 : Int)) (4294967296 : Int)) + IntKind.wrap .i64 a1)), [])) else K (AV.int .i64 (IntKind.wrap .i64 (IntKind.wrap .i64 ((if (if (4611686018427387904 : Int) < a0 then (4611686018427387904 : Int) else a0) > (0 : Int) then if (4611686018427387904 : Int) < a0 then (4611686018427387904 : Int) else a0 else (0 : Int)) - Int.tmod (if (if (4611686018427387904 : Int) < a0 then (4611686018427387904 : Int) else a0) > (0 : Int) then if (4611686018427387904 : Int) < a0 then (4611686018427387904 : Int) else a0 else (0 : Int)) (4294967296 : Int)) + IntKind.wrap .i64 a1)), [])))) := by kernel_rfl
noncomputable abbrev Doff : EV → EM → Dn := dnV Try.prog 79 [57, 77] [] []
theorem off_0 (a0 : AV) : (Doff V M).stepK G K 0 ⟨[wI ((a0))], []⟩ =
    Option.bind (V 57 [AV.osl (cl a0 0)]) (fun x0 => gd (fitA [.one .bool] x0) ((bif !AV.getb x0 then K (AV.bool true, []) else Option.bind (V 77 [AV.agg (vwL kM 1 (AV.getc a0))]) (fun x1 => gd (fitA [.one .bool] x1) (K (AV.bool !AV.getb x1, [])))))) := by kernel_rfl
noncomputable abbrev Dixi : EV → EM → Dn := dnV Try.prog 98 [79] [] [(26, [0, 1, 7, 8])]
theorem ixi_0 (a0 : List AV) : (Dixi V M).stepK G K 0 ⟨[.osl a0, .fn 79 [] []], []⟩ =
    G 26 ({ vs := [AV.osl a0, AV.fn 79 [] [], AV.int .i64 (↑(List.length a0) : Int), AV.int .i64 (0 : Int)], bs := [] }) := by kernel_rfl
theorem ixi_1 (l0 : List AV) (n1 : Int) (n2 : Int) : (Dixi V M).stepK G K 26 ⟨[(.osl l0), (.fn 79 [] []), (.int .i64 n1), (.int .i64 n2)], []⟩ =
    (bif decide (n2 < n1) then gd (decide ((0 : Int) ≤ n2)) (Option.bind (l0[Int.toNat n2]?) (fun x0 => gd (Vw.fit (.agg kI) x0) (Option.bind (V 79 [wI ((x0))]) (fun x1 => gd (fitA [.one .bool] x1) ((bif AV.getb x1 then K (AV.int .i64 n2, []) else G 26 ({ vs := [AV.osl l0, AV.fn 79 [] [], AV.int .i64 n1, AV.int .i64 (IntKind.wrap .i64 (n2 + (1 : Int)))], bs := [] }))))))) else K (AV.int .i64 (-1 : Int), [])) := by kernel_rfl
noncomputable abbrev Dcti : EV → EM → Dn := dnV Try.prog 80 [98] [] []
theorem cti_0 (a0 : List AV) : (Dcti V M).stepK G K 0 ⟨[.osl a0, .fn 79 [] []], []⟩ =
    Option.bind (V 98 [AV.osl a0, AV.fn 79 [] []]) (fun x0 => gd (fitA [.one (.int .i64)] x0) (K (AV.bool (decide (AV.geti x0 ≥ (0 : Int))), []))) := by kernel_rfl
noncomputable abbrev Drmay : EV → EM → Dn := dnV Try.prog 41 [17, 79, 80] [] []
theorem rmay_0 (a0 : AV) : (Drmay V M).stepK G K 0 ⟨[wR ((a0))], []⟩ =
    Option.bind (V 17 [wW ((a0))]) (fun x0 => gd (fitA [.one .bool] x0) ((bif AV.getb x0 then Option.bind (V 80 [AV.osl [AV.agg (vwL kI 5 (AV.getc a0)), AV.agg (vwL kI 11 (AV.getc a0)), AV.agg (vwL kI 17 (AV.getc a0)), AV.agg (vwL kI 23 (AV.getc a0))], AV.fn 79 [] []]) (fun x1 => gd (fitA [.one .bool] x1) (K (AV.bool !AV.getb x1, []))) else K (AV.bool false, [])))) := by kernel_rfl
noncomputable abbrev Drown : EV → EM → Dn := dnVc Try.prog 74 [] [(88, (1, 1)), (89, (2, 16))] [] []
theorem rown_0 (a0 : AV) : (Drown V M).stepK G K 0 ⟨[wR ((a0))], []⟩ =
    gd (gRow 1 (cl a0 1)) (gd (gLen (List.length (cl a0 1)) 1) (gd (gRow 2 (cl a0 2)) (gd (gLen (List.length (cl a0 2)) 16) (gd (gRow 2 (cl a0 5)) (gd (gLen (List.length (cl a0 5)) 16) (gd (gRow 2 (cl a0 11)) (gd (gLen (List.length (cl a0 11)) 16) (gd (gRow 2 (cl a0 17)) (gd (gLen (List.length (cl a0 17)) 16) (gd (gRow 2 (cl a0 23)) (gd (gLen (List.length (cl a0 23)) 16) (gd (decide (0 + List.length (cl a0 1) ≤ List.length (cl a0 1))) (gd (gFree 1 (List.take (List.length (cl a0 1)) (List.drop 0 (cl a0 1)))) (gd (decide (0 + List.length (cl a0 2) ≤ List.length (cl a0 2))) (gd (gFree 2 (List.take (List.length (cl a0 2)) (List.drop 0 (cl a0 2)))) (gd (decide (0 + List.length (cl a0 5) ≤ List.length (cl a0 5))) (gd (gFree 2 (List.take (List.length (cl a0 5)) (List.drop 0 (cl a0 5)))) (gd (decide (0 + List.length (cl a0 11) ≤ List.length (cl a0 11))) (gd (gFree 2 (List.take (List.length (cl a0 11)) (List.drop 0 (cl a0 11)))) (gd (decide (0 + List.length (cl a0 17) ≤ List.length (cl a0 17))) (gd (gFree 2 (List.take (List.length (cl a0 17)) (List.drop 0 (cl a0 17)))) (gd (decide (0 + List.length (cl a0 23) ≤ List.length (cl a0 23))) (gd (gFree 2 (List.take (List.length (cl a0 23)) (List.drop 0 (cl a0 23)))) (K (AV.agg (List.append [AV.int .i64 (ci a0 0), AV.osl (List.take (List.length (cl a0 1)) (List.drop 0 (cl a0 1))), AV.osl (List.take (List.length (cl a0 2)) (List.drop 0 (cl a0 2)))] (List.append (vwL [.int .i64, .int .i64] 3 (AV.getc a0)) (List.append [AV.osl (List.take (List.length (cl a0 5)) (List.drop 0 (cl a0 5)))] (List.append (vwL kM 6 (AV.getc a0)) (List.append [AV.osl (List.take (List.length (cl a0 11)) (List.drop 0 (cl a0 11)))] (List.append (vwL kM 12 (AV.getc a0)) (List.append [AV.osl (List.take (List.length (cl a0 17)) (List.drop 0 (cl a0 17)))] (List.append (vwL kM 18 (AV.getc a0)) (List.append [AV.osl (List.take (List.length (cl a0 23)) (List.drop 0 (cl a0 23)))] (vwL kM 24 (AV.getc a0))))))))))), []))))))))))))))))))))))))) := by kernel_rfl
noncomputable abbrev Dfar : EV → EM → Dn := dnV Try.prog 70 [19] [] []
theorem far_0 (a0 : AV) : (Dfar V M).stepK G K 0 ⟨[wW ((a0))], []⟩ =
    Option.bind (V 19 [wW ((a0))]) (fun x0 => gd (fitA [.one (.int .i64)] x0) ((bif IntKind.wrap .i64 (ci a0 0 + AV.geti x0) == ci a0 4 then K (AV.int .i64 (IntKind.wrap .i64 (IntKind.wrap .i64 (ci a0 0 + AV.geti x0) + (1 : Int))), []) else K (AV.int .i64 (IntKind.wrap .i64 (ci a0 0 + AV.geti x0)), [])))) := by kernel_rfl
noncomputable abbrev Drput : EV → EM → Dn := dnV Try.prog 76 [15, 18, 21] [] []
theorem rput_0 (a0 : AV) (a1 : AV) (a2 : Int) : (Drput V M).stepK G K 0 ⟨[wW ((a0)), wS ((a1)), .int .i64 a2], []⟩ =
    (bif cb a1 2 then Option.bind (V 21 [wW ((a0)), AV.int .i64 a2]) (fun x2 => gd (fitA [.agg kW, .one (.int .i64)] x2) (K (AV.tup [wW (((List.getD (AV.gett x2) 0 .undef))), AV.int .i64 (ti x2 1)], []))) else Option.bind (V 18 [wW ((a0))]) (fun x0 => gd (fitA [.one (.int .i64)] x0) ((bif decide (IntKind.wrap .i64 (a2 + (↑(List.length (cl a1 14)) : Int)) > AV.geti x0) then K (AV.tup [wW ((a0)), AV.int .i64 (4 : Int)], []) else Option.bind (V 15 [wW ((a0)), AV.int .i64 a2, AV.osl (cl a1 14)]) (fun x1 => gd (fitA [.agg kW, .one (.int .i64), .one (.int .i64)] x1) (K (AV.tup [wW (((List.getD (AV.gett x1) 0 .undef))), AV.int .i64 (ti x1 2)], []))))))) := by kernel_rfl
noncomputable abbrev Dfail : EV → EM → Dn := dnV Try.prog 73 [] [] []
theorem fail_0 (a0 : Int) : (Dfail V M).stepK G K 0 ⟨[.int .i64 a0], []⟩ =
    K (AV.tup [AV.agg zR, AV.agg zS, AV.int .i64 a0], []) := by kernel_rfl
noncomputable abbrev Drnew : EV → EM → Dn := dnV Try.prog 47 [20] [] []
theorem rnew_0 (a0 : Int) : (Drnew V M).stepK G K 0 ⟨[.int .i64 a0], []⟩ =
    Option.bind (V 20 [AV.int .i64 a0]) (fun x0 => gd (fitA [.agg kW, .one (.int .i64)] x0) ((bif !ti x0 1 == (0 : Int) then K (AV.tup [AV.agg zR, AV.int .i64 (ti x0 1)], []) else K (AV.tup [AV.agg (List.append (vwL kW 0 (AV.getc (List.getD (AV.gett x0) 0 .undef))) zT), AV.int .i64 (0 : Int)], [])))) := by kernel_rfl
noncomputable abbrev Drread : EV → EM → Dn := dnV Try.prog 42 [23, 41, 74] [] []
theorem rread_0 (a0 : AV) (a1 : Int) : (Drread V M).stepK G K 0 ⟨[wR ((a0)), .int .i64 a1], []⟩ =
    Option.bind (V 41 [wR ((a0))]) (fun x0 => gd (fitA [.one .bool] x0) ((bif !AV.getb x0 then K (AV.tup [AV.agg zR, AV.osl [], AV.int .i64 (1 : Int)], []) else Option.bind (V 74 [wR ((a0))]) (fun x1 => gd (fitA [.agg kR] x1) (Option.bind (V 23 [wW ((x1)), AV.int .i64 a1]) (fun x2 => gd (fitA [.agg kW, .one .sl, .one (.int .i64)] x2) ((bif !ti x2 2 == (0 : Int) then K (AV.tup [AV.agg zR, AV.osl [], AV.int .i64 (ti x2 2)], []) else K (AV.tup [AV.agg (List.append (vwL kW 0 (AV.getc (List.getD (AV.gett x2) 0 .undef))) (vwL kT 5 (AV.getc x1))), AV.osl (tl x2 1), AV.int .i64 (0 : Int)], []))))))))) := by kernel_rfl
noncomputable abbrev Drover : EV → EM → Dn := dnV Try.prog 49 [22] [] []
theorem rover_0 (a0 : AV) : (Drover V M).stepK G K 0 ⟨[wR ((a0))], []⟩ =
    Option.bind (V 22 [wW ((a0))]) (fun x0 => gd (fitA [.one .bool] x0) (K (AV.bool (AV.getb x0), []))) := by kernel_rfl
noncomputable abbrev Dt1 : EV → EM → Dn := dnM Try.prog 67 [59, 68] [] [(30, [1, 2, 12, 13, 14])] [true, true]
theorem t1_0 (c0 : AV) (c1 : AV) : (Dt1 V M).stepK G K 0 ⟨[p0, p1], [bx (wI ((c0))), bx (.agg (List.append (vwL kO 0 (AV.getc c1)) [.nl, .nl]))]⟩ =
    Option.bind (V 59 [AV.osl (cl c0 0), AV.int .i64 (0 : Int)]) (fun x0 => gd (fitA [.one (.int .i64)] x0) (Option.bind (V 68 [AV.int .i64 (AV.geti x0)]) (fun x1 => gd (fitA [.one (.int .u32)] x1) (G 30 ({ vs := [p1, AV.int .i64 (AV.geti x0), AV.osl (cl c0 0), AV.int .i64 (↑(List.length (cl c0 0)) : Int), AV.int .i64 (0 : Int)], bs := [bx (wI ((c0))), bx (AV.agg (List.append (vwL [.int .i64, .int .i64, .bool, .bool, .int .u32, .int .u32] 0 (AV.getc c1)) (List.append [AV.int .u32 (AV.geti x1)] (List.append (vwL [.int .u32, .int .i64, .int .i64, .int .u32, .int .u32, .int .u32] 7 (AV.getc c1)) [AV.nl, AV.nl]))))] }))))) := by kernel_rfl
theorem t1_1 (n0 : Int) (l1 : List AV) (n2 : Int) (n3 : Int) (v4 : AV) (v5 : AV) : (Dt1 V M).stepK G K 30 ⟨[p1, (.int .i64 n0), (.osl l1), (.int .i64 n2), (.int .i64 n3)], [bx (wI ((v4))), bx (.agg (List.append (vwL kO 0 (AV.getc v5)) [.nl, .nl]))]⟩ =
    (bif decide (n3 < n2) then gd (decide ((0 : Int) ≤ n3)) (Option.bind (l1[Int.toNat n3]?) (fun x0 => gd (Vw.fit (.agg [.int .i64, .int .i64]) x0) ((bif decide (ci x0 0 > n0) then Option.bind (V 68 [AV.int .i64 (ci x0 0)]) (fun x1 => gd (fitA [.one (.int .u32)] x1) (Option.bind (V 68 [AV.int .i64 (ci x0 1)]) (fun x2 => gd (fitA [.one (.int .u32)] x2) (G 30 ({ vs := [p1, AV.int .i64 n0, AV.osl l1, AV.int .i64 n2, AV.int .i64 (IntKind.wrap .i64 (n3 + (1 : Int)))], bs := [bx (wI ((v4))), bx (AV.agg (List.append (vwL kO 0 (AV.getc v5)) [AV.sl 2 1000002 0 0 1, AV.nl])), some { es := [AV.agg [AV.int .u32 (AV.geti x1), AV.int .u32 (AV.geti x2)]], fr := false, pt := false }] }))))) else G 30 ({ vs := [p1, AV.int .i64 n0, AV.osl l1, AV.int .i64 n2, AV.int .i64 (IntKind.wrap .i64 (n3 + (1 : Int)))], bs := [bx (wI ((v4))), bx (AV.agg (List.append (vwL kO 0 (AV.getc v5)) [AV.nl, AV.nl]))] }))))) else K (AV.tup [], [bx (wI ((v4))), bx (AV.agg (List.append (vwL kO 0 (AV.getc v5)) [AV.nl, AV.nl]))])) := by kernel_rfl
theorem t1_2 (n0 : Int) (l1 : List AV) (n2 : Int) (n3 : Int) (v4 : AV) (v5 : AV) (k6 : Nat) (l7 : List AV) : (Dt1 V M).stepK G K 30 ⟨[p1, (.int .i64 n0), (.osl l1), (.int .i64 n2), (.int .i64 n3)], [bx (wI ((v4))), bx (.agg (List.append (vwL kO 0 (AV.getc v5)) [(.sl 2 1000002 0 0 k6), .nl])), some ⟨l7, false, false⟩]⟩ =
    (bif decide (n3 < n2) then gd (decide ((0 : Int) ≤ n3)) (Option.bind (l1[Int.toNat n3]?) (fun x0 => gd (Vw.fit (.agg [.int .i64, .int .i64]) x0) ((bif decide (ci x0 0 > n0) then (bif decide ((↑k6 : Int) < (3 : Int)) then Option.bind (V 68 [AV.int .i64 (ci x0 0)]) (fun x1 => gd (fitA [.one (.int .u32)] x1) (Option.bind (V 68 [AV.int .i64 (ci x0 1)]) (fun x2 => gd (fitA [.one (.int .u32)] x2) (gd (decide (k6 ≤ List.length l7)) (gd (gLen (List.length (List.take k6 l7) + 1) 8) (gd (gNo (List.take k6 l7 ++ [AV.agg [AV.int .u32 (AV.geti x1), AV.int .u32 (AV.geti x2)]])) (G 30 ({ vs := [p1, AV.int .i64 n0, AV.osl l1, AV.int .i64 n2, AV.int .i64 (IntKind.wrap .i64 (n3 + (1 : Int)))], bs := [bx (wI ((v4))), bx (AV.agg (List.append (vwL kO 0 (AV.getc v5)) [AV.sl 2 1000002 0 0 (List.length (List.take k6 l7) + 1), AV.nl])), some { es := List.take k6 l7 ++ [AV.agg [AV.int .u32 (AV.geti x1), AV.int .u32 (AV.geti x2)]], fr := false, pt := false }] })))))))) else gd (gNo l7) (G 30 ({ vs := [p1, AV.int .i64 n0, AV.osl l1, AV.int .i64 n2, AV.int .i64 (IntKind.wrap .i64 (n3 + (1 : Int)))], bs := [bx (wI ((v4))), bx (AV.agg (List.append (vwL kO 0 (AV.getc v5)) [AV.sl 2 1000002 0 0 k6, AV.nl])), some { es := l7, fr := false, pt := false }] }))) else gd (gNo l7) (G 30 ({ vs := [p1, AV.int .i64 n0, AV.osl l1, AV.int .i64 n2, AV.int .i64 (IntKind.wrap .i64 (n3 + (1 : Int)))], bs := [bx (wI ((v4))), bx (AV.agg (List.append (vwL kO 0 (AV.getc v5)) [AV.sl 2 1000002 0 0 k6, AV.nl])), some { es := l7, fr := false, pt := false }] })))))) else gd (gNo l7) (K (AV.tup [], [bx (wI ((v4))), bx (AV.agg (List.append (vwL kO 0 (AV.getc v5)) [AV.sl 2 1000002 0 0 k6, AV.nl])), some { es := l7, fr := false, pt := false }]))) := by kernel_rfl
noncomputable abbrev Dt2 : EV → EM → Dn := dnM Try.prog 69 [18, 68, 70] [] [] [true, true]
theorem t2_0 (c0 : AV) (c1 : AV) : (Dt2 V M).stepK G K 0 ⟨[p0, p1], [bx (wR ((c0))), bx (.agg (List.append (vwL kO 0 (AV.getc c1)) [.nl, .nl]))]⟩ =
    Option.bind (V 70 [wW ((c0))]) (fun x0 => gd (fitA [.one (.int .i64)] x0) (Option.bind (V 68 [AV.int .i64 (AV.geti x0)]) (fun x1 => gd (fitA [.one (.int .u32)] x1) (Option.bind (V 18 [wW ((c0))]) (fun x2 => gd (fitA [.one (.int .i64)] x2) (K (AV.tup [], [bx (wR ((c0))), bx (AV.agg (List.append (vwL [.int .i64, .int .i64, .bool, .bool, .int .u32, .int .u32, .int .u32] 0 (AV.getc c1)) (List.append [AV.int .u32 (AV.geti x1), AV.int .i64 (if (65535 : Int) < if (0 : Int) > IntKind.wrap .i64 (AV.geti x2 - AV.geti x0) then (0 : Int) else IntKind.wrap .i64 (AV.geti x2 - AV.geti x0) then (65535 : Int) else if (0 : Int) > IntKind.wrap .i64 (AV.geti x2 - AV.geti x0) then (0 : Int) else IntKind.wrap .i64 (AV.geti x2 - AV.geti x0))] (List.append (vwL [.int .i64, .int .u32, .int .u32, .int .u32] 9 (AV.getc c1)) [AV.nl, AV.nl]))))]))))))) := by kernel_rfl
noncomputable abbrev Dt2s : EV → EM → Dn := dnM Try.prog 69 [18, 68, 70] [] [] [true, true, false]
theorem t2s_0 (c0 : AV) (c1 : AV) (c1_13 : Nat) (r2 : List AV) : (Dt2s V M).stepK G K 0 ⟨[p0, p1], [bx (wR ((c0))), bx (.agg (List.append (vwL kO 0 (AV.getc c1)) [.sl 2 1000002 0 0 c1_13, .nl])), some ⟨r2, false, false⟩]⟩ =
    Option.bind (V 70 [wW ((c0))]) (fun x0 => gd (fitA [.one (.int .i64)] x0) (Option.bind (V 68 [AV.int .i64 (AV.geti x0)]) (fun x1 => gd (fitA [.one (.int .u32)] x1) (Option.bind (V 18 [wW ((c0))]) (fun x2 => gd (fitA [.one (.int .i64)] x2) (gd (gNo r2) (K (AV.tup [], [bx (wR ((c0))), bx (AV.agg (List.append (vwL [.int .i64, .int .i64, .bool, .bool, .int .u32, .int .u32, .int .u32] 0 (AV.getc c1)) (List.append [AV.int .u32 (AV.geti x1), AV.int .i64 (if (65535 : Int) < if (0 : Int) > IntKind.wrap .i64 (AV.geti x2 - AV.geti x0) then (0 : Int) else IntKind.wrap .i64 (AV.geti x2 - AV.geti x0) then (65535 : Int) else if (0 : Int) > IntKind.wrap .i64 (AV.geti x2 - AV.geti x0) then (0 : Int) else IntKind.wrap .i64 (AV.geti x2 - AV.geti x0))] (List.append (vwL [.int .i64, .int .u32, .int .u32, .int .u32] 9 (AV.getc c1)) [AV.sl 2 1000002 0 0 c1_13, AV.nl])))), some { es := r2, fr := false, pt := false }])))))))) := by kernel_rfl
noncomputable abbrev Dt3 : EV → EM → Dn := dnM Try.prog 71 [72] [] [] [true, true]
theorem t3_0 (c0 : AV) (c1 : AV) : (Dt3 V M).stepK G K 0 ⟨[p0, p1], [bx (wI ((c0))), bx (.agg (List.append (vwL kO 0 (AV.getc c1)) [.nl, .nl]))]⟩ =
    Option.bind (V 72 [AV.agg (vwL kM 1 (AV.getc c0))]) (fun x0 => gd (fitA [.one (.int .i64), .one (.int .u32)] x0) (K (AV.tup [], [bx (wI ((c0))), bx (AV.agg (List.append (vwL [.int .i64, .int .i64, .bool, .bool, .int .u32, .int .u32, .int .u32, .int .u32, .int .i64] 0 (AV.getc c1)) (List.append [AV.int .i64 (ti x0 0), AV.int .u32 (ti x0 1)] (List.append (vwL [.int .u32, .int .u32] 11 (AV.getc c1)) [AV.nl, AV.nl]))))]))) := by kernel_rfl
noncomputable abbrev Dt3s : EV → EM → Dn := dnM Try.prog 71 [72] [] [] [true, true, false]
theorem t3s_0 (c0 : AV) (c1 : AV) (c1_13 : Nat) (r2 : List AV) : (Dt3s V M).stepK G K 0 ⟨[p0, p1], [bx (wI ((c0))), bx (.agg (List.append (vwL kO 0 (AV.getc c1)) [.sl 2 1000002 0 0 c1_13, .nl])), some ⟨r2, false, false⟩]⟩ =
    Option.bind (V 72 [AV.agg (vwL kM 1 (AV.getc c0))]) (fun x0 => gd (fitA [.one (.int .i64), .one (.int .u32)] x0) (gd (gNo r2) (K (AV.tup [], [bx (wI ((c0))), bx (AV.agg (List.append (vwL [.int .i64, .int .i64, .bool, .bool, .int .u32, .int .u32, .int .u32, .int .u32, .int .i64] 0 (AV.getc c1)) (List.append [AV.int .i64 (ti x0 0), AV.int .u32 (ti x0 1)] (List.append (vwL [.int .u32, .int .u32] 11 (AV.getc c1)) [AV.sl 2 1000002 0 0 c1_13, AV.nl])))), some { es := r2, fr := false, pt := false }])))) := by kernel_rfl
noncomputable abbrev Drtold : EV → EM → Dn := dnV Try.prog 36 [41] [(67, [(.tup [], [.pt pI, .pt pO1]), (.tup [], [.pt pI, .pt pO2, .row])]), (69, [(.undef, []), (.tup [], [.pt pR, .pt pO1]), (.tup [], [.pt pR, .pt pO2, .row])]), (71, [(.undef, []), (.tup [], [.pt pI, .pt pO1]), (.tup [], [.pt pI, .pt pO2, .row])])] []
theorem rtold_0 (a0 : AV) (a1 : Int) (a2 : Int) : (Drtold V M).stepK G K 0 ⟨[wR ((a0)), .int .i64 a1, .int .u32 a2], []⟩ =
    Option.bind (V 41 [wR ((a0))]) (fun x0 => gd (fitA [.one .bool] x0) ((bif !AV.getb x0 then K (AV.tup [AV.agg zS, AV.int .i64 (1 : Int)], []) else (bif decide (a1 < (0 : Int)) then K (AV.tup [AV.agg zS, AV.int .i64 (1 : Int)], []) else (bif decide (a1 ≥ (4 : Int)) then K (AV.tup [AV.agg zS, AV.int .i64 (1 : Int)], []) else (bif decide (a1 = (0 : Int)) then Option.bind (M 67 [p0, p1] [bx (AV.agg (vwL kI 5 (AV.getc a0))), bx (AV.agg [AV.int .i64 (3 : Int), AV.int .i64 a1, AV.bool false, AV.bool true, AV.int .u32 (0 : Int), AV.int .u32 (0 : Int), AV.int .u32 (0 : Int), AV.int .u32 (0 : Int), AV.int .i64 (0 : Int), AV.int .i64 (0 : Int), AV.int .u32 (0 : Int), AV.int .u32 (0 : Int), AV.int .u32 a2, AV.nl, AV.nl])]) (fun x16 => (bif fitP (.tup []) x16.1 && fitBs [.pt pI, .pt pO1] x16.2 then Option.bind (M 69 [p0, p1] [bx (wR ((a0))), bx (AV.agg (List.append (vwL kO 0 (AV.getc (List.headD (bget x16.2 1) .undef))) [AV.nl, AV.nl]))]) (fun x19 => gd (fitP (.tup []) x19.1 && fitBs [.pt pR, .pt pO1] x19.2) (Option.bind (M 71 [p0, p1] [bx (wI (((List.headD (bget x16.2 0) .undef)))), bx (AV.agg (List.append (vwL kO 0 (AV.getc (List.headD (bget x19.2 1) .undef))) [AV.nl, AV.nl]))]) (fun x20 => gd (fitP (.tup []) x20.1 && fitBs [.pt pI, .pt pO1] x20.2) (K (AV.tup [AV.agg (List.append (vwL kO 0 (AV.getc (List.headD (bget x20.2 1) .undef))) [AV.osl [], AV.osl []]), AV.int .i64 (0 : Int)], []))))) else gd (fitP (.tup []) x16.1 && fitBs [.pt pI, .pt pO2, .row] x16.2) (gd (gNo (bget x16.2 2)) (Option.bind (M 69 [p0, p1] [bx (wR ((a0))), bx (AV.agg (List.append (vwL kO 0 (AV.getc (List.headD (bget x16.2 1) .undef))) [AV.sl 2 1000002 0 0 (AV.sln (List.getD (AV.getc (List.headD (bget x16.2 1) .undef)) 13 .undef)), AV.nl])), some { es := bget x16.2 2, fr := false, pt := false }]) (fun x17 => gd (fitP (.tup []) x17.1 && fitBs [.pt pR, .pt pO2, .row] x17.2) (gd (gNo (bget x17.2 2)) (Option.bind (M 71 [p0, p1] [bx (wI (((List.headD (bget x16.2 0) .undef)))), bx (AV.agg (List.append (vwL kO 0 (AV.getc (List.headD (bget x17.2 1) .undef))) [AV.sl 2 1000002 0 0 (AV.sln (List.getD (AV.getc (List.headD (bget x17.2 1) .undef)) 13 .undef)), AV.nl])), some { es := bget x17.2 2, fr := false, pt := false }]) (fun x18 => gd (fitP (.tup []) x18.1 && fitBs [.pt pI, .pt pO2, .row] x18.2) (gd (decide (0 + AV.sln (List.getD (AV.getc (List.headD (bget x18.2 1) .undef)) 13 .undef) ≤ List.length (bget x18.2 2))) (gd (gFree 2 (List.take (AV.sln (List.getD (AV.getc (List.headD (bget x18.2 1) .undef)) 13 .undef)) (List.drop 0 (bget x18.2 2)))) (K (AV.tup [AV.agg (List.append (vwL kO 0 (AV.getc (List.headD (bget x18.2 1) .undef))) [AV.osl (List.take (AV.sln (List.getD (AV.getc (List.headD (bget x18.2 1) .undef)) 13 .undef)) (List.drop 0 (bget x18.2 2))), AV.osl []]), AV.int .i64 (0 : Int)], [])))))))))))) else (bif decide (a1 = (1 : Int)) then Option.bind (M 67 [p0, p1] [bx (AV.agg (vwL kI 11 (AV.getc a0))), bx (AV.agg [AV.int .i64 (3 : Int), AV.int .i64 a1, AV.bool false, AV.bool true, AV.int .u32 (0 : Int), AV.int .u32 (0 : Int), AV.int .u32 (0 : Int), AV.int .u32 (0 : Int), AV.int .i64 (0 : Int), AV.int .i64 (0 : Int), AV.int .u32 (0 : Int), AV.int .u32 (0 : Int), AV.int .u32 a2, AV.nl, AV.nl])]) (fun x11 => (bif fitP (.tup []) x11.1 && fitBs [.pt pI, .pt pO1] x11.2 then Option.bind (M 69 [p0, p1] [bx (wR ((a0))), bx (AV.agg (List.append (vwL kO 0 (AV.getc (List.headD (bget x11.2 1) .undef))) [AV.nl, AV.nl]))]) (fun x14 => gd (fitP (.tup []) x14.1 && fitBs [.pt pR, .pt pO1] x14.2) (Option.bind (M 71 [p0, p1] [bx (wI (((List.headD (bget x11.2 0) .undef)))), bx (AV.agg (List.append (vwL kO 0 (AV.getc (List.headD (bget x14.2 1) .undef))) [AV.nl, AV.nl]))]) (fun x15 => gd (fitP (.tup []) x15.1 && fitBs [.pt pI, .pt pO1] x15.2) (K (AV.tup [AV.agg (List.append (vwL kO 0 (AV.getc (List.headD (bget x15.2 1) .undef))) [AV.osl [], AV.osl []]), AV.int .i64 (0 : Int)], []))))) else gd (fitP (.tup []) x11.1 && fitBs [.pt pI, .pt pO2, .row] x11.2) (gd (gNo (bget x11.2 2)) (Option.bind (M 69 [p0, p1] [bx (wR ((a0))), bx (AV.agg (List.append (vwL kO 0 (AV.getc (List.headD (bget x11.2 1) .undef))) [AV.sl 2 1000002 0 0 (AV.sln (List.getD (AV.getc (List.headD (bget x11.2 1) .undef)) 13 .undef)), AV.nl])), some { es := bget x11.2 2, fr := false, pt := false }]) (fun x12 => gd (fitP (.tup []) x12.1 && fitBs [.pt pR, .pt pO2, .row] x12.2) (gd (gNo (bget x12.2 2)) (Option.bind (M 71 [p0, p1] [bx (wI (((List.headD (bget x11.2 0) .undef)))), bx (AV.agg (List.append (vwL kO 0 (AV.getc (List.headD (bget x12.2 1) .undef))) [AV.sl 2 1000002 0 0 (AV.sln (List.getD (AV.getc (List.headD (bget x12.2 1) .undef)) 13 .undef)), AV.nl])), some { es := bget x12.2 2, fr := false, pt := false }]) (fun x13 => gd (fitP (.tup []) x13.1 && fitBs [.pt pI, .pt pO2, .row] x13.2) (gd (decide (0 + AV.sln (List.getD (AV.getc (List.headD (bget x13.2 1) .undef)) 13 .undef) ≤ List.length (bget x13.2 2))) (gd (gFree 2 (List.take (AV.sln (List.getD (AV.getc (List.headD (bget x13.2 1) .undef)) 13 .undef)) (List.drop 0 (bget x13.2 2)))) (K (AV.tup [AV.agg (List.append (vwL kO 0 (AV.getc (List.headD (bget x13.2 1) .undef))) [AV.osl (List.take (AV.sln (List.getD (AV.getc (List.headD (bget x13.2 1) .undef)) 13 .undef)) (List.drop 0 (bget x13.2 2))), AV.osl []]), AV.int .i64 (0 : Int)], [])))))))))))) else (bif decide (a1 = (2 : Int)) then Option.bind (M 67 [p0, p1] [bx (AV.agg (vwL kI 17 (AV.getc a0))), bx (AV.agg [AV.int .i64 (3 : Int), AV.int .i64 a1, AV.bool false, AV.bool true, AV.int .u32 (0 : Int), AV.int .u32 (0 : Int), AV.int .u32 (0 : Int), AV.int .u32 (0 : Int), AV.int .i64 (0 : Int), AV.int .i64 (0 : Int), AV.int .u32 (0 : Int), AV.int .u32 (0 : Int), AV.int .u32 a2, AV.nl, AV.nl])]) (fun x6 => (bif fitP (.tup []) x6.1 && fitBs [.pt pI, .pt pO1] x6.2 then Option.bind (M 69 [p0, p1] [bx (wR ((a0))), bx (AV.agg (List.append (vwL kO 0 (AV.getc (List.headD (bget x6.2 1) .undef))) [AV.nl, AV.nl]))]) (fun x9 => gd (fitP (.tup []) x9.1 && fitBs [.pt pR, .pt pO1] x9.2) (Option.bind (M 71 [p0, p1] [bx (wI (((List.headD (bget x6.2 0) .undef)))), bx (AV.agg (List.append (vwL kO 0 (AV.getc (List.headD (bget x9.2 1) .undef))) [AV.nl, AV.nl]))]) (fun x10 => gd (fitP (.tup []) x10.1 && fitBs [.pt pI, .pt pO1] x10.2) (K (AV.tup [AV.agg (List.append (vwL kO 0 (AV.getc (List.headD (bget x10.2 1) .undef))) [AV.osl [], AV.osl []]), AV.int .i64 (0 : Int)], []))))) else gd (fitP (.tup []) x6.1 && fitBs [.pt pI, .pt pO2, .row] x6.2) (gd (gNo (bget x6.2 2)) (Option.bind (M 69 [p0, p1] [bx (wR ((a0))), bx (AV.agg (List.append (vwL kO 0 (AV.getc (List.headD (bget x6.2 1) .undef))) [AV.sl 2 1000002 0 0 (AV.sln (List.getD (AV.getc (List.headD (bget x6.2 1) .undef)) 13 .undef)), AV.nl])), some { es := bget x6.2 2, fr := false, pt := false }]) (fun x7 => gd (fitP (.tup []) x7.1 && fitBs [.pt pR, .pt pO2, .row] x7.2) (gd (gNo (bget x7.2 2)) (Option.bind (M 71 [p0, p1] [bx (wI (((List.headD (bget x6.2 0) .undef)))), bx (AV.agg (List.append (vwL kO 0 (AV.getc (List.headD (bget x7.2 1) .undef))) [AV.sl 2 1000002 0 0 (AV.sln (List.getD (AV.getc (List.headD (bget x7.2 1) .undef)) 13 .undef)), AV.nl])), some { es := bget x7.2 2, fr := false, pt := false }]) (fun x8 => gd (fitP (.tup []) x8.1 && fitBs [.pt pI, .pt pO2, .row] x8.2) (gd (decide (0 + AV.sln (List.getD (AV.getc (List.headD (bget x8.2 1) .undef)) 13 .undef) ≤ List.length (bget x8.2 2))) (gd (gFree 2 (List.take (AV.sln (List.getD (AV.getc (List.headD (bget x8.2 1) .undef)) 13 .undef)) (List.drop 0 (bget x8.2 2)))) (K (AV.tup [AV.agg (List.append (vwL kO 0 (AV.getc (List.headD (bget x8.2 1) .undef))) [AV.osl (List.take (AV.sln (List.getD (AV.getc (List.headD (bget x8.2 1) .undef)) 13 .undef)) (List.drop 0 (bget x8.2 2))), AV.osl []]), AV.int .i64 (0 : Int)], [])))))))))))) else gd (decide (a1 = (3 : Int))) (Option.bind (M 67 [p0, p1] [bx (AV.agg (vwL kI 23 (AV.getc a0))), bx (AV.agg [AV.int .i64 (3 : Int), AV.int .i64 a1, AV.bool false, AV.bool true, AV.int .u32 (0 : Int), AV.int .u32 (0 : Int), AV.int .u32 (0 : Int), AV.int .u32 (0 : Int), AV.int .i64 (0 : Int), AV.int .i64 (0 : Int), AV.int .u32 (0 : Int), AV.int .u32 (0 : Int), AV.int .u32 a2, AV.nl, AV.nl])]) (fun x1 => (bif fitP (.tup []) x1.1 && fitBs [.pt pI, .pt pO1] x1.2 then Option.bind (M 69 [p0, p1] [bx (wR ((a0))), bx (AV.agg (List.append (vwL kO 0 (AV.getc (List.headD (bget x1.2 1) .undef))) [AV.nl, AV.nl]))]) (fun x4 => gd (fitP (.tup []) x4.1 && fitBs [.pt pR, .pt pO1] x4.2) (Option.bind (M 71 [p0, p1] [bx (wI (((List.headD (bget x1.2 0) .undef)))), bx (AV.agg (List.append (vwL kO 0 (AV.getc (List.headD (bget x4.2 1) .undef))) [AV.nl, AV.nl]))]) (fun x5 => gd (fitP (.tup []) x5.1 && fitBs [.pt pI, .pt pO1] x5.2) (K (AV.tup [AV.agg (List.append (vwL kO 0 (AV.getc (List.headD (bget x5.2 1) .undef))) [AV.osl [], AV.osl []]), AV.int .i64 (0 : Int)], []))))) else gd (fitP (.tup []) x1.1 && fitBs [.pt pI, .pt pO2, .row] x1.2) (gd (gNo (bget x1.2 2)) (Option.bind (M 69 [p0, p1] [bx (wR ((a0))), bx (AV.agg (List.append (vwL kO 0 (AV.getc (List.headD (bget x1.2 1) .undef))) [AV.sl 2 1000002 0 0 (AV.sln (List.getD (AV.getc (List.headD (bget x1.2 1) .undef)) 13 .undef)), AV.nl])), some { es := bget x1.2 2, fr := false, pt := false }]) (fun x2 => gd (fitP (.tup []) x2.1 && fitBs [.pt pR, .pt pO2, .row] x2.2) (gd (gNo (bget x2.2 2)) (Option.bind (M 71 [p0, p1] [bx (wI (((List.headD (bget x1.2 0) .undef)))), bx (AV.agg (List.append (vwL kO 0 (AV.getc (List.headD (bget x2.2 1) .undef))) [AV.sl 2 1000002 0 0 (AV.sln (List.getD (AV.getc (List.headD (bget x2.2 1) .undef)) 13 .undef)), AV.nl])), some { es := bget x2.2 2, fr := false, pt := false }]) (fun x3 => gd (fitP (.tup []) x3.1 && fitBs [.pt pI, .pt pO2, .row] x3.2) (gd (decide (0 + AV.sln (List.getD (AV.getc (List.headD (bget x3.2 1) .undef)) 13 .undef) ≤ List.length (bget x3.2 2))) (gd (gFree 2 (List.take (AV.sln (List.getD (AV.getc (List.headD (bget x3.2 1) .undef)) 13 .undef)) (List.drop 0 (bget x3.2 2)))) (K (AV.tup [AV.agg (List.append (vwL kO 0 (AV.getc (List.headD (bget x3.2 1) .undef))) [AV.osl (List.take (AV.sln (List.getD (AV.getc (List.headD (bget x3.2 1) .undef)) 13 .undef)) (List.drop 0 (bget x3.2 2))), AV.osl []]), AV.int .i64 (0 : Int)], []))))))))))))))))))))) := by kernel_rfl
end
theorem mk_inj {x y : Mk} (h : x.av = y.av) : x = y := by
  obtain ⟨a, b, c, d, e⟩ := x; obtain ⟨a', b', c', d', e'⟩ := y
  simp only [Mk.av, Il.av, Sg.av, AV.agg.injEq, List.cons.injEq, AV.int.injEq, AV.osl.injEq, AV.bool.injEq, true_and, and_true] at h
  obtain ⟨rfl, rfl, rfl, rfl, rfl⟩ := h
  rfl
theorem il_inj {x y : Il} (h : x.av = y.av) : x = y := by
  obtain ⟨g, a, b, c, d, e⟩ := x; obtain ⟨g', a', b', c', d', e'⟩ := y
  simp only [Mk.av, Il.av, Sg.av, AV.agg.injEq, List.cons.injEq, AV.int.injEq, AV.osl.injEq, AV.bool.injEq, true_and, and_true] at h
  obtain ⟨h, rfl, rfl, rfl, rfl, rfl⟩ := h
  rw [prows_inj h]
theorem rc_inj {x y : Rc} (h : x.av = y.av) : x = y := by
  obtain ⟨w, s0, s1, s2, s3⟩ := x; obtain ⟨w', t0, t1, t2, t3⟩ := y
  simp only [Rc.av, AV.agg.injEq, List.cons.injEq, AV.int.injEq, AV.osl.injEq, true_and, and_true] at h
  obtain ⟨a0, a1, a2, a3, a4, b0, b1, b2, b3, b4, b5, c0, c1, c2, c3, c4, c5, d0, d1, d2, d3, d4, d5, e0, e1, e2, e3, e4, e5⟩ := h
  have hw : w = w' := wv_inj (by simp only [Wv.av, a0, a1, a2, a3, a4])
  have h0 : s0 = t0 := il_inj (by simp only [Il.av, b0, b1, b2, b3, b4, b5])
  have h1 : s1 = t1 := il_inj (by simp only [Il.av, c0, c1, c2, c3, c4, c5])
  have h2 : s2 = t2 := il_inj (by simp only [Il.av, d0, d1, d2, d3, d4, d5])
  have h3 : s3 = t3 := il_inj (by simp only [Il.av, e0, e1, e2, e3, e4, e5])
  rw [hw, h0, h1, h2, h3]
theorem pr_inj {s t : Pr} (h : s.av = t.av) : s = t := by
  obtain ⟨a, b⟩ := s; obtain ⟨c, d⟩ := t
  simp only [Mk.av, Il.av, Sg.av, AV.agg.injEq, List.cons.injEq, AV.int.injEq, AV.osl.injEq, AV.bool.injEq, true_and, and_true] at h
  rw [h.1, h.2]
theorem qrows_inj : ∀ {l m : List Pr}, qrows l = qrows m → l = m
  | [], [], _ => rfl
  | [], _ :: _, h => by cases h
  | _ :: _, [], h => by cases h
  | x :: l, y :: m, h => by
    have h1 : x.av = y.av := (List.cons.inj h).1
    have h2 : qrows l = qrows m := (List.cons.inj h).2
    rw [pr_inj h1, qrows_inj h2]
theorem sg_inj {x y : Sg} (h : x.av = y.av) : x = y := by
  obtain ⟨a0, a1, a2, a3, a4, a5, a6, a7, a8, a9, a10, a11, a12, a13, a14⟩ := x; obtain ⟨b0, b1, b2, b3, b4, b5, b6, b7, b8, b9, b10, b11, b12, b13, b14⟩ := y
  simp only [Mk.av, Il.av, Sg.av, AV.agg.injEq, List.cons.injEq, AV.int.injEq, AV.osl.injEq, AV.bool.injEq, true_and, and_true] at h
  obtain ⟨rfl, rfl, rfl, rfl, rfl, rfl, rfl, rfl, rfl, rfl, rfl, rfl, rfl, h, rfl⟩ := h
  rw [qrows_inj h]
theorem qrows_len (l : List Pr) : (qrows l).length = l.length := List.length_map _
theorem min_ok (a h : Int) : FnOk Try.prog 97 [.int .i64 a, .int .i64 h] (.bool (decide (0 ≤ a ∧ a ≤ h))) := by
  refine fn_mk [] [] (by kernel_rfl) mixed (by kernel_rfl) (From.of ((m_in_0 a h).trans ?_))
  rw [bif_and]
  exact some_bool _ (by rw [← Bool.decide_and])
noncomputable def F_min : Fam Try.prog := { f := 97, ι := Int × Int, pre := fun _ => True, args := fun p => [.int .i64 p.1, .int .i64 p.2], res := fun p => .bool (decide (0 ≤ p.1 ∧ p.1 ≤ p.2)), ok := fun p _ => min_ok p.1 p.2, inj := fun s t h => by simp at h; rw [h.1, h.2] }
theorem mmay_from {V : EV} {M : EM} (x : Mk) (h : HasV V F_min) : (Dm_may V M).From 0 ⟨[x.av], []⟩ = some (.bool x.may, []) := by
  refine From.of ((m_may_0 x.av).trans ?_)
  have e : ∀ a b : Int, V 97 [.int .i64 a, .int .i64 b] = some (.bool (decide (0 ≤ a ∧ a ≤ b))) := fun a b => h (a, b) trivial
  simp only [e, V21, bif_and]
  refine some_bool _ ?_
  unfold Mk.may
  simp only [← Bool.decide_and]
  exact decide_eq_decide.2 (by omega)
theorem mmay_ok (x : Mk) : FnOk Try.prog 77 [x.av] (.bool x.may) := fn_mk [F_min] [] (by kernel_rfl) mixed (by kernel_rfl) (mmay_from x (hasV 0 rfl rfl))
noncomputable def F_mmay : Fam Try.prog := { f := 77, ι := Mk, pre := fun _ => True, args := fun x => [x.av], res := fun x => .bool x.may, ok := fun x _ => mmay_ok x, inj := fun s t h => by rw [mk_inj (List.cons.inj h).1] }
theorem mtold_from {V : EV} {M : EM} (x : Mk) (h : HasV V F_mmay) : (Dm_told V M).From 0 ⟨[x.av], []⟩ = some (.tup [.int .i64 (aceP x), .int .u32 (ceP x)], []) := by
  refine From.of ((m_told_0 x.av).trans ?_)
  have e : V 77 [x.av] = some (.bool x.may) := h x trivial
  simp only [e, V21]
  unfold aceP ceP
  cases hm : x.may <;> rfl
theorem mtold_ok (x : Mk) : FnOk Try.prog 72 [x.av] (.tup [.int .i64 (aceP x), .int .u32 (ceP x)]) := fn_mk [F_mmay] [] (by kernel_rfl) mixed (by kernel_rfl) (mtold_from x (hasV 0 rfl rfl))
noncomputable def F_mtold : Fam Try.prog := { f := 72, ι := Mk, pre := fun _ => True, args := fun x => [x.av], res := fun x => .tup [.int .i64 (aceP x), .int .u32 (ceP x)], ok := fun x _ => mtold_ok x, inj := fun s t h => by rw [mk_inj (List.cons.inj h).1] }
theorem win_ok (a h : Int) : FnOk Try.prog 78 [.int .i64 a, .int .i64 h] (.bool (decide (0 ≤ a ∧ a ≤ h))) := by
  refine fn_mk [] [] (by kernel_rfl) mixed (by kernel_rfl) (From.of ((w_in_0 a h).trans ?_))
  rw [bif_and]
  exact some_bool _ (by rw [← Bool.decide_and])
noncomputable def F_win : Fam Try.prog := { f := 78, ι := Int × Int, pre := fun _ => True, args := fun p => [.int .i64 p.1, .int .i64 p.2], res := fun p => .bool (decide (0 ≤ p.1 ∧ p.1 ≤ p.2)), ok := fun p _ => win_ok p.1 p.2, inj := fun s t h => by simp at h; rw [h.1, h.2] }
theorem wimay_from {V : EV} {M : EM} (x : Sg) (h : HasV V F_win) : (Dwi_may V M).From 0 ⟨[x.av], []⟩ = some (.bool x.may, []) := by
  refine From.of ((wi_may_0 x.av).trans ?_)
  have e : ∀ a b : Int, V 78 [.int .i64 a, .int .i64 b] = some (.bool (decide (0 ≤ a ∧ a ≤ b))) := fun a b => h (a, b) trivial
  simp only [e, V21, bif_and]
  refine some_bool _ ?_
  rw [Bool.eq_iff_iff, Sg.may_iff]
  simp only [Bool.and_eq_true, decide_eq_true_eq, qrows_len]
  omega
theorem wimay_ok (x : Sg) : FnOk Try.prog 40 [x.av] (.bool x.may) := fn_mk [F_win] [] (by kernel_rfl) mixed (by kernel_rfl) (wimay_from x (hasV 0 rfl rfl))
noncomputable def F_wimay : Fam Try.prog := { f := 40, ι := Sg, pre := fun _ => True, args := fun x => [x.av], res := fun x => .bool x.may, ok := fun x _ => wimay_ok x, inj := fun s t h => by rw [sg_inj (List.cons.inj h).1] }
theorem low_ok (n : Int) : FnOk Try.prog 68 [.int .i64 n] (.int .u32 (lowP n)) := fn_mk [] [] (by kernel_rfl) mixed (by kernel_rfl) (From.of (low_0 n))
noncomputable def F_low : Fam Try.prog := { f := 68, ι := Int, pre := fun _ => True, args := fun n => [.int .i64 n], res := fun n => .int .u32 (lowP n), ok := fun n _ => low_ok n, inj := fun s t h => by simp at h; rw [h] }
theorem unw_ok (n low : Int) (h : 0 ≤ low ∧ low < 4294967296) : FnOk Try.prog 75 [.int .i64 n, .int .u32 low] (.int .i64 (unwP n low)) := by
  refine fn_mk [] [] (by kernel_rfl) mixed (by kernel_rfl) (From.of ((unw_0 n low).trans ?_))
  have hm := nearP_rng n
  rw [show (if (if (4611686018427387904 : Int) < n then (4611686018427387904 : Int) else n) > (0 : Int) then if (4611686018427387904 : Int) < n then (4611686018427387904 : Int) else n else (0 : Int)) = nearP n from rfl]
  unfold unwP
  dsimp only
  generalize nearP n = m at *
  have ht : Int.tmod m 4294967296 = m % 4294967296 := by rw [Int.tmod_eq_emod_of_nonneg hm.1]
  rw [ht, w64 (n := low) (by omega) (by omega), w64 (n := m - m % 4294967296) (by omega) (by omega), w64 (n := m - m % 4294967296 + low) (by omega) (by omega)]
  have key : ∀ a b : Int, a = b → (some (AV.int .i64 a, []) : Option Res) = some (AV.int .i64 b, []) := fun a b h => by rw [h]
  rw [w64 (n := m - m % 4294967296 + low - m) (by omega) (by omega), w64 (n := m - (m - m % 4294967296 + low)) (by omega) (by omega)]
  by_cases c1 : m - m % 4294967296 + low - m > 2147483648
  · rw [decide_eq_true c1, if_pos (by omega)]
    by_cases c2 : m - m % 4294967296 + low ≥ 4294967296
    · rw [decide_eq_true c2, if_pos c2, w64 (n := m - m % 4294967296 + low - 4294967296) (by omega) (by omega)]; rfl
    · rw [decide_eq_false c2, if_neg c2]; rfl
  · rw [decide_eq_false c1]
    by_cases c3 : m - (m - m % 4294967296 + low) > 2147483648
    · rw [decide_eq_true c3, w64 (n := m - m % 4294967296 + low + 4294967296) (by omega) (by omega), w64 (n := m - m % 4294967296 + low + 4294967296 - m) (by omega) (by omega)]
      rw [show (m - m % 4294967296 + low + 4294967296 - m == 2147483648) = false by rw [beq_eq_false_iff_ne]; omega, if_neg (by omega), if_pos c3]; rfl
    · rw [decide_eq_false c3]
      by_cases c4 : m - m % 4294967296 + low - m = 2147483648
      · rw [show (m - m % 4294967296 + low - m == 2147483648) = true by rw [beq_iff_eq]; exact c4, if_pos (by omega)]
        by_cases c2 : m - m % 4294967296 + low ≥ 4294967296
        · rw [decide_eq_true c2, if_pos c2, w64 (n := m - m % 4294967296 + low - 4294967296) (by omega) (by omega)]; rfl
        · rw [decide_eq_false c2, if_neg c2]; rfl
      · rw [show (m - m % 4294967296 + low - m == 2147483648) = false by rw [beq_eq_false_iff_ne]; exact c4, if_neg (by omega), if_neg c3]; rfl
noncomputable def F_unw : Fam Try.prog := { f := 75, ι := Int × Int, pre := fun p => 0 ≤ p.2 ∧ p.2 < 4294967296, args := fun p => [.int .i64 p.1, .int .u32 p.2], res := fun p => .int .i64 (unwP p.1 p.2), ok := fun p h => unw_ok p.1 p.2 h, inj := fun s t h => by simp at h; rw [h.1, h.2] }
theorem off_from {V : EV} {M : EM} (x : Il) (hl : x.got.length ≤ 90000) (h1 : HasV V F_may) (h2 : HasV V F_mmay) : (Doff V M).From 0 ⟨[x.av], []⟩ = some (.bool !x.may, []) := by
  refine From.of ((off_0 x.av).trans ?_)
  have e1 : V 57 [.osl (prows x.got)] = some (.bool (mayP x.got)) := h1 x.got (by show x.got.length ≤ _; omega)
  have e2 : V 77 [Mk.av x.m] = some (.bool x.m.may) := h2 x.m trivial
  simp only [V21, e1, e2]
  unfold Il.may
  cases mayP x.got <;> rfl
theorem off_ok (x : Il) (hl : x.got.length ≤ 90000) : FnOk Try.prog 79 [x.av] (.bool !x.may) := fn_mk [F_may, F_mmay] [] (by kernel_rfl) mixed (by kernel_rfl) (off_from x hl (hasV 0 rfl rfl) (hasV 1 rfl rfl))
noncomputable def F_off : Fam Try.prog := { f := 79, ι := Il, pre := fun x => x.got.length ≤ 90000, args := fun x => [x.av], res := fun x => .bool !x.may, ok := off_ok, inj := fun s t h => by rw [il_inj (List.cons.inj h).1] }
def irw (l : List Il) : List AV := l.map Il.av
theorem irw_inj : ∀ {l m : List Il}, irw l = irw m → l = m
  | [], [], _ => rfl
  | [], _ :: _, h => by cases h
  | _ :: _, [], h => by cases h
  | x :: l, y :: m, h => by
    have h1 : x.av = y.av := (List.cons.inj h).1
    have h2 : irw l = irw m := (List.cons.inj h).2
    rw [il_inj h1, irw_inj h2]
def ofI : List Il → Int → Int
  | [], _ => -1
  | x :: l, i => if x.may = true then ofI l (i + 1) else i
theorem ofI_ge : ∀ (l : List Il) (i : Int), 0 ≤ i → (decide (ofI l i ≥ 0)) = !(l.all Il.may)
  | [], i, h => rfl
  | x :: l, i, h => by
    unfold ofI
    cases hx : x.may with
    | true => rw [if_pos rfl, ofI_ge l (i + 1) (by omega), List.all_cons, hx, Bool.true_and]
    | false => rw [if_neg (by decide), List.all_cons, hx, Bool.false_and, decide_eq_true (by omega : i ≥ 0)]; rfl
structure IlsOk (l : List Il) : Prop where
  len : l.length ≤ 90000
  got : ∀ x ∈ l, x.got.length ≤ 90000
theorem ixi_loop {V : EV} {M : EM} (h1 : HasV V F_off) (l : List Il) (hl : IlsOk l) : ∀ (m : List Il) (i : Nat), l.drop i = m →
    (Dixi V M).From 26 ⟨[.osl (irw l), .fn 79 [] [], .int .i64 l.length, .int .i64 i], []⟩ = some (.int .i64 (ofI m i), [])
  | [], i, h => by
    refine From.of ((ixi_1 _ _ _).trans ?_)
    have := drop_end h
    rw [decide_eq_false (show ¬ ((i : Int) < (l.length : Int)) by omega)]
    rfl
  | x :: m, i, h => by
    refine From.of ((ixi_1 _ _ _).trans ?_)
    obtain ⟨g1, g2, g3⟩ := drop_get h
    have hll := hl.len
    have hx : x ∈ l := by rw [List.getElem?_eq_getElem g2] at g1; rw [← Option.some.inj g1]; exact List.getElem_mem _
    have e1 : V 79 [x.av] = some (.bool !x.may) := h1 x (hl.got x hx)
    have ih := ixi_loop (M := M) h1 l hl m (i + 1) g3
    have e2 : (irw l)[Int.toNat (i : Int)]? = some x.av := by rw [Int.toNat_natCast]; unfold irw; rw [List.getElem?_map, g1]; rfl
    rw [decide_eq_true (show (i : Int) < (l.length : Int) by omega), cond_true, gd_of (decide_eq_true (by omega)), e2]
    simp only [V21, e1, w64 (n := (i : Int) + 1) (by omega) (by omega)]
    unfold ofI
    cases hm : x.may with
    | true => rw [if_pos rfl]; simpa using ih
    | false => rw [if_neg (by decide)]; rfl
theorem ixi_ok (l : List Il) (hl : IlsOk l) : FnOk Try.prog 98 [.osl (irw l), .fn 79 [] []] (.int .i64 (ofI l 0)) := by
  refine fn_mk [F_off] [] (by kernel_rfl) mixed (by kernel_rfl) (From.of ((ixi_0 _).trans ?_))
  have := ixi_loop (M := envM (P := Try.prog) []) (hasV (l := [F_off]) 0 rfl rfl) l hl l 0 rfl
  rw [show (irw l).length = l.length from List.length_map _]
  exact this
noncomputable def F_ixi : Fam Try.prog := { f := 98, ι := List Il, pre := IlsOk, args := fun l => [.osl (irw l), .fn 79 [] []], res := fun l => .int .i64 (ofI l 0), ok := ixi_ok, inj := fun s t h => by rw [irw_inj (AV.osl.inj (List.cons.inj h).1)] }
theorem cti_ok (l : List Il) (hl : IlsOk l) : FnOk Try.prog 80 [.osl (irw l), .fn 79 [] []] (.bool !(l.all Il.may)) := by
  refine fn_mk [F_ixi] [] (by kernel_rfl) mixed (by kernel_rfl) (From.of ((cti_0 _).trans ?_))
  have e : envV [F_ixi] 98 [.osl (irw l), .fn 79 [] []] = some (.int .i64 (ofI l 0)) := hasV (l := [F_ixi]) (F := F_ixi) 0 rfl rfl l hl
  simp only [V21, e, ofI_ge l 0 (Int.le_refl _)]
noncomputable def F_cti : Fam Try.prog := { f := 80, ι := List Il, pre := IlsOk, args := fun l => [.osl (irw l), .fn 79 [] []], res := fun l => .bool !(l.all Il.may), ok := cti_ok, inj := fun s t h => by rw [irw_inj (AV.osl.inj (List.cons.inj h).1)] }
structure Rc.Sm (r : Rc) : Prop where
  w : r.w.Sm
  l0 : r.s0.got.length ≤ 90000
  l1 : r.s1.got.length ≤ 90000
  l2 : r.s2.got.length ≤ 90000
  l3 : r.s3.got.length ≤ 90000
theorem Rc.Sm.ils {r : Rc} (h : r.Sm) : IlsOk [r.s0, r.s1, r.s2, r.s3] := ⟨by simp, fun x hx => by
  simp only [List.mem_cons, List.not_mem_nil, or_false] at hx
  rcases hx with rfl | rfl | rfl | rfl
  · exact h.l0
  · exact h.l1
  · exact h.l2
  · exact h.l3⟩
theorem Rc.Sm.at {r : Rc} (h : r.Sm) (i : Int) : (r.at i).got.length ≤ 90000 := by
  have h0 := h.l0; have h1 := h.l1; have h2 := h.l2; have h3 := h.l3
  unfold Rc.at
  split
  · exact h0
  · split
    · exact h1
    · split
      · exact h2
      · exact h3
theorem Rc.Sm.set {r : Rc} (h : r.Sm) {w : Wv} (hw : w.Sm) (i : Int) {x : Il} (hx : x.got.length ≤ 90000) : Rc.Sm { r.set i x with w := w } := by
  have h0 := h.l0; have h1 := h.l1; have h2 := h.l2; have h3 := h.l3
  unfold Rc.set
  split
  · exact ⟨hw, hx, h1, h2, h3⟩
  · split
    · exact ⟨hw, h0, hx, h2, h3⟩
    · split
      · exact ⟨hw, h0, h1, hx, h3⟩
      · exact ⟨hw, h0, h1, h2, hx⟩
theorem Rc.none_sm : Rc.none.Sm := ⟨noneSm, by decide, by decide, by decide, by decide⟩
theorem rmay_from {V : EV} {M : EM} (r : Rc) (h : r.Sm) (h1 : HasV V F_wmay) (h2 : HasV V F_cti) : (Drmay V M).From 0 ⟨[r.av], []⟩ = some (.bool r.may, []) := by
  refine From.of ((rmay_0 r.av).trans ?_)
  have e1 : V 17 [r.w.av] = some (.bool r.w.may) := h1 r.w h.w.ok
  have e2 : V 80 [.osl [r.s0.av, r.s1.av, r.s2.av, r.s3.av], .fn 79 [] []] = some (.bool !([r.s0, r.s1, r.s2, r.s3].all Il.may)) := h2 [r.s0, r.s1, r.s2, r.s3] h.ils
  simp only [V21, e1, e2, bif_and]
  refine some_bool _ ?_
  unfold Rc.may
  simp [Bool.and_assoc]
theorem rmay_ok (r : Rc) (h : r.Sm) : FnOk Try.prog 41 [r.av] (.bool r.may) := fn_mk [F_wmay, F_off, F_cti] [] (by kernel_rfl) mixed (by kernel_rfl) (rmay_from r h (hasV 0 rfl rfl) (hasV 2 rfl rfl))
noncomputable def F_rmay : Fam Try.prog := { f := 41, ι := Rc, pre := Rc.Sm, args := fun r => [r.av], res := fun r => .bool r.may, ok := rmay_ok, inj := fun s t h => by rw [rc_inj (List.cons.inj h).1] }
theorem gLen16 {n : Nat} (h : n ≤ 90000) : gLen n 16 = true := gLen_of (by omega) (by omega)
theorem tkl (l : List AV) : List.take l.length (List.drop 0 l) = l := by rw [List.drop_zero, List.take_length]
theorem tkp (l : List Spn) : List.take l.length (List.drop 0 (prows l)) = prows l := by rw [List.drop_zero, take_rows]
theorem gle (n : Nat) : decide (0 + n ≤ n) = true := decide_eq_true (by omega)
theorem rown_from {V : EV} {M : EM} (r : Rc) (h : r.Sm) : (Drown V M).From 0 ⟨[r.av], []⟩ = some (r.av, []) := by
  refine From.of ((rown_0 r.av).trans ?_)
  have h0 := h.l0; have h1 := h.l1; have h2 := h.l2; have h3 := h.l3; have hb := h.w.bl; have hl := h.w.ll
  simp only [V21, tkl, tkp, gle, gRow_rows, gFree_rows, prows_len, gLen16 h0, gLen16 h1, gLen16 h2, gLen16 h3, gLen16 hl, show gRow 1 r.w.b = true from IsB.ok h.w.b, show gFree 1 r.w.b = true from IsB.free h.w.b, show gLen r.w.b.length 1 = true from gLen_of (by omega) (by omega)]
  rfl
theorem rown_ok (r : Rc) (h : r.Sm) : FnOk Try.prog 74 [r.av] r.av := fn_mkc [] [] clns_ok (by kernel_rfl) mixed (by kernel_rfl) (rown_from r h)
noncomputable def F_rown : Fam Try.prog := { f := 74, ι := Rc, pre := Rc.Sm, args := fun r => [r.av], res := fun r => r.av, ok := rown_ok, inj := fun s t h => by rw [rc_inj (List.cons.inj h).1] }
theorem far_from {V : EV} {M : EM} (w : Wv) (h : w.Sm) (hm : w.may = true) (h1 : HasV V F_wready) : (Dfar V M).From 0 ⟨[w.av], []⟩ = some (.int .i64 (farP w), []) := by
  refine From.of ((far_0 w.av).trans ?_)
  have e1 : V 19 [w.av] = some (.int .i64 (readyP w)) := h1 w h.ok
  obtain ⟨g1, g2, g3, g4, g5⟩ := ready_le hm
  have hb := h.bl
  have h0 := (mayOf hm).b0; have h2 := (mayOf hm).b1
  simp only [V21, e1]
  rw [w64 (n := w.base + readyP w) (by omega) (by omega), w64 (n := w.base + readyP w + 1) (by omega) (by omega)]
  unfold farP
  by_cases c : w.base + readyP w = w.end_
  · rw [if_pos c, show (w.base + readyP w == w.end_) = true by rw [beq_iff_eq]; exact c]; rfl
  · rw [if_neg c, show (w.base + readyP w == w.end_) = false by rw [beq_eq_false_iff_ne]; exact c]; rfl
theorem far_ok (w : Wv) (h : w.Sm ∧ w.may = true) : FnOk Try.prog 70 [w.av] (.int .i64 (farP w)) := fn_mk [F_wready] [] (by kernel_rfl) mixed (by kernel_rfl) (far_from w h.1 h.2 (hasV 0 rfl rfl))
noncomputable def F_far : Fam Try.prog := { f := 70, ι := Wv, pre := fun w => w.Sm ∧ w.may = true, args := fun w => [w.av], res := fun w => .int .i64 (farP w), ok := far_ok, inj := fun s t h => by rw [wv_inj (List.cons.inj h).1] }
structure Sg.Ok (x : Sg) : Prop where
  b : IsB x.b
  bl : x.b.length ≤ 90000
  sl : x.sacks.length ≤ 90000
  q0 : 0 ≤ x.seq
  q1 : x.seq < 4294967296
  d0 : 0 ≤ x.dsn
  d1 : x.dsn < 4294967296
theorem rput_from {V : EV} {M : EM} (w : Wv) (x : Sg) (n : Int) (h : w.Sm) (hx : x.Ok) (hn : 0 ≤ n ∧ n ≤ 4611686022722355200) (h1 : HasV V F_wput) (h2 : HasV V F_wedge) (h3 : HasV V F_wshut) :
    (Drput V M).From 0 ⟨[w.av, x.av, .int .i64 n], []⟩ = some (.tup [(rpW w x n).av, .int .i64 (rpE w x n)], []) := by
  refine From.of ((rput_0 w.av x.av n).trans ?_)
  have hbl := hx.bl
  have e1 : V 15 [w.av, .int .i64 n, .osl x.b] = some (.tup [(putW w n x.b).av, .int .i64 (putM w n x.b), .int .i64 (putK w n x.b)]) := h1 (w, n, x.b) ⟨h.ok, hx.b, by show x.b.length ≤ _; omega⟩
  have e2 : V 18 [w.av] = some (.int .i64 (edgeW w)) := h2 w h.ok
  have e3 : V 21 [w.av, .int .i64 n] = some (.tup [(shutW w n).av, .int .i64 (shutE w n)]) := h3 (w, n) h.ok
  unfold rpW rpE
  simp only [V21, e1, e2, e3]
  rw [w64 (n := n + x.b.length) (by omega) (by omega)]
  cases hf : x.fin with
  | true => simp
  | false =>
    by_cases c : n + x.b.length > edgeW w
    · simp [c]
    · simp [c]
theorem rput_ok (w : Wv) (x : Sg) (n : Int) (h : w.Sm) (hx : x.Ok) (hn : 0 ≤ n ∧ n ≤ 4611686022722355200) : FnOk Try.prog 76 [w.av, x.av, .int .i64 n] (.tup [(rpW w x n).av, .int .i64 (rpE w x n)]) :=
  fn_mk [F_wput, F_wedge, F_wshut] [] (by kernel_rfl) mixed (by kernel_rfl) (rput_from w x n h hx hn (hasV 0 rfl rfl) (hasV 1 rfl rfl) (hasV 2 rfl rfl))
theorem rput_inj {s t : Wv × Sg × Int} (h : [s.1.av, s.2.1.av, AV.int .i64 s.2.2] = [t.1.av, t.2.1.av, .int .i64 t.2.2]) : s = t := by
  obtain ⟨a, b, c⟩ := s; obtain ⟨a', b', c'⟩ := t
  have h1 : a = a' := wv_inj (List.cons.inj h).1
  have h2 : b = b' := sg_inj (List.cons.inj (List.cons.inj h).2).1
  have h3 : c = c' := (AV.int.inj (List.cons.inj (List.cons.inj (List.cons.inj h).2).2).1).2
  rw [h1, h2, h3]
noncomputable def F_rput : Fam Try.prog := { f := 76, ι := Wv × Sg × Int, pre := fun p => p.1.Sm ∧ p.2.1.Ok ∧ 0 ≤ p.2.2 ∧ p.2.2 ≤ 4611686022722355200, args := fun p => [p.1.av, p.2.1.av, .int .i64 p.2.2], res := fun p => .tup [(rpW p.1 p.2.1 p.2.2).av, .int .i64 (rpE p.1 p.2.1 p.2.2)], ok := fun p h => rput_ok p.1 p.2.1 p.2.2 h.1 h.2.1 h.2.2, inj := fun s t h => by rw [rput_inj h] }
theorem fail_ok (e : Int) : FnOk Try.prog 73 [.int .i64 e] (.tup [Rc.none.av, Sg.none.av, .int .i64 e]) := fn_mk [] [] (by kernel_rfl) mixed (by kernel_rfl) (From.of (fail_0 e))
noncomputable def F_fail : Fam Try.prog := { f := 73, ι := Int, pre := fun _ => True, args := fun e => [.int .i64 e], res := fun e => .tup [Rc.none.av, Sg.none.av, .int .i64 e], ok := fun e _ => fail_ok e, inj := fun s t h => by simp at h; rw [h] }
theorem rnew_from {V : EV} {M : EM} (n : Int) (h1 : HasV V F_wnew) : (Drnew V M).From 0 ⟨[.int .i64 n], []⟩ = some (.tup [(newR n).av, .int .i64 (newE n)], []) := by
  refine From.of ((rnew_0 n).trans ?_)
  have e1 : V 20 [.int .i64 n] = some (.tup [(newW n).av, .int .i64 (newE n)]) := h1 n trivial
  simp only [V21, e1]
  unfold newR
  by_cases c : newE n = 0
  · simp [c, Bool.cond_eq_ite]
  · simp [c, Bool.cond_eq_ite]
theorem rnew_ok (n : Int) : FnOk Try.prog 47 [.int .i64 n] (.tup [(newR n).av, .int .i64 (newE n)]) := fn_mk [F_wnew] [] (by kernel_rfl) mixed (by kernel_rfl) (rnew_from n (hasV 0 rfl rfl))
noncomputable def F_rnew : Fam Try.prog := { f := 47, ι := Int, pre := fun _ => True, args := fun n => [.int .i64 n], res := fun n => .tup [(newR n).av, .int .i64 (newE n)], ok := fun n _ => rnew_ok n, inj := fun s t h => by simp at h; rw [h] }
theorem rread_from {V : EV} {M : EM} (r : Rc) (h : r.Sm) (n : Int) (h1 : HasV V F_wread) (h2 : HasV V F_rmay) (h3 : HasV V F_rown) : (Drread V M).From 0 ⟨[r.av, .int .i64 n], []⟩ = some (.tup [(readR r n).av, .osl (readRB r n), .int .i64 (readRE r n)], []) := by
  refine From.of ((rread_0 r.av n).trans ?_)
  have e1 : V 23 [r.w.av, .int .i64 n] = some (.tup [(readW r.w n).av, .osl (readB r.w n), .int .i64 (readE r.w n)]) := h1 (r.w, n) h.w.ok
  have e2 : V 41 [r.av] = some (.bool r.may) := h2 r h
  have e3 : V 74 [r.av] = some r.av := h3 r h
  simp only [V21, e1, e2, e3]
  unfold readR readRB readRE
  cases hm : r.may with
  | false => simp
  | true =>
    by_cases c : readE r.w n = 0
    · simp [c, Bool.cond_eq_ite]
    · simp [c, Bool.cond_eq_ite]
theorem rread_ok (r : Rc) (h : r.Sm) (n : Int) : FnOk Try.prog 42 [r.av, .int .i64 n] (.tup [(readR r n).av, .osl (readRB r n), .int .i64 (readRE r n)]) := fn_mk [F_wread, F_rmay, F_rown] [] (by kernel_rfl) mixed (by kernel_rfl) (rread_from r h n (hasV 0 rfl rfl) (hasV 1 rfl rfl) (hasV 2 rfl rfl))
theorem rn_inj {s t : Rc × Int} (h : [s.1.av, AV.int .i64 s.2] = [t.1.av, .int .i64 t.2]) : s = t := by
  obtain ⟨a, b⟩ := s; obtain ⟨a', b'⟩ := t
  have h1 : a = a' := rc_inj (List.cons.inj h).1
  have h2 : b = b' := (AV.int.inj (List.cons.inj (List.cons.inj h).2).1).2
  rw [h1, h2]
noncomputable def F_rread : Fam Try.prog := { f := 42, ι := Rc × Int, pre := fun p => p.1.Sm, args := fun p => [p.1.av, .int .i64 p.2], res := fun p => .tup [(readR p.1 p.2).av, .osl (readRB p.1 p.2), .int .i64 (readRE p.1 p.2)], ok := fun p h => rread_ok p.1 h p.2, inj := fun s t h => by rw [rn_inj h] }
theorem rover_from {V : EV} {M : EM} (r : Rc) (h : r.Sm) (h1 : HasV V F_wover) : (Drover V M).From 0 ⟨[r.av], []⟩ = some (.bool (overW r.w), []) := by
  refine From.of ((rover_0 r.av).trans ?_)
  have e1 : V 22 [r.w.av] = some (.bool (overW r.w)) := h1 r.w h.w.ok
  simp only [V21, e1]
theorem rover_ok (r : Rc) (h : r.Sm) : FnOk Try.prog 49 [r.av] (.bool (overW r.w)) := fn_mk [F_wover] [] (by kernel_rfl) mixed (by kernel_rfl) (rover_from r h (hasV 0 rfl rfl))
noncomputable def F_rover : Fam Try.prog := { f := 49, ι := Rc, pre := Rc.Sm, args := fun r => [r.av], res := fun r => .bool (overW r.w), ok := rover_ok, inj := fun s t h => by rw [rc_inj (List.cons.inj h).1] }
def o1 (o : Sg) : AV := .agg (List.append (vwL kO 0 (AV.getc (Sg.av o))) [.nl, .nl])
def o2 (o : Sg) (k : Nat) : AV := .agg (List.append (vwL kO 0 (AV.getc (Sg.av o))) [.sl 2 1000002 0 0 k, .nl])
def oB (x : AV) (o : Sg) (xs : List Pr) : List (Option CB) := match xs with
  | [] => [some ⟨[x], false, true⟩, some ⟨[o1 o], false, true⟩]
  | y :: ys => [some ⟨[x], false, true⟩, some ⟨[o2 o (ys.length + 1)], false, true⟩, some ⟨qrows (y :: ys), false, false⟩]
theorem gNo_q (l : List Pr) : gNo (qrows l) = true := gNo_map (f := Pr.av) (fun _ => rfl) l
theorem gFree_q (l : List Pr) : gFree 2 (qrows l) = true := gFree_map (f := Pr.av) (fun _ => ⟨rfl, rfl⟩) l
theorem q_take {l : List Pr} {n : Nat} (h : n = l.length) : (qrows l).take n = qrows l := List.take_of_length_le (by rw [qrows_len]; omega)
theorem q_snoc (l : List Pr) (a b : Int) : qrows l ++ [AV.agg [.int .u32 a, .int .u32 b]] = qrows (l ++ [⟨a, b⟩]) := by unfold qrows; rw [List.map_append]; rfl
theorem pr_at {l : List Spn} {i : Nat} {s : Spn} (h : l[i]? = some s) : (prows l)[Int.toNat (i : Int)]? = some s.av := by rw [Int.toNat_natCast]; unfold prows; rw [List.getElem?_map, h]; rfl
theorem sp0 (s : Spn) : ci s.av 0 = s.a := id rfl
theorem sp1 (s : Spn) : ci s.av 1 = s.b := id rfl
theorem fSp (s : Spn) : Vw.fit (.agg [.int .i64, .int .i64]) s.av = true := id rfl
theorem t1_loop {V : EV} {M : EM} (h1 : HasV V F_low) (x : Il) (hl : x.got.length ≤ 90000) (g : Int) (o : Sg) : ∀ (m : List Spn) (i : Nat) (xs : List Pr), x.got.drop i = m → xs.length ≤ 3 →
    (Dt1 V M).From 30 ⟨[.ptr 1000001 0 0 0, .int .i64 g, .osl (prows x.got), .int .i64 x.got.length, .int .i64 i], oB x.av o xs⟩ = some (.tup [], oB x.av o (sackF g m xs))
  | [], i, [], h, hx => by
    refine From.of ((t1_1 g (prows x.got) x.got.length i x.av o.av).trans ?_)
    have := drop_end h
    rw [decide_eq_false (show ¬ ((i : Int) < (x.got.length : Int)) by omega)]
    rfl
  | [], i, y :: ys, h, hx => by
    refine From.of ((t1_2 g (prows x.got) x.got.length i x.av o.av (ys.length + 1) (qrows (y :: ys))).trans ?_)
    have := drop_end h
    rw [decide_eq_false (show ¬ ((i : Int) < (x.got.length : Int)) by omega), cond_false, gd_of (gNo_q _)]
    rfl
  | s :: m, i, [], h, hx => by
    refine From.of ((t1_1 g (prows x.got) x.got.length i x.av o.av).trans ?_)
    obtain ⟨g1, g2, g3⟩ := drop_get h
    have e : ∀ n : Int, V 68 [.int .i64 n] = some (.int .u32 (lowP n)) := fun n => h1 n trivial
    rw [decide_eq_true (show (i : Int) < (x.got.length : Int) by omega), cond_true, gd_of (decide_eq_true (by omega)), pr_at g1]
    simp only [V21, sp0, sp1, fSp, e, w64 (n := (i : Int) + 1) (by omega) (by omega)]
    unfold sackF
    by_cases c : s.a > g
    · rw [decide_eq_true c, cond_true, if_pos ⟨c, by decide⟩]
      exact t1_loop h1 x hl g o m (i + 1) [⟨lowP s.a, lowP s.b⟩] g3 (by simp)
    · rw [decide_eq_false c, cond_false, if_neg (fun h => c h.1)]
      exact t1_loop h1 x hl g o m (i + 1) [] g3 (by decide)
  | s :: m, i, y :: ys, h, hx => by
    refine From.of ((t1_2 g (prows x.got) x.got.length i x.av o.av (ys.length + 1) (qrows (y :: ys))).trans ?_)
    obtain ⟨g1, g2, g3⟩ := drop_get h
    have hy : ys.length + 1 ≤ 3 := hx
    have tk : List.take (ys.length + 1) (qrows (y :: ys)) = qrows (y :: ys) := q_take rfl
    have e : ∀ n : Int, V 68 [.int .i64 n] = some (.int .u32 (lowP n)) := fun n => h1 n trivial
    rw [decide_eq_true (show (i : Int) < (x.got.length : Int) by omega), cond_true, gd_of (decide_eq_true (by omega)), pr_at g1]
    simp only [V21, sp0, sp1, fSp, e, w64 (n := (i : Int) + 1) (by omega) (by omega), tk, q_snoc, qrows_len, gNo_q]
    unfold sackF
    have stay := t1_loop (M := M) h1 x hl g o m (i + 1) (y :: ys) g3 hx
    by_cases c : s.a > g
    · rw [decide_eq_true c, cond_true]
      by_cases c2 : ys.length + 1 < 3
      · rw [decide_eq_true (show ((ys.length + 1 : Nat) : Int) < 3 by omega), cond_true, if_pos ⟨c, c2⟩, gd_of (decide_eq_true (show ys.length + 1 ≤ (y :: ys).length from Nat.le_refl _)), gd_of (gLen_of (by simp; omega) (by simp; omega))]
        have := t1_loop (M := M) h1 x hl g o m (i + 1) (y :: (ys ++ [⟨lowP s.a, lowP s.b⟩])) g3 (by simp; omega)
        have e3 : oB x.av o (y :: (ys ++ [⟨lowP s.a, lowP s.b⟩])) = [some ⟨[x.av], false, true⟩, some ⟨[o2 o (ys.length + 1 + 1)], false, true⟩, some ⟨qrows (y :: (ys ++ [⟨lowP s.a, lowP s.b⟩])), false, false⟩] := by simp only [oB, List.length_append, List.length_singleton]
        rw [e3] at this
        exact this
      · rw [decide_eq_false (show ¬ ((ys.length + 1 : Nat) : Int) < 3 by omega), cond_false, if_neg (fun h => c2 h.2)]
        exact stay
    · rw [decide_eq_false c, cond_false, if_neg (fun h => c h.1)]
      exact stay
def oG (o : Sg) (n : Int) : Sg := { o with got := n }
theorem t1_from {V : EV} {M : EM} (x : Il) (hl : x.got.length ≤ 90000) (o : Sg) (h1 : HasV V F_gap) (h2 : HasV V F_low) :
    (Dt1 V M).From 0 ⟨[.ptr 1000000 0 0 0, .ptr 1000001 0 0 0], oB x.av o []⟩ = some (.tup [], oB x.av (oG o (lowP (gapP x.got 0))) (sackP x.got (gapP x.got 0))) := by
  refine From.of ((t1_0 x.av o.av).trans ?_)
  have e1 : V 59 [.osl (prows x.got), .int .i64 0] = some (.int .i64 (gapP x.got 0)) := h1 (x.got, 0) (by show x.got.length ≤ _; omega)
  have e2 : V 68 [.int .i64 (gapP x.got 0)] = some (.int .u32 (lowP (gapP x.got 0))) := h2 _ trivial
  simp only [V21, e1, e2, prows_len]
  exact t1_loop h2 x hl (gapP x.got 0) (oG o (lowP (gapP x.got 0))) x.got 0 [] rfl (by decide)
theorem oB_ok (x : AV) (o : Sg) (xs : List Pr) : 2 ≤ (oB x o xs).length ∧ bsOk (oB x o xs) = true := by
  cases xs with
  | nil => exact ⟨Nat.le_refl _, rfl⟩
  | cons y ys => exact ⟨by simp [oB], by simp [oB, bsOk, gNo_q]⟩
structure SgEq (o p : Sg) : Prop where
  kind : o.kind = p.kind
  sub : o.sub = p.sub
  fin : o.fin = p.fin
  ecn : o.ecn = p.ecn
  seq : o.seq = p.seq
  dsn : o.dsn = p.dsn
  got : o.got = p.got
  dgot : o.dgot = p.dgot
  win : o.win = p.win
  ace : o.ace = p.ace
  ce : o.ce = p.ce
  at_ : o.at_ = p.at_
  echo : o.echo = p.echo
theorem o1_eq {o p : Sg} (h : o1 o = o1 p) : SgEq o p := by
  have h' : [AV.int .i64 o.kind, AV.int .i64 o.sub, AV.bool o.fin, AV.bool o.ecn, AV.int .u32 o.seq, AV.int .u32 o.dsn, AV.int .u32 o.got, AV.int .u32 o.dgot, AV.int .i64 o.win, AV.int .i64 o.ace, AV.int .u32 o.ce, AV.int .u32 o.at_, AV.int .u32 o.echo, AV.nl, AV.nl] = [AV.int .i64 p.kind, AV.int .i64 p.sub, AV.bool p.fin, AV.bool p.ecn, AV.int .u32 p.seq, AV.int .u32 p.dsn, AV.int .u32 p.got, AV.int .u32 p.dgot, AV.int .i64 p.win, AV.int .i64 p.ace, AV.int .u32 p.ce, AV.int .u32 p.at_, AV.int .u32 p.echo, AV.nl, AV.nl] := AV.agg.inj h
  simp only [List.cons.injEq, AV.int.injEq, AV.bool.injEq, true_and, and_true] at h'
  obtain ⟨a0, a1, a2, a3, a4, a5, a6, a7, a8, a9, a10, a11, a12⟩ := h'
  exact ⟨a0, a1, a2, a3, a4, a5, a6, a7, a8, a9, a10, a11, a12⟩
theorem o2_eq {o p : Sg} {k j : Nat} (h : o2 o k = o2 p j) : SgEq o p := by
  have h' : [AV.int .i64 o.kind, AV.int .i64 o.sub, AV.bool o.fin, AV.bool o.ecn, AV.int .u32 o.seq, AV.int .u32 o.dsn, AV.int .u32 o.got, AV.int .u32 o.dgot, AV.int .i64 o.win, AV.int .i64 o.ace, AV.int .u32 o.ce, AV.int .u32 o.at_, AV.int .u32 o.echo, AV.sl 2 1000002 0 0 k, AV.nl] = [AV.int .i64 p.kind, AV.int .i64 p.sub, AV.bool p.fin, AV.bool p.ecn, AV.int .u32 p.seq, AV.int .u32 p.dsn, AV.int .u32 p.got, AV.int .u32 p.dgot, AV.int .i64 p.win, AV.int .i64 p.ace, AV.int .u32 p.ce, AV.int .u32 p.at_, AV.int .u32 p.echo, AV.sl 2 1000002 0 0 j, AV.nl] := AV.agg.inj h
  simp only [List.cons.injEq, AV.int.injEq, AV.bool.injEq, true_and, and_true] at h'
  obtain ⟨a0, a1, a2, a3, a4, a5, a6, a7, a8, a9, a10, a11, a12, _⟩ := h'
  exact ⟨a0, a1, a2, a3, a4, a5, a6, a7, a8, a9, a10, a11, a12⟩
theorem oB_inj {x y : AV} {o p : Sg} {xs ys : List Pr} (h : oB x o xs = oB y p ys) : x = y ∧ SgEq o p ∧ xs = ys := by
  cases xs with
  | nil => cases ys with
    | nil =>
      simp only [oB, List.cons.injEq, Option.some.injEq, CB.mk.injEq, and_true] at h
      exact ⟨h.1, o1_eq h.2, rfl⟩
    | cons b bs => simp [oB] at h
  | cons a l => cases ys with
    | nil => simp [oB] at h
    | cons b bs =>
      simp only [oB, List.cons.injEq, Option.some.injEq, CB.mk.injEq, and_true] at h
      exact ⟨h.1, o2_eq h.2.1, qrows_inj h.2.2⟩
theorem SgEq.o1 {o p : Sg} (h : SgEq o p) : Vai.L21.o1 o = Vai.L21.o1 p := by
  obtain ⟨b0, b1, b2, b3, b4, b5, b6, b7, b8, b9, b10, b11, b12, b13, b14⟩ := o; obtain ⟨c0, c1, c2, c3, c4, c5, c6, c7, c8, c9, c10, c11, c12, c13, c14⟩ := p
  obtain ⟨rfl, rfl, rfl, rfl, rfl, rfl, rfl, rfl, rfl, rfl, rfl, rfl, rfl⟩ := h
  rfl
theorem SgEq.o2 {o p : Sg} (h : SgEq o p) (k : Nat) : Vai.L21.o2 o k = Vai.L21.o2 p k := by
  obtain ⟨b0, b1, b2, b3, b4, b5, b6, b7, b8, b9, b10, b11, b12, b13, b14⟩ := o; obtain ⟨c0, c1, c2, c3, c4, c5, c6, c7, c8, c9, c10, c11, c12, c13, c14⟩ := p
  obtain ⟨rfl, rfl, rfl, rfl, rfl, rfl, rfl, rfl, rfl, rfl, rfl, rfl, rfl⟩ := h
  rfl
theorem SgEq.oB {o p : Sg} (h : SgEq o p) (x : AV) (xs : List Pr) : Vai.L21.oB x o xs = Vai.L21.oB x p xs := by
  cases xs with
  | nil => simp only [Vai.L21.oB, h.o1]
  | cons y ys => simp only [Vai.L21.oB, h.o2]
def oD (o : Sg) (n w : Int) : Sg := { o with dgot := n, win := w }
def oM (o : Sg) (a c : Int) : Sg := { o with ace := a, ce := c }
theorem SgEq.g {o p : Sg} (h : SgEq o p) (n : Int) : SgEq (oG o n) (oG p n) := ⟨h.kind, h.sub, h.fin, h.ecn, h.seq, h.dsn, rfl, h.dgot, h.win, h.ace, h.ce, h.at_, h.echo⟩
theorem SgEq.d {o p : Sg} (h : SgEq o p) (n w : Int) : SgEq (oD o n w) (oD p n w) := ⟨h.kind, h.sub, h.fin, h.ecn, h.seq, h.dsn, h.got, rfl, rfl, h.ace, h.ce, h.at_, h.echo⟩
theorem SgEq.m {o p : Sg} (h : SgEq o p) (n w : Int) : SgEq (oM o n w) (oM p n w) := ⟨h.kind, h.sub, h.fin, h.ecn, h.seq, h.dsn, h.got, h.dgot, h.win, rfl, rfl, h.at_, h.echo⟩
theorem t1_ok (x : Il) (hl : x.got.length ≤ 90000) (o : Sg) : MFn Try.prog 67 [.ptr 1000000 0 0 0, .ptr 1000001 0 0 0] (oB x.av o []) (.tup []) (oB x.av (oG o (lowP (gapP x.got 0))) (sackP x.got (gapP x.got 0))) :=
  mfn_mk (ns := [true, true]) [F_gap, F_low] [] (by kernel_rfl) mixed (by kernel_rfl) rfl (t1_from x hl o (hasV 0 rfl rfl) (hasV 1 rfl rfl)) (oB_ok _ _ _).1 (oB_ok _ _ _).2
noncomputable def MF_t1 : MFam Try.prog := { f := 67, ι := Il × Sg, pre := fun p => p.1.got.length ≤ 90000, args := fun _ => [.ptr 1000000 0 0 0, .ptr 1000001 0 0 0], bs := fun p => oB p.1.av p.2 [], res := fun _ => .tup [], bs' := fun p => oB p.1.av (oG p.2 (lowP (gapP p.1.got 0))) (sackP p.1.got (gapP p.1.got 0)), ok := fun p h => t1_ok p.1 h p.2, inj := fun s t _ h => ⟨rfl, by rw [il_inj (oB_inj h).1]; exact ((oB_inj h).2.1.g _).oB _ _⟩ }
theorem t2_from {V : EV} {M : EM} (r : Rc) (h : r.Sm) (hm : r.w.may = true) (o : Sg) (h1 : HasV V F_wedge) (h2 : HasV V F_low) (h3 : HasV V F_far) :
    (Dt2 V M).From 0 ⟨[.ptr 1000000 0 0 0, .ptr 1000001 0 0 0], oB r.av o []⟩ = some (.tup [], oB r.av (oD o (lowP (farP r.w)) (winP r.w)) []) := by
  refine From.of ((t2_0 r.av o.av).trans ?_)
  have e1 : V 18 [r.w.av] = some (.int .i64 (edgeW r.w)) := h1 r.w h.w.ok
  have e2 : V 68 [.int .i64 (farP r.w)] = some (.int .u32 (lowP (farP r.w))) := h2 _ trivial
  have e3 : V 70 [r.w.av] = some (.int .i64 (farP r.w)) := h3 r.w ⟨h.w, hm⟩
  obtain ⟨f1, f2, f3, f4, f5, f6, f7, f8⟩ := far_rng hm
  have hb := h.w.bl
  simp only [V21, e1, e2, e3, w64 (n := edgeW r.w - farP r.w) (by omega) (by omega)]
  rfl
theorem t2s_from {V : EV} {M : EM} (r : Rc) (h : r.Sm) (hm : r.w.may = true) (o : Sg) (y : Pr) (ys : List Pr) (h1 : HasV V F_wedge) (h2 : HasV V F_low) (h3 : HasV V F_far) :
    (Dt2s V M).From 0 ⟨[.ptr 1000000 0 0 0, .ptr 1000001 0 0 0], oB r.av o (y :: ys)⟩ = some (.tup [], oB r.av (oD o (lowP (farP r.w)) (winP r.w)) (y :: ys)) := by
  refine From.of ((t2s_0 r.av o.av (ys.length + 1) (qrows (y :: ys))).trans ?_)
  have e1 : V 18 [r.w.av] = some (.int .i64 (edgeW r.w)) := h1 r.w h.w.ok
  have e2 : V 68 [.int .i64 (farP r.w)] = some (.int .u32 (lowP (farP r.w))) := h2 _ trivial
  have e3 : V 70 [r.w.av] = some (.int .i64 (farP r.w)) := h3 r.w ⟨h.w, hm⟩
  obtain ⟨f1, f2, f3, f4, f5, f6, f7, f8⟩ := far_rng hm
  have hb := h.w.bl
  simp only [V21, e1, e2, e3, gNo_q, w64 (n := edgeW r.w - farP r.w) (by omega) (by omega)]
  rfl
theorem t2_ok (r : Rc) (h : r.Sm) (hm : r.w.may = true) (o : Sg) : ∀ xs : List Pr, MFn Try.prog 69 [.ptr 1000000 0 0 0, .ptr 1000001 0 0 0] (oB r.av o xs) (.tup []) (oB r.av (oD o (lowP (farP r.w)) (winP r.w)) xs)
  | [] => mfn_mk (ns := [true, true]) [F_wedge, F_low, F_far] [] (by kernel_rfl) mixed (by kernel_rfl) rfl (t2_from r h hm o (hasV 0 rfl rfl) (hasV 1 rfl rfl) (hasV 2 rfl rfl)) (oB_ok _ _ _).1 (oB_ok _ _ _).2
  | y :: ys => mfn_mk (ns := [true, true, false]) [F_wedge, F_low, F_far] [] (by kernel_rfl) mixed (by kernel_rfl) rfl (t2s_from r h hm o y ys (hasV 0 rfl rfl) (hasV 1 rfl rfl) (hasV 2 rfl rfl)) (Nat.le_refl 3) (oB_ok _ _ _).2
noncomputable def MF_t2 : MFam Try.prog := { f := 69, ι := Rc × Sg × List Pr, pre := fun p => p.1.Sm ∧ p.1.w.may = true, args := fun _ => [.ptr 1000000 0 0 0, .ptr 1000001 0 0 0], bs := fun p => oB p.1.av p.2.1 p.2.2, res := fun _ => .tup [], bs' := fun p => oB p.1.av (oD p.2.1 (lowP (farP p.1.w)) (winP p.1.w)) p.2.2, ok := fun p h => t2_ok p.1 h.1 h.2 p.2.1 p.2.2, inj := fun s t _ h => ⟨rfl, by rw [rc_inj (oB_inj h).1, (oB_inj h).2.2]; exact ((oB_inj h).2.1.d _ _).oB _ _⟩ }
theorem t3_from {V : EV} {M : EM} (x : Il) (o : Sg) (h1 : HasV V F_mtold) :
    (Dt3 V M).From 0 ⟨[.ptr 1000000 0 0 0, .ptr 1000001 0 0 0], oB x.av o []⟩ = some (.tup [], oB x.av (oM o (aceP x.m) (ceP x.m)) []) := by
  refine From.of ((t3_0 x.av o.av).trans ?_)
  have e1 : V 72 [x.m.av] = some (.tup [.int .i64 (aceP x.m), .int .u32 (ceP x.m)]) := h1 x.m trivial
  simp only [V21, e1]
  rfl
theorem t3s_from {V : EV} {M : EM} (x : Il) (o : Sg) (y : Pr) (ys : List Pr) (h1 : HasV V F_mtold) :
    (Dt3s V M).From 0 ⟨[.ptr 1000000 0 0 0, .ptr 1000001 0 0 0], oB x.av o (y :: ys)⟩ = some (.tup [], oB x.av (oM o (aceP x.m) (ceP x.m)) (y :: ys)) := by
  refine From.of ((t3s_0 x.av o.av (ys.length + 1) (qrows (y :: ys))).trans ?_)
  have e1 : V 72 [x.m.av] = some (.tup [.int .i64 (aceP x.m), .int .u32 (ceP x.m)]) := h1 x.m trivial
  simp only [V21, e1, gNo_q]
  rfl
theorem t3_ok (x : Il) (o : Sg) : ∀ xs : List Pr, MFn Try.prog 71 [.ptr 1000000 0 0 0, .ptr 1000001 0 0 0] (oB x.av o xs) (.tup []) (oB x.av (oM o (aceP x.m) (ceP x.m)) xs)
  | [] => mfn_mk (ns := [true, true]) [F_mtold] [] (by kernel_rfl) mixed (by kernel_rfl) rfl (t3_from x o (hasV 0 rfl rfl)) (oB_ok _ _ _).1 (oB_ok _ _ _).2
  | y :: ys => mfn_mk (ns := [true, true, false]) [F_mtold] [] (by kernel_rfl) mixed (by kernel_rfl) rfl (t3s_from x o y ys (hasV 0 rfl rfl)) (Nat.le_refl 3) (oB_ok _ _ _).2
noncomputable def MF_t3 : MFam Try.prog := { f := 71, ι := Il × Sg × List Pr, pre := fun _ => True, args := fun _ => [.ptr 1000000 0 0 0, .ptr 1000001 0 0 0], bs := fun p => oB p.1.av p.2.1 p.2.2, res := fun _ => .tup [], bs' := fun p => oB p.1.av (oM p.2.1 (aceP p.1.m) (ceP p.1.m)) p.2.2, ok := fun p _ => t3_ok p.1 p.2.1 p.2.2, inj := fun s t _ h => ⟨rfl, by rw [il_inj (oB_inj h).1, (oB_inj h).2.2]; exact ((oB_inj h).2.1.m _ _).oB _ _⟩ }
def tO (sub echo : Int) : Sg := ⟨3, sub, false, true, 0, 0, 0, 0, 0, 0, 0, 0, echo, [], []⟩
def tR (r : Rc) (x : Il) (sub echo : Int) : Sg := { oM (oD (oG (tO sub echo) (lowP (gapP x.got 0))) (lowP (farP r.w)) (winP r.w)) (aceP x.m) (ceP x.m) with sacks := sackP x.got (gapP x.got 0), b := [] }
theorem tl3 (y : Pr) (ys : List Pr) : List.take (ys.length + 1) (List.drop 0 (qrows (y :: ys))) = qrows (y :: ys) := by rw [List.drop_zero]; exact q_take rfl
theorem told_rest {M : EM} (r : Rc) (h : r.Sm) (hm : r.w.may = true) (x : Il) (hx : x.got.length ≤ 90000) (sub echo : Int) (m1 : HasM M MF_t1) (m2 : HasM M MF_t2) (m3 : HasM M MF_t3) :
    (Option.bind (M 67 [AV.ptr 1000000 0 0 0, AV.ptr 1000001 0 0 0] [some { es := [Il.av x], fr := false, pt := true }, some { es := [AV.agg [AV.int .i64 (3 : Int), AV.int .i64 sub, AV.bool false, AV.bool true, AV.int .u32 (0 : Int), AV.int .u32 (0 : Int), AV.int .u32 (0 : Int), AV.int .u32 (0 : Int), AV.int .i64 (0 : Int), AV.int .i64 (0 : Int), AV.int .u32 (0 : Int), AV.int .u32 (0 : Int), AV.int .u32 echo, AV.nl, AV.nl]], fr := false, pt := true }]) (fun x16 => (bif fitP (.tup []) x16.1 && fitBs [.pt pI, .pt pO1] x16.2 then Option.bind (M 69 [AV.ptr 1000000 0 0 0, AV.ptr 1000001 0 0 0] [some { es := [Rc.av r], fr := false, pt := true }, some { es := [AV.agg (List.append (vwL kO 0 (AV.getc (List.headD (bget x16.2 1) .undef))) [AV.nl, AV.nl])], fr := false, pt := true }]) (fun x19 => gd (fitP (.tup []) x19.1 && fitBs [.pt pR, .pt pO1] x19.2) (Option.bind (M 71 [AV.ptr 1000000 0 0 0, AV.ptr 1000001 0 0 0] [some { es := [AV.agg (vwL kI 0 (AV.getc (List.headD (bget x16.2 0) .undef)))], fr := false, pt := true }, some { es := [AV.agg (List.append (vwL kO 0 (AV.getc (List.headD (bget x19.2 1) .undef))) [AV.nl, AV.nl])], fr := false, pt := true }]) (fun x20 => gd (fitP (.tup []) x20.1 && fitBs [.pt pI, .pt pO1] x20.2) (some (AV.tup [AV.agg (List.append (vwL kO 0 (AV.getc (List.headD (bget x20.2 1) .undef))) [AV.osl [], AV.osl []]), AV.int .i64 (0 : Int)], []))))) else gd (fitP (.tup []) x16.1 && fitBs [.pt pI, .pt pO2, .row] x16.2) (gd (gNo (bget x16.2 2)) (Option.bind (M 69 [AV.ptr 1000000 0 0 0, AV.ptr 1000001 0 0 0] [some { es := [Rc.av r], fr := false, pt := true }, some { es := [AV.agg (List.append (vwL kO 0 (AV.getc (List.headD (bget x16.2 1) .undef))) [AV.sl 2 1000002 0 0 (AV.sln (List.getD (AV.getc (List.headD (bget x16.2 1) .undef)) 13 .undef)), AV.nl])], fr := false, pt := true }, some { es := bget x16.2 2, fr := false, pt := false }]) (fun x17 => gd (fitP (.tup []) x17.1 && fitBs [.pt pR, .pt pO2, .row] x17.2) (gd (gNo (bget x17.2 2)) (Option.bind (M 71 [AV.ptr 1000000 0 0 0, AV.ptr 1000001 0 0 0] [some { es := [AV.agg (vwL kI 0 (AV.getc (List.headD (bget x16.2 0) .undef)))], fr := false, pt := true }, some { es := [AV.agg (List.append (vwL kO 0 (AV.getc (List.headD (bget x17.2 1) .undef))) [AV.sl 2 1000002 0 0 (AV.sln (List.getD (AV.getc (List.headD (bget x17.2 1) .undef)) 13 .undef)), AV.nl])], fr := false, pt := true }, some { es := bget x17.2 2, fr := false, pt := false }]) (fun x18 => gd (fitP (.tup []) x18.1 && fitBs [.pt pI, .pt pO2, .row] x18.2) (gd (decide (0 + AV.sln (List.getD (AV.getc (List.headD (bget x18.2 1) .undef)) 13 .undef) ≤ List.length (bget x18.2 2))) (gd (gFree 2 (List.take (AV.sln (List.getD (AV.getc (List.headD (bget x18.2 1) .undef)) 13 .undef)) (List.drop 0 (bget x18.2 2)))) (some (AV.tup [AV.agg (List.append (vwL kO 0 (AV.getc (List.headD (bget x18.2 1) .undef))) [AV.osl (List.take (AV.sln (List.getD (AV.getc (List.headD (bget x18.2 1) .undef)) 13 .undef)) (List.drop 0 (bget x18.2 2))), AV.osl []]), AV.int .i64 (0 : Int)], [])))))))))))) : Option Res) = some (.tup [(tR r x sub echo).av, .int .i64 0], []) := by
  have e1 : M 67 [AV.ptr 1000000 0 0 0, AV.ptr 1000001 0 0 0] (oB x.av (tO sub echo) []) = some (.tup [], oB x.av (oG (tO sub echo) (lowP (gapP x.got 0))) (sackP x.got (gapP x.got 0))) := m1 (x, tO sub echo) hx
  refine (congrArg (fun z => Option.bind z _) e1).trans ?_
  rw [Option.bind_some]
  unfold tR
  generalize hG : oG (tO sub echo) (lowP (gapP x.got 0)) = oo
  cases hs : sackP x.got (gapP x.got 0) with
  | nil =>
    have e2 : M 69 [AV.ptr 1000000 0 0 0, AV.ptr 1000001 0 0 0] (oB r.av oo []) = some (.tup [], oB r.av (oD oo (lowP (farP r.w)) (winP r.w)) []) := m2 (r, oo, []) ⟨h, hm⟩
    have e3 : M 71 [AV.ptr 1000000 0 0 0, AV.ptr 1000001 0 0 0] (oB x.av (oD oo (lowP (farP r.w)) (winP r.w)) []) = some (.tup [], oB x.av (oM (oD oo (lowP (farP r.w)) (winP r.w)) (aceP x.m) (ceP x.m)) []) := m3 (x, _, []) trivial
    refine (congrArg (fun z => Option.bind z _) e2).trans ?_
    rw [Option.bind_some]
    refine (gd_of rfl).trans ?_
    refine (congrArg (fun z => Option.bind z _) e3).trans ?_
    rw [Option.bind_some]
    exact (gd_of rfl)
  | cons y ys =>
    have e2 : M 69 [AV.ptr 1000000 0 0 0, AV.ptr 1000001 0 0 0] (oB r.av oo (y :: ys)) = some (.tup [], oB r.av (oD oo (lowP (farP r.w)) (winP r.w)) (y :: ys)) := m2 (r, oo, y :: ys) ⟨h, hm⟩
    have e3 : M 71 [AV.ptr 1000000 0 0 0, AV.ptr 1000001 0 0 0] (oB x.av (oD oo (lowP (farP r.w)) (winP r.w)) (y :: ys)) = some (.tup [], oB x.av (oM (oD oo (lowP (farP r.w)) (winP r.w)) (aceP x.m) (ceP x.m)) (y :: ys)) := m3 (x, _, y :: ys) trivial
    have hn : gNo (qrows (y :: ys)) = true := gNo_q _
    refine (gd_of rfl).trans ((gd_of hn).trans ?_)
    refine (congrArg (fun z => Option.bind z _) e2).trans ?_
    rw [Option.bind_some]
    refine (gd_of rfl).trans ((gd_of hn).trans ?_)
    refine (congrArg (fun z => Option.bind z _) e3).trans ?_
    rw [Option.bind_some]
    refine (gd_of rfl).trans ((gd_of (decide_eq_true (show 0 + (ys.length + 1) ≤ (qrows (y :: ys)).length by rw [qrows_len, Nat.zero_add]; exact Nat.le_refl _))).trans ((gd_of (show gFree 2 (List.take (ys.length + 1) (List.drop 0 (qrows (y :: ys)))) = true by rw [tl3]; exact gFree_q _)).trans ?_))
    exact congrArg (fun z => (some (AV.tup [AV.agg (List.append (vwL kO 0 (AV.getc (Sg.av (oM (oD oo (lowP (farP r.w)) (winP r.w)) (aceP x.m) (ceP x.m))))) [AV.osl z, AV.osl []]), AV.int .i64 (0 : Int)], []) : Option Res)) (tl3 y ys)
theorem rtold_from {V : EV} {M : EM} (r : Rc) (h : r.Sm) (sub echo : Int) (h1 : HasV V F_rmay) (m1 : HasM M MF_t1) (m2 : HasM M MF_t2) (m3 : HasM M MF_t3) :
    (Drtold V M).From 0 ⟨[r.av, .int .i64 sub, .int .u32 echo], []⟩ = some (.tup [(toldS r sub echo).av, .int .i64 (toldE r sub)], []) := by
  refine From.of ((rtold_0 r.av sub echo).trans ?_)
  have e1 : V 41 [r.av] = some (.bool r.may) := h1 r h
  simp only [V21, e1]
  cases hm : r.may with
  | false => rw [show toldE r sub = 1 by unfold toldE; rw [if_neg (by rw [hm]; simp)], show toldS r sub echo = Sg.none by unfold toldS toldE; rw [if_neg (by rw [if_neg (by rw [hm]; simp)]; decide)]]; rfl
  | true =>
    have hw := Rc.may_w hm
    by_cases c0 : sub < 0
    · rw [decide_eq_true c0, show toldE r sub = 1 by unfold toldE; rw [if_neg (by omega)], show toldS r sub echo = Sg.none by unfold toldS toldE; rw [if_neg (by rw [if_neg (by omega)]; decide)]]; rfl
    rw [decide_eq_false c0]
    by_cases c1 : sub ≥ 4
    · rw [decide_eq_true c1, show toldE r sub = 1 by unfold toldE; rw [if_neg (by omega)], show toldS r sub echo = Sg.none by unfold toldS toldE; rw [if_neg (by rw [if_neg (by omega)]; decide)]]; rfl
    rw [decide_eq_false c1]
    have he : toldE r sub = 0 := by unfold toldE; rw [if_pos ⟨hm, by omega, by omega⟩]
    have hs : toldS r sub echo = tR r (r.at sub) sub echo := by unfold toldS; rw [if_pos he]; rfl
    rw [he, hs]
    simp only [Bool.not_true, cond_false]
    by_cases d0 : sub = 0
    · subst d0; exact told_rest r h hw r.s0 h.l0 0 echo m1 m2 m3
    rw [decide_eq_false d0]
    by_cases d1 : sub = 1
    · subst d1; exact told_rest r h hw r.s1 h.l1 1 echo m1 m2 m3
    rw [decide_eq_false d1]
    by_cases d2 : sub = 2
    · subst d2; exact told_rest r h hw r.s2 h.l2 2 echo m1 m2 m3
    rw [decide_eq_false d2]
    obtain rfl : sub = 3 := by omega
    exact told_rest r h hw r.s3 h.l3 3 echo m1 m2 m3
theorem rtold_ok (r : Rc) (h : r.Sm) (sub echo : Int) : FnOk Try.prog 36 [r.av, .int .i64 sub, .int .u32 echo] (.tup [(toldS r sub echo).av, .int .i64 (toldE r sub)]) :=
  fn_mk [F_rmay] [MF_t1, MF_t2, MF_t3] (by kernel_rfl) mixed (by kernel_rfl) (rtold_from r h sub echo (hasV 0 rfl rfl) (hasM 0 rfl rfl) (hasM 1 rfl rfl) (hasM 2 rfl rfl))
theorem rse_inj {s t : Rc × Int × Int} (h : [s.1.av, AV.int .i64 s.2.1, AV.int .u32 s.2.2] = [t.1.av, .int .i64 t.2.1, .int .u32 t.2.2]) : s = t := by
  obtain ⟨a, b, c⟩ := s; obtain ⟨a', b', c'⟩ := t
  have h1 : a = a' := rc_inj (List.cons.inj h).1
  have h2 : b = b' := (AV.int.inj (List.cons.inj (List.cons.inj h).2).1).2
  have h3 : c = c' := (AV.int.inj (List.cons.inj (List.cons.inj (List.cons.inj h).2).2).1).2
  rw [h1, h2, h3]
noncomputable def F_rtold : Fam Try.prog := { f := 36, ι := Rc × Int × Int, pre := fun p => p.1.Sm, args := fun p => [p.1.av, .int .i64 p.2.1, .int .u32 p.2.2], res := fun p => .tup [(toldS p.1 p.2.1 p.2.2).av, .int .i64 (toldE p.1 p.2.1)], ok := fun p h => rtold_ok p.1 h p.2.1 p.2.2, inj := fun s t h => by rw [rse_inj h] }
end Vai.L21
