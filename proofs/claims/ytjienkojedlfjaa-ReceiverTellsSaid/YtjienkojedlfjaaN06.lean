import Derived.Test.YtjienkojedlfjaaNW
import Derived.Test.YtjienkojedlfjaaVoB
import Derived.Test.YtjienkojedlfjaaVoF
namespace Vai.L06
open Go Go.Proofs Vai Vai.L04
set_option maxRecDepth 100000
set_option linter.unusedVariables false
set_option linter.unusedSimpArgs false
section
variable {R : Type} {V : EV} {M : EM} {G : Nat → CS → Option R} {K : Res → Option R}
noncomputable abbrev Dnz : EV → EM → Dn := dnV Try.prog 93 [] [] []
theorem nz_0 (a0 : Int) : (Dnz V M).stepK G K 0 ⟨[.int .u8 a0], []⟩ =
    K (AV.bool !a0 == (0 : Int), []) := by kernel_rfl
noncomputable abbrev Dixf : EV → EM → Dn := dnV Try.prog 101 [93] [] [(26, [0, 1, 7, 8])]
theorem ixf_0 (a0 : List AV) : (Dixf V M).stepK G K 0 ⟨[.osl a0, .fn 93 [] []], []⟩ =
    G 26 ({ vs := [AV.osl a0, AV.fn 93 [] [], AV.int .i64 (↑(List.length a0) : Int), AV.int .i64 (0 : Int)], bs := [] }) := by kernel_rfl
theorem ixf_1 (l0 : List AV) (n1 : Int) (n2 : Int) : (Dixf V M).stepK G K 26 ⟨[(.osl l0), (.fn 93 [] []), (.int .i64 n1), (.int .i64 n2)], []⟩ =
    (bif decide (n2 < n1) then gd (decide ((0 : Int) ≤ n2)) (Option.bind (l0[Int.toNat n2]?) (fun x0 => gd (Vw.fit (.one (.int .u8)) x0) (Option.bind (V 93 [AV.int .u8 (AV.geti x0)]) (fun x1 => gd (fitA [.one .bool] x1) ((bif AV.getb x1 then K (AV.int .i64 n2, []) else G 26 ({ vs := [AV.osl l0, AV.fn 93 [] [], AV.int .i64 n1, AV.int .i64 (IntKind.wrap .i64 (n2 + (1 : Int)))], bs := [] }))))))) else K (AV.int .i64 (-1 : Int), [])) := by kernel_rfl
noncomputable abbrev Dctf : EV → EM → Dn := dnV Try.prog 92 [101] [] []
theorem ctf_0 (a0 : List AV) : (Dctf V M).stepK G K 0 ⟨[.osl a0, .fn 93 [] []], []⟩ =
    Option.bind (V 101 [AV.osl a0, AV.fn 93 [] []]) (fun x0 => gd (fitA [.one (.int .i64)] x0) (K (AV.bool (decide (AV.geti x0 ≥ (0 : Int))), []))) := by kernel_rfl
noncomputable abbrev Dblank : EV → EM → Dn := dnV Try.prog 58 [92, 93] [] [(58, [1, 3, 9, 10, 11])]
theorem blank_0 (a0_0 : Int) (a0_1 : List AV) (a0_2 : List AV) (a0_3 : Int) (a0_4 : Int) : (Dblank V M).stepK G K 0 ⟨[.agg [.int .i64 a0_0, .osl a0_1, .osl a0_2, .int .i64 a0_3, .int .i64 a0_4]], []⟩ =
    G 58 ({ vs := [AV.ptr 1000000 0 0 0, AV.int .i64 a0_0, AV.osl a0_2, AV.int .i64 (↑(List.length a0_2) : Int), AV.int .i64 (0 : Int)], bs := [some { es := [AV.agg [AV.int .i64 a0_0, AV.osl a0_1, AV.osl a0_2, AV.int .i64 a0_3, AV.int .i64 a0_4]], fr := false, pt := true }] }) := by kernel_rfl
theorem blank_1 (n0 : Int) (l1 : List AV) (n2 : Int) (n3 : Int) (n4 : Int) (l5 : List AV) (l6 : List AV) (n7 : Int) (n8 : Int) : (Dblank V M).stepK G K 58 ⟨[(.ptr 1000000 0 0 0), (.int .i64 n0), (.osl l1), (.int .i64 n2), (.int .i64 n3)], [some ⟨[(.agg [(.int .i64 n4), (.osl l5), (.osl l6), (.int .i64 n7), (.int .i64 n8)])], false, true⟩]⟩ =
    (bif decide (n3 < n2) then gd (decide ((0 : Int) ≤ n3)) (Option.bind (l1[Int.toNat n3]?) (fun x0 => gd (Vw.fit (.agg [.int .i64, .int .i64]) x0) (gd (gCel 1 l5) (gd (decide ((0 : Int) ≤ IntKind.wrap .i64 (ci x0 0 - n4) ∧ IntKind.wrap .i64 (ci x0 0 - n4) ≤ (↑(List.length l5) : Int))) (gd (decide ((0 : Int) ≤ IntKind.wrap .i64 (n0 - n4) ∧ IntKind.wrap .i64 (n0 - n4) ≤ (↑(Int.toNat (IntKind.wrap .i64 (ci x0 0 - n4))) : Int))) (Option.bind (V 92 [AV.osl (List.drop (Int.toNat (IntKind.wrap .i64 (n0 - n4))) (List.take (Int.toNat (IntKind.wrap .i64 (ci x0 0 - n4))) l5)), AV.fn 93 [] []]) (fun x1 => gd (fitA [.one .bool] x1) ((bif AV.getb x1 then K (AV.bool false, []) else G 58 ({ vs := [AV.ptr 1000000 0 0 0, AV.int .i64 (ci x0 1), AV.osl l1, AV.int .i64 n2, AV.int .i64 (IntKind.wrap .i64 (n3 + (1 : Int)))], bs := [some { es := [AV.agg [AV.int .i64 n4, AV.osl l5, AV.osl l6, AV.int .i64 n7, AV.int .i64 n8]], fr := false, pt := true }] })))))))))) else K (AV.bool true, [])) := by kernel_rfl
noncomputable abbrev Dupto : EV → EM → Dn := dnV Try.prog 54 [] [] []
theorem upto_0 (a0_0 : Int) (a0_1 : List AV) (a0_2 : List AV) (a0_3 : Int) (a0_4 : Int) : (Dupto V M).stepK G K 0 ⟨[.agg [.int .i64 a0_0, .osl a0_1, .osl a0_2, .int .i64 a0_3, .int .i64 a0_4]], []⟩ =
    (bif (↑(List.length a0_2) : Int) == (0 : Int) then K (AV.int .i64 a0_0, []) else gd (decide ((0 : Int) ≤ IntKind.wrap .i64 ((↑(List.length a0_2) : Int) - (1 : Int)))) (Option.bind (a0_2[Int.toNat (IntKind.wrap .i64 ((↑(List.length a0_2) : Int) - (1 : Int)))]?) (fun x0 => gd (Vw.fit (.agg [.int .i64, .int .i64]) x0) (K (AV.int .i64 (ci x0 1), []))))) := by kernel_rfl
noncomputable abbrev Dedge : EV → EM → Dn := dnV Try.prog 51 [] [] []
theorem edge_0 (a0_0 : Int) (a0_1 : List AV) (a0_2 : List AV) (a0_3 : Int) (a0_4 : Int) : (Dedge V M).stepK G K 0 ⟨[.agg [.int .i64 a0_0, .osl a0_1, .osl a0_2, .int .i64 a0_3, .int .i64 a0_4]], []⟩ =
    K (AV.int .i64 (if (2305843009213693952 : Int) < IntKind.wrap .i64 (a0_0 + a0_3) then (2305843009213693952 : Int) else IntKind.wrap .i64 (a0_0 + a0_3)), []) := by kernel_rfl
noncomputable abbrev Dwmay : EV → EM → Dn := dnV Try.prog 17 [51, 54, 57, 58] [] []
theorem wmay_0 (a0_0 : Int) (a0_1 : List AV) (a0_2 : List AV) (a0_3 : Int) (a0_4 : Int) : (Dwmay V M).stepK G K 0 ⟨[.agg [.int .i64 a0_0, .osl a0_1, .osl a0_2, .int .i64 a0_3, .int .i64 a0_4]], []⟩ =
    (bif decide (a0_3 < (0 : Int)) then K (AV.bool false, []) else (bif decide (a0_3 > (65536 : Int)) then K (AV.bool false, []) else (bif decide (a0_0 < (0 : Int)) then K (AV.bool false, []) else (bif decide (a0_0 > (2305843009213693952 : Int)) then K (AV.bool false, []) else Option.bind (V 57 [AV.osl a0_2]) (fun x0 => gd (fitA [.one .bool] x0) ((bif !AV.getb x0 then K (AV.bool false, []) else Option.bind (V 54 [AV.agg [AV.int .i64 a0_0, AV.osl a0_1, AV.osl a0_2, AV.int .i64 a0_3, AV.int .i64 a0_4]]) (fun x1 => gd (fitA [.one (.int .i64)] x1) ((bif decide ((↑(List.length a0_2) : Int) > (0 : Int)) then Option.bind (a0_2[0]?) (fun x5 => gd (Vw.fit (.agg [.int .i64, .int .i64]) x5) ((bif decide (ci x5 0 < a0_0) then K (AV.bool false, []) else Option.bind (V 51 [AV.agg [AV.int .i64 a0_0, AV.osl a0_1, AV.osl a0_2, AV.int .i64 a0_3, AV.int .i64 a0_4]]) (fun x6 => gd (fitA [.one (.int .i64)] x6) ((bif decide (AV.geti x1 > AV.geti x6) then K (AV.bool false, []) else (bif !(↑(List.length a0_1) : Int) == IntKind.wrap .i64 (AV.geti x1 - a0_0) then K (AV.bool false, []) else (bif a0_4 == (-1 : Int) then Option.bind (V 58 [AV.agg [AV.int .i64 a0_0, AV.osl a0_1, AV.osl a0_2, AV.int .i64 a0_3, AV.int .i64 a0_4]]) (fun x8 => gd (fitA [.one .bool] x8) (K (AV.bool (AV.getb x8), []))) else (bif decide (a0_4 ≥ AV.geti x1) then Option.bind (V 58 [AV.agg [AV.int .i64 a0_0, AV.osl a0_1, AV.osl a0_2, AV.int .i64 a0_3, AV.int .i64 a0_4]]) (fun x7 => gd (fitA [.one .bool] x7) (K (AV.bool (AV.getb x7), []))) else K (AV.bool false, [])))))))))) else Option.bind (V 51 [AV.agg [AV.int .i64 a0_0, AV.osl a0_1, AV.osl a0_2, AV.int .i64 a0_3, AV.int .i64 a0_4]]) (fun x2 => gd (fitA [.one (.int .i64)] x2) ((bif decide (AV.geti x1 > AV.geti x2) then K (AV.bool false, []) else (bif !(↑(List.length a0_1) : Int) == IntKind.wrap .i64 (AV.geti x1 - a0_0) then K (AV.bool false, []) else (bif a0_4 == (-1 : Int) then Option.bind (V 58 [AV.agg [AV.int .i64 a0_0, AV.osl a0_1, AV.osl a0_2, AV.int .i64 a0_3, AV.int .i64 a0_4]]) (fun x4 => gd (fitA [.one .bool] x4) (K (AV.bool (AV.getb x4), []))) else (bif decide (a0_4 ≥ AV.geti x1) then Option.bind (V 58 [AV.agg [AV.int .i64 a0_0, AV.osl a0_1, AV.osl a0_2, AV.int .i64 a0_3, AV.int .i64 a0_4]]) (fun x3 => gd (fitA [.one .bool] x3) (K (AV.bool (AV.getb x3), []))) else K (AV.bool false, []))))))))))))))))) := by kernel_rfl
noncomputable abbrev Dwedge : EV → EM → Dn := dnV Try.prog 18 [17, 51] [] []
theorem wedge_0 (a0_0 : Int) (a0_1 : List AV) (a0_2 : List AV) (a0_3 : Int) (a0_4 : Int) : (Dwedge V M).stepK G K 0 ⟨[.agg [.int .i64 a0_0, .osl a0_1, .osl a0_2, .int .i64 a0_3, .int .i64 a0_4]], []⟩ =
    Option.bind (V 17 [AV.agg [AV.int .i64 a0_0, AV.osl a0_1, AV.osl a0_2, AV.int .i64 a0_3, AV.int .i64 a0_4]]) (fun x0 => gd (fitA [.one .bool] x0) ((bif !AV.getb x0 then K (AV.int .i64 (0 : Int), []) else Option.bind (V 51 [AV.agg [AV.int .i64 a0_0, AV.osl a0_1, AV.osl a0_2, AV.int .i64 a0_3, AV.int .i64 a0_4]]) (fun x1 => gd (fitA [.one (.int .i64)] x1) (K (AV.int .i64 (AV.geti x1), [])))))) := by kernel_rfl
noncomputable abbrev Dwready : EV → EM → Dn := dnV Try.prog 19 [17, 59] [] []
theorem wready_0 (a0_0 : Int) (a0_1 : List AV) (a0_2 : List AV) (a0_3 : Int) (a0_4 : Int) : (Dwready V M).stepK G K 0 ⟨[.agg [.int .i64 a0_0, .osl a0_1, .osl a0_2, .int .i64 a0_3, .int .i64 a0_4]], []⟩ =
    Option.bind (V 17 [AV.agg [AV.int .i64 a0_0, AV.osl a0_1, AV.osl a0_2, AV.int .i64 a0_3, AV.int .i64 a0_4]]) (fun x0 => gd (fitA [.one .bool] x0) ((bif !AV.getb x0 then K (AV.int .i64 (0 : Int), []) else Option.bind (V 59 [AV.osl a0_2, AV.int .i64 a0_0]) (fun x1 => gd (fitA [.one (.int .i64)] x1) (K (AV.int .i64 (IntKind.wrap .i64 (AV.geti x1 - a0_0)), [])))))) := by kernel_rfl
noncomputable abbrev Dwnew : EV → EM → Dn := dnV Try.prog 20 [] [] []
theorem wnew_0 (a0 : Int) : (Dwnew V M).stepK G K 0 ⟨[.int .i64 a0], []⟩ =
    (bif decide (a0 < (0 : Int)) then K (AV.tup [AV.agg [AV.int .i64 (0 : Int), AV.osl [], AV.osl [], AV.int .i64 (0 : Int), AV.int .i64 (0 : Int)], AV.int .i64 (1 : Int)], []) else (bif decide (a0 > (65536 : Int)) then K (AV.tup [AV.agg [AV.int .i64 (0 : Int), AV.osl [], AV.osl [], AV.int .i64 (0 : Int), AV.int .i64 (0 : Int)], AV.int .i64 (1 : Int)], []) else K (AV.tup [AV.agg [AV.int .i64 (0 : Int), AV.osl [], AV.osl [], AV.int .i64 a0, AV.int .i64 (-1 : Int)], AV.int .i64 (0 : Int)], []))) := by kernel_rfl
noncomputable abbrev Dwover : EV → EM → Dn := dnV Try.prog 22 [17] [] []
theorem wover_0 (a0_0 : Int) (a0_1 : List AV) (a0_2 : List AV) (a0_3 : Int) (a0_4 : Int) : (Dwover V M).stepK G K 0 ⟨[.agg [.int .i64 a0_0, .osl a0_1, .osl a0_2, .int .i64 a0_3, .int .i64 a0_4]], []⟩ =
    Option.bind (V 17 [AV.agg [AV.int .i64 a0_0, AV.osl a0_1, AV.osl a0_2, AV.int .i64 a0_3, AV.int .i64 a0_4]]) (fun x0 => gd (fitA [.one .bool] x0) ((bif AV.getb x0 then K (AV.bool (a0_0 == a0_4), []) else K (AV.bool false, [])))) := by kernel_rfl
noncomputable abbrev DownV : EV → EM → Dn := dnVc Try.prog 52 [] [(88, (1, 1)), (89, (2, 16))] [] []
theorem ownV_0 (a0_0 : Int) (a0_1 : List AV) (a0_2 : List AV) (a0_3 : Int) (a0_4 : Int) : (DownV V M).stepK G K 0 ⟨[.agg [.int .i64 a0_0, .osl a0_1, .osl a0_2, .int .i64 a0_3, .int .i64 a0_4]], []⟩ =
    gd (gRow 1 a0_1) (gd (gLen (List.length a0_1) 1) (gd (gRow 2 a0_2) (gd (gLen (List.length a0_2) 16) (gd (decide (0 + List.length a0_1 ≤ List.length a0_1)) (gd (gFree 1 (List.take (List.length a0_1) (List.drop 0 a0_1))) (gd (decide (0 + List.length a0_2 ≤ List.length a0_2)) (gd (gFree 2 (List.take (List.length a0_2) (List.drop 0 a0_2))) (K (AV.agg [AV.int .i64 a0_0, AV.osl (List.take (List.length a0_1) (List.drop 0 a0_1)), AV.osl (List.take (List.length a0_2) (List.drop 0 a0_2)), AV.int .i64 a0_3, AV.int .i64 a0_4], []))))))))) := by kernel_rfl
noncomputable abbrev DownM : EV → EM → Dn := dnMc Try.prog 52 [] [(88, (1, 1)), (89, (2, 16))] [] [] []
theorem ownM_0 (a0_0 : Int) (a0_1 : List AV) (a0_2 : List AV) (a0_3 : Int) (a0_4 : Int) : (DownM V M).stepK G K 0 ⟨[.agg [.int .i64 a0_0, .osl a0_1, .osl a0_2, .int .i64 a0_3, .int .i64 a0_4]], []⟩ =
    gd (gRow 1 a0_1) (gd (gLen (List.length a0_1) 1) (gd (gRow 2 a0_2) (gd (gLen (List.length a0_2) 16) (gd (gNo a0_1) (gd (gNo a0_2) (K (AV.agg [AV.int .i64 a0_0, AV.sl 1 1000000 0 0 (List.length a0_1), AV.sl 2 1000001 0 0 (List.length a0_2), AV.int .i64 a0_3, AV.int .i64 a0_4], [some { es := a0_1, fr := false, pt := false }, some { es := a0_2, fr := false, pt := false }]))))))) := by kernel_rfl
noncomputable abbrev Dwshut : EV → EM → Dn := dnV Try.prog 21 [17, 52, 54] [] []
theorem wshut_0 (a0_0 : Int) (a0_1 : List AV) (a0_2 : List AV) (a0_3 : Int) (a0_4 : Int) (a1 : Int) : (Dwshut V M).stepK G K 0 ⟨[.agg [.int .i64 a0_0, .osl a0_1, .osl a0_2, .int .i64 a0_3, .int .i64 a0_4], .int .i64 a1], []⟩ =
    Option.bind (V 17 [AV.agg [AV.int .i64 a0_0, AV.osl a0_1, AV.osl a0_2, AV.int .i64 a0_3, AV.int .i64 a0_4]]) (fun x0 => gd (fitA [.one .bool] x0) ((bif !AV.getb x0 then K (AV.tup [AV.agg [AV.int .i64 (0 : Int), AV.osl [], AV.osl [], AV.int .i64 (0 : Int), AV.int .i64 (0 : Int)], AV.int .i64 (1 : Int)], []) else (bif decide (a1 < (0 : Int)) then K (AV.tup [AV.agg [AV.int .i64 (0 : Int), AV.osl [], AV.osl [], AV.int .i64 (0 : Int), AV.int .i64 (0 : Int)], AV.int .i64 (1 : Int)], []) else (bif decide (a1 > (2305843009213693952 : Int)) then K (AV.tup [AV.agg [AV.int .i64 (0 : Int), AV.osl [], AV.osl [], AV.int .i64 (0 : Int), AV.int .i64 (0 : Int)], AV.int .i64 (1 : Int)], []) else (bif !a0_4 == (-1 : Int) then (bif !a0_4 == a1 then K (AV.tup [AV.agg [AV.int .i64 (0 : Int), AV.osl [], AV.osl [], AV.int .i64 (0 : Int), AV.int .i64 (0 : Int)], AV.int .i64 (5 : Int)], []) else Option.bind (V 54 [AV.agg [AV.int .i64 a0_0, AV.osl a0_1, AV.osl a0_2, AV.int .i64 a0_3, AV.int .i64 a0_4]]) (fun x3 => gd (fitA [.one (.int .i64)] x3) ((bif decide (a1 < AV.geti x3) then K (AV.tup [AV.agg [AV.int .i64 (0 : Int), AV.osl [], AV.osl [], AV.int .i64 (0 : Int), AV.int .i64 (0 : Int)], AV.int .i64 (5 : Int)], []) else Option.bind (V 52 [AV.agg [AV.int .i64 a0_0, AV.osl a0_1, AV.osl a0_2, AV.int .i64 a0_3, AV.int .i64 a0_4]]) (fun x4 => gd (fitA [.agg [.int .i64, .sl, .sl, .int .i64, .int .i64]] x4) (K (AV.tup [AV.agg [AV.int .i64 (ci x4 0), AV.osl (cl x4 1), AV.osl (cl x4 2), AV.int .i64 (ci x4 3), AV.int .i64 a1], AV.int .i64 (0 : Int)], []))))))) else Option.bind (V 54 [AV.agg [AV.int .i64 a0_0, AV.osl a0_1, AV.osl a0_2, AV.int .i64 a0_3, AV.int .i64 a0_4]]) (fun x1 => gd (fitA [.one (.int .i64)] x1) ((bif decide (a1 < AV.geti x1) then K (AV.tup [AV.agg [AV.int .i64 (0 : Int), AV.osl [], AV.osl [], AV.int .i64 (0 : Int), AV.int .i64 (0 : Int)], AV.int .i64 (5 : Int)], []) else Option.bind (V 52 [AV.agg [AV.int .i64 a0_0, AV.osl a0_1, AV.osl a0_2, AV.int .i64 a0_3, AV.int .i64 a0_4]]) (fun x2 => gd (fitA [.agg [.int .i64, .sl, .sl, .int .i64, .int .i64]] x2) (K (AV.tup [AV.agg [AV.int .i64 (ci x2 0), AV.osl (cl x2 1), AV.osl (cl x2 2), AV.int .i64 (ci x2 3), AV.int .i64 a1], AV.int .i64 (0 : Int)], [])))))))))))) := by kernel_rfl
noncomputable abbrev Dwread : EV → EM → Dn := dnV Try.prog 23 [17, 19, 52, 60] [] [(250, [1, 2, 4, 7, 21, 22])]
theorem wread_0 (a0_0 : Int) (a0_1 : List AV) (a0_2 : List AV) (a0_3 : Int) (a0_4 : Int) (a1 : Int) : (Dwread V M).stepK G K 0 ⟨[.agg [.int .i64 a0_0, .osl a0_1, .osl a0_2, .int .i64 a0_3, .int .i64 a0_4], .int .i64 a1], []⟩ =
    Option.bind (V 17 [AV.agg [AV.int .i64 a0_0, AV.osl a0_1, AV.osl a0_2, AV.int .i64 a0_3, AV.int .i64 a0_4]]) (fun x0 => gd (fitA [.one .bool] x0) ((bif !AV.getb x0 then K (AV.tup [AV.agg [AV.int .i64 (0 : Int), AV.osl [], AV.osl [], AV.int .i64 (0 : Int), AV.int .i64 (0 : Int)], AV.osl [], AV.int .i64 (1 : Int)], []) else (bif decide (a1 < (0 : Int)) then K (AV.tup [AV.agg [AV.int .i64 (0 : Int), AV.osl [], AV.osl [], AV.int .i64 (0 : Int), AV.int .i64 (0 : Int)], AV.osl [], AV.int .i64 (1 : Int)], []) else Option.bind (V 19 [AV.agg [AV.int .i64 a0_0, AV.osl a0_1, AV.osl a0_2, AV.int .i64 a0_3, AV.int .i64 a0_4]]) (fun x1 => gd (fitA [.one (.int .i64)] x1) (G 250 ({ vs := [AV.int .i64 (if AV.geti x1 < a1 then AV.geti x1 else a1), AV.ptr 1000000 0 0 0, AV.ptr 1000001 0 0 0, AV.nl, AV.int .i64 (if AV.geti x1 < a1 then AV.geti x1 else a1), AV.int .i64 (0 : Int)], bs := [some { es := [AV.agg [AV.int .i64 a0_0, AV.osl a0_1, AV.osl a0_2, AV.int .i64 a0_3, AV.int .i64 a0_4]], fr := false, pt := true }, some { es := [AV.agg [AV.int .i64 (0 : Int), AV.nl, AV.nl, AV.int .i64 (0 : Int), AV.int .i64 (0 : Int)]], fr := false, pt := true }] }))))))) := by kernel_rfl
theorem wread_1 (n0 : Int) (n1 : Int) (n2 : Int) (n3 : Int) (l4 : List AV) (l5 : List AV) (n6 : Int) (n7 : Int) (n8 : Int) (n9 : Int) (n10 : Int) : (Dwread V M).stepK G K 250 ⟨[(.int .i64 n0), (.ptr 1000000 0 0 0), (.ptr 1000001 0 0 0), .nl, (.int .i64 n1), (.int .i64 n2)], [some ⟨[(.agg [(.int .i64 n3), (.osl l4), (.osl l5), (.int .i64 n6), (.int .i64 n7)])], false, true⟩, some ⟨[(.agg [(.int .i64 n8), .nl, .nl, (.int .i64 n9), (.int .i64 n10)])], false, true⟩]⟩ =
    (bif decide (n2 < n1) then gd (decide ((0 : Int) ≤ n2)) (Option.bind (l4[Int.toNat n2]?) (fun x2 => gd (Vw.fit (.one (.int .u8)) x2) (G 250 ({ vs := [AV.int .i64 n0, AV.ptr 1000000 0 0 0, AV.ptr 1000001 0 0 0, AV.sl 1 1000002 0 0 1, AV.int .i64 n1, AV.int .i64 (IntKind.wrap .i64 (n2 + (1 : Int)))], bs := [some { es := [AV.agg [AV.int .i64 n3, AV.osl l4, AV.osl l5, AV.int .i64 n6, AV.int .i64 n7]], fr := false, pt := true }, some { es := [AV.agg [AV.int .i64 n8, AV.nl, AV.nl, AV.int .i64 n9, AV.int .i64 n10]], fr := false, pt := true }, some { es := [AV.int .u8 (AV.geti x2)], fr := false, pt := false }] })))) else Option.bind (V 52 [AV.agg [AV.int .i64 n3, AV.osl l4, AV.osl l5, AV.int .i64 n6, AV.int .i64 n7]]) (fun x0 => gd (fitA [.agg [.int .i64, .sl, .sl, .int .i64, .int .i64]] x0) ((bif decide (n0 > (0 : Int)) then Option.bind (V 60 [AV.osl (cl x0 2), AV.agg [AV.int .i64 (ci x0 0), AV.int .i64 (IntKind.wrap .i64 (ci x0 0 + n0))]]) (fun x1 => gd (fitA [.one .sl, .one (.int .i64)] x1) (gd (gCel 1 (cl x0 1)) (gd (decide ((0 : Int) ≤ n0 ∧ n0 ≤ (↑(List.length (cl x0 1)) : Int))) (K (AV.tup [AV.agg [AV.int .i64 (IntKind.wrap .i64 (ci x0 0 + n0)), AV.osl (List.drop (Int.toNat n0) (List.take (List.length (cl x0 1)) (cl x0 1))), AV.osl (tl x1 0), AV.int .i64 (ci x0 3), AV.int .i64 (ci x0 4)], AV.osl [], AV.int .i64 (0 : Int)], []))))) else K (AV.tup [AV.agg [AV.int .i64 (ci x0 0), AV.osl (cl x0 1), AV.osl (cl x0 2), AV.int .i64 (ci x0 3), AV.int .i64 (ci x0 4)], AV.osl [], AV.int .i64 (0 : Int)], []))))) := by kernel_rfl
theorem wread_2 (n0 : Int) (k1 : Nat) (n2 : Int) (n3 : Int) (n4 : Int) (l5 : List AV) (l6 : List AV) (n7 : Int) (n8 : Int) (n9 : Int) (n10 : Int) (n11 : Int) (l12 : List AV) : (Dwread V M).stepK G K 250 ⟨[(.int .i64 n0), (.ptr 1000000 0 0 0), (.ptr 1000001 0 0 0), (.sl 1 1000002 0 0 k1), (.int .i64 n2), (.int .i64 n3)], [some ⟨[(.agg [(.int .i64 n4), (.osl l5), (.osl l6), (.int .i64 n7), (.int .i64 n8)])], false, true⟩, some ⟨[(.agg [(.int .i64 n9), .nl, .nl, (.int .i64 n10), (.int .i64 n11)])], false, true⟩, some ⟨l12, false, false⟩]⟩ =
    (bif decide (n3 < n2) then gd (decide ((0 : Int) ≤ n3)) (Option.bind (l5[Int.toNat n3]?) (fun x2 => gd (Vw.fit (.one (.int .u8)) x2) (gd (decide (k1 ≤ List.length l12)) (gd (gLen (List.length (List.take k1 l12) + 1) 1) (gd (gNo (List.take k1 l12 ++ [AV.int .u8 (AV.geti x2)])) (G 250 ({ vs := [AV.int .i64 n0, AV.ptr 1000000 0 0 0, AV.ptr 1000001 0 0 0, AV.sl 1 1000002 0 0 (List.length (List.take k1 l12) + 1), AV.int .i64 n2, AV.int .i64 (IntKind.wrap .i64 (n3 + (1 : Int)))], bs := [some { es := [AV.agg [AV.int .i64 n4, AV.osl l5, AV.osl l6, AV.int .i64 n7, AV.int .i64 n8]], fr := false, pt := true }, some { es := [AV.agg [AV.int .i64 n9, AV.nl, AV.nl, AV.int .i64 n10, AV.int .i64 n11]], fr := false, pt := true }, some { es := List.take k1 l12 ++ [AV.int .u8 (AV.geti x2)], fr := false, pt := false }] }))))))) else Option.bind (V 52 [AV.agg [AV.int .i64 n4, AV.osl l5, AV.osl l6, AV.int .i64 n7, AV.int .i64 n8]]) (fun x0 => gd (fitA [.agg [.int .i64, .sl, .sl, .int .i64, .int .i64]] x0) ((bif decide (n0 > (0 : Int)) then Option.bind (V 60 [AV.osl (cl x0 2), AV.agg [AV.int .i64 (ci x0 0), AV.int .i64 (IntKind.wrap .i64 (ci x0 0 + n0))]]) (fun x1 => gd (fitA [.one .sl, .one (.int .i64)] x1) (gd (gCel 1 (cl x0 1)) (gd (decide ((0 : Int) ≤ n0 ∧ n0 ≤ (↑(List.length (cl x0 1)) : Int))) (gd (decide (0 + k1 ≤ List.length l12)) (gd (gFree 1 (List.take k1 (List.drop 0 l12))) (K (AV.tup [AV.agg [AV.int .i64 (IntKind.wrap .i64 (ci x0 0 + n0)), AV.osl (List.drop (Int.toNat n0) (List.take (List.length (cl x0 1)) (cl x0 1))), AV.osl (tl x1 0), AV.int .i64 (ci x0 3), AV.int .i64 (ci x0 4)], AV.osl (List.take k1 (List.drop 0 l12)), AV.int .i64 (0 : Int)], []))))))) else gd (decide (0 + k1 ≤ List.length l12)) (gd (gFree 1 (List.take k1 (List.drop 0 l12))) (K (AV.tup [AV.agg [AV.int .i64 (ci x0 0), AV.osl (cl x0 1), AV.osl (cl x0 2), AV.int .i64 (ci x0 3), AV.int .i64 (ci x0 4)], AV.osl (List.take k1 (List.drop 0 l12)), AV.int .i64 (0 : Int)], []))))))) := by kernel_rfl
end
noncomputable def F_cut : Fam Try.prog := { f := 60, ι := List Spn × Spn, pre := fun p => p.1.length ≤ 9223372036854775806, args := fun p => [.osl (prows p.1), p.2.av], res := fun p => .tup [.osl (prows (cutR p.1 p.2)), .int .i64 (cutE p.1 p.2)], ok := fun p h => L04c.cut_fn p.1 p.2 h, inj := fun s t h => by simp at h; rw [prows_inj h.1, av_inj h.2] }
theorem byte_at {xs : List AV} (hx : IsB xs) {i : Nat} (hi : i < xs.length) : xs[i]? = some (.int .u8 (byteAt xs i)) := by simpa using el_b xs i hx hi
theorem nz_ok (c : Int) : FnOk Try.prog 93 [.int .u8 c] (.bool !(c == 0)) := fn_mk [] [] (by kernel_rfl) mixed (by kernel_rfl) (From.of (nz_0 c))
noncomputable def F_nz : Fam Try.prog := { f := 93, ι := Int, pre := fun _ => True, args := fun c => [.int .u8 c], res := fun c => .bool !(c == 0), ok := fun c _ => nz_ok c, inj := fun s t h => by simp at h; rw [h] }
theorem ixf_all {V : EV} {M : EM} (e : ∀ c : Int, V 93 [.int .u8 c] = some (.bool !(c == 0))) (xs : List AV) (hx : IsB xs) (hl : xs.length ≤ 9223372036854775806) (hz : zeroB xs = true) : ∀ k i, i + k = xs.length →
    (Dixf V M).From 26 ⟨[.osl xs, .fn 93 [] [], .int .i64 xs.length, .int .i64 i], []⟩ = some (.int .i64 (-1), [])
  | 0, i, h => by
    refine From.of ((ixf_1 _ _ _).trans ?_)
    simp [show ¬ ((i : Int) < (xs.length : Int)) by omega]
  | k + 1, i, h => by
    refine From.of ((ixf_1 _ _ _).trans ?_)
    have ih := ixf_all (M := M) e xs hx hl hz k (i + 1) (by omega)
    have h0 := zeroB_iff.1 hz i (by omega)
    simp at ih
    simp [show (i : Int) < (xs.length : Int) by omega, byte_at hx (show i < xs.length by omega), w64 (n := (i : Int) + 1) (by omega) (by omega), e, h0, ih]
theorem ixf_one {V : EV} {M : EM} (e : ∀ c : Int, V 93 [.int .u8 c] = some (.bool !(c == 0))) (xs : List AV) (hx : IsB xs) (hl : xs.length ≤ 9223372036854775806) (hz : zeroB xs = false) : ∀ k i, i + k = nzi xs →
    (Dixf V M).From 26 ⟨[.osl xs, .fn 93 [] [], .int .i64 xs.length, .int .i64 i], []⟩ = some (.int .i64 (nzi xs), [])
  | 0, i, h => by
    refine From.of ((ixf_1 _ _ _).trans ?_)
    obtain ⟨n1, n2, n3⟩ := nzi_spec hz
    obtain rfl : i = nzi xs := by omega
    simp [show ((nzi xs : Int) < (xs.length : Int)) by omega, byte_at hx n1, e, show (byteAt xs (nzi xs) == 0) = false by simpa using n2]
  | k + 1, i, h => by
    refine From.of ((ixf_1 _ _ _).trans ?_)
    obtain ⟨n1, n2, n3⟩ := nzi_spec hz
    have ih := ixf_one (M := M) e xs hx hl hz k (i + 1) (by omega)
    have h0 := n3 i (by omega)
    simp at ih
    simp [show (i : Int) < (xs.length : Int) by omega, byte_at hx (show i < xs.length by omega), w64 (n := (i : Int) + 1) (by omega) (by omega), e, h0, ih]
theorem ixf_ok (xs : List AV) (hx : IsB xs) (hl : xs.length ≤ 9223372036854775806) : FnOk Try.prog 101 [.osl xs, .fn 93 [] []] (.int .i64 (nzI xs)) := by
  refine fn_mk [F_nz] [] (by kernel_rfl) mixed (by kernel_rfl) (From.of ((ixf_0 _).trans ?_))
  have e : ∀ c : Int, envV [F_nz] 93 [.int .u8 c] = some (.bool !(c == 0)) := fun c => envV_at F_nz c trivial [] [] rfl
  unfold nzI
  cases hz : zeroB xs with
  | true => exact ixf_all e xs hx hl hz xs.length 0 (by omega)
  | false => exact ixf_one e xs hx hl hz (nzi xs) 0 (by omega)
noncomputable def F_ixf : Fam Try.prog := { f := 101, ι := List AV, pre := fun xs => IsB xs ∧ xs.length ≤ 9223372036854775806, args := fun xs => [.osl xs, .fn 93 [] []], res := fun xs => .int .i64 (nzI xs), ok := fun c h => ixf_ok c h.1 h.2, inj := fun s t h => by simp at h; rw [h] }
theorem ctf_ok (xs : List AV) (hx : IsB xs) (hl : xs.length ≤ 9223372036854775806) : FnOk Try.prog 92 [.osl xs, .fn 93 [] []] (.bool !(zeroB xs)) := by
  refine fn_mk [F_ixf] [] (by kernel_rfl) mixed (by kernel_rfl) (From.of ((ctf_0 _).trans ?_))
  rw [show envV [F_ixf] 101 [.osl xs, .fn 93 [] []] = some (.int .i64 (nzI xs)) from envV_at F_ixf xs ⟨hx, hl⟩ [] [] rfl]
  unfold nzI
  cases hz : zeroB xs <;> simp
noncomputable def F_ctf : Fam Try.prog := { f := 92, ι := List AV, pre := fun xs => IsB xs ∧ xs.length ≤ 9223372036854775806, args := fun xs => [.osl xs, .fn 93 [] []], res := fun xs => .bool !(zeroB xs), ok := fun c h => ctf_ok c h.1 h.2, inj := fun s t h => by simp at h; rw [h] }
structure Wv where
  base : Int
  b : List AV
  l : List Spn
  cap : Int
  end_ : Int
abbrev Wv.av (w : Wv) : AV := .agg [.int .i64 w.base, .osl w.b, .osl (prows w.l), .int .i64 w.cap, .int .i64 w.end_]
def Wv.none : Wv := ⟨0, [], [], 0, 0⟩
abbrev Wv.may (w : Wv) : Bool := mayW w.base w.b w.l w.cap w.end_
structure Wv.Ok (w : Wv) : Prop where
  b : IsB w.b
  bl : w.b.length ≤ 140737488355
  ll : w.l.length ≤ 140737488355
theorem wv_inj {s t : Wv} (h : s.av = t.av) : s = t := by
  obtain ⟨a, b, c, d, e⟩ := s; obtain ⟨a', b', c', d', e'⟩ := t
  simp only [AV.agg.injEq, List.cons.injEq, AV.int.injEq, AV.osl.injEq, true_and, and_true] at h
  obtain ⟨rfl, rfl, h, rfl, rfl⟩ := h
  rw [prows_inj h]
theorem upto_ok (w : Wv) (hw : w.Ok) : FnOk Try.prog 54 [w.av] (.int .i64 (uptoP w.base w.l)) := by
  refine fn_mk [] [] (by kernel_rfl) mixed (by kernel_rfl) (From.of ((upto_0 _ _ _ _ _).trans ?_))
  have hl := hw.ll
  unfold uptoP
  by_cases h : w.l.length = 0
  · simp [h]
  · have e : IntKind.wrap .i64 ((w.l.length : Int) - 1) = ((w.l.length - 1 : Nat) : Int) := by rw [w64 (by omega) (by omega)]; omega
    have h2 : w.l[w.l.length - 1]? = some (pth w.l (w.l.length - 1)) := by rw [List.getElem?_eq_getElem (by omega), pth_get]
    have h3 : ((w.l.length : Int) == 0) = false := by simpa using h
    simp [h3, e, h2, Spn.av, h]
noncomputable def F_upto : Fam Try.prog := { f := 54, ι := Wv, pre := Wv.Ok, args := fun w => [w.av], res := fun w => .int .i64 (uptoP w.base w.l), ok := upto_ok, inj := fun s t h => by rw [wv_inj (List.cons.inj h).1] }
theorem edge_ok (w : Wv) (h : 0 ≤ w.base ∧ w.base ≤ 2305843009213693952 ∧ 0 ≤ w.cap ∧ w.cap ≤ 65536) : FnOk Try.prog 51 [w.av] (.int .i64 (edgeP w.base w.cap)) := by
  refine fn_mk [] [] (by kernel_rfl) mixed (by kernel_rfl) (From.of ((edge_0 _ _ _ _ _).trans ?_))
  rw [w64 (by omega) (by omega)]
  rfl
noncomputable def F_edge : Fam Try.prog := { f := 51, ι := Wv, pre := fun w => 0 ≤ w.base ∧ w.base ≤ 2305843009213693952 ∧ 0 ≤ w.cap ∧ w.cap ≤ 65536, args := fun w => [w.av], res := fun w => .int .i64 (edgeP w.base w.cap), ok := edge_ok, inj := fun s t h => by rw [wv_inj (List.cons.inj h).1] }
theorem blank_loop {V : EV} {M : EM} (w : Wv) (hw : w.Ok) (e : ∀ xs, IsB xs → xs.length ≤ 9223372036854775806 → V 92 [.osl xs, .fn 93 [] []] = some (.bool !(zeroB xs))) (k0 : 0 ≤ w.base) (hb : uptoP w.base w.l ≤ w.base + w.b.length) :
    ∀ (m : List Spn) (i : Nat) (a : Int), w.l.drop i = m → Can m → w.base ≤ a → (∀ s ∈ m, a ≤ s.a) → (∀ s ∈ m, s.b ≤ uptoP w.base w.l) → uptoP w.base w.l ≤ 4611686018427387904 →
    (Dblank V M).From 58 ⟨[.ptr 1000000 0 0 0, .int .i64 a, .osl (prows w.l), .int .i64 w.l.length, .int .i64 i], [some ⟨[w.av], false, true⟩]⟩ = some (.bool (blankP w.base w.b a m), [])
  | [], i, a, h, hc, h0, h1, h2, h3 => by
    refine From.of ((blank_1 _ _ _ _ _ _ _ _ _).trans ?_)
    have := drop_end h
    simp [show ¬ ((i : Int) < (w.l.length : Int)) by omega, blankP]
  | s :: m, i, a, h, hc, h0, h1, h2, h3 => by
    refine From.of ((blank_1 _ _ _ _ _ _ _ _ _).trans ?_)
    obtain ⟨g1, g2, g3⟩ := drop_get h
    have hll := hw.ll
    have hs := h1 s (List.mem_cons_self ..)
    have hs2 := h2 s (List.mem_cons_self ..)
    have ho := hc.one s (List.mem_cons_self ..)
    have hup := (List.pairwise_cons.1 hc.up).1
    have ih := blank_loop (M := M) w hw e k0 hb m (i + 1) s.b g3 hc.tail (by omega) (fun x hx => by have := hup x hx; omega) (fun x hx => h2 x (List.mem_cons_of_mem _ hx)) h3
    have ec := e (List.drop (a - w.base).toNat (List.take (s.a - w.base).toNat w.b)) (IsB.drop (IsB.take hw.b _) _) (by have := hw.bl; simp; omega)
    have gc : gCel 1 w.b = true := IsB.one hw.b
    simp at ih
    simp [show (i : Int) < (w.l.length : Int) by omega, g1, Spn.av, w64 (n := (i : Int) + 1) (by omega) (by omega), w64 (n := s.a - w.base) (by omega) (by omega), w64 (n := a - w.base) (by omega) (by omega), gc, ec, ih, blankP]
    rw [gd_of (by simp; omega), gd_of (by simp; omega)]
    cases zeroB (List.drop (a - w.base).toNat (List.take (s.a - w.base).toNat w.b)) <;> simp [ih]
structure Wv.Bl (w : Wv) : Prop where
  ok : w.Ok
  m : mayP w.l = true
  k0 : 0 ≤ w.base
  k1 : 0 < w.l.length → w.base ≤ (pth w.l 0).a
  k2 : uptoP w.base w.l - w.base = w.b.length
  k3 : w.base ≤ 2305843009213693952
theorem blank_ok (w : Wv) (h : w.Bl) : FnOk Try.prog 58 [w.av] (.bool (blankP w.base w.b w.base w.l)) := by
  refine fn_mk [F_ctf] [] (by kernel_rfl) mixed (by kernel_rfl) (From.of ((blank_0 _ _ _ _ _).trans ?_))
  have hc := (may_iff.1 h.m).2
  have := blank_loop (V := envV [F_ctf]) (M := envM (P := Try.prog) []) w h.ok (fun xs hx hl => envV_at F_ctf xs ⟨hx, hl⟩ [] [] rfl) h.k0 (by have := h.k2; omega) w.l 0 w.base rfl hc (Int.le_refl _)
    (fun s hs => by
      have h0 : 0 < w.l.length := List.length_pos_of_mem hs
      have h1 := h.k1 h0
      obtain ⟨i, hi, rfl⟩ := List.getElem_of_mem hs
      by_cases c : i = 0
      · subst c; rw [pth_get]; exact h1
      · have := List.pairwise_iff_getElem.1 hc.up 0 i h0 hi (by omega)
        have h2 := hc.one w.l[0] (List.getElem_mem _)
        rw [pth_get] at this h2
        omega)
    (fun s hs => by
      have := upto_lt (base := w.base) hc (n := s.b - 1) ⟨s, hs, by have := hc.one s hs; omega, by omega⟩
      omega) (upto_rng h.m h.k0 h.k3).2
  simpa using this
noncomputable def F_blank : Fam Try.prog := { f := 58, ι := Wv, pre := Wv.Bl, args := fun w => [w.av], res := fun w => .bool (blankP w.base w.b w.base w.l), ok := blank_ok, inj := fun s t h => by rw [wv_inj (List.cons.inj h).1] }
theorem wmay_from {V : EV} {M : EM} (w : Wv) (hw : w.Ok) (e1 : V 57 [.osl (prows w.l)] = some (.bool (mayP w.l))) (e2 : V 54 [w.av] = some (.int .i64 (uptoP w.base w.l)))
    (e3 : (0 ≤ w.base ∧ w.base ≤ 2305843009213693952 ∧ 0 ≤ w.cap ∧ w.cap ≤ 65536) → V 51 [w.av] = some (.int .i64 (edgeP w.base w.cap))) (e4 : w.Bl → V 58 [w.av] = some (.bool (blankP w.base w.b w.base w.l))) :
    (Dwmay V M).From 0 ⟨[w.av], []⟩ = some (.bool w.may, []) := by
  refine From.of ((wmay_0 _ _ _ _ _).trans ?_)
  have key : ∀ r : Bool, (r = true ↔ w.may = true) → (some (AV.bool r, []) : Option Res) = some (.bool w.may, []) := fun r h => by rw [Bool.eq_iff_iff.2 h]
  by_cases c1 : w.cap < 0
  · simp only [c1, decide_true, cond_true]; exact key _ ⟨fun h => (by cases h), fun h => by rw [mayW_iff] at h; omega⟩
  by_cases c2 : w.cap > 65536
  · simp only [c1, c2, decide_true, decide_false, cond_true, cond_false]; exact key _ ⟨fun h => (by cases h), fun h => by rw [mayW_iff] at h; omega⟩
  by_cases c3 : w.base < 0
  · simp only [c1, c2, c3, decide_true, decide_false, cond_true, cond_false]; exact key _ ⟨fun h => (by cases h), fun h => by rw [mayW_iff] at h; omega⟩
  by_cases c4 : w.base > 2305843009213693952
  · simp only [c1, c2, c3, c4, decide_true, decide_false, cond_true, cond_false]; exact key _ ⟨fun h => (by cases h), fun h => by rw [mayW_iff] at h; omega⟩
  simp only [c1, c2, c3, c4, decide_true, decide_false, cond_true, cond_false, e1, e2, e3 ⟨by omega, by omega, by omega, by omega⟩, Option.bind_some, fitA_one, fit_one, ok1_bool, ok1_int, gd_true, getb_bool, geti_int]
  cases c5 : mayP w.l with
  | false => simp only [Bool.not_false, cond_true]; exact key _ ⟨fun h => (by cases h), fun h => by rw [mayW_iff, c5] at h; cases h.2.1⟩
  | true =>
    simp only [Bool.not_true, cond_false]
    have hr := upto_rng c5 (base := w.base) (by omega) (by omega)
    rw [w64 (n := uptoP w.base w.l - w.base) (by omega) (by omega)]
    have fin : ¬ (0 < w.l.length ∧ (pth w.l 0).a < w.base) → (bif decide (uptoP w.base w.l > edgeP w.base w.cap) then some (AV.bool false, []) else bif !(w.b.length : Int) == uptoP w.base w.l - w.base then some (AV.bool false, []) else bif w.end_ == -1 then (V 58 [w.av]).bind (fun x => gd (fitA [.one .bool] x) (some (AV.bool x.getb, []))) else
        bif decide (w.end_ ≥ uptoP w.base w.l) then (V 58 [w.av]).bind (fun x => gd (fitA [.one .bool] x) (some (AV.bool x.getb, []))) else some (AV.bool false, [])) = (some (.bool w.may, []) : Option Res) := by
      intro c6
      by_cases c7 : uptoP w.base w.l > edgeP w.base w.cap
      · simp only [c7, decide_true, cond_true]; exact key _ ⟨fun h => (by cases h), fun h => by rw [mayW_iff] at h; omega⟩
      by_cases c8 : (w.b.length : Int) = uptoP w.base w.l - w.base
      · have hB := e4 ⟨hw, c5, by omega, fun h => Int.not_lt.1 fun hh => c6 ⟨h, hh⟩, by omega, by omega⟩
        by_cases c9 : w.end_ = -1
        · simp only [c7, c8, c9, decide_false, cond_false, beq_self_eq_true, Bool.not_true, cond_true, hB, Option.bind_some, fitA_one, fit_one, ok1_bool, gd_true, getb_bool]
          exact key _ ⟨fun h => by rw [mayW_iff]; exact ⟨by omega, c5, ⟨c6, by omega, c8⟩, .inl c9, h⟩, fun h => by rw [mayW_iff] at h; exact h.2.2.2.2⟩
        · have c9' : (w.end_ == -1) = false := by simpa using c9
          by_cases c10 : w.end_ ≥ uptoP w.base w.l
          · simp only [c7, c8, c9', c10, decide_true, decide_false, cond_false, beq_self_eq_true, Bool.not_true, cond_true, hB, Option.bind_some, fitA_one, fit_one, ok1_bool, gd_true, getb_bool]
            exact key _ ⟨fun h => by rw [mayW_iff]; exact ⟨by omega, c5, ⟨c6, by omega, c8⟩, .inr c10, h⟩, fun h => by rw [mayW_iff] at h; exact h.2.2.2.2⟩
          · simp only [c7, c8, c9', c10, decide_false, cond_false, beq_self_eq_true, Bool.not_true]
            exact key _ ⟨fun h => (by cases h), fun h => by rw [mayW_iff] at h; omega⟩
      · have c8' : ((w.b.length : Int) == uptoP w.base w.l - w.base) = false := by simpa using c8
        simp only [c7, c8', decide_false, cond_false, Bool.not_false, cond_true]; exact key _ ⟨fun h => (by cases h), fun h => by rw [mayW_iff] at h; omega⟩
    by_cases c6 : 0 < w.l.length
    · have e0 : w.l[0]? = some (pth w.l 0) := by rw [List.getElem?_eq_getElem c6, pth_get]
      simp only [prows_length, show ((w.l.length : Int) > 0) by omega, decide_true, cond_true, prows_get, e0, Option.map_some, Option.bind_some, Spn.av, fit_agg, okL_cons, okL_nil, ok1_int, Bool.and_self, gd_true, ci_agg, List.getD_cons_zero, geti_int]
      by_cases c7 : (pth w.l 0).a < w.base
      · simp only [c7, decide_true, cond_true]; exact key _ ⟨fun h => (by cases h), fun h => by rw [mayW_iff] at h; exact absurd ⟨c6, c7⟩ h.2.2.1.1⟩
      · simp only [c7, decide_false, cond_false]; exact fin fun h => c7 h.2
    · simp only [prows_length, show ¬ ((w.l.length : Int) > 0) by omega, decide_false, cond_false]
      exact fin fun h => c6 h.1
theorem wmay_ok (w : Wv) (hw : w.Ok) : FnOk Try.prog 17 [w.av] (.bool w.may) :=
  fn_mk [F_may, F_upto, F_edge, F_blank] [] (by kernel_rfl) mixed (by kernel_rfl) (wmay_from w hw (envV_at F_may w.l (by have := hw.ll; show w.l.length ≤ _; omega) [] _ rfl) (envV_at F_upto w hw [F_may] _ rfl) (fun h => envV_at F_edge w h [F_may, F_upto] _ rfl) fun h => envV_at F_blank w h [F_may, F_upto, F_edge] _ rfl)
noncomputable def F_wmay : Fam Try.prog := { f := 17, ι := Wv, pre := Wv.Ok, args := fun w => [w.av], res := fun w => .bool w.may, ok := wmay_ok, inj := fun s t h => by rw [wv_inj (List.cons.inj h).1] }
def readyP (w : Wv) : Int := if w.may = true then IntKind.wrap .i64 (gapP w.l w.base - w.base) else 0
def edgeW (w : Wv) : Int := if w.may = true then edgeP w.base w.cap else 0
def overW (w : Wv) : Bool := w.may && (w.base == w.end_)
theorem may_rng {w : Wv} (h : w.may = true) : 0 ≤ w.base ∧ w.base ≤ 2305843009213693952 ∧ 0 ≤ w.cap ∧ w.cap ≤ 65536 := by rw [mayW_iff] at h; omega
theorem wedge_ok (w : Wv) (hw : w.Ok) : FnOk Try.prog 18 [w.av] (.int .i64 (edgeW w)) := by
  refine fn_mk [F_wmay, F_edge] [] (by kernel_rfl) mixed (by kernel_rfl) (From.of ((wedge_0 _ _ _ _ _).trans ?_))
  rw [show envV [F_wmay, F_edge] 17 [w.av] = some (.bool w.may) from envV_at F_wmay w hw [] _ rfl]
  unfold edgeW
  cases h : w.may with
  | false => simp
  | true =>
    rw [show envV [F_wmay, F_edge] 51 [w.av] = some (.int .i64 (edgeP w.base w.cap)) from envV_at F_edge w (may_rng h) [F_wmay] _ rfl]
    simp
noncomputable def F_wedge : Fam Try.prog := { f := 18, ι := Wv, pre := Wv.Ok, args := fun w => [w.av], res := fun w => .int .i64 (edgeW w), ok := wedge_ok, inj := fun s t h => by rw [wv_inj (List.cons.inj h).1] }
theorem wready_ok (w : Wv) (hw : w.Ok) : FnOk Try.prog 19 [w.av] (.int .i64 (readyP w)) := by
  refine fn_mk [F_wmay, F_gap] [] (by kernel_rfl) mixed (by kernel_rfl) (From.of ((wready_0 _ _ _ _ _).trans ?_))
  rw [show envV [F_wmay, F_gap] 17 [w.av] = some (.bool w.may) from envV_at F_wmay w hw [] _ rfl,
    show envV [F_wmay, F_gap] 59 [.osl (prows w.l), .int .i64 w.base] = some (.int .i64 (gapP w.l w.base)) from envV_at F_gap (w.l, w.base) (by have := hw.ll; show w.l.length ≤ _; omega) [F_wmay] _ rfl]
  unfold readyP
  cases h : w.may <;> simp
noncomputable def F_wready : Fam Try.prog := { f := 19, ι := Wv, pre := Wv.Ok, args := fun w => [w.av], res := fun w => .int .i64 (readyP w), ok := wready_ok, inj := fun s t h => by rw [wv_inj (List.cons.inj h).1] }
theorem wover_ok (w : Wv) (hw : w.Ok) : FnOk Try.prog 22 [w.av] (.bool (overW w)) := by
  refine fn_mk [F_wmay] [] (by kernel_rfl) mixed (by kernel_rfl) (From.of ((wover_0 _ _ _ _ _).trans ?_))
  rw [show envV [F_wmay] 17 [w.av] = some (.bool w.may) from envV_at F_wmay w hw [] _ rfl]
  unfold overW
  cases h : w.may <;> simp
noncomputable def F_wover : Fam Try.prog := { f := 22, ι := Wv, pre := Wv.Ok, args := fun w => [w.av], res := fun w => .bool (overW w), ok := wover_ok, inj := fun s t h => by rw [wv_inj (List.cons.inj h).1] }
def newE (room : Int) : Int := if room < 0 ∨ room > 65536 then 1 else 0
def newW (room : Int) : Wv := if room < 0 ∨ room > 65536 then Wv.none else ⟨0, [], [], room, -1⟩
theorem wnew_ok (n : Int) : FnOk Try.prog 20 [.int .i64 n] (.tup [(newW n).av, .int .i64 (newE n)]) := by
  refine fn_mk [] [] (by kernel_rfl) mixed (by kernel_rfl) (From.of ((wnew_0 n).trans ?_))
  unfold newW newE
  by_cases h1 : n < 0
  · simp [h1, Wv.none, prows]
  · by_cases h2 : n > 65536 <;> simp [h1, h2, Wv.none, prows]
noncomputable def F_wnew : Fam Try.prog := { f := 20, ι := Int, pre := fun _ => True, args := fun n => [.int .i64 n], res := fun n => .tup [(newW n).av, .int .i64 (newE n)], ok := fun n _ => wnew_ok n, inj := fun s t h => by simp at h; rw [h] }
theorem own_gd (w : Wv) (hw : w.Ok) : gRow 1 w.b = true ∧ gLen w.b.length 1 = true ∧ gRow 2 (prows w.l) = true ∧ gLen (prows w.l).length 16 = true ∧ gNo w.b = true ∧ gNo (prows w.l) = true ∧ gFree 1 w.b = true := by
  have h1 := hw.bl; have h2 := hw.ll
  refine ⟨IsB.ok hw.b, gLen_of (by omega) (by omega), gRow_rows _, gLen_of (by simp; omega) (by simp; omega), ?_, gNo_rows _, IsB.free hw.b⟩
  exact List.all_eq_true.2 fun x hx => by obtain ⟨n, rfl⟩ := hw.b x hx; rfl
theorem clns_ok : ∀ q ∈ [(88, (1, 1)), (89, (2, 16))], ClnOk Try.prog q.1 q.2.1 q.2.2 := by
  intro q hq
  simp only [List.mem_cons, List.not_mem_nil, or_false] at hq
  rcases hq with rfl | rfl
  · exact R3b.cloneB
  · exact R3b.cloneS
theorem ownV_ok (w : Wv) (hw : w.Ok) : FnOk Try.prog 52 [w.av] w.av := by
  refine fn_mkc [] [] clns_ok (by kernel_rfl) mixed (by kernel_rfl) (From.of ((ownV_0 _ _ _ _ _).trans ?_))
  obtain ⟨g1, g2, g3, g4, g5, g6, g7⟩ := own_gd w hw
  have t1 : w.b.take w.b.length = w.b := List.take_length
  have t2 : (prows w.l).take (prows w.l).length = prows w.l := List.take_length
  simp only [g1, g2, g3, g4, gd_true, Nat.zero_add, Nat.le_refl, decide_true, List.drop_zero, t1, t2, g7, gFree_rows]
noncomputable def F_own : Fam Try.prog := { f := 52, ι := Wv, pre := Wv.Ok, args := fun w => [w.av], res := fun w => w.av, ok := ownV_ok, inj := fun s t h => by rw [wv_inj (List.cons.inj h).1] }
theorem ownM_ok (w : Wv) (hw : w.Ok) : MFn Try.prog 52 [w.av] [] (.agg [.int .i64 w.base, .sl 1 1000000 0 0 w.b.length, .sl 2 1000001 0 0 w.l.length, .int .i64 w.cap, .int .i64 w.end_]) [some ⟨w.b, false, false⟩, some ⟨prows w.l, false, false⟩] := by
  obtain ⟨g1, g2, g3, g4, g5, g6, g7⟩ := own_gd w hw
  refine mfn_mkc (ns := []) [] [] clns_ok (by kernel_rfl) mixed (by kernel_rfl) rfl (From.of ((ownM_0 _ _ _ _ _).trans ?_)) (by simp) ?_
  · rw [prows_length] at g4
    simp only [g1, g2, g3, prows_length, g4, gd_true, g5, g6]
  · show ((false || gNo w.b) && ((false || gNo (prows w.l)) && true)) = true
    rw [g5, g6]; rfl
noncomputable def MF_own : MFam Try.prog := { f := 52, ι := Wv, pre := Wv.Ok, args := fun w => [w.av], bs := fun _ => [], res := fun w => .agg [.int .i64 w.base, .sl 1 1000000 0 0 w.b.length, .sl 2 1000001 0 0 w.l.length, .int .i64 w.cap, .int .i64 w.end_], bs' := fun w => [some ⟨w.b, false, false⟩, some ⟨prows w.l, false, false⟩], ok := ownM_ok, inj := fun s t h _ => by rw [wv_inj (List.cons.inj h).1]; exact ⟨rfl, rfl⟩ }
def shutE (w : Wv) (at_ : Int) : Int := if w.may = true ∧ 0 ≤ at_ ∧ at_ ≤ 2305843009213693952 then (if (w.end_ ≠ -1 ∧ w.end_ ≠ at_) ∨ at_ < uptoP w.base w.l then 5 else 0) else 1
def shutW (w : Wv) (at_ : Int) : Wv := if shutE w at_ = 0 then { w with end_ := at_ } else Wv.none
theorem wshut_ok (w : Wv) (hw : w.Ok) (n : Int) : FnOk Try.prog 21 [w.av, .int .i64 n] (.tup [(shutW w n).av, .int .i64 (shutE w n)]) := by
  refine fn_mk [F_wmay, F_own, F_upto] [] (by kernel_rfl) mixed (by kernel_rfl) (From.of ((wshut_0 _ _ _ _ _ _).trans ?_))
  rw [show envV [F_wmay, F_own, F_upto] 17 [w.av] = some (.bool w.may) from envV_at F_wmay w hw [] _ rfl,
    show envV [F_wmay, F_own, F_upto] 52 [w.av] = some w.av from envV_at F_own w hw [F_wmay] _ rfl,
    show envV [F_wmay, F_own, F_upto] 54 [w.av] = some (.int .i64 (uptoP w.base w.l)) from envV_at F_upto w hw [F_wmay, F_own] _ rfl]
  unfold shutW shutE
  cases h : w.may with
  | false => simp [Wv.none, prows]
  | true =>
    by_cases h1 : n < 0
    · simp [h1, Wv.none, prows, show ¬ (0 ≤ n ∧ n ≤ 2305843009213693952) by omega]
    by_cases h2 : n > 2305843009213693952
    · simp [h1, h2, Wv.none, prows, show ¬ (0 ≤ n ∧ n ≤ 2305843009213693952) by omega]
    have h3 : 0 ≤ n ∧ n ≤ 2305843009213693952 := by omega
    by_cases h4 : w.end_ = -1 <;> by_cases h5 : w.end_ = n <;> by_cases h6 : n < uptoP w.base w.l <;> simp [h1, h2, h3, h4, h5, h6, Wv.none, prows]
    have q1 : (w.end_ == -1) = false := by simpa using h4
    have q2 : (w.end_ == n) = false := by simpa using h5
    simp [q1, q2, prows]
noncomputable def F_wshut : Fam Try.prog := { f := 21, ι := Wv × Int, pre := fun p => p.1.Ok, args := fun p => [p.1.av, .int .i64 p.2], res := fun p => .tup [(shutW p.1 p.2).av, .int .i64 (shutE p.1 p.2)], ok := fun p h => wshut_ok p.1 h p.2, inj := fun s t h => by rw [wv_inj (List.cons.inj h).1, (AV.int.inj (List.cons.inj (List.cons.inj h).2).1).2] }
theorem mayOf {w : Wv} (h : w.may = true) : MayW w.base w.b w.l w.cap w.end_ := mayW_plain.1 h
theorem ready_le {w : Wv} (h : w.may = true) : w.base ≤ gapP w.l w.base ∧ gapP w.l w.base ≤ w.base + w.b.length ∧ readyP w = gapP w.l w.base - w.base ∧ (∀ n, w.base ≤ n → n < gapP w.l w.base → mem w.l n) ∧ ¬ mem w.l (gapP w.l w.base) := by
  have hm := mayOf h
  have e : gapP w.l w.base = w.l.foldl gapF w.base := by
    have h0 := hm.b0
    unfold gapP; rw [if_pos (may_iff.2 ⟨hm.ll, hm.can⟩), if_neg (by omega)]
  obtain ⟨g1, g2, g3⟩ := gap_spec hm.can w.base
  rw [← e] at g1 g2 g3
  have h2 : gapP w.l w.base ≤ w.base + w.b.length := by
    by_cases c : w.base < gapP w.l w.base
    · have := upto_lt (base := w.base) hm.can (g3 (gapP w.l w.base - 1) (by omega) (by omega))
      have := hm.bl; omega
    · omega
  have h3 := hm.edge; have h4 := hm.ue; have h5 := hm.bl
  exact ⟨g1, h2, by unfold readyP; rw [if_pos h, w64 (by omega) (by omega)], g3, g2⟩
def readK (w : Wv) (n : Int) : Nat := (if readyP w < n then readyP w else n).toNat
def readE (w : Wv) (n : Int) : Int := if w.may = true ∧ 0 ≤ n then 0 else 1
def readW (w : Wv) (n : Int) : Wv := if w.may = true ∧ 0 ≤ n then (if readK w n = 0 then w else ⟨w.base + readK w n, w.b.drop (readK w n), cutR w.l ⟨w.base, w.base + readK w n⟩, w.cap, w.end_⟩) else Wv.none
def readB (w : Wv) (n : Int) : List AV := if w.may = true ∧ 0 ≤ n then w.b.take (readK w n) else []
def rdC (w : Wv) (k : Int) (i : Nat) : CS := ⟨[.int .i64 k, .ptr 1000000 0 0 0, .ptr 1000001 0 0 0, if i = 0 then .nl else .sl 1 1000002 0 0 i, .int .i64 k, .int .i64 i],
  [some ⟨[w.av], false, true⟩, some ⟨[.agg [.int .i64 0, .nl, .nl, .int .i64 0, .int .i64 0]], false, true⟩] ++ if i = 0 then [] else [some ⟨w.b.take i, false, false⟩]⟩
theorem take_snoc {b : List AV} (hb : IsB b) {i : Nat} (hi : i < b.length) : b.take i ++ [.int .u8 (byteAt b i)] = b.take (i + 1) := by
  rw [List.take_succ_eq_append_getElem hi]
  have := byte_at hb hi
  rw [List.getElem?_eq_getElem hi] at this
  rw [Option.some.inj this]
theorem isb_no {b : List AV} (hb : IsB b) : gNo b = true := List.all_eq_true.2 fun x hx => by obtain ⟨n, rfl⟩ := hb x hx; rfl
theorem read_step {V : EV} {M : EM} (w : Wv) (hw : w.Ok) (k i : Nat) (hk : k ≤ w.b.length) (hi : i < k) : (Dwread V M).From 250 (rdC w k i) = (Dwread V M).From 250 (rdC w k (i + 1)) := by
  have hbl := hw.bl
  have hb := byte_at hw.b (show i < w.b.length by omega)
  have hn : IntKind.wrap .i64 ((i : Int) + 1) = ((i + 1 : Nat) : Int) := w64 (by omega) (by omega)
  have hlt : ((i : Int) < (k : Int)) := by omega
  unfold rdC
  by_cases c : i = 0
  · subst c
    refine From.of ((wread_1 _ _ _ _ _ _ _ _ _ _ _).trans ?_)
    have h1 := take_snoc hw.b (show 0 < w.b.length by omega)
    have hb' : w.b[0]? = some (.int .u8 (byteAt w.b 0)) := hb
    have h1' : w.b.take 1 = [.int .u8 (byteAt w.b 0)] := by rw [← h1]; rfl
    have hn' : IntKind.wrap .i64 (1 : Int) = 1 := by decide
    simp [hlt, hb', hn', h1', show 0 < k by omega]
  · simp only [if_neg c, if_neg (Nat.succ_ne_zero i), List.cons_append, List.nil_append]
    refine From.of ((wread_2 _ _ _ _ _ _ _ _ _ _ _ _ _).trans ?_)
    have h1 := take_snoc hw.b (show i < w.b.length by omega)
    have t1 : (w.b.take i).take i = w.b.take i := by rw [List.take_take, Nat.min_self]
    have l1 : (w.b.take i).length = i := by simp; omega
    simp [hlt, hb, hn, t1, h1, l1, gLen_of (n := i + 1) (by_ := 1) (by omega) (by omega), isb_no (IsB.take hw.b (i + 1))]
theorem read_loop {V : EV} {M : EM} (w : Wv) (hw : w.Ok) (k : Nat) (hk : k ≤ w.b.length) : ∀ i, i ≤ k → (Dwread V M).From 250 (rdC w k 0) = (Dwread V M).From 250 (rdC w k i)
  | 0, _ => rfl
  | i + 1, h => by rw [read_loop w hw k hk i (by omega), read_step w hw k i hk (by omega)]
theorem read_end {V : EV} {M : EM} (w : Wv) (hw : w.Ok) (k : Nat) (hk : k ≤ w.b.length) (hr : -9223372036854775808 ≤ w.base + k ∧ w.base + k ≤ 9223372036854775807) (e1 : V 52 [w.av] = some w.av)
    (e2 : V 60 [.osl (prows w.l), .agg [.int .i64 w.base, .int .i64 (w.base + k)]] = some (.tup [.osl (prows (cutR w.l ⟨w.base, w.base + k⟩)), .int .i64 (cutE w.l ⟨w.base, w.base + k⟩)])) :
    (Dwread V M).From 250 (rdC w k k) = some (.tup [(if k = 0 then w else ⟨w.base + k, w.b.drop k, cutR w.l ⟨w.base, w.base + k⟩, w.cap, w.end_⟩ : Wv).av, .osl (w.b.take k), .int .i64 0], []) := by
  unfold rdC
  by_cases c : k = 0
  · subst c
    refine From.of ((wread_1 _ _ _ _ _ _ _ _ _ _ _).trans ?_)
    simp [e1]
  · simp only [if_neg c, List.cons_append, List.nil_append]
    refine From.of ((wread_2 _ _ _ _ _ _ _ _ _ _ _ _ _).trans ?_)
    have l1 : (w.b.take k).length = k := by simp; omega
    have gc : gCel 1 w.b = true := IsB.one hw.b
    have t1 : (w.b.take k).take k = w.b.take k := by rw [List.take_take, Nat.min_self]
    have gf : gFree 1 (w.b.take k) = true := IsB.free (IsB.take hw.b k)
    have hpos : ((k : Int) > 0) := by omega
    simp [e1, hpos, show 0 < k by omega, w64 hr.1 hr.2, e2, gc, hk, l1, t1, gf]
theorem wread_ok (w : Wv) (hw : w.Ok) (n : Int) : FnOk Try.prog 23 [w.av, .int .i64 n] (.tup [(readW w n).av, .osl (readB w n), .int .i64 (readE w n)]) := by
  refine fn_mk [F_wmay, F_wready, F_own, F_cut] [] (by kernel_rfl) mixed (by kernel_rfl) (From.of ((wread_0 _ _ _ _ _ _).trans ?_))
  have hll := hw.ll
  rw [show envV [F_wmay, F_wready, F_own, F_cut] 17 [w.av] = some (.bool w.may) from envV_at F_wmay w hw [] _ rfl,
    show envV [F_wmay, F_wready, F_own, F_cut] 19 [w.av] = some (.int .i64 (readyP w)) from envV_at F_wready w hw [F_wmay] _ rfl]
  unfold readW readB readE
  cases h : w.may with
  | false => simp [Wv.none, prows]
  | true =>
    by_cases h1 : n < 0
    · simp [h1, Wv.none, prows, show ¬ (0 ≤ n) by omega]
    · obtain ⟨g1, g2, g3, _⟩ := ready_le h
      have hr := may_rng h
      have hbl := hw.bl
      have ek : (if readyP w < n then readyP w else n) = (readK w n : Int) := by
        have : 0 ≤ (if readyP w < n then readyP w else n) := by split <;> omega
        unfold readK; omega
      have hk : readK w n ≤ w.b.length := by
        have : (if readyP w < n then readyP w else n) ≤ readyP w := by split <;> omega
        omega
      have := (read_loop (V := envV [F_wmay, F_wready, F_own, F_cut]) (M := envM (P := Try.prog) []) w hw (readK w n) hk (readK w n) (Nat.le_refl _)).trans
        (read_end w hw (readK w n) hk (by omega) (envV_at F_own w hw [F_wmay, F_wready] _ rfl) (envV_at F_cut (w.l, ⟨w.base, w.base + readK w n⟩) (by show w.l.length ≤ _; omega) [F_wmay, F_wready, F_own] _ rfl))
      simp only [Option.bind_some, fitA_one, fit_one, ok1_bool, ok1_int, gd_true, getb_bool, geti_int, Bool.not_true, cond_false, h1, decide_false, decide_true, ek]
      have h0 : 0 ≤ n := by omega
      simp only [h0, and_self, if_true]
      rw [← show rdC w (if readyP w < n then readyP w else n) 0 = rdC w (readK w n) 0 by rw [ek]] at this
      exact this
noncomputable def F_wread : Fam Try.prog := { f := 23, ι := Wv × Int, pre := fun p => p.1.Ok, args := fun p => [p.1.av, .int .i64 p.2], res := fun p => .tup [(readW p.1 p.2).av, .osl (readB p.1 p.2), .int .i64 (readE p.1 p.2)], ok := fun p h => wread_ok p.1 h p.2, inj := fun s t h => by rw [wv_inj (List.cons.inj h).1, (AV.int.inj (List.cons.inj (List.cons.inj h).2).1).2] }
end Vai.L06
