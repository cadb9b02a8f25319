import Derived.Test.YtjienkojedlfjaaNB6
import Derived.Test.YtjienkojedlfjaaNR
namespace Vai.L06
open Go Go.Proofs Vai Vai.L04
set_option maxRecDepth 100000
set_option linter.unusedVariables false
set_option linter.unusedSimpArgs false
section
variable {R : Type} {V : EV} {M : EM} {G : Nat → CS → Option R} {K : Res → Option R}
noncomputable abbrev Dr6own : EV → EM → Dn := dnV Try.prog 25 [] [] []
theorem r6own_0 (a0_0 : Int) (a0_1 : List AV) (a0_2 : List AV) (a0_3 : Int) (a0_4 : Int) : (Dr6own V M).stepK G K 0 ⟨[.agg [.int .i64 a0_0, .osl a0_1, .osl a0_2, .int .i64 a0_3, .int .i64 a0_4]], []⟩ =
    gd (gRow 1 a0_1) (gd (gLen (0 + List.length a0_1) 1) (gd (gRow 2 a0_2) (gd (gLen (0 + List.length a0_2) 16) (gd (decide (0 + (0 + List.length a0_1) ≤ List.length a0_1)) (gd (gFree 1 (List.take (0 + List.length a0_1) (List.drop 0 a0_1))) (gd (decide (0 + (0 + List.length a0_2) ≤ List.length a0_2)) (gd (gFree 2 (List.take (0 + List.length a0_2) (List.drop 0 a0_2))) (K (AV.agg [AV.int .i64 a0_0, AV.osl (List.take (0 + List.length a0_1) (List.drop 0 a0_1)), AV.osl (List.take (0 + List.length a0_2) (List.drop 0 a0_2)), AV.int .i64 a0_3, AV.int .i64 a0_4], []))))))))) := by kernel_rfl
noncomputable abbrev Dr6upto : EV → EM → Dn := dnV Try.prog 64 [] [] []
theorem r6upto_0 (a0_0 : Int) (a0_1 : List AV) (a0_2 : List AV) (a0_3 : Int) (a0_4 : Int) : (Dr6upto V M).stepK G K 0 ⟨[.agg [.int .i64 a0_0, .osl a0_1, .osl a0_2, .int .i64 a0_3, .int .i64 a0_4]], []⟩ =
    (bif (↑(List.length a0_2) : Int) == (0 : Int) then K (AV.int .i64 a0_0, []) else gd (decide ((0 : Int) ≤ IntKind.wrap .i64 ((↑(List.length a0_2) : Int) - (1 : Int)))) (Option.bind (a0_2[Int.toNat (IntKind.wrap .i64 ((↑(List.length a0_2) : Int) - (1 : Int)))]?) (fun x0 => gd (Vw.fit (.agg [.int .i64, .int .i64]) x0) (K (AV.int .i64 (ci x0 1), []))))) := by kernel_rfl
noncomputable abbrev Dr6end : EV → EM → Dn := dnV Try.prog 61 [] [] []
theorem r6end_0 (a0_0 : Int) (a0_1 : List AV) (a0_2 : List AV) (a0_3 : Int) (a0_4 : Int) : (Dr6end V M).stepK G K 0 ⟨[.agg [.int .i64 a0_0, .osl a0_1, .osl a0_2, .int .i64 a0_3, .int .i64 a0_4]], []⟩ =
    (bif decide (IntKind.wrap .i64 (a0_0 + a0_3) > (2305843009213693952 : Int)) then K (AV.int .i64 (2305843009213693952 : Int), []) else K (AV.int .i64 (IntKind.wrap .i64 (a0_0 + a0_3)), [])) := by kernel_rfl
noncomputable abbrev Dr6may : EV → EM → Dn := dnV Try.prog 33 [61, 63, 64, 66] [] [(250, [1, 4])]
theorem r6may_0 (a0_0 : Int) (a0_1 : List AV) (a0_2 : List AV) (a0_3 : Int) (a0_4 : Int) : (Dr6may V M).stepK G K 0 ⟨[.agg [.int .i64 a0_0, .osl a0_1, .osl a0_2, .int .i64 a0_3, .int .i64 a0_4]], []⟩ =
    Option.bind (V 66 [AV.osl a0_2]) (fun x0 => gd (fitA [.one .bool] x0) ((bif !AV.getb x0 then K (AV.bool false, []) else (bif decide (a0_3 < (0 : Int)) then K (AV.bool false, []) else (bif decide (a0_3 > (65536 : Int)) then K (AV.bool false, []) else (bif decide (a0_0 < (0 : Int)) then K (AV.bool false, []) else (bif decide (a0_0 > (2305843009213693952 : Int)) then K (AV.bool false, []) else (bif decide ((↑(List.length a0_2) : Int) > (0 : Int)) then Option.bind (a0_2[0]?) (fun x4 => gd (Vw.fit (.agg [.int .i64, .int .i64]) x4) ((bif decide (ci x4 0 < a0_0) then K (AV.bool false, []) else Option.bind (V 64 [AV.agg [AV.int .i64 a0_0, AV.osl a0_1, AV.osl a0_2, AV.int .i64 a0_3, AV.int .i64 a0_4]]) (fun x5 => gd (fitA [.one (.int .i64)] x5) (Option.bind (V 61 [AV.agg [AV.int .i64 a0_0, AV.osl a0_1, AV.osl a0_2, AV.int .i64 a0_3, AV.int .i64 a0_4]]) (fun x6 => gd (fitA [.one (.int .i64)] x6) ((bif decide (AV.geti x5 > AV.geti x6) then K (AV.bool false, []) else Option.bind (V 64 [AV.agg [AV.int .i64 a0_0, AV.osl a0_1, AV.osl a0_2, AV.int .i64 a0_3, AV.int .i64 a0_4]]) (fun x7 => gd (fitA [.one (.int .i64)] x7) ((bif !(↑(List.length a0_1) : Int) == IntKind.wrap .i64 (AV.geti x7 - a0_0) then K (AV.bool false, []) else G 250 ({ vs := [AV.ptr 1000000 0 0 0, AV.int .i64 (0 : Int)], bs := [some { es := [AV.agg [AV.int .i64 a0_0, AV.osl a0_1, AV.osl a0_2, AV.int .i64 a0_3, AV.int .i64 a0_4]], fr := false, pt := true }] })))))))))))) else Option.bind (V 64 [AV.agg [AV.int .i64 a0_0, AV.osl a0_1, AV.osl a0_2, AV.int .i64 a0_3, AV.int .i64 a0_4]]) (fun x1 => gd (fitA [.one (.int .i64)] x1) (Option.bind (V 61 [AV.agg [AV.int .i64 a0_0, AV.osl a0_1, AV.osl a0_2, AV.int .i64 a0_3, AV.int .i64 a0_4]]) (fun x2 => gd (fitA [.one (.int .i64)] x2) ((bif decide (AV.geti x1 > AV.geti x2) then K (AV.bool false, []) else Option.bind (V 64 [AV.agg [AV.int .i64 a0_0, AV.osl a0_1, AV.osl a0_2, AV.int .i64 a0_3, AV.int .i64 a0_4]]) (fun x3 => gd (fitA [.one (.int .i64)] x3) ((bif !(↑(List.length a0_1) : Int) == IntKind.wrap .i64 (AV.geti x3 - a0_0) then K (AV.bool false, []) else G 250 ({ vs := [AV.ptr 1000000 0 0 0, AV.int .i64 (0 : Int)], bs := [some { es := [AV.agg [AV.int .i64 a0_0, AV.osl a0_1, AV.osl a0_2, AV.int .i64 a0_3, AV.int .i64 a0_4]], fr := false, pt := true }] }))))))))))))))))) := by kernel_rfl
theorem r6may_1 (n0 : Int) (n1 : Int) (l2 : List AV) (l3 : List AV) (n4 : Int) (n5 : Int) : (Dr6may V M).stepK G K 250 ⟨[(.ptr 1000000 0 0 0), (.int .i64 n0)], [some ⟨[(.agg [(.int .i64 n1), (.osl l2), (.osl l3), (.int .i64 n4), (.int .i64 n5)])], false, true⟩]⟩ =
    (bif decide (n0 < (↑(List.length l2) : Int)) then gd (decide ((0 : Int) ≤ n0)) (Option.bind (l2[Int.toNat n0]?) (fun x1 => gd (Vw.fit (.one (.int .u8)) x1) ((bif !AV.geti x1 == (0 : Int) then Option.bind (V 63 [AV.osl l3, AV.int .i64 (IntKind.wrap .i64 (n1 + n0))]) (fun x2 => gd (fitA [.one .bool] x2) ((bif !AV.getb x2 then K (AV.bool false, []) else G 250 ({ vs := [AV.ptr 1000000 0 0 0, AV.int .i64 (IntKind.wrap .i64 (n0 + (1 : Int)))], bs := [some { es := [AV.agg [AV.int .i64 n1, AV.osl l2, AV.osl l3, AV.int .i64 n4, AV.int .i64 n5]], fr := false, pt := true }] })))) else G 250 ({ vs := [AV.ptr 1000000 0 0 0, AV.int .i64 (IntKind.wrap .i64 (n0 + (1 : Int)))], bs := [some { es := [AV.agg [AV.int .i64 n1, AV.osl l2, AV.osl l3, AV.int .i64 n4, AV.int .i64 n5]], fr := false, pt := true }] }))))) else (bif n5 == (-1 : Int) then K (AV.bool true, []) else Option.bind (V 64 [AV.agg [AV.int .i64 n1, AV.osl l2, AV.osl l3, AV.int .i64 n4, AV.int .i64 n5]]) (fun x0 => gd (fitA [.one (.int .i64)] x0) (K (AV.bool (decide (n5 ≥ AV.geti x0)), []))))) := by kernel_rfl
noncomputable abbrev Dr6edge : EV → EM → Dn := dnV Try.prog 32 [33, 61] [] []
theorem r6edge_0 (a0_0 : Int) (a0_1 : List AV) (a0_2 : List AV) (a0_3 : Int) (a0_4 : Int) : (Dr6edge V M).stepK G K 0 ⟨[.agg [.int .i64 a0_0, .osl a0_1, .osl a0_2, .int .i64 a0_3, .int .i64 a0_4]], []⟩ =
    Option.bind (V 33 [AV.agg [AV.int .i64 a0_0, AV.osl a0_1, AV.osl a0_2, AV.int .i64 a0_3, AV.int .i64 a0_4]]) (fun x0 => gd (fitA [.one .bool] x0) ((bif !AV.getb x0 then K (AV.int .i64 (0 : Int), []) else Option.bind (V 61 [AV.agg [AV.int .i64 a0_0, AV.osl a0_1, AV.osl a0_2, AV.int .i64 a0_3, AV.int .i64 a0_4]]) (fun x1 => gd (fitA [.one (.int .i64)] x1) (K (AV.int .i64 (AV.geti x1), [])))))) := by kernel_rfl
noncomputable abbrev Dr6shut : EV → EM → Dn := dnV Try.prog 27 [25, 33, 64] [] []
theorem r6shut_0 (a0_0 : Int) (a0_1 : List AV) (a0_2 : List AV) (a0_3 : Int) (a0_4 : Int) (a1 : Int) : (Dr6shut V M).stepK G K 0 ⟨[.agg [.int .i64 a0_0, .osl a0_1, .osl a0_2, .int .i64 a0_3, .int .i64 a0_4], .int .i64 a1], []⟩ =
    Option.bind (V 33 [AV.agg [AV.int .i64 a0_0, AV.osl a0_1, AV.osl a0_2, AV.int .i64 a0_3, AV.int .i64 a0_4]]) (fun x0 => gd (fitA [.one .bool] x0) ((bif !AV.getb x0 then K (AV.tup [AV.agg [AV.int .i64 (0 : Int), AV.osl [], AV.osl [], AV.int .i64 (0 : Int), AV.int .i64 (0 : Int)], AV.int .i64 (1 : Int)], []) else (bif decide (a1 < (0 : Int)) then K (AV.tup [AV.agg [AV.int .i64 (0 : Int), AV.osl [], AV.osl [], AV.int .i64 (0 : Int), AV.int .i64 (0 : Int)], AV.int .i64 (1 : Int)], []) else (bif decide (a1 > (2305843009213693952 : Int)) then K (AV.tup [AV.agg [AV.int .i64 (0 : Int), AV.osl [], AV.osl [], AV.int .i64 (0 : Int), AV.int .i64 (0 : Int)], AV.int .i64 (1 : Int)], []) else (bif decide (a0_4 ≥ (0 : Int)) then (bif !a0_4 == a1 then K (AV.tup [AV.agg [AV.int .i64 (0 : Int), AV.osl [], AV.osl [], AV.int .i64 (0 : Int), AV.int .i64 (0 : Int)], AV.int .i64 (5 : Int)], []) else Option.bind (V 64 [AV.agg [AV.int .i64 a0_0, AV.osl a0_1, AV.osl a0_2, AV.int .i64 a0_3, AV.int .i64 a0_4]]) (fun x3 => gd (fitA [.one (.int .i64)] x3) ((bif decide (a1 < AV.geti x3) then K (AV.tup [AV.agg [AV.int .i64 (0 : Int), AV.osl [], AV.osl [], AV.int .i64 (0 : Int), AV.int .i64 (0 : Int)], AV.int .i64 (5 : Int)], []) else Option.bind (V 25 [AV.agg [AV.int .i64 a0_0, AV.osl a0_1, AV.osl a0_2, AV.int .i64 a0_3, AV.int .i64 a0_4]]) (fun x4 => gd (fitA [.agg [.int .i64, .sl, .sl, .int .i64, .int .i64]] x4) (K (AV.tup [AV.agg [AV.int .i64 (ci x4 0), AV.osl (cl x4 1), AV.osl (cl x4 2), AV.int .i64 (ci x4 3), AV.int .i64 a1], AV.int .i64 (0 : Int)], []))))))) else Option.bind (V 64 [AV.agg [AV.int .i64 a0_0, AV.osl a0_1, AV.osl a0_2, AV.int .i64 a0_3, AV.int .i64 a0_4]]) (fun x1 => gd (fitA [.one (.int .i64)] x1) ((bif decide (a1 < AV.geti x1) then K (AV.tup [AV.agg [AV.int .i64 (0 : Int), AV.osl [], AV.osl [], AV.int .i64 (0 : Int), AV.int .i64 (0 : Int)], AV.int .i64 (5 : Int)], []) else Option.bind (V 25 [AV.agg [AV.int .i64 a0_0, AV.osl a0_1, AV.osl a0_2, AV.int .i64 a0_3, AV.int .i64 a0_4]]) (fun x2 => gd (fitA [.agg [.int .i64, .sl, .sl, .int .i64, .int .i64]] x2) (K (AV.tup [AV.agg [AV.int .i64 (ci x2 0), AV.osl (cl x2 1), AV.osl (cl x2 2), AV.int .i64 (ci x2 3), AV.int .i64 a1], AV.int .i64 (0 : Int)], [])))))))))))) := by kernel_rfl
noncomputable abbrev Dr6new : EV → EM → Dn := dnV Try.prog 29 [] [] []
theorem r6new_0 (a0 : Int) : (Dr6new V M).stepK G K 0 ⟨[.int .i64 a0], []⟩ =
    (bif decide (a0 < (0 : Int)) then K (AV.tup [AV.agg [AV.int .i64 (0 : Int), AV.osl [], AV.osl [], AV.int .i64 (0 : Int), AV.int .i64 (0 : Int)], AV.int .i64 (1 : Int)], []) else (bif decide (a0 > (65536 : Int)) then K (AV.tup [AV.agg [AV.int .i64 (0 : Int), AV.osl [], AV.osl [], AV.int .i64 (0 : Int), AV.int .i64 (0 : Int)], AV.int .i64 (1 : Int)], []) else K (AV.tup [AV.agg [AV.int .i64 (0 : Int), AV.osl [], AV.osl [], AV.int .i64 a0, AV.int .i64 (-1 : Int)], AV.int .i64 (0 : Int)], []))) := by kernel_rfl
noncomputable abbrev Dr6ready : EV → EM → Dn := dnV Try.prog 30 [33, 63] [] [(60, [1, 3, 4])]
theorem r6ready_0 (a0_0 : Int) (a0_1 : List AV) (a0_2 : List AV) (a0_3 : Int) (a0_4 : Int) : (Dr6ready V M).stepK G K 0 ⟨[.agg [.int .i64 a0_0, .osl a0_1, .osl a0_2, .int .i64 a0_3, .int .i64 a0_4]], []⟩ =
    Option.bind (V 33 [AV.agg [AV.int .i64 a0_0, AV.osl a0_1, AV.osl a0_2, AV.int .i64 a0_3, AV.int .i64 a0_4]]) (fun x0 => gd (fitA [.one .bool] x0) (G 60 ({ vs := [AV.ptr 1000000 0 0 0, AV.int .i64 (0 : Int), AV.bool (AV.getb x0)], bs := [some { es := [AV.agg [AV.int .i64 a0_0, AV.osl a0_1, AV.osl a0_2, AV.int .i64 a0_3, AV.int .i64 a0_4]], fr := false, pt := true }] }))) := by kernel_rfl
theorem r6ready_1 (n0 : Int) (b1 : Bool) (n2 : Int) (l3 : List AV) (l4 : List AV) (n5 : Int) (n6 : Int) : (Dr6ready V M).stepK G K 60 ⟨[(.ptr 1000000 0 0 0), (.int .i64 n0), (.bool b1)], [some ⟨[(.agg [(.int .i64 n2), (.osl l3), (.osl l4), (.int .i64 n5), (.int .i64 n6)])], false, true⟩]⟩ =
    (bif b1 then (bif decide (n0 < (↑(List.length l3) : Int)) then Option.bind (V 63 [AV.osl l4, AV.int .i64 (IntKind.wrap .i64 (n2 + n0))]) (fun x0 => gd (fitA [.one .bool] x0) ((bif AV.getb x0 then G 60 ({ vs := [AV.ptr 1000000 0 0 0, AV.int .i64 (IntKind.wrap .i64 (n0 + (1 : Int))), AV.bool b1], bs := [some { es := [AV.agg [AV.int .i64 n2, AV.osl l3, AV.osl l4, AV.int .i64 n5, AV.int .i64 n6]], fr := false, pt := true }] }) else K (AV.int .i64 n0, [])))) else K (AV.int .i64 n0, [])) else K (AV.int .i64 n0, [])) := by kernel_rfl
noncomputable abbrev Dr6read : EV → EM → Dn := dnV Try.prog 28 [25, 30, 33, 65] [] [(1018, [1, 2, 4, 8, 9, 10, 11])]
theorem r6read_0 (a0_0 : Int) (a0_1 : List AV) (a0_2 : List AV) (a0_3 : Int) (a0_4 : Int) (a1 : Int) : (Dr6read V M).stepK G K 0 ⟨[.agg [.int .i64 a0_0, .osl a0_1, .osl a0_2, .int .i64 a0_3, .int .i64 a0_4], .int .i64 a1], []⟩ =
    Option.bind (V 33 [AV.agg [AV.int .i64 a0_0, AV.osl a0_1, AV.osl a0_2, AV.int .i64 a0_3, AV.int .i64 a0_4]]) (fun x0 => gd (fitA [.one .bool] x0) ((bif !AV.getb x0 then K (AV.tup [AV.agg [AV.int .i64 (0 : Int), AV.osl [], AV.osl [], AV.int .i64 (0 : Int), AV.int .i64 (0 : Int)], AV.osl [], AV.int .i64 (1 : Int)], []) else (bif decide (a1 < (0 : Int)) then K (AV.tup [AV.agg [AV.int .i64 (0 : Int), AV.osl [], AV.osl [], AV.int .i64 (0 : Int), AV.int .i64 (0 : Int)], AV.osl [], AV.int .i64 (1 : Int)], []) else Option.bind (V 25 [AV.agg [AV.int .i64 a0_0, AV.osl a0_1, AV.osl a0_2, AV.int .i64 a0_3, AV.int .i64 a0_4]]) (fun x1 => gd (fitA [.agg [.int .i64, .sl, .sl, .int .i64, .int .i64]] x1) (Option.bind (V 30 [AV.agg [AV.int .i64 a0_0, AV.osl a0_1, AV.osl a0_2, AV.int .i64 a0_3, AV.int .i64 a0_4]]) (fun x2 => gd (fitA [.one (.int .i64)] x2) (G 1018 ({ vs := [AV.int .i64 a1, AV.ptr 1000000 0 0 0, AV.ptr 1000001 0 0 0, AV.ptr 1000002 0 0 0, AV.nl, AV.int .i64 (AV.geti x2), AV.int .i64 (0 : Int)], bs := [some { es := [AV.agg [AV.int .i64 a0_0, AV.osl a0_1, AV.osl a0_2, AV.int .i64 a0_3, AV.int .i64 a0_4]], fr := false, pt := true }, some { es := [AV.agg [AV.int .i64 (0 : Int), AV.nl, AV.nl, AV.int .i64 (0 : Int), AV.int .i64 (0 : Int)]], fr := false, pt := true }, some { es := [AV.agg [AV.int .i64 (ci x1 0), AV.osl (cl x1 1), AV.osl (cl x1 2), AV.int .i64 (ci x1 3), AV.int .i64 (ci x1 4)]], fr := false, pt := true }] }))))))))) := by kernel_rfl
theorem r6read_1 (n0 : Int) (n1 : Int) (n2 : Int) (n3 : Int) (l4 : List AV) (l5 : List AV) (n6 : Int) (n7 : Int) (n8 : Int) (n9 : Int) (n10 : Int) (n11 : Int) (l12 : List AV) (l13 : List AV) (n14 : Int) (n15 : Int) : (Dr6read V M).stepK G K 1018 ⟨[(.int .i64 n0), (.ptr 1000000 0 0 0), (.ptr 1000001 0 0 0), (.ptr 1000002 0 0 0), .nl, (.int .i64 n1), (.int .i64 n2)], [some ⟨[(.agg [(.int .i64 n3), (.osl l4), (.osl l5), (.int .i64 n6), (.int .i64 n7)])], false, true⟩, some ⟨[(.agg [(.int .i64 n8), .nl, .nl, (.int .i64 n9), (.int .i64 n10)])], false, true⟩, some ⟨[(.agg [(.int .i64 n11), (.osl l12), (.osl l13), (.int .i64 n14), (.int .i64 n15)])], false, true⟩]⟩ =
    (bif decide (n2 < n1) then (bif decide (n2 < n0) then gd (decide ((0 : Int) ≤ n2)) (Option.bind (l4[Int.toNat n2]?) (fun x0 => gd (Vw.fit (.one (.int .u8)) x0) (Option.bind (V 65 [AV.osl l13, AV.agg [AV.int .i64 (IntKind.wrap .i64 (n3 + n2)), AV.int .i64 (IntKind.wrap .i64 (IntKind.wrap .i64 (n3 + n2) + (1 : Int)))]]) (fun x1 => gd (fitA [.one .sl, .one (.int .i64)] x1) (gd (gCel 1 l12) (gd (decide ((0 : Int) ≤ (1 : Int) ∧ (1 : Int) ≤ (↑(List.length l12) : Int))) (G 1018 ({ vs := [AV.int .i64 n0, AV.ptr 1000000 0 0 0, AV.ptr 1000001 0 0 0, AV.ptr 1000002 0 0 0, AV.sl 1 1000003 0 0 1, AV.int .i64 n1, AV.int .i64 (IntKind.wrap .i64 (n2 + (1 : Int)))], bs := [some { es := [AV.agg [AV.int .i64 n3, AV.osl l4, AV.osl l5, AV.int .i64 n6, AV.int .i64 n7]], fr := false, pt := true }, some { es := [AV.agg [AV.int .i64 n8, AV.nl, AV.nl, AV.int .i64 n9, AV.int .i64 n10]], fr := false, pt := true }, some { es := [AV.agg [AV.int .i64 (IntKind.wrap .i64 (n11 + (1 : Int))), AV.osl (List.drop 1 (List.take (List.length l12) l12)), AV.osl (tl x1 0), AV.int .i64 n14, AV.int .i64 n15]], fr := false, pt := true }, some { es := [AV.int .u8 (AV.geti x0)], fr := false, pt := false }] })))))))) else K (AV.tup [AV.agg [AV.int .i64 n11, AV.osl l12, AV.osl l13, AV.int .i64 n14, AV.int .i64 n15], AV.osl [], AV.int .i64 (0 : Int)], [])) else K (AV.tup [AV.agg [AV.int .i64 n11, AV.osl l12, AV.osl l13, AV.int .i64 n14, AV.int .i64 n15], AV.osl [], AV.int .i64 (0 : Int)], [])) := by kernel_rfl
theorem r6read_2 (n0 : Int) (k1 : Nat) (n2 : Int) (n3 : Int) (n4 : Int) (l5 : List AV) (l6 : List AV) (n7 : Int) (n8 : Int) (n9 : Int) (n10 : Int) (n11 : Int) (n12 : Int) (l13 : List AV) (l14 : List AV) (n15 : Int) (n16 : Int) (l17 : List AV) : (Dr6read V M).stepK G K 1018 ⟨[(.int .i64 n0), (.ptr 1000000 0 0 0), (.ptr 1000001 0 0 0), (.ptr 1000002 0 0 0), (.sl 1 1000003 0 0 k1), (.int .i64 n2), (.int .i64 n3)], [some ⟨[(.agg [(.int .i64 n4), (.osl l5), (.osl l6), (.int .i64 n7), (.int .i64 n8)])], false, true⟩, some ⟨[(.agg [(.int .i64 n9), .nl, .nl, (.int .i64 n10), (.int .i64 n11)])], false, true⟩, some ⟨[(.agg [(.int .i64 n12), (.osl l13), (.osl l14), (.int .i64 n15), (.int .i64 n16)])], false, true⟩, some ⟨l17, false, false⟩]⟩ =
    (bif decide (n3 < n2) then (bif decide (n3 < n0) then gd (decide ((0 : Int) ≤ n3)) (Option.bind (l5[Int.toNat n3]?) (fun x0 => gd (Vw.fit (.one (.int .u8)) x0) (gd (decide (k1 ≤ List.length l17)) (gd (gLen (List.length (List.take k1 l17) + 1) 1) (Option.bind (V 65 [AV.osl l14, AV.agg [AV.int .i64 (IntKind.wrap .i64 (n4 + n3)), AV.int .i64 (IntKind.wrap .i64 (IntKind.wrap .i64 (n4 + n3) + (1 : Int)))]]) (fun x1 => gd (fitA [.one .sl, .one (.int .i64)] x1) (gd (gCel 1 l13) (gd (decide ((0 : Int) ≤ (1 : Int) ∧ (1 : Int) ≤ (↑(List.length l13) : Int))) (gd (gNo (List.take k1 l17 ++ [AV.int .u8 (AV.geti x0)])) (G 1018 ({ vs := [AV.int .i64 n0, AV.ptr 1000000 0 0 0, AV.ptr 1000001 0 0 0, AV.ptr 1000002 0 0 0, AV.sl 1 1000003 0 0 (List.length (List.take k1 l17) + 1), AV.int .i64 n2, AV.int .i64 (IntKind.wrap .i64 (n3 + (1 : Int)))], bs := [some { es := [AV.agg [AV.int .i64 n4, AV.osl l5, AV.osl l6, AV.int .i64 n7, AV.int .i64 n8]], fr := false, pt := true }, some { es := [AV.agg [AV.int .i64 n9, AV.nl, AV.nl, AV.int .i64 n10, AV.int .i64 n11]], fr := false, pt := true }, some { es := [AV.agg [AV.int .i64 (IntKind.wrap .i64 (n12 + (1 : Int))), AV.osl (List.drop 1 (List.take (List.length l13) l13)), AV.osl (tl x1 0), AV.int .i64 n15, AV.int .i64 n16]], fr := false, pt := true }, some { es := List.take k1 l17 ++ [AV.int .u8 (AV.geti x0)], fr := false, pt := false }] }))))))))))) else gd (decide (0 + k1 ≤ List.length l17)) (gd (gFree 1 (List.take k1 (List.drop 0 l17))) (K (AV.tup [AV.agg [AV.int .i64 n12, AV.osl l13, AV.osl l14, AV.int .i64 n15, AV.int .i64 n16], AV.osl (List.take k1 (List.drop 0 l17)), AV.int .i64 (0 : Int)], [])))) else gd (decide (0 + k1 ≤ List.length l17)) (gd (gFree 1 (List.take k1 (List.drop 0 l17))) (K (AV.tup [AV.agg [AV.int .i64 n12, AV.osl l13, AV.osl l14, AV.int .i64 n15, AV.int .i64 n16], AV.osl (List.take k1 (List.drop 0 l17)), AV.int .i64 (0 : Int)], [])))) := by kernel_rfl
noncomputable abbrev Dr6ownM : EV → EM → Dn := dnM Try.prog 25 [] [] [] []
theorem r6ownM_0 (a0_0 : Int) (a0_1 : List AV) (a0_2 : List AV) (a0_3 : Int) (a0_4 : Int) : (Dr6ownM V M).stepK G K 0 ⟨[.agg [.int .i64 a0_0, .osl a0_1, .osl a0_2, .int .i64 a0_3, .int .i64 a0_4]], []⟩ =
    gd (gRow 1 a0_1) (gd (gLen (0 + List.length a0_1) 1) (gd (gRow 2 a0_2) (gd (gLen (0 + List.length a0_2) 16) (gd (gNo a0_1) (gd (gNo a0_2) (K (AV.agg [AV.int .i64 a0_0, AV.sl 1 1000000 0 0 (0 + List.length a0_1), AV.sl 2 1000001 0 0 (0 + List.length a0_2), AV.int .i64 a0_3, AV.int .i64 a0_4], [some { es := a0_1, fr := false, pt := false }, some { es := a0_2, fr := false, pt := false }]))))))) := by kernel_rfl
noncomputable abbrev Dr6put : EV → EM → Dn := dnV Try.prog 26 [33, 61, 62, 63] [(25, [(.agg [.k (.int .i64), .sl 1 0, .sl 2 1, .k (.int .i64), .k (.int .i64)], [.row, .row])])] [(262138, [1, 2, 3, 6, 11, 12, 15, 16]), (33553700, [1, 2, 3, 6, 11, 12, 15, 16]), (61, [1, 2, 3, 6]), (1021, [1, 2, 3, 6, 10, 11]), (4093, [1, 2, 3, 6, 10, 11, 12])]
theorem r6put_0 (a0_0 : Int) (a0_1 : List AV) (a0_2 : List AV) (a0_3 : Int) (a0_4 : Int) (a1 : Int) (a2 : List AV) : (Dr6put V M).stepK G K 0 ⟨[.agg [.int .i64 a0_0, .osl a0_1, .osl a0_2, .int .i64 a0_3, .int .i64 a0_4], .int .i64 a1, .osl a2], []⟩ =
    Option.bind (V 33 [AV.agg [AV.int .i64 a0_0, AV.osl a0_1, AV.osl a0_2, AV.int .i64 a0_3, AV.int .i64 a0_4]]) (fun x0 => gd (fitA [.one .bool] x0) ((bif !AV.getb x0 then K (AV.tup [AV.agg [AV.int .i64 (0 : Int), AV.osl [], AV.osl [], AV.int .i64 (0 : Int), AV.int .i64 (0 : Int)], AV.int .i64 (0 : Int), AV.int .i64 (1 : Int)], []) else (bif decide (a1 < (0 : Int)) then K (AV.tup [AV.agg [AV.int .i64 (0 : Int), AV.osl [], AV.osl [], AV.int .i64 (0 : Int), AV.int .i64 (0 : Int)], AV.int .i64 (0 : Int), AV.int .i64 (1 : Int)], []) else (bif decide (a1 > (2305843009213693952 : Int)) then K (AV.tup [AV.agg [AV.int .i64 (0 : Int), AV.osl [], AV.osl [], AV.int .i64 (0 : Int), AV.int .i64 (0 : Int)], AV.int .i64 (0 : Int), AV.int .i64 (1 : Int)], []) else (bif decide (a0_4 ≥ (0 : Int)) then (bif decide (IntKind.wrap .i64 (a1 + (↑(List.length a2) : Int)) > a0_4) then K (AV.tup [AV.agg [AV.int .i64 (0 : Int), AV.osl [], AV.osl [], AV.int .i64 (0 : Int), AV.int .i64 (0 : Int)], AV.int .i64 (0 : Int), AV.int .i64 (5 : Int)], []) else G 61 ({ vs := [AV.int .i64 a1, AV.osl a2, AV.ptr 1000000 0 0 0, AV.ptr 1000001 0 0 0], bs := [some { es := [AV.agg [AV.int .i64 a0_0, AV.osl a0_1, AV.osl a0_2, AV.int .i64 a0_3, AV.int .i64 a0_4]], fr := false, pt := true }, some { es := [AV.agg [AV.int .i64 (0 : Int), AV.nl, AV.nl, AV.int .i64 (0 : Int), AV.int .i64 (0 : Int)]], fr := false, pt := true }] })) else G 61 ({ vs := [AV.int .i64 a1, AV.osl a2, AV.ptr 1000000 0 0 0, AV.ptr 1000001 0 0 0], bs := [some { es := [AV.agg [AV.int .i64 a0_0, AV.osl a0_1, AV.osl a0_2, AV.int .i64 a0_3, AV.int .i64 a0_4]], fr := false, pt := true }, some { es := [AV.agg [AV.int .i64 (0 : Int), AV.nl, AV.nl, AV.int .i64 (0 : Int), AV.int .i64 (0 : Int)]], fr := false, pt := true }] }))))))) := by kernel_rfl
theorem r6put_1 (n0 : Int) (l1 : List AV) (n2 : Int) (l3 : List AV) (l4 : List AV) (n5 : Int) (n6 : Int) (n7 : Int) (n8 : Int) (n9 : Int) : (Dr6put V M).stepK G K 61 ⟨[(.int .i64 n0), (.osl l1), (.ptr 1000000 0 0 0), (.ptr 1000001 0 0 0)], [some ⟨[(.agg [(.int .i64 n2), (.osl l3), (.osl l4), (.int .i64 n5), (.int .i64 n6)])], false, true⟩, some ⟨[(.agg [(.int .i64 n7), .nl, .nl, (.int .i64 n8), (.int .i64 n9)])], false, true⟩]⟩ =
    (bif decide (n0 < n2) then Option.bind (V 61 [AV.agg [AV.int .i64 n2, AV.osl l3, AV.osl l4, AV.int .i64 n5, AV.int .i64 n6]]) (fun x2 => gd (fitA [.one (.int .i64)] x2) ((bif decide (IntKind.wrap .i64 (n0 + (↑(List.length l1) : Int)) > AV.geti x2) then Option.bind (V 61 [AV.agg [AV.int .i64 n2, AV.osl l3, AV.osl l4, AV.int .i64 n5, AV.int .i64 n6]]) (fun x3 => gd (fitA [.one (.int .i64)] x3) (G 1021 ({ vs := [AV.int .i64 n0, AV.osl l1, AV.ptr 1000000 0 0 0, AV.ptr 1000001 0 0 0, AV.int .i64 n2, AV.int .i64 (AV.geti x3)], bs := [some { es := [AV.agg [AV.int .i64 n2, AV.osl l3, AV.osl l4, AV.int .i64 n5, AV.int .i64 n6]], fr := false, pt := true }, some { es := [AV.agg [AV.int .i64 n7, AV.nl, AV.nl, AV.int .i64 n8, AV.int .i64 n9]], fr := false, pt := true }] }))) else G 1021 ({ vs := [AV.int .i64 n0, AV.osl l1, AV.ptr 1000000 0 0 0, AV.ptr 1000001 0 0 0, AV.int .i64 n2, AV.int .i64 (IntKind.wrap .i64 (n0 + (↑(List.length l1) : Int)))], bs := [some { es := [AV.agg [AV.int .i64 n2, AV.osl l3, AV.osl l4, AV.int .i64 n5, AV.int .i64 n6]], fr := false, pt := true }, some { es := [AV.agg [AV.int .i64 n7, AV.nl, AV.nl, AV.int .i64 n8, AV.int .i64 n9]], fr := false, pt := true }] })))) else Option.bind (V 61 [AV.agg [AV.int .i64 n2, AV.osl l3, AV.osl l4, AV.int .i64 n5, AV.int .i64 n6]]) (fun x0 => gd (fitA [.one (.int .i64)] x0) ((bif decide (IntKind.wrap .i64 (n0 + (↑(List.length l1) : Int)) > AV.geti x0) then Option.bind (V 61 [AV.agg [AV.int .i64 n2, AV.osl l3, AV.osl l4, AV.int .i64 n5, AV.int .i64 n6]]) (fun x1 => gd (fitA [.one (.int .i64)] x1) (G 1021 ({ vs := [AV.int .i64 n0, AV.osl l1, AV.ptr 1000000 0 0 0, AV.ptr 1000001 0 0 0, AV.int .i64 n0, AV.int .i64 (AV.geti x1)], bs := [some { es := [AV.agg [AV.int .i64 n2, AV.osl l3, AV.osl l4, AV.int .i64 n5, AV.int .i64 n6]], fr := false, pt := true }, some { es := [AV.agg [AV.int .i64 n7, AV.nl, AV.nl, AV.int .i64 n8, AV.int .i64 n9]], fr := false, pt := true }] }))) else G 1021 ({ vs := [AV.int .i64 n0, AV.osl l1, AV.ptr 1000000 0 0 0, AV.ptr 1000001 0 0 0, AV.int .i64 n0, AV.int .i64 (IntKind.wrap .i64 (n0 + (↑(List.length l1) : Int)))], bs := [some { es := [AV.agg [AV.int .i64 n2, AV.osl l3, AV.osl l4, AV.int .i64 n5, AV.int .i64 n6]], fr := false, pt := true }, some { es := [AV.agg [AV.int .i64 n7, AV.nl, AV.nl, AV.int .i64 n8, AV.int .i64 n9]], fr := false, pt := true }] }))))) := by kernel_rfl
theorem r6put_2 (n0 : Int) (l1 : List AV) (n2 : Int) (n3 : Int) (n4 : Int) (l5 : List AV) (l6 : List AV) (n7 : Int) (n8 : Int) (n9 : Int) (n10 : Int) (n11 : Int) : (Dr6put V M).stepK G K 1021 ⟨[(.int .i64 n0), (.osl l1), (.ptr 1000000 0 0 0), (.ptr 1000001 0 0 0), (.int .i64 n2), (.int .i64 n3)], [some ⟨[(.agg [(.int .i64 n4), (.osl l5), (.osl l6), (.int .i64 n7), (.int .i64 n8)])], false, true⟩, some ⟨[(.agg [(.int .i64 n9), .nl, .nl, (.int .i64 n10), (.int .i64 n11)])], false, true⟩]⟩ =
    Option.bind (M 25 [AV.agg [AV.int .i64 n4, AV.osl l5, AV.osl l6, AV.int .i64 n7, AV.int .i64 n8]] []) (fun x0 => gd (fitP (Pt.agg [Pt.k (.int .i64), Pt.sl 1 0, Pt.sl 2 1, Pt.k (.int .i64), Pt.k (.int .i64)]) x0.1 && fitBs [BPt.row, BPt.row] x0.2) ((bif decide (n2 ≥ n3) then gd (decide (0 + AV.sln (List.getD (AV.getc x0.1) 1 .undef) ≤ List.length (bget x0.2 0))) (gd (gFree 1 (List.take (AV.sln (List.getD (AV.getc x0.1) 1 .undef)) (List.drop 0 (bget x0.2 0)))) (gd (decide (0 + AV.sln (List.getD (AV.getc x0.1) 2 .undef) ≤ List.length (bget x0.2 1))) (gd (gFree 2 (List.take (AV.sln (List.getD (AV.getc x0.1) 2 .undef)) (List.drop 0 (bget x0.2 1)))) (K (AV.tup [AV.agg [AV.int .i64 (AV.geti (List.getD (AV.getc x0.1) 0 .undef)), AV.osl (List.take (AV.sln (List.getD (AV.getc x0.1) 1 .undef)) (List.drop 0 (bget x0.2 0))), AV.osl (List.take (AV.sln (List.getD (AV.getc x0.1) 2 .undef)) (List.drop 0 (bget x0.2 1))), AV.int .i64 (AV.geti (List.getD (AV.getc x0.1) 3 .undef)), AV.int .i64 (AV.geti (List.getD (AV.getc x0.1) 4 .undef))], AV.int .i64 (0 : Int), AV.int .i64 (0 : Int)], []))))) else gd (gNo (bget x0.2 0)) (gd (gNo (bget x0.2 1)) (G 4093 ({ vs := [AV.int .i64 n0, AV.osl l1, AV.ptr 1000000 0 0 0, AV.ptr 1000001 0 0 0, AV.int .i64 n2, AV.int .i64 n3, AV.ptr 1000002 0 0 0], bs := [some { es := [AV.agg [AV.int .i64 n4, AV.osl l5, AV.osl l6, AV.int .i64 n7, AV.int .i64 n8]], fr := false, pt := true }, some { es := [AV.agg [AV.int .i64 n9, AV.nl, AV.nl, AV.int .i64 n10, AV.int .i64 n11]], fr := false, pt := true }, some { es := [AV.agg [AV.int .i64 (AV.geti (List.getD (AV.getc x0.1) 0 .undef)), AV.sl 1 1000003 0 0 (AV.sln (List.getD (AV.getc x0.1) 1 .undef)), AV.sl 2 1000004 0 0 (AV.sln (List.getD (AV.getc x0.1) 2 .undef)), AV.int .i64 (AV.geti (List.getD (AV.getc x0.1) 3 .undef)), AV.int .i64 (AV.geti (List.getD (AV.getc x0.1) 4 .undef))]], fr := false, pt := true }, some { es := bget x0.2 0, fr := false, pt := false }, some { es := bget x0.2 1, fr := false, pt := false }] })))))) := by kernel_rfl
theorem r6put_3 (n0 : Int) (l1 : List AV) (n2 : Int) (n3 : Int) (n4 : Int) (l5 : List AV) (l6 : List AV) (n7 : Int) (n8 : Int) (n9 : Int) (n10 : Int) (n11 : Int) (n12 : Int) (k13 : Nat) (k14 : Nat) (n15 : Int) (n16 : Int) (l17 : List AV) (l18 : List AV) : (Dr6put V M).stepK G K 4093 ⟨[(.int .i64 n0), (.osl l1), (.ptr 1000000 0 0 0), (.ptr 1000001 0 0 0), (.int .i64 n2), (.int .i64 n3), (.ptr 1000002 0 0 0)], [some ⟨[(.agg [(.int .i64 n4), (.osl l5), (.osl l6), (.int .i64 n7), (.int .i64 n8)])], false, true⟩, some ⟨[(.agg [(.int .i64 n9), .nl, .nl, (.int .i64 n10), (.int .i64 n11)])], false, true⟩, some ⟨[(.agg [(.int .i64 n12), (.sl 1 1000003 0 0 k13), (.sl 2 1000004 0 0 k14), (.int .i64 n15), (.int .i64 n16)])], false, true⟩, some ⟨l17, false, false⟩, some ⟨l18, false, false⟩]⟩ =
    Option.bind (V 62 [AV.osl l6, AV.agg [AV.int .i64 n2, AV.int .i64 n3]]) (fun x0 => gd (fitA [.one .sl, .one (.int .i64)] x0) ((bif !ti x0 1 == (0 : Int) then K (AV.tup [AV.agg [AV.int .i64 (0 : Int), AV.osl [], AV.osl [], AV.int .i64 (0 : Int), AV.int .i64 (0 : Int)], AV.int .i64 (0 : Int), AV.int .i64 (ti x0 1)], []) else gd (gNo l17) (G 262138 ({ vs := [AV.int .i64 n0, AV.osl l1, AV.ptr 1000000 0 0 0, AV.ptr 1000001 0 0 0, AV.int .i64 n3, AV.ptr 1000002 0 0 0, AV.int .i64 (0 : Int), AV.int .i64 n2], bs := [some { es := [AV.agg [AV.int .i64 n4, AV.osl l5, AV.osl l6, AV.int .i64 n7, AV.int .i64 n8]], fr := false, pt := true }, some { es := [AV.agg [AV.int .i64 n9, AV.nl, AV.nl, AV.int .i64 n10, AV.int .i64 n11]], fr := false, pt := true }, some { es := [AV.agg [AV.int .i64 n12, AV.sl 1 1000003 0 0 k13, AV.osl (tl x0 0), AV.int .i64 n15, AV.int .i64 n16]], fr := false, pt := true }, some { es := l17, fr := false, pt := false }] }))))) := by kernel_rfl
theorem r6put_4 (n0 : Int) (l1 : List AV) (n2 : Int) (n3 : Int) (n4 : Int) (n5 : Int) (l6 : List AV) (l7 : List AV) (n8 : Int) (n9 : Int) (n10 : Int) (n11 : Int) (n12 : Int) (n13 : Int) (k14 : Nat) (l15 : List AV) (n16 : Int) (n17 : Int) (l18 : List AV) : (Dr6put V M).stepK G K 262138 ⟨[(.int .i64 n0), (.osl l1), (.ptr 1000000 0 0 0), (.ptr 1000001 0 0 0), (.int .i64 n2), (.ptr 1000002 0 0 0), (.int .i64 n3), (.int .i64 n4)], [some ⟨[(.agg [(.int .i64 n5), (.osl l6), (.osl l7), (.int .i64 n8), (.int .i64 n9)])], false, true⟩, some ⟨[(.agg [(.int .i64 n10), .nl, .nl, (.int .i64 n11), (.int .i64 n12)])], false, true⟩, some ⟨[(.agg [(.int .i64 n13), (.sl 1 1000003 0 0 k14), (.osl l15), (.int .i64 n16), (.int .i64 n17)])], false, true⟩, some ⟨l18, false, false⟩]⟩ =
    (bif decide (n4 < n2) then Option.bind (V 63 [AV.osl l7, AV.int .i64 n4]) (fun x0 => gd (fitA [.one .bool] x0) ((bif AV.getb x0 then gd (gNo l18) (G 262138 ({ vs := [AV.int .i64 n0, AV.osl l1, AV.ptr 1000000 0 0 0, AV.ptr 1000001 0 0 0, AV.int .i64 n2, AV.ptr 1000002 0 0 0, AV.int .i64 n3, AV.int .i64 (IntKind.wrap .i64 (n4 + (1 : Int)))], bs := [some { es := [AV.agg [AV.int .i64 n5, AV.osl l6, AV.osl l7, AV.int .i64 n8, AV.int .i64 n9]], fr := false, pt := true }, some { es := [AV.agg [AV.int .i64 n10, AV.nl, AV.nl, AV.int .i64 n11, AV.int .i64 n12]], fr := false, pt := true }, some { es := [AV.agg [AV.int .i64 n13, AV.sl 1 1000003 0 0 k14, AV.osl l15, AV.int .i64 n16, AV.int .i64 n17]], fr := false, pt := true }, some { es := l18, fr := false, pt := false }] })) else gd (gNo l18) (G 33553700 ({ vs := [AV.int .i64 n0, AV.osl l1, AV.ptr 1000000 0 0 0, AV.ptr 1000001 0 0 0, AV.int .i64 n2, AV.ptr 1000002 0 0 0, AV.int .i64 n3, AV.int .i64 n4], bs := [some { es := [AV.agg [AV.int .i64 n5, AV.osl l6, AV.osl l7, AV.int .i64 n8, AV.int .i64 n9]], fr := false, pt := true }, some { es := [AV.agg [AV.int .i64 n10, AV.nl, AV.nl, AV.int .i64 n11, AV.int .i64 n12]], fr := false, pt := true }, some { es := [AV.agg [AV.int .i64 n13, AV.sl 1 1000003 0 0 k14, AV.osl l15, AV.int .i64 n16, AV.int .i64 n17]], fr := false, pt := true }, some { es := l18, fr := false, pt := false }] }))))) else gd (decide (0 + k14 ≤ List.length l18)) (gd (gFree 1 (List.take k14 (List.drop 0 l18))) (K (AV.tup [AV.agg [AV.int .i64 n13, AV.osl (List.take k14 (List.drop 0 l18)), AV.osl l15, AV.int .i64 n16, AV.int .i64 n17], AV.int .i64 n3, AV.int .i64 (0 : Int)], [])))) := by kernel_rfl
theorem r6put_5 (n0 : Int) (l1 : List AV) (n2 : Int) (n3 : Int) (n4 : Int) (n5 : Int) (l6 : List AV) (l7 : List AV) (n8 : Int) (n9 : Int) (n10 : Int) (n11 : Int) (n12 : Int) (n13 : Int) (k14 : Nat) (l15 : List AV) (n16 : Int) (n17 : Int) (l18 : List AV) : (Dr6put V M).stepK G K 33553700 ⟨[(.int .i64 n0), (.osl l1), (.ptr 1000000 0 0 0), (.ptr 1000001 0 0 0), (.int .i64 n2), (.ptr 1000002 0 0 0), (.int .i64 n3), (.int .i64 n4)], [some ⟨[(.agg [(.int .i64 n5), (.osl l6), (.osl l7), (.int .i64 n8), (.int .i64 n9)])], false, true⟩, some ⟨[(.agg [(.int .i64 n10), .nl, .nl, (.int .i64 n11), (.int .i64 n12)])], false, true⟩, some ⟨[(.agg [(.int .i64 n13), (.sl 1 1000003 0 0 k14), (.osl l15), (.int .i64 n16), (.int .i64 n17)])], false, true⟩, some ⟨l18, false, false⟩]⟩ =
    (bif decide ((↑k14 : Int) ≤ IntKind.wrap .i64 (n4 - n5)) then gd (decide (k14 ≤ List.length l18)) (gd (gLen (List.length (List.take k14 l18) + 1) 1) (gd (gNo (List.take k14 l18 ++ [AV.int .u8 (0 : Int)])) (G 33553700 ({ vs := [AV.int .i64 n0, AV.osl l1, AV.ptr 1000000 0 0 0, AV.ptr 1000001 0 0 0, AV.int .i64 n2, AV.ptr 1000002 0 0 0, AV.int .i64 n3, AV.int .i64 n4], bs := [some { es := [AV.agg [AV.int .i64 n5, AV.osl l6, AV.osl l7, AV.int .i64 n8, AV.int .i64 n9]], fr := false, pt := true }, some { es := [AV.agg [AV.int .i64 n10, AV.nl, AV.nl, AV.int .i64 n11, AV.int .i64 n12]], fr := false, pt := true }, some { es := [AV.agg [AV.int .i64 n13, AV.sl 1 1000003 0 0 (List.length (List.take k14 l18) + 1), AV.osl l15, AV.int .i64 n16, AV.int .i64 n17]], fr := false, pt := true }, some { es := List.take k14 l18 ++ [AV.int .u8 (0 : Int)], fr := false, pt := false }] })))) else gd (decide ((0 : Int) ≤ IntKind.wrap .i64 (n4 - n0))) (Option.bind (l1[Int.toNat (IntKind.wrap .i64 (n4 - n0))]?) (fun x0 => gd (Vw.fit (.one (.int .u8)) x0) (gd (decide ((0 : Int) ≤ IntKind.wrap .i64 (n4 - n5) ∧ IntKind.wrap .i64 (n4 - n5) < (↑k14 : Int))) (Option.bind (l18[0 + Int.toNat (IntKind.wrap .i64 (n4 - n5))]?) (fun x1 => gd (Vw.fit (.one (.int .u8)) x1) (gd (gNo (List.set l18 (0 + Int.toNat (IntKind.wrap .i64 (n4 - n5))) (AV.int .u8 (AV.geti x0)))) (G 262138 ({ vs := [AV.int .i64 n0, AV.osl l1, AV.ptr 1000000 0 0 0, AV.ptr 1000001 0 0 0, AV.int .i64 n2, AV.ptr 1000002 0 0 0, AV.int .i64 (IntKind.wrap .i64 (n3 + (1 : Int))), AV.int .i64 (IntKind.wrap .i64 (n4 + (1 : Int)))], bs := [some { es := [AV.agg [AV.int .i64 n5, AV.osl l6, AV.osl l7, AV.int .i64 n8, AV.int .i64 n9]], fr := false, pt := true }, some { es := [AV.agg [AV.int .i64 n10, AV.nl, AV.nl, AV.int .i64 n11, AV.int .i64 n12]], fr := false, pt := true }, some { es := [AV.agg [AV.int .i64 n13, AV.sl 1 1000003 0 0 k14, AV.osl l15, AV.int .i64 n16, AV.int .i64 n17]], fr := false, pt := true }, some { es := List.set l18 (0 + Int.toNat (IntKind.wrap .i64 (n4 - n5))) (AV.int .u8 (AV.geti x0)), fr := false, pt := false }] }))))))))) := by kernel_rfl
end
theorem r6own_ok (w : Wv) (h : w.Sm) : FnOk Try.prog 25 [w.av] w.av := by
  refine fn_mk [] [] (by kernel_rfl) mixed (by kernel_rfl) (From.of ((r6own_0 _ _ _ _ _).trans ?_))
  obtain ⟨g1, g2, g3, g4, g5, g6, g7⟩ := own_gd w h.ok
  rw [prows_length] at g4
  have t1 : w.b.take w.b.length = w.b := List.take_length
  simp only [Nat.zero_add, prows_length, List.drop_zero, t1, take_rows, Nat.le_refl, decide_true, g1, g2, g3, g4, g7, gFree_rows, gd_true]
noncomputable def F_r6own : Fam Try.prog := { f := 25, ι := Wv, pre := Wv.Sm, args := fun w => [w.av], res := fun w => w.av, ok := r6own_ok, inj := fun s t h => by rw [wv_inj (List.cons.inj h).1] }
theorem r6ownM_ok (w : Wv) (hw : w.Sm) : MFn Try.prog 25 [w.av] [] (.agg [.int .i64 w.base, .sl 1 1000000 0 0 w.b.length, .sl 2 1000001 0 0 w.l.length, .int .i64 w.cap, .int .i64 w.end_]) [some ⟨w.b, false, false⟩, some ⟨prows w.l, false, false⟩] := by
  obtain ⟨g1, g2, g3, g4, g5, g6, g7⟩ := own_gd w hw.ok
  refine mfn_mk (ns := []) [] [] (by kernel_rfl) mixed (by kernel_rfl) rfl (From.of ((r6ownM_0 _ _ _ _ _).trans ?_)) (by simp) ?_
  · rw [prows_length] at g4
    simp only [Nat.zero_add, g1, g2, g3, prows_length, g4, gd_true, g5, g6]
  · show ((false || gNo w.b) && ((false || gNo (prows w.l)) && true)) = true
    rw [g5, g6]; rfl
noncomputable def MF_r6own : MFam Try.prog := { f := 25, ι := Wv, pre := Wv.Sm, args := fun w => [w.av], bs := fun _ => [], res := fun w => .agg [.int .i64 w.base, .sl 1 1000000 0 0 w.b.length, .sl 2 1000001 0 0 w.l.length, .int .i64 w.cap, .int .i64 w.end_], bs' := fun w => [some ⟨w.b, false, false⟩, some ⟨prows w.l, false, false⟩], ok := r6ownM_ok, inj := fun s t h _ => by rw [wv_inj (List.cons.inj h).1]; exact ⟨rfl, rfl⟩ }
theorem r6upto_ok (w : Wv) (hw : w.Sm) : FnOk Try.prog 64 [w.av] (.int .i64 (uptoP w.base w.l)) := by
  refine fn_mk [] [] (by kernel_rfl) mixed (by kernel_rfl) (From.of ((r6upto_0 _ _ _ _ _).trans ?_))
  have hl := hw.ll
  unfold uptoP
  by_cases h : w.l.length = 0
  · simp [h]
  · have e : IntKind.wrap .i64 ((w.l.length : Int) - 1) = ((w.l.length - 1 : Nat) : Int) := by rw [w64 (by omega) (by omega)]; omega
    have h2 : w.l[w.l.length - 1]? = some (pth w.l (w.l.length - 1)) := by rw [List.getElem?_eq_getElem (by omega), pth_get]
    have h3 : ((w.l.length : Int) == 0) = false := by simpa using h
    simp [h3, e, h2, Spn.av, h]
noncomputable def F_r6upto : Fam Try.prog := { f := 64, ι := Wv, pre := Wv.Sm, args := fun w => [w.av], res := fun w => .int .i64 (uptoP w.base w.l), ok := r6upto_ok, inj := fun s t h => by rw [wv_inj (List.cons.inj h).1] }
theorem r6end_ok (w : Wv) (h : 0 ≤ w.base ∧ w.base ≤ 2305843009213693952 ∧ 0 ≤ w.cap ∧ w.cap ≤ 65536) : FnOk Try.prog 61 [w.av] (.int .i64 (edgeP w.base w.cap)) := by
  refine fn_mk [] [] (by kernel_rfl) mixed (by kernel_rfl) (From.of ((r6end_0 _ _ _ _ _).trans ?_))
  rw [w64 (by omega) (by omega)]
  unfold edgeP
  by_cases c : 2305843009213693952 < w.base + w.cap
  · rw [decide_eq_true (show w.base + w.cap > 2305843009213693952 from c), if_pos c]; rfl
  · rw [decide_eq_false (show ¬ w.base + w.cap > 2305843009213693952 from c), if_neg c]; rfl
noncomputable def F_r6end : Fam Try.prog := { f := 61, ι := Wv, pre := fun w => 0 ≤ w.base ∧ w.base ≤ 2305843009213693952 ∧ 0 ≤ w.cap ∧ w.cap ≤ 65536, args := fun w => [w.av], res := fun w => .int .i64 (edgeP w.base w.cap), ok := r6end_ok, inj := fun s t h => by rw [wv_inj (List.cons.inj h).1] }
structure MayC (w : Wv) : Prop where
  r : 0 ≤ w.cap ∧ w.cap ≤ 65536 ∧ 0 ≤ w.base ∧ w.base ≤ 2305843009213693952
  m : mayP w.l = true
  f : ¬ (0 < w.l.length ∧ (pth w.l 0).a < w.base)
  u : uptoP w.base w.l ≤ edgeP w.base w.cap
  bl : (w.b.length : Int) = uptoP w.base w.l - w.base
theorem mayC_may {w : Wv} (h : MayC w) (hz : ∀ k : Nat, k < w.b.length → ¬ mem w.l (w.base + k) → byteAt w.b k = 0) : w.may = decide (w.end_ = -1 ∨ uptoP w.base w.l ≤ w.end_) := by
  rw [Bool.eq_iff_iff, decide_eq_true_eq]
  constructor
  · intro g; exact (mayOf g).en
  · intro g
    obtain ⟨h5, h6⟩ := may_iff.1 h.m
    refine mayW_plain.2 ⟨h.r.1, h.r.2.1, h.r.2.2.1, h.r.2.2.2, h5, h6, fun n hn => ?_, h.u, h.bl, g, hz⟩
    have := first_le h6 hn; have := h.f; omega
theorem r6may_loop {V : EV} {M : EM} (w : Wv) (hw : w.Sm) (h : MayC w) (e1 : ∀ n, V 63 [.osl (prows w.l), .int .i64 n] = some (.bool (memB w.l n))) (e2 : V 64 [w.av] = some (.int .i64 (uptoP w.base w.l))) :
    ∀ (n i : Nat), n + i = w.b.length → (∀ k : Nat, k < i → ¬ mem w.l (w.base + k) → byteAt w.b k = 0) → (Dr6may V M).From 250 ⟨[.ptr 1000000 0 0 0, .int .i64 i], [some ⟨[w.av], false, true⟩]⟩ = some (.bool w.may, [])
  | 0, i, hi, hz => by
    refine From.of ((r6may_1 _ _ _ _ _ _).trans ?_)
    rw [decide_eq_false (show ¬ (i : Int) < (w.b.length : Int) by omega), cond_false, mayC_may h fun k hk => hz k (by omega)]
    by_cases c : w.end_ = -1
    · rw [show (w.end_ == -1) = true by simpa using c, cond_true, decide_eq_true (.inl c)]
    · rw [show (w.end_ == -1) = false by simpa using c, cond_false]
      simp only [e2, VT]
      rw [show decide (w.end_ = -1 ∨ uptoP w.base w.l ≤ w.end_) = decide (w.end_ ≥ uptoP w.base w.l) from decide_eq_decide.2 ⟨fun x => x.resolve_left c, .inr⟩]
  | n + 1, i, hi, hz => by
    have hr := h.r; have hbl := hw.bl
    refine From.of ((r6may_1 _ _ _ _ _ _).trans ?_)
    have ih := r6may_loop (V := V) (M := M) w hw h e1 e2 n (i + 1) (by omega)
    simp only [show decide ((i : Int) < (w.b.length : Int)) = true from decide_eq_true (by omega), show decide ((0 : Int) ≤ (i : Int)) = true from decide_eq_true (by omega), Int.toNat_natCast, byte_at hw.b (show i < w.b.length by omega),
      w64 (n := (i : Int) + 1) (by omega) (by omega), w64 (n := w.base + (i : Int)) (by omega) (by omega), e1, VT]
    by_cases c : byteAt w.b i = 0
    · rw [show (byteAt w.b i == 0) = true by simpa using c, Bool.not_true, cond_false]
      exact ih fun k hk hn => by
        by_cases e : k = i
        · rw [e]; exact c
        · exact hz k (by omega) hn
    · rw [show (byteAt w.b i == 0) = false by simpa using c, Bool.not_false, cond_true]
      by_cases d : mem w.l (w.base + i)
      · rw [memB_iff.2 d, Bool.not_true, cond_false]
        exact ih fun k hk hn => by
          by_cases e : k = i
          · rw [e] at hn; exact absurd d hn
          · exact hz k (by omega) hn
      · rw [show memB w.l (w.base + i) = false by rw [← Bool.not_eq_true, memB_iff]; exact d, Bool.not_false, cond_true]
        have : w.may = false := by
          rw [← Bool.not_eq_true]; intro g
          exact c ((mayOf g).bz i (by omega) d)
        rw [this]
theorem r6may_ok (w : Wv) (hw : w.Sm) : FnOk Try.prog 33 [w.av] (.bool w.may) := by
  refine fn_mk [F_r6end, F_r4in, F_r6upto, F_r4may] [] (by kernel_rfl) mixed (by kernel_rfl) (From.of ((r6may_0 _ _ _ _ _).trans ?_))
  have hll := hw.ll; have hbl := hw.bl
  have e1 : envV [F_r6end, F_r4in, F_r6upto, F_r4may] 66 [.osl (prows w.l)] = some (.bool (mayP w.l)) := envV_at F_r4may w.l (by show w.l.length ≤ _; omega) [F_r6end, F_r4in, F_r6upto] _ rfl
  have e2 : envV [F_r6end, F_r4in, F_r6upto, F_r4may] 64 [w.av] = some (.int .i64 (uptoP w.base w.l)) := envV_at F_r6upto w hw [F_r6end, F_r4in] _ rfl
  have no : ¬ (0 ≤ w.cap ∧ w.cap ≤ 65536 ∧ 0 ≤ w.base ∧ w.base ≤ 2305843009213693952 ∧ mayP w.l = true ∧ ¬ (0 < w.l.length ∧ (pth w.l 0).a < w.base) ∧ uptoP w.base w.l ≤ edgeP w.base w.cap ∧ (w.b.length : Int) = uptoP w.base w.l - w.base) → w.may = false := fun g => by
    rw [← Bool.not_eq_true, mayW_iff]
    rintro ⟨⟨a1, a2, a3, a4⟩, a5, ⟨a6, a7, a8⟩, a9, a10⟩
    exact g ⟨a1, a2, a3, a4, a5, a6, a7, a8⟩
  simp only [e1, VT]
  cases hm : mayP w.l with
  | false => rw [no (by rw [hm]; rintro ⟨_, _, _, _, x, _⟩; cases x)]; rfl
  | true =>
    rw [Bool.not_true, cond_false]
    by_cases c1 : w.cap < 0
    · rw [decide_eq_true c1, cond_true, no (by omega)]
    by_cases c2 : w.cap > 65536
    · rw [decide_eq_false c1, decide_eq_true c2, cond_true, cond_false, no (by omega)]
    by_cases c3 : w.base < 0
    · rw [decide_eq_false c1, decide_eq_false c2, decide_eq_true c3, cond_true, cond_false, cond_false, no (by omega)]
    by_cases c4 : w.base > 2305843009213693952
    · rw [decide_eq_false c1, decide_eq_false c2, decide_eq_false c3, decide_eq_true c4, cond_true, cond_false, cond_false, cond_false, no (by omega)]
    rw [decide_eq_false c1, decide_eq_false c2, decide_eq_false c3, decide_eq_false c4, cond_false, cond_false, cond_false, cond_false]
    have e3 : envV [F_r6end, F_r4in, F_r6upto, F_r4may] 61 [w.av] = some (.int .i64 (edgeP w.base w.cap)) := envV_at F_r6end w ⟨by omega, by omega, by omega, by omega⟩ [] _ rfl
    have hup := upto_rng (base := w.base) hm (by omega) (by omega)
    have last : ∀ (hf : ¬ (0 < w.l.length ∧ (pth w.l 0).a < w.base)), (bif decide (uptoP w.base w.l > edgeP w.base w.cap) then some (AV.bool false, ([] : List (Option CB))) else bif !(w.b.length : Int) == IntKind.wrap .i64 (uptoP w.base w.l - w.base) then some (AV.bool false, []) else (Dr6may (envV [F_r6end, F_r4in, F_r6upto, F_r4may]) (envM (P := Try.prog) [])).From 250 ⟨[.ptr 1000000 0 0 0, .int .i64 0], [some ⟨[w.av], false, true⟩]⟩) = some (AV.bool w.may, []) := fun hf => by
      rw [w64 (by omega) (by omega)]
      by_cases d1 : uptoP w.base w.l > edgeP w.base w.cap
      · rw [decide_eq_true d1, cond_true, no (by omega)]
      · rw [decide_eq_false d1, cond_false]
        by_cases d2 : (w.b.length : Int) = uptoP w.base w.l - w.base
        · rw [show ((w.b.length : Int) == uptoP w.base w.l - w.base) = true by simpa using d2, Bool.not_true, cond_false]
          exact r6may_loop w hw ⟨by omega, hm, hf, by omega, d2⟩ (fun n => envV_at F_r4in (w.l, n) (by show w.l.length ≤ _; omega) [F_r6end] _ rfl) e2 w.b.length 0 rfl (fun k hk => by omega)
        · rw [show ((w.b.length : Int) == uptoP w.base w.l - w.base) = false by simpa using d2, Bool.not_false, cond_true, no (fun x => d2 x.2.2.2.2.2.2.2)]
    by_cases c5 : 0 < w.l.length
    · have hx : (prows w.l)[0]? = some (.agg [.int .i64 (pth w.l 0).a, .int .i64 (pth w.l 0).b]) := by rw [prows_get, List.getElem?_eq_getElem c5, pth_get]; rfl
      simp only [prows_length, decide_eq_true (show (w.l.length : Int) > 0 by omega), hx, ci_agg, VT]
      by_cases c6 : (pth w.l 0).a < w.base
      · rw [decide_eq_true c6, cond_true, no (fun x => x.2.2.2.2.2.1 ⟨c5, c6⟩)]
      · rw [decide_eq_false c6, cond_false]
        simp only [e2, e3, VT]
        exact last fun x => c6 x.2
    · simp only [prows_length, decide_eq_false (show ¬ (w.l.length : Int) > 0 by omega), e2, e3, VT]
      exact last fun x => c5 x.1
noncomputable def F_r6may : Fam Try.prog := { f := 33, ι := Wv, pre := Wv.Sm, args := fun w => [w.av], res := fun w => .bool w.may, ok := r6may_ok, inj := fun s t h => by rw [wv_inj (List.cons.inj h).1] }
theorem r6edge_ok (w : Wv) (hw : w.Sm) : FnOk Try.prog 32 [w.av] (.int .i64 (edgeW w)) := by
  refine fn_mk [F_r6may, F_r6end] [] (by kernel_rfl) mixed (by kernel_rfl) (From.of ((r6edge_0 _ _ _ _ _).trans ?_))
  have e1 : envV [F_r6may, F_r6end] 33 [w.av] = some (.bool w.may) := envV_at F_r6may w hw [] _ rfl
  simp only [e1, VT]
  unfold edgeW
  cases h : w.may with
  | false => rfl
  | true =>
    have e2 : envV [F_r6may, F_r6end] 61 [w.av] = some (.int .i64 (edgeP w.base w.cap)) := envV_at F_r6end w (may_rng h) [F_r6may] _ rfl
    simp only [e2, VT]; rfl
noncomputable def F_r6edge : Fam Try.prog := { f := 32, ι := Wv, pre := Wv.Sm, args := fun w => [w.av], res := fun w => .int .i64 (edgeW w), ok := r6edge_ok, inj := fun s t h => by rw [wv_inj (List.cons.inj h).1] }
theorem r6new_ok (n : Int) : FnOk Try.prog 29 [.int .i64 n] (.tup [(newW n).av, .int .i64 (newE n)]) := by
  refine fn_mk [] [] (by kernel_rfl) mixed (by kernel_rfl) (From.of ((r6new_0 n).trans ?_))
  unfold newW newE
  by_cases h1 : n < 0
  · simp [h1, Wv.none, prows]
  · by_cases h2 : n > 65536 <;> simp [h1, h2, Wv.none, prows]
noncomputable def F_r6new : Fam Try.prog := { f := 29, ι := Int, pre := fun _ => True, args := fun n => [.int .i64 n], res := fun n => .tup [(newW n).av, .int .i64 (newE n)], ok := fun n _ => r6new_ok n, inj := fun s t h => by simp at h; rw [h] }
theorem r6shut_ok (w : Wv) (hw : w.Sm) (n : Int) : FnOk Try.prog 27 [w.av, .int .i64 n] (.tup [(shutW w n).av, .int .i64 (shutE w n)]) := by
  refine fn_mk [F_r6own, F_r6may, F_r6upto] [] (by kernel_rfl) mixed (by kernel_rfl) (From.of ((r6shut_0 _ _ _ _ _ _).trans ?_))
  have e1 : envV [F_r6own, F_r6may, F_r6upto] 33 [w.av] = some (.bool w.may) := envV_at F_r6may w hw [F_r6own] _ rfl
  have e2 : envV [F_r6own, F_r6may, F_r6upto] 25 [w.av] = some w.av := envV_at F_r6own w hw [] _ rfl
  have e3 : envV [F_r6own, F_r6may, F_r6upto] 64 [w.av] = some (.int .i64 (uptoP w.base w.l)) := envV_at F_r6upto w hw [F_r6own, F_r6may] _ rfl
  simp only [e1, VT]
  unfold shutW shutE
  cases h : w.may with
  | false => simp [Wv.none, prows]
  | true =>
    by_cases h1 : n < 0
    · simp [h1, Wv.none, prows, show ¬ (0 ≤ n ∧ n ≤ 2305843009213693952) by omega]
    by_cases h2 : n > 2305843009213693952
    · simp [h1, h2, Wv.none, prows, show ¬ (0 ≤ n ∧ n ≤ 2305843009213693952) by omega]
    have h3 : 0 ≤ n ∧ n ≤ 2305843009213693952 := by omega
    have hp := mayOf h
    have hge := hp.ge
    have hen : w.end_ = -1 ∨ 0 ≤ w.end_ := by have := hp.en; have := hp.b0; omega
    rw [Bool.not_true, cond_false, decide_eq_false h1, decide_eq_false h2, cond_false, cond_false]
    by_cases h4 : w.end_ = -1
    · rw [decide_eq_false (show ¬ w.end_ ≥ 0 by omega), cond_false]
      simp only [e3, VT]
      by_cases h6 : n < uptoP w.base w.l
      · rw [decide_eq_true h6]; simp [h4, h3, h6, Wv.none, prows]
      · rw [decide_eq_false h6]; simp only [e2, cl_agg, ci_agg, VT]; simp [h4, h3, h6]
    · rw [decide_eq_true (show w.end_ ≥ 0 by omega), cond_true]
      by_cases h5 : w.end_ = n
      · rw [show (w.end_ == n) = true by simpa using h5]
        simp only [e3, VT]
        by_cases h6 : n < uptoP w.base w.l
        · rw [decide_eq_true h6]; simp [h4, h3, h5, h6, Wv.none, prows]
        · rw [decide_eq_false h6]; simp only [e2, cl_agg, ci_agg, VT]; simp [h4, h3, h5, h6]
      · rw [show (w.end_ == n) = false by simpa using h5]
        simp [h4, h3, h5, Wv.none, prows]
noncomputable def F_r6shut : Fam Try.prog := { f := 27, ι := Wv × Int, pre := fun p => p.1.Sm, args := fun p => [p.1.av, .int .i64 p.2], res := fun p => .tup [(shutW p.1 p.2).av, .int .i64 (shutE p.1 p.2)], ok := fun p h => r6shut_ok p.1 h p.2, inj := fun s t h => by rw [wv_inj (List.cons.inj h).1, (AV.int.inj (List.cons.inj (List.cons.inj h).2).1).2] }
theorem r6ready_loop {V : EV} {M : EM} (w : Wv) (hw : w.Sm) (h : w.may = true) (e1 : ∀ n, V 63 [.osl (prows w.l), .int .i64 n] = some (.bool (memB w.l n))) :
    ∀ (n i : Nat), n + i = w.b.length → (∀ m, w.base ≤ m → m < w.base + i → mem w.l m) → (Dr6ready V M).From 60 ⟨[.ptr 1000000 0 0 0, .int .i64 i, .bool true], [some ⟨[w.av], false, true⟩]⟩ = some (.int .i64 (readyP w), [])
  | n, i, hi, hz => by
    obtain ⟨g1, g2, g3, g4, g5⟩ := ready_le h
    have hr := may_rng h
    have hbl := hw.bl
    have here : (¬ mem w.l (w.base + i)) ∨ i = w.b.length → readyP w = i := fun c => by
      have k1 : w.base + i ≤ gapP w.l w.base := by
        rcases Int.lt_or_le (gapP w.l w.base) (w.base + i) with x | x
        · exact absurd (hz _ g1 x) g5
        · exact x
      have k2 : gapP w.l w.base ≤ w.base + i := by
        rcases c with c | c
        · rcases Int.lt_or_le (w.base + i) (gapP w.l w.base) with x | x
          · exact absurd (g4 _ (by omega) x) c
          · exact x
        · omega
      omega
    refine From.of ((r6ready_1 _ _ _ _ _ _ _).trans ?_)
    rw [cond_true]
    by_cases c : i < w.b.length
    · obtain ⟨n, rfl⟩ : ∃ m, n = m + 1 := ⟨n - 1, by omega⟩
      rw [decide_eq_true (show (i : Int) < (w.b.length : Int) by omega), cond_true, w64 (n := w.base + (i : Int)) (by omega) (by omega)]
      simp only [e1, w64 (n := (i : Int) + 1) (by omega) (by omega), VT]
      by_cases d : mem w.l (w.base + i)
      · rw [memB_iff.2 d, cond_true]
        exact r6ready_loop w hw h e1 n (i + 1) (by omega) fun m m1 m2 => by
          by_cases e : m = w.base + i
          · rw [e]; exact d
          · exact hz m m1 (by omega)
      · rw [show memB w.l (w.base + i) = false by rw [← Bool.not_eq_true, memB_iff]; exact d, cond_false, here (.inl d)]
    · rw [decide_eq_false (show ¬ (i : Int) < (w.b.length : Int) by omega), cond_false, here (.inr (by omega))]
theorem r6ready_ok (w : Wv) (hw : w.Sm) : FnOk Try.prog 30 [w.av] (.int .i64 (readyP w)) := by
  refine fn_mk [F_r6may, F_r4in] [] (by kernel_rfl) mixed (by kernel_rfl) (From.of ((r6ready_0 _ _ _ _ _).trans ?_))
  have hll := hw.ll
  have e1 : envV [F_r6may, F_r4in] 33 [w.av] = some (.bool w.may) := envV_at F_r6may w hw [] _ rfl
  simp only [e1, VT]
  cases h : w.may with
  | false => exact From.of ((r6ready_1 _ _ _ _ _ _ _).trans (by unfold readyP; rw [h]; rfl))
  | true => exact r6ready_loop w hw h (fun n => envV_at F_r4in (w.l, n) (by show w.l.length ≤ _; omega) [F_r6may] _ rfl) w.b.length 0 rfl (fun m m1 m2 => by omega)
noncomputable def F_r6ready : Fam Try.prog := { f := 30, ι := Wv, pre := Wv.Sm, args := fun w => [w.av], res := fun w => .int .i64 (readyP w), ok := r6ready_ok, inj := fun s t h => by rw [wv_inj (List.cons.inj h).1] }
def cutI (w : Wv) (i : Nat) : List Spn := if i = 0 then w.l else cutR w.l ⟨w.base, w.base + i⟩
def rdI (w : Wv) (i : Nat) : Wv := ⟨w.base + i, w.b.drop i, cutI w i, w.cap, w.end_⟩
theorem rdI_base (w : Wv) (i : Nat) : (rdI w i).base = w.base + i := rfl
theorem rdI_b (w : Wv) (i : Nat) : (rdI w i).b = w.b.drop i := rfl
theorem rdI_l (w : Wv) (i : Nat) : (rdI w i).l = cutI w i := rfl
theorem rdI_cap (w : Wv) (i : Nat) : (rdI w i).cap = w.cap := rfl
theorem rdI_end (w : Wv) (i : Nat) : (rdI w i).end_ = w.end_ := rfl
def r6C (w : Wv) (n many : Int) (i : Nat) : CS := ⟨[.int .i64 n, .ptr 1000000 0 0 0, .ptr 1000001 0 0 0, .ptr 1000002 0 0 0, if i = 0 then .nl else .sl 1 1000003 0 0 i, .int .i64 many, .int .i64 i],
  [some ⟨[w.av], false, true⟩, some ⟨[.agg [.int .i64 0, .nl, .nl, .int .i64 0, .int .i64 0]], false, true⟩, some ⟨[(rdI w i).av], false, true⟩] ++ if i = 0 then [] else [some ⟨w.b.take i, false, false⟩]⟩
theorem rdI_may {w : Wv} (h : w.may = true) (i : Nat) (hi : (i : Int) ≤ readyP w) : (rdI w i).may = true ∧ (∀ m, mem (cutI w i) m ↔ mem w.l m ∧ ¬ (w.base ≤ m ∧ m < w.base + i)) ∧ (cutI w i).length ≤ w.l.length := by
  unfold rdI cutI
  by_cases c : i = 0
  · subst c
    rw [if_pos rfl]
    refine ⟨?_, fun m => ⟨fun x => ⟨x, by omega⟩, fun x => x.1⟩, Nat.le_refl _⟩
    have : (⟨w.base + (0 : Nat), w.b.drop 0, w.l, w.cap, w.end_⟩ : Wv) = w := by simp
    rw [this]; exact h
  · rw [if_neg c]
    have f := read_facts (mayOf h) (by omega) (gap_has h i hi)
    exact ⟨mayW_plain.2 f.may, f.me, f.ln⟩
theorem cut_next {w : Wv} (h : w.may = true) (i : Nat) (hi : (i : Int) + 1 ≤ readyP w) : cutR (cutI w i) ⟨w.base + i, w.base + i + 1⟩ = cutI w (i + 1) := by
  obtain ⟨a1, a2, a3⟩ := rdI_may h i (by omega)
  obtain ⟨b1, b2, b3⟩ := rdI_may h (i + 1) (by omega)
  have f := read_facts (k := 1) (mayOf a1) (by omega) (fun n n1 n2 => (a2 n).2 ⟨gap_has h (i + 1) (by omega) n (by simp [rdI] at n1; omega) (by simp [rdI] at n2; omega), by simp [rdI] at n1; omega⟩)
  have e : (⟨(rdI w i).base, (rdI w i).base + (1 : Nat)⟩ : Spn) = ⟨w.base + i, w.base + i + 1⟩ := rfl
  have me := f.me
  have mc := f.may.can
  rw [e] at me mc
  refine can_eq mc (mayOf b1).can fun n => (me n).trans ?_
  show mem (cutI w i) n ∧ _ ↔ mem (cutI w (i + 1)) n
  rw [a2, b2]
  show (_ ∧ _) ∧ ¬ (w.base + (i : Int) ≤ n ∧ n < w.base + (i : Int) + ((1 : Nat) : Int)) ↔ _
  constructor
  · rintro ⟨⟨g1, g2⟩, g3⟩; exact ⟨g1, by omega⟩
  · rintro ⟨g1, g2⟩; exact ⟨⟨g1, by omega⟩, by omega⟩
theorem r6read_step {V : EV} {M : EM} (w : Wv) (hw : w.Sm) (h : w.may = true) (n : Int) (i : Nat) (hi : (i : Int) + 1 ≤ readyP w) (hn : (i : Int) + 1 ≤ n) (e : ∀ p : List Spn × Spn, p.1.length ≤ 90000 → V 65 [.osl (prows p.1), p.2.av] = some (.tup [.osl (prows (cutR p.1 p.2)), .int .i64 (cutE p.1 p.2)])) :
    (Dr6read V M).From 1018 (r6C w n (readyP w) i) = (Dr6read V M).From 1018 (r6C w n (readyP w) (i + 1)) := by
  obtain ⟨g1, g2, g3, g4, g5⟩ := ready_le h
  have hr := may_rng h
  have hbl := hw.bl; have hll := hw.ll
  have hib : i < w.b.length := by omega
  obtain ⟨a1, a2, a3⟩ := rdI_may h i (by omega)
  have ec : V 65 [.osl (prows (cutI w i)), .agg [.int .i64 (w.base + i), .int .i64 (w.base + i + 1)]] = some (.tup [.osl (prows (cutI w (i + 1))), .int .i64 (cutE (cutI w i) ⟨w.base + i, w.base + i + 1⟩)]) := by
    rw [← cut_next h i hi]; exact e (cutI w i, ⟨w.base + i, w.base + i + 1⟩) (by show (cutI w i).length ≤ _; omega)
  have w1 : IntKind.wrap .i64 (w.base + (i : Int)) = w.base + i := w64 (by omega) (by omega)
  have w2 : IntKind.wrap .i64 (w.base + (i : Int) + 1) = w.base + i + 1 := w64 (by omega) (by omega)
  have w3 : IntKind.wrap .i64 ((i : Int) + 1) = ((i + 1 : Nat) : Int) := w64 (by omega) (by omega)
  have bx := byte_at hw.b hib
  have ts := take_snoc hw.b hib
  have dl : (w.b.drop i).length = w.b.length - i := List.length_drop
  have tl : (w.b.drop i).take (w.b.length - i) = w.b.drop i := by rw [← dl, List.take_length]
  have gd1 : gCel 1 (w.b.drop i) = true := IsB.one (IsB.drop hw.b _)
  have dd : (w.b.drop i).drop 1 = w.b.drop (i + 1) := by rw [List.drop_drop]
  unfold r6C
  by_cases c : i = 0
  · subst c
    refine From.of ((r6read_1 _ _ _ _ _ _ _ _ _ _ _ _ _ _ _ _).trans ?_)
    simp only [decide_eq_true (show ((0 : Nat) : Int) < readyP w by omega), decide_eq_true (show ((0 : Nat) : Int) < n by omega), show decide ((0 : Int) ≤ ((0 : Nat) : Int)) = true from rfl, Int.toNat_natCast, bx, w1, w2, w3, rdI_base, rdI_b, rdI_l, rdI_cap, rdI_end, ec, gd1, dl, tl, dd, VT]
    rw [gd_of (decide_eq_true (by omega))]
    have t1 : [AV.int .u8 (byteAt w.b 0)] = w.b.take 1 := by simpa using ts
    rw [t1, show w.base + ((0 : Nat) : Int) + 1 = w.base + ((0 + 1 : Nat) : Int) by omega]
    rfl
  · simp only [if_neg c, if_neg (Nat.succ_ne_zero i), List.cons_append, List.nil_append]
    have l1 : (w.b.take i).length = i := by rw [List.length_take]; omega
    have t1 : (w.b.take i).take i = w.b.take i := by rw [List.take_take, Nat.min_self]
    refine From.of ((r6read_2 _ _ _ _ _ _ _ _ _ _ _ _ _ _ _ _ _ _).trans ?_)
    simp only [decide_eq_true (show (i : Int) < readyP w by omega), decide_eq_true (show (i : Int) < n by omega), decide_eq_true (show (0 : Int) ≤ (i : Int) by omega), Int.toNat_natCast, bx, w1, w2, w3, rdI_base, rdI_b, rdI_l, rdI_cap, rdI_end, ec, gd1, dl, tl, dd, l1, t1, ts, VT]
    rw [gd_of (decide_eq_true (by omega)), gd_of (gLen_of (by omega) (by omega)), gd_of (decide_eq_true (by omega)), gd_of (isb_no (IsB.take hw.b _))]
    rw [show w.base + (i : Int) + 1 = w.base + ((i + 1 : Nat) : Int) by omega]
    rfl
theorem r6read_end {V : EV} {M : EM} (w : Wv) (hw : w.Sm) (n many : Int) (i : Nat) (hi : i ≤ w.b.length) (hn : ¬ ((i : Int) < many ∧ (i : Int) < n)) :
    (Dr6read V M).From 1018 (r6C w n many i) = some (.tup [(rdI w i).av, .osl (w.b.take i), .int .i64 0], []) := by
  unfold r6C
  by_cases c : i = 0
  · subst c
    refine From.of ((r6read_1 _ _ _ _ _ _ _ _ _ _ _ _ _ _ _ _).trans ?_)
    by_cases d : ((0 : Nat) : Int) < many
    · rw [decide_eq_true d, decide_eq_false (fun x => hn ⟨d, x⟩)]; rfl
    · rw [decide_eq_false d]; rfl
  · simp only [if_neg c, List.cons_append, List.nil_append]
    have l1 : (w.b.take i).length = i := by rw [List.length_take]; omega
    have t1 : (w.b.take i).take i = w.b.take i := by rw [List.take_take, Nat.min_self]
    have gf : gFree 1 (w.b.take i) = true := IsB.free (IsB.take hw.b _)
    refine From.of ((r6read_2 _ _ _ _ _ _ _ _ _ _ _ _ _ _ _ _ _ _).trans ?_)
    simp only [Nat.zero_add, List.drop_zero, l1, t1, gf, Nat.le_refl, VT]
    by_cases d : (i : Int) < many
    · rw [decide_eq_true d, decide_eq_false (fun x => hn ⟨d, x⟩)]; rfl
    · rw [decide_eq_false d]; rfl
theorem r6read_ok (w : Wv) (hw : w.Sm) (n : Int) : FnOk Try.prog 28 [w.av, .int .i64 n] (.tup [(readW w n).av, .osl (readB w n), .int .i64 (readE w n)]) := by
  refine fn_mk [F_r6own, F_r6ready, F_r6may, F_r4cut] [] (by kernel_rfl) mixed (by kernel_rfl) (From.of ((r6read_0 _ _ _ _ _ _).trans ?_))
  have e1 : envV [F_r6own, F_r6ready, F_r6may, F_r4cut] 33 [w.av] = some (.bool w.may) := envV_at F_r6may w hw [F_r6own, F_r6ready] _ rfl
  have e2 : envV [F_r6own, F_r6ready, F_r6may, F_r4cut] 25 [w.av] = some w.av := envV_at F_r6own w hw [] _ rfl
  have e3 : envV [F_r6own, F_r6ready, F_r6may, F_r4cut] 30 [w.av] = some (.int .i64 (readyP w)) := envV_at F_r6ready w hw [F_r6own] _ rfl
  simp only [e1, VT]
  unfold readW readB readE
  cases h : w.may with
  | false => simp [Wv.none, prows]
  | true =>
    by_cases h1 : n < 0
    · simp [h1, Wv.none, prows, show ¬ (0 ≤ n) by omega]
    · have hn : 0 ≤ n := by omega
      obtain ⟨k1, k2, k3, k4, k5, k6⟩ := readK_le h hn
      rw [Bool.not_true, cond_false, decide_eq_false h1, cond_false]
      simp only [e2, e3, ci_agg, cl_agg, hn, and_self, if_true, VT]
      have loop : ∀ i : Nat, i ≤ readK w n → (Dr6read (envV [F_r6own, F_r6ready, F_r6may, F_r4cut]) (envM (P := Try.prog) [])).From 1018 (r6C w n (readyP w) 0) = (Dr6read (envV [F_r6own, F_r6ready, F_r6may, F_r4cut]) (envM (P := Try.prog) [])).From 1018 (r6C w n (readyP w) i) := by
        intro i
        induction i with
        | zero => intro _; rfl
        | succ i ih =>
          intro hi
          rw [ih (by omega)]
          exact r6read_step w hw h n i (by omega) (by omega) fun p hp => envV_at F_r4cut p hp [F_r6own, F_r6ready, F_r6may] _ rfl
      have fin := (loop (readK w n) (Nat.le_refl _)).trans (r6read_end w hw n (readyP w) (readK w n) k4 (by split at k1 <;> omega))
      have e0 : rdI w 0 = w := by unfold rdI cutI; simp
      have est : r6C w n (readyP w) 0 = ⟨[.int .i64 n, .ptr 1000000 0 0 0, .ptr 1000001 0 0 0, .ptr 1000002 0 0 0, .nl, .int .i64 (readyP w), .int .i64 0], [some ⟨[w.av], false, true⟩, some ⟨[.agg [.int .i64 0, .nl, .nl, .int .i64 0, .int .i64 0]], false, true⟩, some ⟨[w.av], false, true⟩]⟩ := by
        unfold r6C; rw [e0]; rfl
      rw [est] at fin
      refine fin.trans ?_
      have er : rdI w (readK w n) = (if readK w n = 0 then w else ⟨w.base + readK w n, w.b.drop (readK w n), cutR w.l ⟨w.base, w.base + readK w n⟩, w.cap, w.end_⟩) := by
        by_cases c : readK w n = 0
        · rw [if_pos c, c, e0]
        · rw [if_neg c]; unfold rdI cutI; rw [if_neg c]
      rw [er]
noncomputable def F_r6read : Fam Try.prog := { f := 28, ι := Wv × Int, pre := fun p => p.1.Sm, args := fun p => [p.1.av, .int .i64 p.2], res := fun p => .tup [(readW p.1 p.2).av, .osl (readB p.1 p.2), .int .i64 (readE p.1 p.2)], ok := fun p h => r6read_ok p.1 h p.2, inj := fun s t h => by rw [wv_inj (List.cons.inj h).1, (AV.int.inj (List.cons.inj (List.cons.inj h).2).1).2] }
def upA (l : List Spn) (low p : Int) : List Spn := if p = low then l else addL l ⟨low, p⟩
theorem upA_spec {l : List Spn} (hl : Can l) {low p : Int} (h0 : 0 ≤ low) (h1 : low ≤ p) (h2 : p ≤ 4611686018427387904) : Can (upA l low p) ∧ ∀ n, mem (upA l low p) n ↔ mem l n ∨ (low ≤ n ∧ n < p) := by
  unfold upA
  by_cases c : p = low
  · rw [if_pos c]
    exact ⟨hl, fun n => ⟨.inl, fun g => g.elim id fun x => by omega⟩⟩
  · rw [if_neg c]
    have hs : 0 ≤ (⟨low, p⟩ : Spn).a ∧ (⟨low, p⟩ : Spn).a < (⟨low, p⟩ : Spn).b ∧ (⟨low, p⟩ : Spn).b ≤ 4611686018427387904 := by show 0 ≤ low ∧ low < p ∧ p ≤ _; omega
    exact ⟨addL_can hl hs, addL_mem hl hs⟩
theorem upA_in {l : List Spn} (hl : Can l) {low p : Int} (h0 : 0 ≤ low) (h1 : low ≤ p) (h2 : p < 4611686018427387904) (h : mem l p) : upA l low (p + 1) = upA l low p := by
  obtain ⟨a1, a2⟩ := upA_spec hl h0 (show low ≤ p + 1 by omega) (by omega)
  obtain ⟨b1, b2⟩ := upA_spec hl h0 h1 (by omega)
  refine can_eq a1 b1 fun n => ?_
  rw [a2, b2]
  constructor
  · rintro (g | g)
    · exact .inl g
    · by_cases e : n = p
      · rw [e]; exact .inl h
      · exact .inr (by omega)
  · rintro (g | g)
    · exact .inl g
    · exact .inr (by omega)
theorem upA_new {l : List Spn} (hl : Can l) {low p : Int} (h0 : 0 ≤ low) (h1 : low ≤ p) (h2 : p < 4611686018427387904) (h : ¬ mem l p) : sizeP (upA l low (p + 1)) = sizeP (upA l low p) + 1 := by
  obtain ⟨a1, a2⟩ := upA_spec hl h0 (show low ≤ p + 1 by omega) (by omega)
  obtain ⟨b1, b2⟩ := upA_spec hl h0 h1 (by omega)
  have hs : 0 ≤ (⟨p, p + 1⟩ : Spn).a ∧ (⟨p, p + 1⟩ : Spn).a < (⟨p, p + 1⟩ : Spn).b ∧ (⟨p, p + 1⟩ : Spn).b ≤ 4611686018427387904 := by show 0 ≤ p ∧ p < p + 1 ∧ p + 1 ≤ _; omega
  have e1 : upA l low (p + 1) = addL (upA l low p) ⟨p, p + 1⟩ := can_eq a1 (addL_can b1 hs) fun n => by
    rw [a2, addL_mem b1 hs, b2]
    show _ ↔ _ ∨ (p ≤ n ∧ n < p + 1)
    constructor
    · rintro (g | g)
      · exact .inl (.inl g)
      · by_cases e : n = p
        · exact .inr (by omega)
        · exact .inl (.inr (by omega))
    · rintro ((g | g) | g)
      · exact .inl g
      · exact .inr (by omega)
      · exact .inr (by omega)
  have e2 : cutL (upA l low p) ⟨p, p + 1⟩ = upA l low p := can_eq (cutL_can b1 hs.2.1) b1 fun n => by
    rw [cutL_mem _ hs.2.1, b2]
    show _ ∧ ¬ (p ≤ n ∧ n < p + 1) ↔ _
    constructor
    · exact fun g => g.1
    · intro g
      refine ⟨g, fun x => ?_⟩
      have : n = p := by omega
      rw [this] at g
      exact g.elim h (by omega)
  obtain ⟨c1, c2, c3⟩ := size_both b1 hs
  rw [e2] at c3
  rw [e1, c3]; show sizeP _ + (p + 1 - p) - _ = _; omega
theorem byteAt_of {xs : List AV} {i : Nat} {v : Int} (h : xs[i]? = some (.int .u8 v)) : byteAt xs i = v := by unfold byteAt; rw [h]
theorem byteAt_set {xs : List AV} {i : Nat} {v : Int} (h : i < xs.length) (k : Nat) : byteAt (xs.set i (.int .u8 v)) k = if k = i then v else byteAt xs k := by
  by_cases c : k = i
  · rw [if_pos c, c]; exact byteAt_of (List.getElem?_set_self h)
  · rw [if_neg c]
    unfold byteAt
    rw [List.getElem?_set_ne (by omega)]
theorem IsB.set {xs : List AV} (h : IsB xs) (i : Nat) (v : Int) : IsB (xs.set i (.int .u8 v)) := fun x hx => by
  rcases List.mem_or_eq_of_mem_set hx with g | g
  · exact h x g
  · exact ⟨v, g⟩
open Classical in
structure PutI (w : Wv) (n low p : Int) (bs X : List AV) : Prop where
  isb : IsB X
  ge : w.b.length ≤ X.length
  le : (X.length : Int) ≤ 65536
  cov : ∀ q, low ≤ q → q < p → q - w.base < X.length
  top : X.length = w.b.length ∨ (X.length : Int) ≤ p - w.base
  by_ : ∀ k : Nat, byteAt X k = if mem w.l (w.base + k) then byteAt w.b k else if low ≤ w.base + k ∧ w.base + k < p then byteAt bs (w.base + k - n).toNat else 0
def r6pC (w : Wv) (n : Int) (bs : List AV) (l2 : List Spn) (high c p : Int) (X : List AV) : CS := ⟨[.int .i64 n, .osl bs, .ptr 1000000 0 0 0, .ptr 1000001 0 0 0, .int .i64 high, .ptr 1000002 0 0 0, .int .i64 c, .int .i64 p],
  [some ⟨[w.av], false, true⟩, some ⟨[.agg [.int .i64 0, .nl, .nl, .int .i64 0, .int .i64 0]], false, true⟩, some ⟨[.agg [.int .i64 w.base, .sl 1 1000003 0 0 X.length, .osl (prows l2), .int .i64 w.cap, .int .i64 w.end_]], false, true⟩, some ⟨X, false, false⟩]⟩
theorem put_grow {V : EV} {M : EM} (w : Wv) (hr : 0 ≤ w.base ∧ w.base ≤ 2305843009213693952) (n : Int) (bs : List AV) (l2 : List Spn) (high c p : Int) (hp : w.base ≤ p ∧ p - w.base ≤ 65536) : ∀ (k : Nat) (X : List AV), IsB X → (X.length : Int) + k = p - w.base + 1 →
    (Dr6put V M).From 33553700 (r6pC w n bs l2 high c p X) = (Dr6put V M).From 33553700 (r6pC w n bs l2 high c p (X ++ List.replicate k (.int .u8 0)))
  | 0, X, _, _ => by rw [List.replicate_zero, List.append_nil]
  | k + 1, X, hX, hk => by
    have h1 : IsB [AV.int .u8 0] := IsB.replicate 1 0
    have ih := put_grow (V := V) (M := M) w hr n bs l2 high c p hp k (X ++ [.int .u8 0]) (IsB.append hX h1) (by rw [List.length_append]; simp; omega)
    have e : X ++ List.replicate (k + 1) (AV.int .u8 0) = X ++ [.int .u8 0] ++ List.replicate k (.int .u8 0) := by rw [List.replicate_succ, List.append_assoc]; rfl
    rw [e, ← ih]
    refine From.of ((r6put_5 _ _ _ _ _ _ _ _ _ _ _ _ _ _ _ _ _ _ _).trans ?_)
    rw [w64 (n := p - w.base) (by omega) (by omega), decide_eq_true (show (X.length : Int) ≤ p - w.base by omega), cond_true, List.take_length, gd_of (decide_eq_true (Nat.le_refl _)), gd_of (gLen_of (by omega) (by omega)), gd_of (isb_no (IsB.append hX h1))]
    unfold r6pC
    rw [List.length_append]
    rfl
theorem put_store {V : EV} {M : EM} (w : Wv) (hr : 0 ≤ w.base ∧ w.base ≤ 2305843009213693952) (n : Int) (bs : List AV) (hbs : IsB bs) (hbl : bs.length ≤ 140737488355) (l2 : List Spn) (high c p : Int) (hc : 0 ≤ c ∧ c ≤ 65536) (hp : w.base ≤ p ∧ p - w.base ≤ 65536) (hn : n ≤ p ∧ p < n + bs.length) (X : List AV) (hX : IsB X) (hxl : p - w.base < X.length) :
    (Dr6put V M).From 33553700 (r6pC w n bs l2 high c p X) = (Dr6put V M).From 262138 (r6pC w n bs l2 high (c + 1) (p + 1) (X.set (p - w.base).toNat (.int .u8 (byteAt bs (p - n).toNat)))) := by
  refine From.of ((r6put_5 _ _ _ _ _ _ _ _ _ _ _ _ _ _ _ _ _ _ _).trans ?_)
  rw [w64 (n := p - w.base) (by omega) (by omega), w64 (n := p - n) (by omega) (by omega), w64 (n := c + 1) (by omega) (by omega), w64 (n := p + 1) (by omega) (by omega), decide_eq_false (show ¬ (X.length : Int) ≤ p - w.base by omega), cond_false]
  simp only [decide_eq_true (show (0 : Int) ≤ p - n by omega), byte_at hbs (show (p - n).toNat < bs.length by omega), Nat.zero_add, byte_at hX (show (p - w.base).toNat < X.length by omega), decide_eq_true (show (0 : Int) ≤ p - w.base ∧ p - w.base < (X.length : Int) by omega), isb_no (IsB.set hX _ _), VT]
  unfold r6pC
  rw [List.length_set]
open Classical in
theorem put_end {w : Wv} (hm : MayW w.base w.b w.l w.cap w.end_) {n low high : Int} {bs X : List AV} (f : PutF w.base n low high w.b bs w.l w.cap) (hl : w.base ≤ low ∧ low < high) (h : PutI w n low high bs X) : X = putB w.base n low high w.b bs w.l := by
  have hlen : (X.length : Int) = uptoP w.base (addR w.l ⟨low, high⟩) - w.base := by
    have h1 := h.ge; have h2 := h.cov (high - 1) (by omega) (by omega); have h3 := h.top; have h4 := hm.bl
    have u1 := f.y1; have u3 := f.y3
    have u2 : uptoP w.base (addR w.l ⟨low, high⟩) ≤ if w.base + w.b.length < high then high else w.base + w.b.length := upto_le f.can (by split <;> omega) fun m hm' => by
      rcases (f.me m).1 hm' with g | g
      · have := upto_lt (base := w.base) hm.can g; split <;> omega
      · split <;> omega
    split at u2 <;> omega
  have hB := f.lB
  refine isb_ext h.isb f.hB (by omega) fun k hk => ?_
  rw [h.by_ k, f.by_ k (by omega)]
open Classical in
theorem put_main {V : EV} {M : EM} (w : Wv) (hw : w.Sm) (hm : MayW w.base w.b w.l w.cap w.end_) (n low high : Int) (bs : List AV) (hbs : IsB bs) (hbl : bs.length ≤ 140737488355) (l2 : List Spn) (h0 : 0 ≤ n) (z1 : w.base ≤ low) (z2 : n ≤ low) (z4 : high ≤ n + bs.length) (z5 : high ≤ edgeP w.base w.cap)
    (e1 : ∀ m, V 63 [.osl (prows w.l), .int .i64 m] = some (.bool (memB w.l m))) : ∀ (m : Nat) (p c : Int) (X : List AV), p + m = high → low ≤ p → c = sizeP (upA w.l low p) - sizeP w.l → 0 ≤ c → c ≤ p - low → PutI w n low p bs X →
    ∃ X2, PutI w n low high bs X2 ∧ (Dr6put V M).From 262138 (r6pC w n bs l2 high c p X) = some (.tup [.agg [.int .i64 w.base, .osl X2, .osl (prows l2), .int .i64 w.cap, .int .i64 w.end_], .int .i64 (sizeP (upA w.l low high) - sizeP w.l), .int .i64 0], [])
  | 0, p, c, X, hp, hlp, hc, _, _, h => by
    obtain rfl : p = high := by omega
    refine ⟨X, h, From.of ((r6put_4 _ _ _ _ _ _ _ _ _ _ _ _ _ _ _ _ _ _ _).trans ?_)⟩
    rw [decide_eq_false (show ¬ p < p by omega), cond_false, List.drop_zero, List.take_length, Nat.zero_add, gd_of (decide_eq_true (Nat.le_refl _)), gd_of (show gFree 1 X = true from IsB.free h.isb), hc]
  | m + 1, p, c, X, hp, hlp, hc, hc0, hc1, h => by
    have he := hm.edge; have b0 := hm.b0; have b1 := hm.b1
    have ih := put_main (V := V) (M := M) w hw hm n low high bs hbs hbl l2 h0 z1 z2 z4 z5 e1 m (p + 1)
    by_cases d : mem w.l p
    · have hu := upto_lt (base := w.base) hm.can d
      have hb := hm.bl
      have hge := h.ge
      have h' : PutI w n low (p + 1) bs X := by
        refine ⟨h.isb, h.ge, h.le, fun q q1 q2 => ?_, h.top.imp id fun x => by omega, fun k => ?_⟩
        · by_cases e : q = p
          · omega
          · exact h.cov q q1 (by omega)
        · rw [h.by_ k]
          by_cases g : mem w.l (w.base + k)
          · rw [if_pos g, if_pos g]
          · rw [if_neg g, if_neg g]
            have : w.base + (k : Int) ≠ p := fun e => g (by rw [e]; exact d)
            by_cases g2 : low ≤ w.base + (k : Int) ∧ w.base + (k : Int) < p
            · rw [if_pos g2, if_pos (by omega)]
            · rw [if_neg g2, if_neg (by omega)]
      obtain ⟨X2, x1, x2⟩ := ih c X (by omega) (by omega) (by rw [upA_in hm.can (by omega) hlp (by omega) d]; exact hc) hc0 (by omega) h'
      refine ⟨X2, x1, Eq.trans (From.of ((r6put_4 _ _ _ _ _ _ _ _ _ _ _ _ _ _ _ _ _ _ _).trans ?_)) x2⟩
      rw [decide_eq_true (show p < high by omega), cond_true]
      simp only [e1, memB_iff.2 d, isb_no h.isb, w64 (n := p + 1) (by omega) (by omega), VT]
      rfl
    · have md : memB w.l p = false := by rw [← Bool.not_eq_true, memB_iff]; exact d
      have key : ∀ X1 : List AV, IsB X1 → w.b.length ≤ X1.length → (X1.length : Int) ≤ 65536 → p - w.base < X1.length → (X1.length = w.b.length ∨ (X1.length : Int) ≤ p + 1 - w.base) → (∀ k, byteAt X1 k = byteAt X k) → (∀ q, low ≤ q → q < p → q - w.base < X1.length) →
          (Dr6put V M).From 33553700 (r6pC w n bs l2 high c p X) = (Dr6put V M).From 33553700 (r6pC w n bs l2 high c p X1) →
          ∃ X2, PutI w n low high bs X2 ∧ (Dr6put V M).From 262138 (r6pC w n bs l2 high c p X) = some (.tup [.agg [.int .i64 w.base, .osl X2, .osl (prows l2), .int .i64 w.cap, .int .i64 w.end_], .int .i64 (sizeP (upA w.l low high) - sizeP w.l), .int .i64 0], []) := by
        intro X1 i1 i2 i3 i4 i5 i6 i7 i8
        have st := put_store (V := V) (M := M) w ⟨b0, b1⟩ n bs hbs hbl l2 high c p (by omega) (by omega) (by omega) X1 i1 i4
        have h' : PutI w n low (p + 1) bs (X1.set (p - w.base).toNat (.int .u8 (byteAt bs (p - n).toNat))) := by
          refine ⟨IsB.set i1 _ _, by rw [List.length_set]; exact i2, by rw [List.length_set]; exact i3, fun q q1 q2 => ?_, by rw [List.length_set]; exact i5, fun k => ?_⟩
          · rw [List.length_set]
            by_cases e : q = p
            · omega
            · exact i7 q q1 (by omega)
          · rw [byteAt_set (by omega), i6, h.by_ k]
            by_cases e : k = (p - w.base).toNat
            · have ek : w.base + (k : Int) = p := by omega
              rw [if_pos e, ek, if_neg d, if_pos (by omega)]
            · rw [if_neg e]
              by_cases g : mem w.l (w.base + k)
              · rw [if_pos g, if_pos g]
              · rw [if_neg g, if_neg g]
                by_cases g2 : low ≤ w.base + (k : Int) ∧ w.base + (k : Int) < p
                · rw [if_pos g2, if_pos (by omega)]
                · rw [if_neg g2, if_neg (by omega)]
        obtain ⟨X2, x1, x2⟩ := ih (c + 1) _ (by omega) (by omega) (by rw [upA_new hm.can (by omega) hlp (by omega) d]; omega) (by omega) (by omega) h'
        refine ⟨X2, x1, Eq.trans (From.of ((r6put_4 _ _ _ _ _ _ _ _ _ _ _ _ _ _ _ _ _ _ _).trans ?_)) ((i8.trans st).trans x2)⟩
        rw [decide_eq_true (show p < high by omega), cond_true]
        simp only [e1, md, isb_no h.isb, VT]
        rfl
      by_cases g : p - w.base < X.length
      · exact key X h.isb h.ge h.le g (h.top.imp id fun x => by omega) (fun _ => rfl) h.cov rfl
      · obtain ⟨k, hk⟩ : ∃ k : Nat, (X.length : Int) + k = p - w.base + 1 := ⟨(p - w.base + 1 - X.length).toNat, by omega⟩
        have hl2 : ((X ++ List.replicate k (AV.int .u8 0)).length : Int) = p - w.base + 1 := by rw [List.length_append, List.length_replicate]; omega
        have hge := h.ge
        refine key (X ++ List.replicate k (.int .u8 0)) (IsB.append h.isb (IsB.replicate _ _)) (by omega) (by omega) (by omega) (.inr (by omega)) (fun j => ?_) (fun q q1 q2 => by omega) (put_grow w ⟨b0, b1⟩ n bs l2 high c p (by omega) k X h.isb hk)
        by_cases j1 : j < X.length
        · rw [byteAt_left j1]
        · rw [byteAt_right (by omega), byteAt_zeros, byteAt_over (by omega)]
theorem r6put_2m {V : EV} {M : EM} (w : Wv) (hw : w.Sm) (hm : w.may = true) (n : Int) (bs : List AV) (hb : IsB bs) (hbl : bs.length ≤ 140737488355) (h1 : 0 ≤ n) (h2 : n ≤ 2305843009213693952)
    (e2 : M 25 [w.av] [] = some (.agg [.int .i64 w.base, .sl 1 1000000 0 0 w.b.length, .sl 2 1000001 0 0 w.l.length, .int .i64 w.cap, .int .i64 w.end_], [some ⟨w.b, false, false⟩, some ⟨prows w.l, false, false⟩]))
    (e3 : V 62 [.osl (prows w.l), .agg [.int .i64 (lowW w n), .int .i64 (highW w n bs.length)]] = some (.tup [.osl (prows (addR w.l ⟨lowW w n, highW w n bs.length⟩)), .int .i64 (addE w.l ⟨lowW w n, highW w n bs.length⟩)]))
    (e4 : ∀ m, V 63 [.osl (prows w.l), .int .i64 m] = some (.bool (memB w.l m))) :
    (Dr6put V M).From 1021 ⟨[.int .i64 n, .osl bs, .ptr 1000000 0 0 0, .ptr 1000001 0 0 0, .int .i64 (lowW w n), .int .i64 (highW w n bs.length)], [some ⟨[w.av], false, true⟩, some ⟨[.agg [.int .i64 0, .nl, .nl, .int .i64 0, .int .i64 0]], false, true⟩]⟩ = some (putT w n bs, []) := by
  have hp := mayOf hm
  have hlh := low_high (w := w) h1 h2 hbl
  have t1 : w.b.take w.b.length = w.b := List.take_length
  have t2 : (prows w.l).take w.l.length = prows w.l := take_rows w.l
  have gb := isb_no hw.b
  have gf : gFree 1 w.b = true := IsB.free hw.b
  refine From.of ((r6put_2 _ _ _ _ _ _ _ _ _ _ _ _).trans ?_)
  rw [e2]
  unfold putT
  by_cases c : lowW w n ≥ highW w n bs.length
  · rw [decide_eq_true c, if_pos c]
    simp only [Option.bind_some, fit_own, gd_true, cond_true, getc_agg, List.getD_cons_zero, List.getD_cons_succ, sln_sl, bget_0, bget_1, Nat.zero_add, Nat.le_refl, decide_true, List.drop_zero, t1, t2, prows_length, gFree_rows, geti_int', gf]
  · rw [decide_eq_false c, if_neg c]
    simp only [Option.bind_some, fit_own, gd_true, cond_false, getc_agg, List.getD_cons_zero, List.getD_cons_succ, sln_sl, bget_0, bget_1, gb, gNo_rows4, geti_int']
    refine From.of ((r6put_3 _ _ _ _ _ _ _ _ _ _ _ _ _ _ _ _ _ _ _).trans ?_)
    simp only [e3, gb, VT]
    by_cases d : addE w.l ⟨lowW w n, highW w n bs.length⟩ = 0
    · rw [if_pos d, d]
      have f := put_facts hp hw.b hb hbl h1 hlh.1 hlh.2.1 (by omega) hlh.2.2.1 hlh.2.2.2.1 d
      have he := hp.edge; have b0 := hp.b0; have hbl2 := hp.len
      have i0 : PutI w n (lowW w n) (lowW w n) bs w.b := by
        refine ⟨hw.b, Nat.le_refl _, by omega, fun q q1 q2 => by omega, .inl rfl, fun k => ?_⟩
        by_cases g : mem w.l (w.base + k)
        · rw [if_pos g]
        · rw [if_neg g, if_neg (by omega)]
          by_cases g2 : k < w.b.length
          · exact hp.bz k g2 g
          · exact byteAt_over (by omega)
      obtain ⟨X2, x1, x2⟩ := put_main (V := V) (M := M) w hw hp n (lowW w n) (highW w n bs.length) bs hb hbl (addR w.l ⟨lowW w n, highW w n bs.length⟩) h1 hlh.1 hlh.2.1 hlh.2.2.1 hlh.2.2.2.1 e4 (highW w n bs.length - lowW w n).toNat (lowW w n) 0 w.b (by omega) (by omega)
        (by unfold upA; rw [if_pos rfl]; omega) (by omega) (by omega) i0
      refine Eq.trans x2 ?_
      rw [put_end hp f ⟨hlh.1, by omega⟩ x1]
      have q1 : sizeS w.l = sizeP w.l := by unfold sizeS; rw [if_pos (may_iff.2 ⟨hp.ll, hp.can⟩)]
      have q2 : sizeS (addR w.l ⟨lowW w n, highW w n bs.length⟩) = sizeP (addR w.l ⟨lowW w n, highW w n bs.length⟩) := by unfold sizeS; rw [if_pos (may_iff.2 ⟨f.gl, f.can⟩)]
      have q3 : upA w.l (lowW w n) (highW w n bs.length) = addR w.l ⟨lowW w n, highW w n bs.length⟩ := by unfold upA; rw [if_neg (by omega), f.ge]
      have hs : 0 ≤ (⟨lowW w n, highW w n bs.length⟩ : Spn).a ∧ (⟨lowW w n, highW w n bs.length⟩ : Spn).a < (⟨lowW w n, highW w n bs.length⟩ : Spn).b ∧ (⟨lowW w n, highW w n bs.length⟩ : Spn).b ≤ 4611686018427387904 := by
        show 0 ≤ lowW w n ∧ lowW w n < highW w n bs.length ∧ highW w n bs.length ≤ _; omega
      obtain ⟨s1, s2, s3⟩ := size_both hp.can hs
      have s2' : sizeP w.l - sizeP (cutL w.l ⟨lowW w n, highW w n bs.length⟩) ≤ highW w n bs.length - lowW w n := s2
      have s3' : sizeP (addL w.l ⟨lowW w n, highW w n bs.length⟩) = sizeP w.l + (highW w n bs.length - lowW w n) - (sizeP w.l - sizeP (cutL w.l ⟨lowW w n, highW w n bs.length⟩)) := s3
      rw [q1, q2, q3, f.ge, w64 (by omega) (by omega)]
    · rw [if_neg d, show (addE w.l ⟨lowW w n, highW w n bs.length⟩ == 0) = false by simpa using d]
      rfl
theorem r6put_ok (w : Wv) (hw : w.Sm) (n : Int) (bs : List AV) (hb : IsB bs) (hbl : bs.length ≤ 140737488355) : FnOk Try.prog 26 [w.av, .int .i64 n, .osl bs] (.tup [(putW w n bs).av, .int .i64 (putM w n bs), .int .i64 (putK w n bs)]) := by
  refine fn_mk [F_r6may, F_r6end, F_r4add, F_r4in] [MF_r6own] (by kernel_rfl) mixed (by kernel_rfl) (From.of ((r6put_0 _ _ _ _ _ _ _).trans ?_))
  have hll := hw.ll
  have e1 : envV [F_r6may, F_r6end, F_r4add, F_r4in] 33 [w.av] = some (.bool w.may) := envV_at F_r6may w hw [] _ rfl
  simp only [e1, VT]
  have bad : putK w n bs ≠ 0 → putW w n bs = Wv.none ∧ putM w n bs = 0 := fun h => by unfold putW putM; rw [if_pos h, if_pos h]; exact ⟨rfl, rfl⟩
  by_cases h : w.may = false ∨ n < 0 ∨ n > 2305843009213693952
  · have k : putK w n bs = 1 := by unfold putK; rw [if_pos h]
    rw [(bad (by rw [k]; decide)).1, (bad (by rw [k]; decide)).2, k]
    cases hm : w.may with
    | false => simp [Wv.none, prows]
    | true =>
      rcases h with h | h | h
      · rw [hm] at h; cases h
      · simp [h, Wv.none, prows]
      · simp [h, show ¬ n < 0 by omega, Wv.none, prows]
  · have hm : w.may = true := by cases hm : w.may; exact absurd (.inl hm) h; rfl
    have h1 : ¬ n < 0 := fun x => h (.inr (.inl x))
    have h2 : ¬ n > 2305843009213693952 := fun x => h (.inr (.inr x))
    have hr := may_rng hm
    have hlh := low_high (w := w) (n := n) (k := bs.length) (by omega) (by omega) hbl
    have mid2 := r6put_2m (V := envV [F_r6may, F_r6end, F_r4add, F_r4in]) (M := envM [MF_r6own]) w hw hm n bs hb hbl (by omega) (by omega) (envM_at MF_r6own w hw [] _ rfl)
      (envV_at F_r4add (w.l, ⟨lowW w n, highW w n bs.length⟩) (by show w.l.length ≤ _; omega) [F_r6may, F_r6end] _ rfl) (fun m => envV_at F_r4in (w.l, m) (by show w.l.length ≤ _; omega) [F_r6may, F_r6end, F_r4add] _ rfl)
    have e5 : envV [F_r6may, F_r6end, F_r4add, F_r4in] 61 [w.av] = some (.int .i64 (edgeP w.base w.cap)) := envV_at F_r6end w hr [F_r6may] _ rfl
    have mid : (Dr6put (envV [F_r6may, F_r6end, F_r4add, F_r4in]) (envM [MF_r6own])).From 61 (putH w n bs) = some (putT w n bs, []) := by
      refine From.of ((r6put_1 _ _ _ _ _ _ _ _ _ _).trans ?_)
      unfold lowW highW at mid2
      rw [hlh.2.2.2.2] at mid2 ⊢
      by_cases c1 : n < w.base
      · rw [decide_eq_true c1, cond_true]
        rw [if_pos (show w.base > n from c1)] at mid2
        simp only [e5, VT]
        by_cases c2 : n + (bs.length : Int) > edgeP w.base w.cap
        · rw [decide_eq_true c2, cond_true]; rw [if_pos (show edgeP w.base w.cap < n + bs.length from c2)] at mid2; exact mid2
        · rw [decide_eq_false c2, cond_false]; rw [if_neg (show ¬ edgeP w.base w.cap < n + bs.length from c2)] at mid2; exact mid2
      · rw [decide_eq_false c1, cond_false]
        rw [if_neg (show ¬ w.base > n from c1)] at mid2
        simp only [e5, VT]
        by_cases c2 : n + (bs.length : Int) > edgeP w.base w.cap
        · rw [decide_eq_true c2, cond_true]; rw [if_pos (show edgeP w.base w.cap < n + bs.length from c2)] at mid2; exact mid2
        · rw [decide_eq_false c2, cond_false]; rw [if_neg (show ¬ edgeP w.base w.cap < n + bs.length from c2)] at mid2; exact mid2
    have hp := mayOf hm
    have hge := hp.ge
    have hen : w.end_ = -1 ∨ 0 ≤ w.end_ := by have := hp.en; have := hp.b0; omega
    rw [hm, Bool.not_true, cond_false, decide_eq_false h1, decide_eq_false h2, cond_false, cond_false, hlh.2.2.2.2]
    by_cases h3 : w.end_ = -1
    · rw [decide_eq_false (show ¬ w.end_ ≥ 0 by omega), cond_false, ← putT_ok h fun x => x.1 h3]
      exact mid
    · rw [decide_eq_true (show w.end_ ≥ 0 by omega), cond_true]
      by_cases h4 : n + bs.length > w.end_
      · have k : putK w n bs = 5 := by unfold putK; rw [if_neg h, if_pos ⟨h3, h4⟩]
        rw [(bad (by rw [k]; decide)).1, (bad (by rw [k]; decide)).2, k, decide_eq_true h4, cond_true]
        rfl
      · rw [decide_eq_false h4, cond_false, ← putT_ok h fun x => h4 x.2]
        exact mid
noncomputable def F_r6put : Fam Try.prog := { f := 26, ι := Wv × Int × List AV, pre := fun p => p.1.Sm ∧ IsB p.2.2 ∧ p.2.2.length ≤ 140737488355, args := fun p => [p.1.av, .int .i64 p.2.1, .osl p.2.2], res := fun p => .tup [(putW p.1 p.2.1 p.2.2).av, .int .i64 (putM p.1 p.2.1 p.2.2), .int .i64 (putK p.1 p.2.1 p.2.2)], ok := fun p h => r6put_ok p.1 h.1 p.2.1 p.2.2 h.2.1 h.2.2, inj := fun s t h => by rw [wput_inj h] }
end Vai.L06
