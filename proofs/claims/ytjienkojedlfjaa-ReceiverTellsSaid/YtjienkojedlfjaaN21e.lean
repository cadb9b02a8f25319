import Derived.Test.YtjienkojedlfjaaN21d
namespace Vai.L21
open Go Go.Proofs Vai Vai.L04 Vai.L06
set_option maxRecDepth 100000
set_option linter.unusedVariables false
set_option linter.unusedSimpArgs false
section
variable {R : Type} {V : EV} {M : EM} {G : Nat → CS → Option R} {K : Res → Option R}
noncomputable abbrev Dr21told : EV → EM → Dn := dnV Try.prog 45 [32, 50, 83, 84, 86, 87] [] [(1018, [1, 3, 6, 9, 10, 11, 12]), (29, [1, 2, 3, 6]), (30, [1, 2, 3, 6, 9]), (8145, [1, 3, 6, 9, 10, 11, 12]), (32584, [1, 3, 6, 9, 10, 11, 12, 13]), (510, [1, 3, 6, 11]), (2045, [1, 3, 6, 11]), (4093, [1, 3, 6, 11]), (4094, [6, 11])]
theorem r21told_0 (a0 : AV) (a1 : Int) (a2 : Int) : (Dr21told V M).stepK G K 0 ⟨[wR ((a0)), .int .i64 a1, .int .u32 a2], []⟩ =
    Option.bind (V 50 [wR ((a0))]) (fun x0 => gd (fitA [.one .bool] x0) ((bif !AV.getb x0 then K (AV.tup [AV.agg zS, AV.int .i64 (1 : Int)], []) else (bif decide (a1 < (0 : Int)) then K (AV.tup [AV.agg zS, AV.int .i64 (1 : Int)], []) else (bif decide (a1 > (3 : Int)) then K (AV.tup [AV.agg zS, AV.int .i64 (1 : Int)], []) else G 29 ({ vs := [AV.int .i64 a1, AV.int .u32 a2, p0, p1], bs := [bx (wR ((a0))), bx (AV.agg [AV.int .i64 (0 : Int), AV.int .i64 (0 : Int), AV.bool false, AV.bool false, AV.int .u32 (0 : Int), AV.int .u32 (0 : Int), AV.int .u32 (0 : Int), AV.int .u32 (0 : Int), AV.int .i64 (0 : Int), AV.int .i64 (0 : Int), AV.int .u32 (0 : Int), AV.int .u32 (0 : Int), AV.int .u32 (0 : Int), AV.nl, AV.nl])] })))))) := by kernel_rfl
theorem r21told_1 (n0 : Int) (n1 : Int) (v2 : AV) (v3 : AV) : (Dr21told V M).stepK G K 29 ⟨[(.int .i64 n0), (.int .u32 n1), p0, p1], [bx (wR ((v2))), bx (.agg (List.append (vwL kO 0 (AV.getc v3)) [.nl, .nl]))]⟩ =
    (bif decide (n0 = (0 : Int)) then Option.bind (V 83 [AV.osl (cl v2 5), AV.int .i64 (0 : Int)]) (fun x3 => gd (fitA [.one (.int .i64)] x3) (G 30 ({ vs := [AV.int .i64 n0, AV.int .u32 n1, p0, p1, AV.int .i64 (AV.geti x3)], bs := [bx (wR ((v2))), bx (AV.agg (List.append (vwL kO 0 (AV.getc v3)) [AV.nl, AV.nl]))] }))) else (bif decide (n0 = (1 : Int)) then Option.bind (V 83 [AV.osl (cl v2 11), AV.int .i64 (0 : Int)]) (fun x2 => gd (fitA [.one (.int .i64)] x2) (G 30 ({ vs := [AV.int .i64 n0, AV.int .u32 n1, p0, p1, AV.int .i64 (AV.geti x2)], bs := [bx (wR ((v2))), bx (AV.agg (List.append (vwL kO 0 (AV.getc v3)) [AV.nl, AV.nl]))] }))) else (bif decide (n0 = (2 : Int)) then Option.bind (V 83 [AV.osl (cl v2 17), AV.int .i64 (0 : Int)]) (fun x1 => gd (fitA [.one (.int .i64)] x1) (G 30 ({ vs := [AV.int .i64 n0, AV.int .u32 n1, p0, p1, AV.int .i64 (AV.geti x1)], bs := [bx (wR ((v2))), bx (AV.agg (List.append (vwL kO 0 (AV.getc v3)) [AV.nl, AV.nl]))] }))) else gd (decide (n0 = (3 : Int))) (Option.bind (V 83 [AV.osl (cl v2 23), AV.int .i64 (0 : Int)]) (fun x0 => gd (fitA [.one (.int .i64)] x0) (G 30 ({ vs := [AV.int .i64 n0, AV.int .u32 n1, p0, p1, AV.int .i64 (AV.geti x0)], bs := [bx (wR ((v2))), bx (AV.agg (List.append (vwL kO 0 (AV.getc v3)) [AV.nl, AV.nl]))] }))))))) := by kernel_rfl
theorem r21told_2 (n0 : Int) (n1 : Int) (n2 : Int) (v3 : AV) (v4 : AV) : (Dr21told V M).stepK G K 30 ⟨[(.int .i64 n0), (.int .u32 n1), p0, p1, (.int .i64 n2)], [bx (wR ((v3))), bx (.agg (List.append (vwL kO 0 (AV.getc v4)) [.nl, .nl]))]⟩ =
    Option.bind (V 84 [wW ((v3))]) (fun x0 => gd (fitA [.one (.int .i64)] x0) (Option.bind (V 86 [AV.int .i64 n2]) (fun x1 => gd (fitA [.one (.int .u32)] x1) (Option.bind (V 86 [AV.int .i64 (AV.geti x0)]) (fun x2 => gd (fitA [.one (.int .u32)] x2) (G 1018 ({ vs := [AV.int .i64 n0, p0, p1, AV.int .i64 n2, AV.int .i64 (AV.geti x0), p2, AV.int .i64 (0 : Int)], bs := [bx (wR ((v3))), bx (AV.agg (List.append (vwL kO 0 (AV.getc v4)) [AV.nl, AV.nl])), bx (AV.agg [AV.int .i64 (3 : Int), AV.int .i64 n0, AV.bool false, AV.bool true, AV.int .u32 (0 : Int), AV.int .u32 (0 : Int), AV.int .u32 (AV.geti x1), AV.int .u32 (AV.geti x2), AV.int .i64 (0 : Int), AV.int .i64 (0 : Int), AV.int .u32 (0 : Int), AV.int .u32 (0 : Int), AV.int .u32 n1, AV.nl, AV.nl])] }))))))) := by kernel_rfl
theorem r21told_3 (n0 : Int) (n1 : Int) (n2 : Int) (n3 : Int) (v4 : AV) (v5 : AV) (v6 : AV) : (Dr21told V M).stepK G K 1018 ⟨[(.int .i64 n0), p0, p1, (.int .i64 n1), (.int .i64 n2), p2, (.int .i64 n3)], [bx (wR ((v4))), bx (.agg (List.append (vwL kO 0 (AV.getc v5)) [.nl, .nl])), bx (.agg (List.append (vwL kO 0 (AV.getc v6)) [.nl, .nl]))]⟩ =
    (bif decide (n0 = (0 : Int)) then (bif decide (n3 < (↑(List.length (cl v4 5)) : Int)) then G 8145 ({ vs := [AV.int .i64 n0, p0, p1, AV.int .i64 n1, AV.int .i64 n2, p2, AV.int .i64 n3], bs := [bx (wR ((v4))), bx (AV.agg (List.append (vwL kO 0 (AV.getc v5)) [AV.nl, AV.nl])), bx (AV.agg (List.append (vwL kO 0 (AV.getc v6)) [AV.nl, AV.nl]))] }) else Option.bind (V 32 [wW ((v4))]) (fun x3 => gd (fitA [.one (.int .i64)] x3) (G 510 ({ vs := [AV.int .i64 n0, p0, p1, p2], bs := [bx (wR ((v4))), bx (AV.agg (List.append (vwL kO 0 (AV.getc v5)) [AV.nl, AV.nl])), bx (AV.agg (List.append (vwL [.int .i64, .int .i64, .bool, .bool, .int .u32, .int .u32, .int .u32, .int .u32] 0 (AV.getc v6)) (List.append [AV.int .i64 (IntKind.wrap .i64 (AV.geti x3 - n2))] (List.append (vwL [.int .i64, .int .u32, .int .u32, .int .u32] 9 (AV.getc v6)) [AV.nl, AV.nl]))))] })))) else (bif decide (n0 = (1 : Int)) then (bif decide (n3 < (↑(List.length (cl v4 11)) : Int)) then G 8145 ({ vs := [AV.int .i64 n0, p0, p1, AV.int .i64 n1, AV.int .i64 n2, p2, AV.int .i64 n3], bs := [bx (wR ((v4))), bx (AV.agg (List.append (vwL kO 0 (AV.getc v5)) [AV.nl, AV.nl])), bx (AV.agg (List.append (vwL kO 0 (AV.getc v6)) [AV.nl, AV.nl]))] }) else Option.bind (V 32 [wW ((v4))]) (fun x2 => gd (fitA [.one (.int .i64)] x2) (G 510 ({ vs := [AV.int .i64 n0, p0, p1, p2], bs := [bx (wR ((v4))), bx (AV.agg (List.append (vwL kO 0 (AV.getc v5)) [AV.nl, AV.nl])), bx (AV.agg (List.append (vwL [.int .i64, .int .i64, .bool, .bool, .int .u32, .int .u32, .int .u32, .int .u32] 0 (AV.getc v6)) (List.append [AV.int .i64 (IntKind.wrap .i64 (AV.geti x2 - n2))] (List.append (vwL [.int .i64, .int .u32, .int .u32, .int .u32] 9 (AV.getc v6)) [AV.nl, AV.nl]))))] })))) else (bif decide (n0 = (2 : Int)) then (bif decide (n3 < (↑(List.length (cl v4 17)) : Int)) then G 8145 ({ vs := [AV.int .i64 n0, p0, p1, AV.int .i64 n1, AV.int .i64 n2, p2, AV.int .i64 n3], bs := [bx (wR ((v4))), bx (AV.agg (List.append (vwL kO 0 (AV.getc v5)) [AV.nl, AV.nl])), bx (AV.agg (List.append (vwL kO 0 (AV.getc v6)) [AV.nl, AV.nl]))] }) else Option.bind (V 32 [wW ((v4))]) (fun x1 => gd (fitA [.one (.int .i64)] x1) (G 510 ({ vs := [AV.int .i64 n0, p0, p1, p2], bs := [bx (wR ((v4))), bx (AV.agg (List.append (vwL kO 0 (AV.getc v5)) [AV.nl, AV.nl])), bx (AV.agg (List.append (vwL [.int .i64, .int .i64, .bool, .bool, .int .u32, .int .u32, .int .u32, .int .u32] 0 (AV.getc v6)) (List.append [AV.int .i64 (IntKind.wrap .i64 (AV.geti x1 - n2))] (List.append (vwL [.int .i64, .int .u32, .int .u32, .int .u32] 9 (AV.getc v6)) [AV.nl, AV.nl]))))] })))) else gd (decide (n0 = (3 : Int))) ((bif decide (n3 < (↑(List.length (cl v4 23)) : Int)) then G 8145 ({ vs := [AV.int .i64 n0, p0, p1, AV.int .i64 n1, AV.int .i64 n2, p2, AV.int .i64 n3], bs := [bx (wR ((v4))), bx (AV.agg (List.append (vwL kO 0 (AV.getc v5)) [AV.nl, AV.nl])), bx (AV.agg (List.append (vwL kO 0 (AV.getc v6)) [AV.nl, AV.nl]))] }) else Option.bind (V 32 [wW ((v4))]) (fun x0 => gd (fitA [.one (.int .i64)] x0) (G 510 ({ vs := [AV.int .i64 n0, p0, p1, p2], bs := [bx (wR ((v4))), bx (AV.agg (List.append (vwL kO 0 (AV.getc v5)) [AV.nl, AV.nl])), bx (AV.agg (List.append (vwL [.int .i64, .int .i64, .bool, .bool, .int .u32, .int .u32, .int .u32, .int .u32] 0 (AV.getc v6)) (List.append [AV.int .i64 (IntKind.wrap .i64 (AV.geti x0 - n2))] (List.append (vwL [.int .i64, .int .u32, .int .u32, .int .u32] 9 (AV.getc v6)) [AV.nl, AV.nl]))))] })))))))) := by kernel_rfl
theorem r21told_4 (n0 : Int) (v1 : AV) (v2 : AV) (v3 : AV) : (Dr21told V M).stepK G K 510 ⟨[(.int .i64 n0), p0, p1, p2], [bx (wR ((v1))), bx (.agg (List.append (vwL kO 0 (AV.getc v2)) [.nl, .nl])), bx (.agg (List.append (vwL kO 0 (AV.getc v3)) [.nl, .nl]))]⟩ =
    (bif decide (ci v3 8 < (0 : Int)) then G 2045 ({ vs := [AV.int .i64 n0, p0, p1, p2], bs := [bx (wR ((v1))), bx (AV.agg (List.append (vwL kO 0 (AV.getc v2)) [AV.nl, AV.nl])), bx (AV.agg (List.append (vwL [.int .i64, .int .i64, .bool, .bool, .int .u32, .int .u32, .int .u32, .int .u32] 0 (AV.getc v3)) (List.append [AV.int .i64 (0 : Int)] (List.append (vwL [.int .i64, .int .u32, .int .u32, .int .u32] 9 (AV.getc v3)) [AV.nl, AV.nl]))))] }) else G 2045 ({ vs := [AV.int .i64 n0, p0, p1, p2], bs := [bx (wR ((v1))), bx (AV.agg (List.append (vwL kO 0 (AV.getc v2)) [AV.nl, AV.nl])), bx (AV.agg (List.append (vwL kO 0 (AV.getc v3)) [AV.nl, AV.nl]))] })) := by kernel_rfl
theorem r21told_5 (n0 : Int) (n1 : Int) (n2 : Int) (n3 : Int) (v4 : AV) (v5 : AV) (v6 : AV) : (Dr21told V M).stepK G K 8145 ⟨[(.int .i64 n0), p0, p1, (.int .i64 n1), (.int .i64 n2), p2, (.int .i64 n3)], [bx (wR ((v4))), bx (.agg (List.append (vwL kO 0 (AV.getc v5)) [.nl, .nl])), bx (.agg (List.append (vwL kO 0 (AV.getc v6)) [.nl, .nl]))]⟩ =
    (bif decide (n0 = (0 : Int)) then gd (decide ((0 : Int) ≤ n3)) (Option.bind ((cl v4 5)[Int.toNat n3]?) (fun x3 => gd (Vw.fit (.agg [.int .i64, .int .i64]) x3) (G 32584 ({ vs := [AV.int .i64 n0, p0, p1, AV.int .i64 n1, AV.int .i64 n2, p2, AV.int .i64 n3, p3], bs := [bx (wR ((v4))), bx (AV.agg (List.append (vwL kO 0 (AV.getc v5)) [AV.nl, AV.nl])), bx (AV.agg (List.append (vwL kO 0 (AV.getc v6)) [AV.nl, AV.nl])), bx (AV.agg (vwL [.int .i64, .int .i64] 0 (AV.getc x3)))] })))) else (bif decide (n0 = (1 : Int)) then gd (decide ((0 : Int) ≤ n3)) (Option.bind ((cl v4 11)[Int.toNat n3]?) (fun x2 => gd (Vw.fit (.agg [.int .i64, .int .i64]) x2) (G 32584 ({ vs := [AV.int .i64 n0, p0, p1, AV.int .i64 n1, AV.int .i64 n2, p2, AV.int .i64 n3, p3], bs := [bx (wR ((v4))), bx (AV.agg (List.append (vwL kO 0 (AV.getc v5)) [AV.nl, AV.nl])), bx (AV.agg (List.append (vwL kO 0 (AV.getc v6)) [AV.nl, AV.nl])), bx (AV.agg (vwL [.int .i64, .int .i64] 0 (AV.getc x2)))] })))) else (bif decide (n0 = (2 : Int)) then gd (decide ((0 : Int) ≤ n3)) (Option.bind ((cl v4 17)[Int.toNat n3]?) (fun x1 => gd (Vw.fit (.agg [.int .i64, .int .i64]) x1) (G 32584 ({ vs := [AV.int .i64 n0, p0, p1, AV.int .i64 n1, AV.int .i64 n2, p2, AV.int .i64 n3, p3], bs := [bx (wR ((v4))), bx (AV.agg (List.append (vwL kO 0 (AV.getc v5)) [AV.nl, AV.nl])), bx (AV.agg (List.append (vwL kO 0 (AV.getc v6)) [AV.nl, AV.nl])), bx (AV.agg (vwL [.int .i64, .int .i64] 0 (AV.getc x1)))] })))) else gd (decide (n0 = (3 : Int))) (gd (decide ((0 : Int) ≤ n3)) (Option.bind ((cl v4 23)[Int.toNat n3]?) (fun x0 => gd (Vw.fit (.agg [.int .i64, .int .i64]) x0) (G 32584 ({ vs := [AV.int .i64 n0, p0, p1, AV.int .i64 n1, AV.int .i64 n2, p2, AV.int .i64 n3, p3], bs := [bx (wR ((v4))), bx (AV.agg (List.append (vwL kO 0 (AV.getc v5)) [AV.nl, AV.nl])), bx (AV.agg (List.append (vwL kO 0 (AV.getc v6)) [AV.nl, AV.nl])), bx (AV.agg (vwL [.int .i64, .int .i64] 0 (AV.getc x0)))] })))))))) := by kernel_rfl
theorem r21told_6 (n0 : Int) (v1 : AV) (v2 : AV) (v3 : AV) : (Dr21told V M).stepK G K 2045 ⟨[(.int .i64 n0), p0, p1, p2], [bx (wR ((v1))), bx (.agg (List.append (vwL kO 0 (AV.getc v2)) [.nl, .nl])), bx (.agg (List.append (vwL kO 0 (AV.getc v3)) [.nl, .nl]))]⟩ =
    (bif decide (ci v3 8 > (65535 : Int)) then G 4093 ({ vs := [AV.int .i64 n0, p0, p1, p2], bs := [bx (wR ((v1))), bx (AV.agg (List.append (vwL kO 0 (AV.getc v2)) [AV.nl, AV.nl])), bx (AV.agg (List.append (vwL [.int .i64, .int .i64, .bool, .bool, .int .u32, .int .u32, .int .u32, .int .u32] 0 (AV.getc v3)) (List.append [AV.int .i64 (65535 : Int)] (List.append (vwL [.int .i64, .int .u32, .int .u32, .int .u32] 9 (AV.getc v3)) [AV.nl, AV.nl]))))] }) else G 4093 ({ vs := [AV.int .i64 n0, p0, p1, p2], bs := [bx (wR ((v1))), bx (AV.agg (List.append (vwL kO 0 (AV.getc v2)) [AV.nl, AV.nl])), bx (AV.agg (List.append (vwL kO 0 (AV.getc v3)) [AV.nl, AV.nl]))] })) := by kernel_rfl
theorem r21told_7 (n0 : Int) (n1 : Int) (n2 : Int) (n3 : Int) (v4 : AV) (v5 : AV) (v6 : AV) (n7 : Int) (n8 : Int) : (Dr21told V M).stepK G K 32584 ⟨[(.int .i64 n0), p0, p1, (.int .i64 n1), (.int .i64 n2), p2, (.int .i64 n3), p3], [bx (wR ((v4))), bx (.agg (List.append (vwL kO 0 (AV.getc v5)) [.nl, .nl])), bx (.agg (List.append (vwL kO 0 (AV.getc v6)) [.nl, .nl])), bx (.agg [(.int .i64 n7), (.int .i64 n8)])]⟩ =
    (bif decide (n7 > n1) then Option.bind (V 86 [AV.int .i64 n7]) (fun x0 => gd (fitA [.one (.int .u32)] x0) (Option.bind (V 86 [AV.int .i64 n8]) (fun x1 => gd (fitA [.one (.int .u32)] x1) (G 1018 ({ vs := [AV.int .i64 n0, p0, p1, AV.int .i64 n1, AV.int .i64 n2, p2, AV.int .i64 (IntKind.wrap .i64 (n3 + (1 : Int)))], bs := [bx (wR ((v4))), bx (AV.agg (List.append (vwL kO 0 (AV.getc v5)) [AV.nl, AV.nl])), bx (AV.agg (List.append (vwL kO 0 (AV.getc v6)) [AV.sl 2 1000003 0 0 1, AV.nl])), some { es := [AV.agg [AV.int .u32 (AV.geti x0), AV.int .u32 (AV.geti x1)]], fr := false, pt := false }] }))))) else G 1018 ({ vs := [AV.int .i64 n0, p0, p1, AV.int .i64 n1, AV.int .i64 n2, p2, AV.int .i64 (IntKind.wrap .i64 (n3 + (1 : Int)))], bs := [bx (wR ((v4))), bx (AV.agg (List.append (vwL kO 0 (AV.getc v5)) [AV.nl, AV.nl])), bx (AV.agg (List.append (vwL kO 0 (AV.getc v6)) [AV.nl, AV.nl]))] })) := by kernel_rfl
theorem r21told_8 (n0 : Int) (v1 : AV) (v2 : AV) (v3 : AV) : (Dr21told V M).stepK G K 4093 ⟨[(.int .i64 n0), p0, p1, p2], [bx (wR ((v1))), bx (.agg (List.append (vwL kO 0 (AV.getc v2)) [.nl, .nl])), bx (.agg (List.append (vwL kO 0 (AV.getc v3)) [.nl, .nl]))]⟩ =
    (bif decide (n0 = (0 : Int)) then Option.bind (V 87 [AV.agg (vwL kM 6 (AV.getc v1))]) (fun x3 => gd (fitA [.one (.int .i64), .one (.int .u32)] x3) (G 4094 ({ vs := [p0, p1], bs := [bx (AV.agg (List.append (vwL kO 0 (AV.getc v2)) [AV.nl, AV.nl])), bx (AV.agg (List.append (vwL [.int .i64, .int .i64, .bool, .bool, .int .u32, .int .u32, .int .u32, .int .u32, .int .i64] 0 (AV.getc v3)) (List.append [AV.int .i64 (ti x3 0), AV.int .u32 (ti x3 1)] (List.append (vwL [.int .u32, .int .u32] 11 (AV.getc v3)) [AV.nl, AV.nl]))))] }))) else (bif decide (n0 = (1 : Int)) then Option.bind (V 87 [AV.agg (vwL kM 12 (AV.getc v1))]) (fun x2 => gd (fitA [.one (.int .i64), .one (.int .u32)] x2) (G 4094 ({ vs := [p0, p1], bs := [bx (AV.agg (List.append (vwL kO 0 (AV.getc v2)) [AV.nl, AV.nl])), bx (AV.agg (List.append (vwL [.int .i64, .int .i64, .bool, .bool, .int .u32, .int .u32, .int .u32, .int .u32, .int .i64] 0 (AV.getc v3)) (List.append [AV.int .i64 (ti x2 0), AV.int .u32 (ti x2 1)] (List.append (vwL [.int .u32, .int .u32] 11 (AV.getc v3)) [AV.nl, AV.nl]))))] }))) else (bif decide (n0 = (2 : Int)) then Option.bind (V 87 [AV.agg (vwL kM 18 (AV.getc v1))]) (fun x1 => gd (fitA [.one (.int .i64), .one (.int .u32)] x1) (G 4094 ({ vs := [p0, p1], bs := [bx (AV.agg (List.append (vwL kO 0 (AV.getc v2)) [AV.nl, AV.nl])), bx (AV.agg (List.append (vwL [.int .i64, .int .i64, .bool, .bool, .int .u32, .int .u32, .int .u32, .int .u32, .int .i64] 0 (AV.getc v3)) (List.append [AV.int .i64 (ti x1 0), AV.int .u32 (ti x1 1)] (List.append (vwL [.int .u32, .int .u32] 11 (AV.getc v3)) [AV.nl, AV.nl]))))] }))) else gd (decide (n0 = (3 : Int))) (Option.bind (V 87 [AV.agg (vwL kM 24 (AV.getc v1))]) (fun x0 => gd (fitA [.one (.int .i64), .one (.int .u32)] x0) (G 4094 ({ vs := [p0, p1], bs := [bx (AV.agg (List.append (vwL kO 0 (AV.getc v2)) [AV.nl, AV.nl])), bx (AV.agg (List.append (vwL [.int .i64, .int .i64, .bool, .bool, .int .u32, .int .u32, .int .u32, .int .u32, .int .i64] 0 (AV.getc v3)) (List.append [AV.int .i64 (ti x0 0), AV.int .u32 (ti x0 1)] (List.append (vwL [.int .u32, .int .u32] 11 (AV.getc v3)) [AV.nl, AV.nl]))))] }))))))) := by kernel_rfl
theorem r21told_9 (n0 : Int) (n1 : Int) (n2 : Int) (n3 : Int) (v4 : AV) (v5 : AV) (v6 : AV) (k7 : Nat) (l8 : List AV) : (Dr21told V M).stepK G K 1018 ⟨[(.int .i64 n0), p0, p1, (.int .i64 n1), (.int .i64 n2), p2, (.int .i64 n3)], [bx (wR ((v4))), bx (.agg (List.append (vwL kO 0 (AV.getc v5)) [.nl, .nl])), bx (.agg (List.append (vwL kO 0 (AV.getc v6)) [(.sl 2 1000003 0 0 k7), .nl])), some ⟨l8, false, false⟩]⟩ =
    (bif decide (n0 = (0 : Int)) then (bif decide (n3 < (↑(List.length (cl v4 5)) : Int)) then (bif decide ((↑k7 : Int) < (3 : Int)) then gd (gNo l8) (G 8145 ({ vs := [AV.int .i64 n0, p0, p1, AV.int .i64 n1, AV.int .i64 n2, p2, AV.int .i64 n3], bs := [bx (wR ((v4))), bx (AV.agg (List.append (vwL kO 0 (AV.getc v5)) [AV.nl, AV.nl])), bx (AV.agg (List.append (vwL kO 0 (AV.getc v6)) [AV.sl 2 1000003 0 0 k7, AV.nl])), some { es := l8, fr := false, pt := false }] })) else Option.bind (V 32 [wW ((v4))]) (fun x7 => gd (fitA [.one (.int .i64)] x7) (gd (gNo l8) (G 510 ({ vs := [AV.int .i64 n0, p0, p1, p2], bs := [bx (wR ((v4))), bx (AV.agg (List.append (vwL kO 0 (AV.getc v5)) [AV.nl, AV.nl])), bx (AV.agg (List.append (vwL [.int .i64, .int .i64, .bool, .bool, .int .u32, .int .u32, .int .u32, .int .u32] 0 (AV.getc v6)) (List.append [AV.int .i64 (IntKind.wrap .i64 (AV.geti x7 - n2))] (List.append (vwL [.int .i64, .int .u32, .int .u32, .int .u32] 9 (AV.getc v6)) [AV.sl 2 1000003 0 0 k7, AV.nl])))), some { es := l8, fr := false, pt := false }] }))))) else Option.bind (V 32 [wW ((v4))]) (fun x6 => gd (fitA [.one (.int .i64)] x6) (gd (gNo l8) (G 510 ({ vs := [AV.int .i64 n0, p0, p1, p2], bs := [bx (wR ((v4))), bx (AV.agg (List.append (vwL kO 0 (AV.getc v5)) [AV.nl, AV.nl])), bx (AV.agg (List.append (vwL [.int .i64, .int .i64, .bool, .bool, .int .u32, .int .u32, .int .u32, .int .u32] 0 (AV.getc v6)) (List.append [AV.int .i64 (IntKind.wrap .i64 (AV.geti x6 - n2))] (List.append (vwL [.int .i64, .int .u32, .int .u32, .int .u32] 9 (AV.getc v6)) [AV.sl 2 1000003 0 0 k7, AV.nl])))), some { es := l8, fr := false, pt := false }] }))))) else (bif decide (n0 = (1 : Int)) then (bif decide (n3 < (↑(List.length (cl v4 11)) : Int)) then (bif decide ((↑k7 : Int) < (3 : Int)) then gd (gNo l8) (G 8145 ({ vs := [AV.int .i64 n0, p0, p1, AV.int .i64 n1, AV.int .i64 n2, p2, AV.int .i64 n3], bs := [bx (wR ((v4))), bx (AV.agg (List.append (vwL kO 0 (AV.getc v5)) [AV.nl, AV.nl])), bx (AV.agg (List.append (vwL kO 0 (AV.getc v6)) [AV.sl 2 1000003 0 0 k7, AV.nl])), some { es := l8, fr := false, pt := false }] })) else Option.bind (V 32 [wW ((v4))]) (fun x5 => gd (fitA [.one (.int .i64)] x5) (gd (gNo l8) (G 510 ({ vs := [AV.int .i64 n0, p0, p1, p2], bs := [bx (wR ((v4))), bx (AV.agg (List.append (vwL kO 0 (AV.getc v5)) [AV.nl, AV.nl])), bx (AV.agg (List.append (vwL [.int .i64, .int .i64, .bool, .bool, .int .u32, .int .u32, .int .u32, .int .u32] 0 (AV.getc v6)) (List.append [AV.int .i64 (IntKind.wrap .i64 (AV.geti x5 - n2))] (List.append (vwL [.int .i64, .int .u32, .int .u32, .int .u32] 9 (AV.getc v6)) [AV.sl 2 1000003 0 0 k7, AV.nl])))), some { es := l8, fr := false, pt := false }] }))))) else Option.bind (V 32 [wW ((v4))]) (fun x4 => gd (fitA [.one (.int .i64)] x4) (gd (gNo l8) (G 510 ({ vs := [AV.int .i64 n0, p0, p1, p2], bs := [bx (wR ((v4))), bx (AV.agg (List.append (vwL kO 0 (AV.getc v5)) [AV.nl, AV.nl])), bx (AV.agg (List.append (vwL [.int .i64, .int .i64, .bool, .bool, .int .u32, .int .u32, .int .u32, .int .u32] 0 (AV.getc v6)) (List.append [AV.int .i64 (IntKind.wrap .i64 (AV.geti x4 - n2))] (List.append (vwL [.int .i64, .int .u32, .int .u32, .int .u32] 9 (AV.getc v6)) [AV.sl 2 1000003 0 0 k7, AV.nl])))), some { es := l8, fr := false, pt := false }] }))))) else (bif decide (n0 = (2 : Int)) then (bif decide (n3 < (↑(List.length (cl v4 17)) : Int)) then (bif decide ((↑k7 : Int) < (3 : Int)) then gd (gNo l8) (G 8145 ({ vs := [AV.int .i64 n0, p0, p1, AV.int .i64 n1, AV.int .i64 n2, p2, AV.int .i64 n3], bs := [bx (wR ((v4))), bx (AV.agg (List.append (vwL kO 0 (AV.getc v5)) [AV.nl, AV.nl])), bx (AV.agg (List.append (vwL kO 0 (AV.getc v6)) [AV.sl 2 1000003 0 0 k7, AV.nl])), some { es := l8, fr := false, pt := false }] })) else Option.bind (V 32 [wW ((v4))]) (fun x3 => gd (fitA [.one (.int .i64)] x3) (gd (gNo l8) (G 510 ({ vs := [AV.int .i64 n0, p0, p1, p2], bs := [bx (wR ((v4))), bx (AV.agg (List.append (vwL kO 0 (AV.getc v5)) [AV.nl, AV.nl])), bx (AV.agg (List.append (vwL [.int .i64, .int .i64, .bool, .bool, .int .u32, .int .u32, .int .u32, .int .u32] 0 (AV.getc v6)) (List.append [AV.int .i64 (IntKind.wrap .i64 (AV.geti x3 - n2))] (List.append (vwL [.int .i64, .int .u32, .int .u32, .int .u32] 9 (AV.getc v6)) [AV.sl 2 1000003 0 0 k7, AV.nl])))), some { es := l8, fr := false, pt := false }] }))))) else Option.bind (V 32 [wW ((v4))]) (fun x2 => gd (fitA [.one (.int .i64)] x2) (gd (gNo l8) (G 510 ({ vs := [AV.int .i64 n0, p0, p1, p2], bs := [bx (wR ((v4))), bx (AV.agg (List.append (vwL kO 0 (AV.getc v5)) [AV.nl, AV.nl])), bx (AV.agg (List.append (vwL [.int .i64, .int .i64, .bool, .bool, .int .u32, .int .u32, .int .u32, .int .u32] 0 (AV.getc v6)) (List.append [AV.int .i64 (IntKind.wrap .i64 (AV.geti x2 - n2))] (List.append (vwL [.int .i64, .int .u32, .int .u32, .int .u32] 9 (AV.getc v6)) [AV.sl 2 1000003 0 0 k7, AV.nl])))), some { es := l8, fr := false, pt := false }] }))))) else gd (decide (n0 = (3 : Int))) ((bif decide (n3 < (↑(List.length (cl v4 23)) : Int)) then (bif decide ((↑k7 : Int) < (3 : Int)) then gd (gNo l8) (G 8145 ({ vs := [AV.int .i64 n0, p0, p1, AV.int .i64 n1, AV.int .i64 n2, p2, AV.int .i64 n3], bs := [bx (wR ((v4))), bx (AV.agg (List.append (vwL kO 0 (AV.getc v5)) [AV.nl, AV.nl])), bx (AV.agg (List.append (vwL kO 0 (AV.getc v6)) [AV.sl 2 1000003 0 0 k7, AV.nl])), some { es := l8, fr := false, pt := false }] })) else Option.bind (V 32 [wW ((v4))]) (fun x1 => gd (fitA [.one (.int .i64)] x1) (gd (gNo l8) (G 510 ({ vs := [AV.int .i64 n0, p0, p1, p2], bs := [bx (wR ((v4))), bx (AV.agg (List.append (vwL kO 0 (AV.getc v5)) [AV.nl, AV.nl])), bx (AV.agg (List.append (vwL [.int .i64, .int .i64, .bool, .bool, .int .u32, .int .u32, .int .u32, .int .u32] 0 (AV.getc v6)) (List.append [AV.int .i64 (IntKind.wrap .i64 (AV.geti x1 - n2))] (List.append (vwL [.int .i64, .int .u32, .int .u32, .int .u32] 9 (AV.getc v6)) [AV.sl 2 1000003 0 0 k7, AV.nl])))), some { es := l8, fr := false, pt := false }] }))))) else Option.bind (V 32 [wW ((v4))]) (fun x0 => gd (fitA [.one (.int .i64)] x0) (gd (gNo l8) (G 510 ({ vs := [AV.int .i64 n0, p0, p1, p2], bs := [bx (wR ((v4))), bx (AV.agg (List.append (vwL kO 0 (AV.getc v5)) [AV.nl, AV.nl])), bx (AV.agg (List.append (vwL [.int .i64, .int .i64, .bool, .bool, .int .u32, .int .u32, .int .u32, .int .u32] 0 (AV.getc v6)) (List.append [AV.int .i64 (IntKind.wrap .i64 (AV.geti x0 - n2))] (List.append (vwL [.int .i64, .int .u32, .int .u32, .int .u32] 9 (AV.getc v6)) [AV.sl 2 1000003 0 0 k7, AV.nl])))), some { es := l8, fr := false, pt := false }] }))))))))) := by kernel_rfl
theorem r21told_10 (v0 : AV) (v1 : AV) : (Dr21told V M).stepK G K 4094 ⟨[p0, p1], [bx (.agg (List.append (vwL kO 0 (AV.getc v0)) [.nl, .nl])), bx (.agg (List.append (vwL kO 0 (AV.getc v1)) [.nl, .nl]))]⟩ =
    K (AV.tup [AV.agg (List.append (vwL kO 0 (AV.getc v1)) [AV.osl [], AV.osl []]), AV.int .i64 (0 : Int)], []) := by kernel_rfl
theorem r21told_11 (n0 : Int) (v1 : AV) (v2 : AV) (v3 : AV) (k4 : Nat) (l5 : List AV) : (Dr21told V M).stepK G K 510 ⟨[(.int .i64 n0), p0, p1, p2], [bx (wR ((v1))), bx (.agg (List.append (vwL kO 0 (AV.getc v2)) [.nl, .nl])), bx (.agg (List.append (vwL kO 0 (AV.getc v3)) [(.sl 2 1000003 0 0 k4), .nl])), some ⟨l5, false, false⟩]⟩ =
    (bif decide (ci v3 8 < (0 : Int)) then gd (gNo l5) (G 2045 ({ vs := [AV.int .i64 n0, p0, p1, p2], bs := [bx (wR ((v1))), bx (AV.agg (List.append (vwL kO 0 (AV.getc v2)) [AV.nl, AV.nl])), bx (AV.agg (List.append (vwL [.int .i64, .int .i64, .bool, .bool, .int .u32, .int .u32, .int .u32, .int .u32] 0 (AV.getc v3)) (List.append [AV.int .i64 (0 : Int)] (List.append (vwL [.int .i64, .int .u32, .int .u32, .int .u32] 9 (AV.getc v3)) [AV.sl 2 1000003 0 0 k4, AV.nl])))), some { es := l5, fr := false, pt := false }] })) else gd (gNo l5) (G 2045 ({ vs := [AV.int .i64 n0, p0, p1, p2], bs := [bx (wR ((v1))), bx (AV.agg (List.append (vwL kO 0 (AV.getc v2)) [AV.nl, AV.nl])), bx (AV.agg (List.append (vwL kO 0 (AV.getc v3)) [AV.sl 2 1000003 0 0 k4, AV.nl])), some { es := l5, fr := false, pt := false }] }))) := by kernel_rfl
theorem r21told_12 (n0 : Int) (n1 : Int) (n2 : Int) (n3 : Int) (v4 : AV) (v5 : AV) (v6 : AV) (k7 : Nat) (l8 : List AV) : (Dr21told V M).stepK G K 8145 ⟨[(.int .i64 n0), p0, p1, (.int .i64 n1), (.int .i64 n2), p2, (.int .i64 n3)], [bx (wR ((v4))), bx (.agg (List.append (vwL kO 0 (AV.getc v5)) [.nl, .nl])), bx (.agg (List.append (vwL kO 0 (AV.getc v6)) [(.sl 2 1000003 0 0 k7), .nl])), some ⟨l8, false, false⟩]⟩ =
    (bif decide (n0 = (0 : Int)) then gd (decide ((0 : Int) ≤ n3)) (Option.bind ((cl v4 5)[Int.toNat n3]?) (fun x3 => gd (Vw.fit (.agg [.int .i64, .int .i64]) x3) (gd (gNo l8) (G 32584 ({ vs := [AV.int .i64 n0, p0, p1, AV.int .i64 n1, AV.int .i64 n2, p2, AV.int .i64 n3, p3], bs := [bx (wR ((v4))), bx (AV.agg (List.append (vwL kO 0 (AV.getc v5)) [AV.nl, AV.nl])), bx (AV.agg (List.append (vwL kO 0 (AV.getc v6)) [AV.sl 2 1000004 0 0 k7, AV.nl])), bx (AV.agg (vwL [.int .i64, .int .i64] 0 (AV.getc x3))), some { es := l8, fr := false, pt := false }] }))))) else (bif decide (n0 = (1 : Int)) then gd (decide ((0 : Int) ≤ n3)) (Option.bind ((cl v4 11)[Int.toNat n3]?) (fun x2 => gd (Vw.fit (.agg [.int .i64, .int .i64]) x2) (gd (gNo l8) (G 32584 ({ vs := [AV.int .i64 n0, p0, p1, AV.int .i64 n1, AV.int .i64 n2, p2, AV.int .i64 n3, p3], bs := [bx (wR ((v4))), bx (AV.agg (List.append (vwL kO 0 (AV.getc v5)) [AV.nl, AV.nl])), bx (AV.agg (List.append (vwL kO 0 (AV.getc v6)) [AV.sl 2 1000004 0 0 k7, AV.nl])), bx (AV.agg (vwL [.int .i64, .int .i64] 0 (AV.getc x2))), some { es := l8, fr := false, pt := false }] }))))) else (bif decide (n0 = (2 : Int)) then gd (decide ((0 : Int) ≤ n3)) (Option.bind ((cl v4 17)[Int.toNat n3]?) (fun x1 => gd (Vw.fit (.agg [.int .i64, .int .i64]) x1) (gd (gNo l8) (G 32584 ({ vs := [AV.int .i64 n0, p0, p1, AV.int .i64 n1, AV.int .i64 n2, p2, AV.int .i64 n3, p3], bs := [bx (wR ((v4))), bx (AV.agg (List.append (vwL kO 0 (AV.getc v5)) [AV.nl, AV.nl])), bx (AV.agg (List.append (vwL kO 0 (AV.getc v6)) [AV.sl 2 1000004 0 0 k7, AV.nl])), bx (AV.agg (vwL [.int .i64, .int .i64] 0 (AV.getc x1))), some { es := l8, fr := false, pt := false }] }))))) else gd (decide (n0 = (3 : Int))) (gd (decide ((0 : Int) ≤ n3)) (Option.bind ((cl v4 23)[Int.toNat n3]?) (fun x0 => gd (Vw.fit (.agg [.int .i64, .int .i64]) x0) (gd (gNo l8) (G 32584 ({ vs := [AV.int .i64 n0, p0, p1, AV.int .i64 n1, AV.int .i64 n2, p2, AV.int .i64 n3, p3], bs := [bx (wR ((v4))), bx (AV.agg (List.append (vwL kO 0 (AV.getc v5)) [AV.nl, AV.nl])), bx (AV.agg (List.append (vwL kO 0 (AV.getc v6)) [AV.sl 2 1000004 0 0 k7, AV.nl])), bx (AV.agg (vwL [.int .i64, .int .i64] 0 (AV.getc x0))), some { es := l8, fr := false, pt := false }] }))))))))) := by kernel_rfl
theorem r21told_13 (n0 : Int) (v1 : AV) (v2 : AV) (v3 : AV) (k4 : Nat) (l5 : List AV) : (Dr21told V M).stepK G K 2045 ⟨[(.int .i64 n0), p0, p1, p2], [bx (wR ((v1))), bx (.agg (List.append (vwL kO 0 (AV.getc v2)) [.nl, .nl])), bx (.agg (List.append (vwL kO 0 (AV.getc v3)) [(.sl 2 1000003 0 0 k4), .nl])), some ⟨l5, false, false⟩]⟩ =
    (bif decide (ci v3 8 > (65535 : Int)) then gd (gNo l5) (G 4093 ({ vs := [AV.int .i64 n0, p0, p1, p2], bs := [bx (wR ((v1))), bx (AV.agg (List.append (vwL kO 0 (AV.getc v2)) [AV.nl, AV.nl])), bx (AV.agg (List.append (vwL [.int .i64, .int .i64, .bool, .bool, .int .u32, .int .u32, .int .u32, .int .u32] 0 (AV.getc v3)) (List.append [AV.int .i64 (65535 : Int)] (List.append (vwL [.int .i64, .int .u32, .int .u32, .int .u32] 9 (AV.getc v3)) [AV.sl 2 1000003 0 0 k4, AV.nl])))), some { es := l5, fr := false, pt := false }] })) else gd (gNo l5) (G 4093 ({ vs := [AV.int .i64 n0, p0, p1, p2], bs := [bx (wR ((v1))), bx (AV.agg (List.append (vwL kO 0 (AV.getc v2)) [AV.nl, AV.nl])), bx (AV.agg (List.append (vwL kO 0 (AV.getc v3)) [AV.sl 2 1000003 0 0 k4, AV.nl])), some { es := l5, fr := false, pt := false }] }))) := by kernel_rfl
theorem r21told_14 (n0 : Int) (n1 : Int) (n2 : Int) (n3 : Int) (v4 : AV) (v5 : AV) (v6 : AV) (k7 : Nat) (n8 : Int) (n9 : Int) (l10 : List AV) : (Dr21told V M).stepK G K 32584 ⟨[(.int .i64 n0), p0, p1, (.int .i64 n1), (.int .i64 n2), p2, (.int .i64 n3), p3], [bx (wR ((v4))), bx (.agg (List.append (vwL kO 0 (AV.getc v5)) [.nl, .nl])), bx (.agg (List.append (vwL kO 0 (AV.getc v6)) [(.sl 2 1000004 0 0 k7), .nl])), bx (.agg [(.int .i64 n8), (.int .i64 n9)]), some ⟨l10, false, false⟩]⟩ =
    (bif decide (n8 > n1) then Option.bind (V 86 [AV.int .i64 n8]) (fun x0 => gd (fitA [.one (.int .u32)] x0) (Option.bind (V 86 [AV.int .i64 n9]) (fun x1 => gd (fitA [.one (.int .u32)] x1) (gd (decide (k7 ≤ List.length l10)) (gd (gLen (List.length (List.take k7 l10) + 1) 8) (gd (gNo (List.take k7 l10 ++ [AV.agg [AV.int .u32 (AV.geti x0), AV.int .u32 (AV.geti x1)]])) (G 1018 ({ vs := [AV.int .i64 n0, p0, p1, AV.int .i64 n1, AV.int .i64 n2, p2, AV.int .i64 (IntKind.wrap .i64 (n3 + (1 : Int)))], bs := [bx (wR ((v4))), bx (AV.agg (List.append (vwL kO 0 (AV.getc v5)) [AV.nl, AV.nl])), bx (AV.agg (List.append (vwL kO 0 (AV.getc v6)) [AV.sl 2 1000003 0 0 (List.length (List.take k7 l10) + 1), AV.nl])), some { es := List.take k7 l10 ++ [AV.agg [AV.int .u32 (AV.geti x0), AV.int .u32 (AV.geti x1)]], fr := false, pt := false }] })))))))) else gd (gNo l10) (G 1018 ({ vs := [AV.int .i64 n0, p0, p1, AV.int .i64 n1, AV.int .i64 n2, p2, AV.int .i64 (IntKind.wrap .i64 (n3 + (1 : Int)))], bs := [bx (wR ((v4))), bx (AV.agg (List.append (vwL kO 0 (AV.getc v5)) [AV.nl, AV.nl])), bx (AV.agg (List.append (vwL kO 0 (AV.getc v6)) [AV.sl 2 1000003 0 0 k7, AV.nl])), some { es := l10, fr := false, pt := false }] }))) := by kernel_rfl
theorem r21told_15 (n0 : Int) (v1 : AV) (v2 : AV) (v3 : AV) (k4 : Nat) (l5 : List AV) : (Dr21told V M).stepK G K 4093 ⟨[(.int .i64 n0), p0, p1, p2], [bx (wR ((v1))), bx (.agg (List.append (vwL kO 0 (AV.getc v2)) [.nl, .nl])), bx (.agg (List.append (vwL kO 0 (AV.getc v3)) [(.sl 2 1000003 0 0 k4), .nl])), some ⟨l5, false, false⟩]⟩ =
    (bif decide (n0 = (0 : Int)) then Option.bind (V 87 [AV.agg (vwL kM 6 (AV.getc v1))]) (fun x3 => gd (fitA [.one (.int .i64), .one (.int .u32)] x3) (gd (gNo l5) (G 4094 ({ vs := [p0, p1], bs := [bx (AV.agg (List.append (vwL kO 0 (AV.getc v2)) [AV.nl, AV.nl])), bx (AV.agg (List.append (vwL [.int .i64, .int .i64, .bool, .bool, .int .u32, .int .u32, .int .u32, .int .u32, .int .i64] 0 (AV.getc v3)) (List.append [AV.int .i64 (ti x3 0), AV.int .u32 (ti x3 1)] (List.append (vwL [.int .u32, .int .u32] 11 (AV.getc v3)) [AV.sl 2 1000002 0 0 k4, AV.nl])))), some { es := l5, fr := false, pt := false }] })))) else (bif decide (n0 = (1 : Int)) then Option.bind (V 87 [AV.agg (vwL kM 12 (AV.getc v1))]) (fun x2 => gd (fitA [.one (.int .i64), .one (.int .u32)] x2) (gd (gNo l5) (G 4094 ({ vs := [p0, p1], bs := [bx (AV.agg (List.append (vwL kO 0 (AV.getc v2)) [AV.nl, AV.nl])), bx (AV.agg (List.append (vwL [.int .i64, .int .i64, .bool, .bool, .int .u32, .int .u32, .int .u32, .int .u32, .int .i64] 0 (AV.getc v3)) (List.append [AV.int .i64 (ti x2 0), AV.int .u32 (ti x2 1)] (List.append (vwL [.int .u32, .int .u32] 11 (AV.getc v3)) [AV.sl 2 1000002 0 0 k4, AV.nl])))), some { es := l5, fr := false, pt := false }] })))) else (bif decide (n0 = (2 : Int)) then Option.bind (V 87 [AV.agg (vwL kM 18 (AV.getc v1))]) (fun x1 => gd (fitA [.one (.int .i64), .one (.int .u32)] x1) (gd (gNo l5) (G 4094 ({ vs := [p0, p1], bs := [bx (AV.agg (List.append (vwL kO 0 (AV.getc v2)) [AV.nl, AV.nl])), bx (AV.agg (List.append (vwL [.int .i64, .int .i64, .bool, .bool, .int .u32, .int .u32, .int .u32, .int .u32, .int .i64] 0 (AV.getc v3)) (List.append [AV.int .i64 (ti x1 0), AV.int .u32 (ti x1 1)] (List.append (vwL [.int .u32, .int .u32] 11 (AV.getc v3)) [AV.sl 2 1000002 0 0 k4, AV.nl])))), some { es := l5, fr := false, pt := false }] })))) else gd (decide (n0 = (3 : Int))) (Option.bind (V 87 [AV.agg (vwL kM 24 (AV.getc v1))]) (fun x0 => gd (fitA [.one (.int .i64), .one (.int .u32)] x0) (gd (gNo l5) (G 4094 ({ vs := [p0, p1], bs := [bx (AV.agg (List.append (vwL kO 0 (AV.getc v2)) [AV.nl, AV.nl])), bx (AV.agg (List.append (vwL [.int .i64, .int .i64, .bool, .bool, .int .u32, .int .u32, .int .u32, .int .u32, .int .i64] 0 (AV.getc v3)) (List.append [AV.int .i64 (ti x0 0), AV.int .u32 (ti x0 1)] (List.append (vwL [.int .u32, .int .u32] 11 (AV.getc v3)) [AV.sl 2 1000002 0 0 k4, AV.nl])))), some { es := l5, fr := false, pt := false }] })))))))) := by kernel_rfl
theorem r21told_16 (v0 : AV) (v1 : AV) (k2 : Nat) (l3 : List AV) : (Dr21told V M).stepK G K 4094 ⟨[p0, p1], [bx (.agg (List.append (vwL kO 0 (AV.getc v0)) [.nl, .nl])), bx (.agg (List.append (vwL kO 0 (AV.getc v1)) [(.sl 2 1000002 0 0 k2), .nl])), some ⟨l3, false, false⟩]⟩ =
    gd (decide (0 + k2 ≤ List.length l3)) (gd (gFree 2 (List.take k2 (List.drop 0 l3))) (K (AV.tup [AV.agg (List.append (vwL kO 0 (AV.getc v1)) [AV.osl (List.take k2 (List.drop 0 l3)), AV.osl []]), AV.int .i64 (0 : Int)], []))) := by kernel_rfl
noncomputable abbrev Dr21take : EV → EM → Dn := dnV Try.prog 44 [26, 27, 32, 43, 45, 50, 62, 81, 82, 83, 84, 85] [] [(253, [2, 3, 4, 6, 7, 9]), (1021, [2, 3, 4, 6, 7, 9, 12]), (2046, [2, 3, 4, 6, 7, 9, 12, 13, 14]), (8190, [2, 3, 4, 6, 7, 9, 12, 13, 14, 15, 16]), (32765, [2, 3, 4, 6, 7, 9, 12, 13, 14, 15, 16]), (131069, [2, 4, 6, 7, 9, 12, 13, 14, 15, 17]), (1048574, [2, 4, 6, 7, 9, 12, 13, 14]), (134217646, [4, 6, 7, 9, 13, 20, 21]), (4194301, [4, 6, 7, 13])]
theorem r21take_0 (a0 : AV) (a1 : AV) (a2 : Bool) : (Dr21take V M).stepK G K 0 ⟨[wR ((a0)), wS ((a1)), .bool a2], []⟩ =
    Option.bind (V 50 [wR ((a0))]) (fun x0 => gd (fitA [.one .bool] x0) ((bif !AV.getb x0 then K (AV.tup [AV.agg zR, AV.agg zS, AV.int .i64 (1 : Int)], []) else Option.bind (V 81 [wS ((a1))]) (fun x1 => gd (fitA [.one .bool] x1) ((bif !AV.getb x1 then K (AV.tup [AV.agg zR, AV.agg zS, AV.int .i64 (7 : Int)], []) else (bif !ci a1 0 == (2 : Int) then K (AV.tup [AV.agg zR, AV.agg zS, AV.int .i64 (7 : Int)], []) else (bif cb a1 2 then (bif decide ((↑(List.length (cl a1 14)) : Int) > (0 : Int)) then K (AV.tup [AV.agg zR, AV.agg zS, AV.int .i64 (7 : Int)], []) else (bif !cb a1 2 then (bif (↑(List.length (cl a1 14)) : Int) == (0 : Int) then K (AV.tup [AV.agg zR, AV.agg zS, AV.int .i64 (7 : Int)], []) else G 253 ({ vs := [AV.bool a2, p0, p1, p2, p3, p4], bs := [bx (wR ((a0))), bx (wS ((a1))), bx (AV.agg nR), bx (AV.agg nS), bx (AV.agg nR)] })) else G 253 ({ vs := [AV.bool a2, p0, p1, p2, p3, p4], bs := [bx (wR ((a0))), bx (wS ((a1))), bx (AV.agg nR), bx (AV.agg nS), bx (AV.agg nR)] }))) else (bif !cb a1 2 then (bif (↑(List.length (cl a1 14)) : Int) == (0 : Int) then K (AV.tup [AV.agg zR, AV.agg zS, AV.int .i64 (7 : Int)], []) else G 253 ({ vs := [AV.bool a2, p0, p1, p2, p3, p4], bs := [bx (wR ((a0))), bx (wS ((a1))), bx (AV.agg nR), bx (AV.agg nS), bx (AV.agg nR)] })) else G 253 ({ vs := [AV.bool a2, p0, p1, p2, p3, p4], bs := [bx (wR ((a0))), bx (wS ((a1))), bx (AV.agg nR), bx (AV.agg nS), bx (AV.agg nR)] })))))))))) := by kernel_rfl
theorem r21take_1 (b0 : Bool) (v1 : AV) (v2 : AV) : (Dr21take V M).stepK G K 253 ⟨[(.bool b0), p0, p1, p2, p3, p4], [bx (wR ((v1))), bx (wS ((v2))), bx (AV.agg nR), bx (AV.agg nS), bx (AV.agg nR)]⟩ =
    (bif cb v2 2 then G 1021 ({ vs := [AV.bool b0, p0, p1, p2, p3, p4, AV.int .i64 (1 : Int)], bs := [bx (wR ((v1))), bx (wS ((v2))), bx (AV.agg nR), bx (AV.agg nS), bx (AV.agg nR)] }) else G 1021 ({ vs := [AV.bool b0, p0, p1, p2, p3, p4, AV.int .i64 (↑(List.length (cl v2 14)) : Int)], bs := [bx (wR ((v1))), bx (wS ((v2))), bx (AV.agg nR), bx (AV.agg nS), bx (AV.agg nR)] })) := by kernel_rfl
theorem r21take_2 (b0 : Bool) (n1 : Int) (v2 : AV) (v3 : AV) : (Dr21take V M).stepK G K 1021 ⟨[(.bool b0), p0, p1, p2, p3, p4, (.int .i64 n1)], [bx (wR ((v2))), bx (wS ((v3))), bx (AV.agg nR), bx (AV.agg nS), bx (AV.agg nR)]⟩ =
    Option.bind (V 43 [wR ((v2))]) (fun x0 => gd (fitA [.agg kR] x0) ((bif decide (ci v3 1 = (0 : Int)) then G 2046 ({ vs := [AV.bool b0, p0, p1, p2, p3, p4, AV.int .i64 n1, p5, p6], bs := [bx (wR ((v2))), bx (wS ((v3))), bx (AV.agg nR), bx (AV.agg nS), bx (AV.agg nR), bx (wR ((x0))), bx (AV.agg (vwL kI 5 (AV.getc v2)))] }) else (bif decide (ci v3 1 = (1 : Int)) then G 2046 ({ vs := [AV.bool b0, p0, p1, p2, p3, p4, AV.int .i64 n1, p5, p6], bs := [bx (wR ((v2))), bx (wS ((v3))), bx (AV.agg nR), bx (AV.agg nS), bx (AV.agg nR), bx (wR ((x0))), bx (AV.agg (vwL kI 11 (AV.getc v2)))] }) else (bif decide (ci v3 1 = (2 : Int)) then G 2046 ({ vs := [AV.bool b0, p0, p1, p2, p3, p4, AV.int .i64 n1, p5, p6], bs := [bx (wR ((v2))), bx (wS ((v3))), bx (AV.agg nR), bx (AV.agg nS), bx (AV.agg nR), bx (wR ((x0))), bx (AV.agg (vwL kI 17 (AV.getc v2)))] }) else gd (decide (ci v3 1 = (3 : Int))) (G 2046 ({ vs := [AV.bool b0, p0, p1, p2, p3, p4, AV.int .i64 n1, p5, p6], bs := [bx (wR ((v2))), bx (wS ((v3))), bx (AV.agg nR), bx (AV.agg nS), bx (AV.agg nR), bx (wR ((x0))), bx (AV.agg (vwL kI 23 (AV.getc v2)))] }))))))) := by kernel_rfl
theorem r21take_3 (b0 : Bool) (n1 : Int) (v2 : AV) (v3 : AV) (v4 : AV) (v5 : AV) : (Dr21take V M).stepK G K 2046 ⟨[(.bool b0), p0, p1, p2, p3, p4, (.int .i64 n1), p5, p6], [bx (wR ((v2))), bx (wS ((v3))), bx (AV.agg nR), bx (AV.agg nS), bx (AV.agg nR), bx (wR ((v4))), bx (wI ((v5)))]⟩ =
    Option.bind (V 83 [AV.osl (cl v5 0), AV.int .i64 (0 : Int)]) (fun x0 => gd (fitA [.one (.int .i64)] x0) (Option.bind (V 82 [AV.int .i64 (AV.geti x0), AV.int .u32 (ci v3 4)]) (fun x1 => gd (fitA [.one (.int .i64)] x1) (Option.bind (V 84 [wW ((v2))]) (fun x2 => gd (fitA [.one (.int .i64)] x2) (Option.bind (V 82 [AV.int .i64 (AV.geti x2), AV.int .u32 (ci v3 5)]) (fun x3 => gd (fitA [.one (.int .i64)] x3) (G 8190 ({ vs := [AV.bool b0, p0, p1, p2, p3, p4, AV.int .i64 n1, p5, p6, AV.int .i64 (AV.geti x1), AV.int .i64 (AV.geti x3)], bs := [bx (wR ((v2))), bx (wS ((v3))), bx (AV.agg nR), bx (AV.agg nS), bx (AV.agg nR), bx (wR ((v4))), bx (wI ((v5)))] }))))))))) := by kernel_rfl
theorem r21take_4 (b0 : Bool) (n1 : Int) (n2 : Int) (n3 : Int) (v4 : AV) (v5 : AV) (v6 : AV) (v7 : AV) : (Dr21take V M).stepK G K 8190 ⟨[(.bool b0), p0, p1, p2, p3, p4, (.int .i64 n1), p5, p6, (.int .i64 n2), (.int .i64 n3)], [bx (wR ((v4))), bx (wS ((v5))), bx (AV.agg nR), bx (AV.agg nS), bx (AV.agg nR), bx (wR ((v6))), bx (wI ((v7)))]⟩ =
    (bif !cb v5 2 then Option.bind (V 32 [wW ((v4))]) (fun x0 => gd (fitA [.one (.int .i64)] x0) ((bif decide (IntKind.wrap .i64 (n3 + n1) > AV.geti x0) then K (AV.tup [AV.agg zR, AV.agg zS, AV.int .i64 (4 : Int)], []) else G 32765 ({ vs := [AV.bool b0, p0, p1, p2, p3, p4, AV.int .i64 n1, p5, p6, AV.int .i64 n2, AV.int .i64 n3], bs := [bx (wR ((v4))), bx (wS ((v5))), bx (AV.agg nR), bx (AV.agg nS), bx (AV.agg nR), bx (wR ((v6))), bx (wI ((v7)))] })))) else G 32765 ({ vs := [AV.bool b0, p0, p1, p2, p3, p4, AV.int .i64 n1, p5, p6, AV.int .i64 n2, AV.int .i64 n3], bs := [bx (wR ((v4))), bx (wS ((v5))), bx (AV.agg nR), bx (AV.agg nS), bx (AV.agg nR), bx (wR ((v6))), bx (wI ((v7)))] })) := by kernel_rfl
theorem r21take_5 (b0 : Bool) (n1 : Int) (n2 : Int) (n3 : Int) (v4 : AV) (v5 : AV) (v6 : AV) (v7 : AV) : (Dr21take V M).stepK G K 32765 ⟨[(.bool b0), p0, p1, p2, p3, p4, (.int .i64 n1), p5, p6, (.int .i64 n2), (.int .i64 n3)], [bx (wR ((v4))), bx (wS ((v5))), bx (AV.agg nR), bx (AV.agg nS), bx (AV.agg nR), bx (wR ((v6))), bx (wI ((v7)))]⟩ =
    (bif cb v5 2 then Option.bind (V 27 [wW ((v4)), AV.int .i64 n3]) (fun x1 => gd (fitA [.agg kW, .one (.int .i64)] x1) (G 131069 ({ vs := [AV.bool b0, p0, p1, p2, p3, AV.int .i64 n1, p4, p5, AV.int .i64 n2, AV.int .i64 (ti x1 1)], bs := [bx (wS ((v5))), bx (AV.agg nR), bx (AV.agg nS), bx (AV.agg nR), bx (AV.agg (List.append (vwL kW 0 (AV.getc (List.getD (AV.gett x1) 0 .undef))) (vwL kT 5 (AV.getc v6)))), bx (wI ((v7)))] }))) else Option.bind (V 26 [wW ((v4)), AV.int .i64 n3, AV.osl (cl v5 14)]) (fun x0 => gd (fitA [.agg kW, .one (.int .i64), .one (.int .i64)] x0) (G 131069 ({ vs := [AV.bool b0, p0, p1, p2, p3, AV.int .i64 n1, p4, p5, AV.int .i64 n2, AV.int .i64 (ti x0 2)], bs := [bx (wS ((v5))), bx (AV.agg nR), bx (AV.agg nS), bx (AV.agg nR), bx (AV.agg (List.append (vwL kW 0 (AV.getc (List.getD (AV.gett x0) 0 .undef))) (vwL kT 5 (AV.getc v6)))), bx (wI ((v7)))] })))) := by kernel_rfl
theorem r21take_6 (b0 : Bool) (n1 : Int) (n2 : Int) (n3 : Int) (v4 : AV) (v5 : AV) (v6 : AV) : (Dr21take V M).stepK G K 131069 ⟨[(.bool b0), p0, p1, p2, p3, (.int .i64 n1), p4, p5, (.int .i64 n2), (.int .i64 n3)], [bx (wS ((v4))), bx (AV.agg nR), bx (AV.agg nS), bx (AV.agg nR), bx (wR ((v5))), bx (wI ((v6)))]⟩ =
    (bif !n3 == (0 : Int) then K (AV.tup [AV.agg zR, AV.agg zS, AV.int .i64 n3], []) else Option.bind (V 62 [AV.osl (cl v6 0), AV.agg [AV.int .i64 n2, AV.int .i64 (IntKind.wrap .i64 (n2 + n1))]]) (fun x0 => gd (fitA [.one .sl, .one (.int .i64)] x0) ((bif !ti x0 1 == (0 : Int) then K (AV.tup [AV.agg zR, AV.agg zS, AV.int .i64 (ti x0 1)], []) else (bif decide (ci v4 1 = (0 : Int)) then G 1048574 ({ vs := [AV.bool b0, p0, p1, p2, p3, AV.int .i64 n1, p4, p5], bs := [bx (wS ((v4))), bx (AV.agg nR), bx (AV.agg nS), bx (AV.agg nR), bx (AV.agg (List.append (vwL kW 0 (AV.getc v5)) (List.append [AV.osl (tl x0 0)] (vwL [.int .i64, .int .i64, .int .i64, .int .i64, .int .i64, .sl, .int .i64, .int .i64, .int .i64, .int .i64, .int .i64, .sl, .int .i64, .int .i64, .int .i64, .int .i64, .int .i64, .sl, .int .i64, .int .i64, .int .i64, .int .i64, .int .i64] 6 (AV.getc v5))))), bx (wI ((v6)))] }) else (bif decide (ci v4 1 = (1 : Int)) then G 1048574 ({ vs := [AV.bool b0, p0, p1, p2, p3, AV.int .i64 n1, p4, p5], bs := [bx (wS ((v4))), bx (AV.agg nR), bx (AV.agg nS), bx (AV.agg nR), bx (AV.agg (List.append (vwL [.int .i64, .sl, .sl, .int .i64, .int .i64, .sl, .int .i64, .int .i64, .int .i64, .int .i64, .int .i64] 0 (AV.getc v5)) (List.append [AV.osl (tl x0 0)] (vwL [.int .i64, .int .i64, .int .i64, .int .i64, .int .i64, .sl, .int .i64, .int .i64, .int .i64, .int .i64, .int .i64, .sl, .int .i64, .int .i64, .int .i64, .int .i64, .int .i64] 12 (AV.getc v5))))), bx (wI ((v6)))] }) else (bif decide (ci v4 1 = (2 : Int)) then G 1048574 ({ vs := [AV.bool b0, p0, p1, p2, p3, AV.int .i64 n1, p4, p5], bs := [bx (wS ((v4))), bx (AV.agg nR), bx (AV.agg nS), bx (AV.agg nR), bx (AV.agg (List.append (vwL [.int .i64, .sl, .sl, .int .i64, .int .i64, .sl, .int .i64, .int .i64, .int .i64, .int .i64, .int .i64, .sl, .int .i64, .int .i64, .int .i64, .int .i64, .int .i64] 0 (AV.getc v5)) (List.append [AV.osl (tl x0 0)] (vwL [.int .i64, .int .i64, .int .i64, .int .i64, .int .i64, .sl, .int .i64, .int .i64, .int .i64, .int .i64, .int .i64] 18 (AV.getc v5))))), bx (wI ((v6)))] }) else gd (decide (ci v4 1 = (3 : Int))) (G 1048574 ({ vs := [AV.bool b0, p0, p1, p2, p3, AV.int .i64 n1, p4, p5], bs := [bx (wS ((v4))), bx (AV.agg nR), bx (AV.agg nS), bx (AV.agg nR), bx (AV.agg (List.append (vwL [.int .i64, .sl, .sl, .int .i64, .int .i64, .sl, .int .i64, .int .i64, .int .i64, .int .i64, .int .i64, .sl, .int .i64, .int .i64, .int .i64, .int .i64, .int .i64, .sl, .int .i64, .int .i64, .int .i64, .int .i64, .int .i64] 0 (AV.getc v5)) (List.append [AV.osl (tl x0 0)] (vwL kM 24 (AV.getc v5))))), bx (wI ((v6)))] }))))))))) := by kernel_rfl
theorem r21take_7 (b0 : Bool) (n1 : Int) (v2 : AV) (v3 : AV) (v4 : AV) : (Dr21take V M).stepK G K 1048574 ⟨[(.bool b0), p0, p1, p2, p3, (.int .i64 n1), p4, p5], [bx (wS ((v2))), bx (AV.agg nR), bx (AV.agg nS), bx (AV.agg nR), bx (wR ((v3))), bx (wI ((v4)))]⟩ =
    (bif b0 then Option.bind (V 85 [AV.agg (List.append [AV.int .i64 (IntKind.wrap .i64 (ci v4 1 + (1 : Int))), AV.int .i64 (IntKind.wrap .i64 (ci v4 2 + n1))] (vwL [.int .i64, .int .i64, .int .i64] 3 (AV.getc v4)))]) (fun x0 => gd (fitA [.one .bool] x0) (G 134217646 ({ vs := [p0, p1, p2, p3, p4, p5, AV.bool (AV.getb x0)], bs := [bx (wS ((v2))), bx (AV.agg nR), bx (AV.agg nS), bx (AV.agg nR), bx (wR ((v3))), bx (AV.agg (List.append [AV.int .i64 (IntKind.wrap .i64 (ci v4 1 + (1 : Int))), AV.int .i64 (IntKind.wrap .i64 (ci v4 2 + n1))] (vwL [.int .i64, .int .i64, .int .i64] 3 (AV.getc v4))))] }))) else G 4194301 ({ vs := [p0, p1, p2, p3], bs := [bx (wS ((v2))), bx (AV.agg nR), bx (AV.agg nS), bx (wR ((v3)))] })) := by kernel_rfl
theorem r21take_8 (v0 : AV) (v1 : AV) : (Dr21take V M).stepK G K 4194301 ⟨[p0, p1, p2, p3], [bx (wS ((v0))), bx (AV.agg nR), bx (AV.agg nS), bx (wR ((v1)))]⟩ =
    Option.bind (V 45 [wR ((v1)), AV.int .i64 (ci v0 1), AV.int .u32 (ci v0 11)]) (fun x0 => gd (fitA [.agg kS, .one (.int .i64)] x0) (K (AV.tup [wR ((v1)), wS (((List.getD (AV.gett x0) 0 .undef))), AV.int .i64 (0 : Int)], []))) := by kernel_rfl
theorem r21take_9 (b0 : Bool) (v1 : AV) (v2 : AV) (v3 : AV) : (Dr21take V M).stepK G K 134217646 ⟨[p0, p1, p2, p3, p4, p5, (.bool b0)], [bx (wS ((v1))), bx (AV.agg nR), bx (AV.agg nS), bx (AV.agg nR), bx (wR ((v2))), bx (wM ((v3)))]⟩ =
    (bif !b0 then K (AV.tup [AV.agg zR, AV.agg zS, AV.int .i64 (5 : Int)], []) else (bif decide (ci v1 1 = (0 : Int)) then G 4194301 ({ vs := [p0, p1, p2, p3], bs := [bx (wS ((v1))), bx (AV.agg nR), bx (AV.agg nS), bx (AV.agg (List.append (vwL [.int .i64, .sl, .sl, .int .i64, .int .i64, .sl] 0 (AV.getc v2)) (List.append (vwL kM 0 (AV.getc v3)) (vwL [.sl, .int .i64, .int .i64, .int .i64, .int .i64, .int .i64, .sl, .int .i64, .int .i64, .int .i64, .int .i64, .int .i64, .sl, .int .i64, .int .i64, .int .i64, .int .i64, .int .i64] 11 (AV.getc v2)))))] }) else (bif decide (ci v1 1 = (1 : Int)) then G 4194301 ({ vs := [p0, p1, p2, p3], bs := [bx (wS ((v1))), bx (AV.agg nR), bx (AV.agg nS), bx (AV.agg (List.append (vwL [.int .i64, .sl, .sl, .int .i64, .int .i64, .sl, .int .i64, .int .i64, .int .i64, .int .i64, .int .i64, .sl] 0 (AV.getc v2)) (List.append (vwL kM 0 (AV.getc v3)) (vwL [.sl, .int .i64, .int .i64, .int .i64, .int .i64, .int .i64, .sl, .int .i64, .int .i64, .int .i64, .int .i64, .int .i64] 17 (AV.getc v2)))))] }) else (bif decide (ci v1 1 = (2 : Int)) then G 4194301 ({ vs := [p0, p1, p2, p3], bs := [bx (wS ((v1))), bx (AV.agg nR), bx (AV.agg nS), bx (AV.agg (List.append (vwL [.int .i64, .sl, .sl, .int .i64, .int .i64, .sl, .int .i64, .int .i64, .int .i64, .int .i64, .int .i64, .sl, .int .i64, .int .i64, .int .i64, .int .i64, .int .i64, .sl] 0 (AV.getc v2)) (List.append (vwL kM 0 (AV.getc v3)) (vwL kI 23 (AV.getc v2)))))] }) else gd (decide (ci v1 1 = (3 : Int))) (G 4194301 ({ vs := [p0, p1, p2, p3], bs := [bx (wS ((v1))), bx (AV.agg nR), bx (AV.agg nS), bx (AV.agg (List.append (vwL [.int .i64, .sl, .sl, .int .i64, .int .i64, .sl, .int .i64, .int .i64, .int .i64, .int .i64, .int .i64, .sl, .int .i64, .int .i64, .int .i64, .int .i64, .int .i64, .sl, .int .i64, .int .i64, .int .i64, .int .i64, .int .i64, .sl] 0 (AV.getc v2)) (vwL kM 0 (AV.getc v3))))] })))))) := by kernel_rfl
end
def oK (n : Nat) (o : Sg) : List Pr → AV
  | [] => o1 o
  | y :: ys => .agg (List.append (vwL kO 0 (AV.getc (Sg.av o))) [.sl 2 n 0 0 (ys.length + 1), .nl])
def rowQ : List Pr → List (Option CB)
  | [] => []
  | y :: ys => [some ⟨qrows (y :: ys), false, false⟩]
def tB (r : Rc) (o : Sg) (xs : List Pr) : List (Option CB) := some ⟨[r.av], false, true⟩ :: some ⟨[o1 Sg.none], false, true⟩ :: some ⟨[oK 1000003 o xs], false, true⟩ :: rowQ xs
def tS (r : Rc) (o : Sg) (s : Spn) (xs : List Pr) : List (Option CB) := some ⟨[r.av], false, true⟩ :: some ⟨[o1 Sg.none], false, true⟩ :: some ⟨[oK 1000004 o xs], false, true⟩ :: some ⟨[s.av], false, true⟩ :: rowQ xs
theorem tt_end {V : EV} {M : EM} (o : Sg) : ∀ xs : List Pr, (Dr21told V M).From 4094 ⟨[p0, p1], some ⟨[o1 Sg.none], false, true⟩ :: some ⟨[oK 1000002 o xs], false, true⟩ :: rowQ xs⟩ = some (.tup [Sg.av { o with sacks := xs, b := [] }, .int .i64 0], [])
  | [] => From.of (r21told_10 (Sg.none).av o.av)
  | y :: ys => by
    refine From.of ((r21told_16 (Sg.none).av o.av (ys.length + 1) (qrows (y :: ys))).trans ?_)
    refine (gd_of (decide_eq_true (show 0 + (ys.length + 1) ≤ (qrows (y :: ys)).length by rw [qrows_len, Nat.zero_add]; exact Nat.le_refl _))).trans ((gd_of (show gFree 2 (List.take (ys.length + 1) (List.drop 0 (qrows (y :: ys)))) = true by rw [tl3]; exact gFree_q _)).trans ?_)
    exact congrArg (fun z => (some (AV.tup [AV.agg (List.append (vwL kO 0 (AV.getc (Sg.av o))) [AV.osl z, AV.osl []]), AV.int .i64 (0 : Int)], []) : Option Res)) (tl3 y ys)
theorem tt_mark {V : EV} {M : EM} (h1 : HasV V F_r10told) (r : Rc) (sub : Int) (hs : 0 ≤ sub ∧ sub ≤ 3) (o : Sg) (xs : List Pr) :
    (Dr21told V M).From 4093 ⟨[.int .i64 sub, p0, p1, p2], tB r o xs⟩ = some (.tup [Sg.av { oM o (aceP (r.at sub).m) (ceP (r.at sub).m) with sacks := xs, b := [] }, .int .i64 0], []) := by
  have e : ∀ x : Mk, V 87 [x.av] = some (.tup [.int .i64 (aceP x), .int .u32 (ceP x)]) := fun x => h1 x trivial
  refine Eq.trans ?_ (tt_end (V := V) (M := M) (oM o (aceP (r.at sub).m) (ceP (r.at sub).m)) xs)
  cases xs with
  | nil =>
    refine From.of ((r21told_8 sub r.av (Sg.none).av o.av).trans ?_)
    rcases sub4 hs with rfl | rfl | rfl | rfl
    all_goals
      simp only [V21, vRm0, vRm1, vRm2, vRm3, D00, D10, D11, D20, D21, D22, D30, D31, D32, D33, at0, at1, at2, at3, e]
      rfl
  | cons y ys =>
    refine From.of ((r21told_15 sub r.av (Sg.none).av o.av (ys.length + 1) (qrows (y :: ys))).trans ?_)
    rcases sub4 hs with rfl | rfl | rfl | rfl
    all_goals
      simp only [V21, vRm0, vRm1, vRm2, vRm3, D00, D10, D11, D20, D21, D22, D30, D31, D32, D33, at0, at1, at2, at3, e, gNo_q]
      rfl
theorem tt_win {V : EV} {M : EM} (h1 : HasV V F_r10told) (r : Rc) (sub : Int) (hs : 0 ≤ sub ∧ sub ≤ 3) (o : Sg) (xs : List Pr) :
    (Dr21told V M).From 2045 ⟨[.int .i64 sub, p0, p1, p2], tB r o xs⟩ = some (.tup [Sg.av { oM { o with win := if o.win > 65535 then 65535 else o.win } (aceP (r.at sub).m) (ceP (r.at sub).m) with sacks := xs, b := [] }, .int .i64 0], []) := by
  by_cases c : o.win > 65535
  · rw [if_pos c]
    refine Eq.trans ?_ (tt_mark (M := M) h1 r sub hs { o with win := 65535 } xs)
    cases xs with
    | nil => refine From.of ((r21told_6 sub r.av (Sg.none).av o.av).trans ?_); rw [show decide (ci (Sg.av o) 8 > 65535) = true from decide_eq_true c]; rfl
    | cons y ys => refine From.of ((r21told_13 sub r.av (Sg.none).av o.av (ys.length + 1) (qrows (y :: ys))).trans ?_); rw [show decide (ci (Sg.av o) 8 > 65535) = true from decide_eq_true c, cond_true, gd_of (gNo_q _)]; rfl
  · rw [if_neg c]
    refine Eq.trans ?_ (tt_mark (M := M) h1 r sub hs o xs)
    cases xs with
    | nil => refine From.of ((r21told_6 sub r.av (Sg.none).av o.av).trans ?_); rw [show decide (ci (Sg.av o) 8 > 65535) = false from decide_eq_false c]; rfl
    | cons y ys => refine From.of ((r21told_13 sub r.av (Sg.none).av o.av (ys.length + 1) (qrows (y :: ys))).trans ?_); rw [show decide (ci (Sg.av o) 8 > 65535) = false from decide_eq_false c, cond_false, gd_of (gNo_q _)]; rfl
def wC (n : Int) : Int := if (if n < 0 then 0 else n) > 65535 then 65535 else if n < 0 then 0 else n
theorem tt_low {V : EV} {M : EM} (h1 : HasV V F_r10told) (r : Rc) (sub : Int) (hs : 0 ≤ sub ∧ sub ≤ 3) (o : Sg) (xs : List Pr) :
    (Dr21told V M).From 510 ⟨[.int .i64 sub, p0, p1, p2], tB r o xs⟩ = some (.tup [Sg.av { oM { o with win := wC o.win } (aceP (r.at sub).m) (ceP (r.at sub).m) with sacks := xs, b := [] }, .int .i64 0], []) := by
  unfold wC
  by_cases c : o.win < 0
  · rw [if_pos c]
    refine Eq.trans ?_ (tt_win (M := M) h1 r sub hs { o with win := 0 } xs)
    cases xs with
    | nil => refine From.of ((r21told_4 sub r.av (Sg.none).av o.av).trans ?_); rw [show decide (ci (Sg.av o) 8 < 0) = true from decide_eq_true c]; rfl
    | cons y ys => refine From.of ((r21told_11 sub r.av (Sg.none).av o.av (ys.length + 1) (qrows (y :: ys))).trans ?_); rw [show decide (ci (Sg.av o) 8 < 0) = true from decide_eq_true c, cond_true, gd_of (gNo_q _)]; rfl
  · rw [if_neg c]
    refine Eq.trans ?_ (tt_win (M := M) h1 r sub hs o xs)
    cases xs with
    | nil => refine From.of ((r21told_4 sub r.av (Sg.none).av o.av).trans ?_); rw [show decide (ci (Sg.av o) 8 < 0) = false from decide_eq_false c]; rfl
    | cons y ys => refine From.of ((r21told_11 sub r.av (Sg.none).av o.av (ys.length + 1) (qrows (y :: ys))).trans ?_); rw [show decide (ci (Sg.av o) 8 < 0) = false from decide_eq_false c, cond_false, gd_of (gNo_q _)]; rfl
theorem tt_out {V : EV} {M : EM} (h1 : HasV V F_r10told) (h2 : HasV V F_r6edge) (r : Rc) (h : r.Sm) (hm : r.w.may = true) (sub : Int) (hs : 0 ≤ sub ∧ sub ≤ 3) (o : Sg) (xs : List Pr) (g : Int) (i : Nat)
    (hi : (r.at sub).got.length ≤ i ∨ 3 ≤ xs.length) :
    (Dr21told V M).From 1018 ⟨[.int .i64 sub, p0, p1, .int .i64 g, .int .i64 (farP r.w), p2, .int .i64 i], tB r o xs⟩ = some (.tup [Sg.av { oM { o with win := wC (edgeW r.w - farP r.w) } (aceP (r.at sub).m) (ceP (r.at sub).m) with sacks := xs, b := [] }, .int .i64 0], []) := by
  have e : V 32 [r.w.av] = some (.int .i64 (edgeW r.w)) := h2 r.w h.w
  obtain ⟨f1, f2, f3, f4, f5, f6, f7, f8⟩ := far_rng hm
  have hb := h.w.bl
  have hw : IntKind.wrap .i64 (edgeW r.w - farP r.w) = edgeW r.w - farP r.w := w64 (by omega) (by omega)
  refine Eq.trans ?_ (tt_low (M := M) h1 r sub hs { o with win := edgeW r.w - farP r.w } xs)
  cases xs with
  | nil =>
    have hi : (r.at sub).got.length ≤ i := hi.resolve_right (by decide)
    refine From.of ((r21told_3 sub g (farP r.w) i r.av (Sg.none).av o.av).trans ?_)
    rcases sub4 hs with rfl | rfl | rfl | rfl
    all_goals
      simp only [at0, at1, at2, at3] at hi
      simp only [V21, D00, D10, D11, D20, D21, D22, D30, D31, D32, D33, prows_len]
      rw [decide_eq_false (by omega)]
      simp only [V21, e, hw]
      rfl
  | cons y ys =>
    refine From.of ((r21told_9 sub g (farP r.w) i r.av (Sg.none).av o.av (ys.length + 1) (qrows (y :: ys))).trans ?_)
    have hi : (r.at sub).got.length ≤ i ∨ 3 ≤ ys.length + 1 := hi
    rcases sub4 hs with rfl | rfl | rfl | rfl
    all_goals
      simp only [at0, at1, at2, at3] at hi
      simp only [V21, D00, D10, D11, D20, D21, D22, D30, D31, D32, D33, prows_len]
      rcases hi with hi | hi
      · rw [decide_eq_false (by omega)]
        simp only [V21, e, hw, gNo_q]
        rfl
      · rw [decide_eq_false (show ¬ ((ys.length + 1 : Nat) : Int) < 3 by omega)]
        simp only [V21, e, hw, gNo_q, Bool.cond_self]
        rfl
def tV (sub g far : Int) (i : Nat) : List AV := [.int .i64 sub, p0, p1, .int .i64 g, .int .i64 far, p2, .int .i64 i]
theorem tt_in {V : EV} {M : EM} (r : Rc) (sub : Int) (hs : 0 ≤ sub ∧ sub ≤ 3) (o : Sg) (xs : List Pr) (g far : Int) (i : Nat) (hi : i < (r.at sub).got.length) (hx : xs.length < 3) :
    (Dr21told V M).From 1018 ⟨tV sub g far i, tB r o xs⟩ = (Dr21told V M).From 8145 ⟨tV sub g far i, tB r o xs⟩ := by
  cases xs with
  | nil =>
    refine From.of ((r21told_3 sub g far i r.av (Sg.none).av o.av).trans ?_)
    rcases sub4 hs with rfl | rfl | rfl | rfl
    all_goals
      simp only [at0, at1, at2, at3] at hi
      simp only [V21, D00, D10, D11, D20, D21, D22, D30, D31, D32, D33, prows_len]
      rw [decide_eq_true (by omega)]
      rfl
  | cons y ys =>
    refine From.of ((r21told_9 sub g far i r.av (Sg.none).av o.av (ys.length + 1) (qrows (y :: ys))).trans ?_)
    have hx : ys.length + 1 < 3 := hx
    rcases sub4 hs with rfl | rfl | rfl | rfl
    all_goals
      simp only [at0, at1, at2, at3] at hi
      simp only [V21, D00, D10, D11, D20, D21, D22, D30, D31, D32, D33, prows_len, gNo_q]
      rw [decide_eq_true (show (i : Int) < _ by omega), decide_eq_true (show ((ys.length + 1 : Nat) : Int) < 3 by omega)]
      rfl
theorem tt_get {V : EV} {M : EM} (r : Rc) (sub : Int) (hs : 0 ≤ sub ∧ sub ≤ 3) (o : Sg) (xs : List Pr) (g far : Int) (i : Nat) (s : Spn) (hg : (r.at sub).got[i]? = some s) :
    (Dr21told V M).From 8145 ⟨tV sub g far i, tB r o xs⟩ = (Dr21told V M).From 32584 ⟨tV sub g far i ++ [p3], tS r o s xs⟩ := by
  cases xs with
  | nil =>
    refine From.of ((r21told_5 sub g far i r.av (Sg.none).av o.av).trans ?_)
    rcases sub4 hs with rfl | rfl | rfl | rfl
    all_goals
      simp only [at0, at1, at2, at3] at hg
      simp only [V21, D00, D10, D11, D20, D21, D22, D30, D31, D32, D33]
      rw [gd_of (decide_eq_true (by omega)), pr_at hg]
      simp only [V21, fSp]
      rfl
  | cons y ys =>
    refine From.of ((r21told_12 sub g far i r.av (Sg.none).av o.av (ys.length + 1) (qrows (y :: ys))).trans ?_)
    rcases sub4 hs with rfl | rfl | rfl | rfl
    all_goals
      simp only [at0, at1, at2, at3] at hg
      simp only [V21, D00, D10, D11, D20, D21, D22, D30, D31, D32, D33]
      rw [gd_of (decide_eq_true (by omega)), pr_at hg]
      simp only [V21, fSp, gNo_q]
      rfl
theorem tt_put {V : EV} {M : EM} (h3 : HasV V F_r2low) (r : Rc) (sub : Int) (o : Sg) (xs : List Pr) (hx : xs.length < 3) (g far : Int) (i : Nat) (hi : i ≤ 90000) (s : Spn) (hr : 0 ≤ s.a ∧ s.a < s.b ∧ s.b ≤ 4611686018427387904) :
    (Dr21told V M).From 32584 ⟨tV sub g far i ++ [p3], tS r o s xs⟩ = (Dr21told V M).From 1018 ⟨tV sub g far (i + 1), tB r o (if s.a > g then xs ++ [⟨lowP s.a, lowP s.b⟩] else xs)⟩ := by
  have e1 : V 86 [.int .i64 s.a] = some (.int .u32 (lowP s.a)) := h3 s.a ⟨by omega, by omega⟩
  have e2 : V 86 [.int .i64 s.b] = some (.int .u32 (lowP s.b)) := h3 s.b ⟨by omega, by omega⟩
  cases xs with
  | nil =>
    refine From.of ((r21told_7 sub g far i r.av (Sg.none).av o.av s.a s.b).trans ?_)
    rw [w64 (n := (i : Int) + 1) (by omega) (by omega)]
    by_cases c : s.a > g
    · rw [decide_eq_true c, if_pos c, cond_true]
      simp only [V21, e1, e2]
      rfl
    · rw [decide_eq_false c, if_neg c]
      rfl
  | cons y ys =>
    refine From.of ((r21told_14 sub g far i r.av (Sg.none).av o.av (ys.length + 1) s.a s.b (qrows (y :: ys))).trans ?_)
    have hx : ys.length + 1 < 3 := hx
    have tk : List.take (ys.length + 1) (qrows (y :: ys)) = qrows (y :: ys) := q_take rfl
    rw [w64 (n := (i : Int) + 1) (by omega) (by omega)]
    by_cases c : s.a > g
    · rw [decide_eq_true c, if_pos c, cond_true]
      simp only [V21, e1, e2, tk, q_snoc, gNo_q, qrows_len]
      rw [gd_of (decide_eq_true (show ys.length + 1 ≤ (y :: ys).length from Nat.le_refl _)), gd_of (gLen_of (by simp; omega) (by simp; omega))]
      have e3 : tB r o (y :: ys ++ [⟨lowP s.a, lowP s.b⟩]) = [some ⟨[r.av], false, true⟩, some ⟨[o1 Sg.none], false, true⟩, some ⟨[.agg (List.append (vwL kO 0 (AV.getc (Sg.av o))) [.sl 2 1000003 0 0 (ys.length + 1 + 1), .nl])], false, true⟩, some ⟨qrows (y :: ys ++ [⟨lowP s.a, lowP s.b⟩]), false, false⟩] := by
        show tB r o (y :: (ys ++ [⟨lowP s.a, lowP s.b⟩])) = _
        simp only [tB, oK, rowQ, List.length_append, List.length_singleton, List.cons_append]
      rw [e3]
      rfl
    · rw [decide_eq_false c, if_neg c, cond_false, gd_of (gNo_q _)]
      rfl
theorem tt_loop {V : EV} {M : EM} (h1 : HasV V F_r10told) (h2 : HasV V F_r6edge) (h3 : HasV V F_r2low) (r : Rc) (h : r.Sm) (hm : r.may = true) (sub : Int) (hs : 0 ≤ sub ∧ sub ≤ 3) (o : Sg) (g : Int) : ∀ (m : List Spn) (i : Nat) (xs : List Pr), (r.at sub).got.drop i = m → xs.length ≤ 3 →
    (Dr21told V M).From 1018 ⟨tV sub g (farP r.w) i, tB r o xs⟩ = some (.tup [Sg.av { oM { o with win := wC (edgeW r.w - farP r.w) } (aceP (r.at sub).m) (ceP (r.at sub).m) with sacks := sackF g m xs, b := [] }, .int .i64 0], [])
  | [], i, xs, hd, hx => tt_out h1 h2 r h (Rc.may_w hm) sub hs o xs g i (.inl (drop_end hd))
  | s :: m, i, xs, hd, hx => by
    obtain ⟨g1, g2, g3⟩ := drop_get hd
    by_cases c : xs.length < 3
    · have hsm : s ∈ (r.at sub).got := by rw [List.getElem?_eq_getElem g2] at g1; rw [← Option.some.inj g1]; exact List.getElem_mem _
      have hmy := Rc.may_at hm sub
      unfold Il.may at hmy
      rw [Bool.and_eq_true] at hmy
      have hr := (may_iff.1 hmy.1).2.one s hsm
      have hl := h.at sub
      rw [tt_in r sub hs o xs g (farP r.w) i g2 c, tt_get r sub hs o xs g (farP r.w) i s g1, tt_put h3 r sub o xs c g (farP r.w) i (by omega) s hr]
      unfold sackF
      by_cases d : s.a > g
      · rw [if_pos d, if_pos ⟨d, c⟩]
        exact tt_loop h1 h2 h3 r h hm sub hs o g m (i + 1) _ g3 (by rw [List.length_append, List.length_singleton]; omega)
      · rw [if_neg d, if_neg (fun hh => d hh.1)]
        exact tt_loop h1 h2 h3 r h hm sub hs o g m (i + 1) _ g3 hx
    · rw [sackF_full g _ xs (by omega)]
      exact tt_out h1 h2 r h (Rc.may_w hm) sub hs o xs g i (.inr (by omega))
theorem winP_wC (w : Wv) : winP w = wC (edgeW w - farP w) := rfl
theorem r21told_from {V : EV} {M : EM} (r : Rc) (h : r.Sm) (sub echo : Int) (h1 : HasV V F_r10told) (h2 : HasV V F_r6edge) (h3 : HasV V F_r2low) (h4 : HasV V F_r21may) (h5 : HasV V F_r4gap) (h6 : HasV V F_r21far) :
    (Dr21told V M).From 0 ⟨[r.av, .int .i64 sub, .int .u32 echo], []⟩ = some (.tup [(toldS r sub echo).av, .int .i64 (toldE r sub)], []) := by
  refine From.of ((r21told_0 r.av sub echo).trans ?_)
  have e1 : V 50 [r.av] = some (.bool r.may) := h4 r h
  simp only [V21, e1]
  cases hm : r.may with
  | false => rw [show toldE r sub = 1 by unfold toldE; rw [if_neg (by rw [hm]; simp)], show toldS r sub echo = Sg.none by unfold toldS toldE; rw [if_neg (by rw [if_neg (by rw [hm]; simp)]; decide)]]; rfl
  | true =>
    have hw := Rc.may_w hm
    by_cases c0 : sub < 0
    · rw [decide_eq_true c0, show toldE r sub = 1 by unfold toldE; rw [if_neg (by omega)], show toldS r sub echo = Sg.none by unfold toldS toldE; rw [if_neg (by rw [if_neg (by omega)]; decide)]]; rfl
    rw [decide_eq_false c0]
    by_cases c1 : sub > 3
    · rw [decide_eq_true c1, show toldE r sub = 1 by unfold toldE; rw [if_neg (by omega)], show toldS r sub echo = Sg.none by unfold toldS toldE; rw [if_neg (by rw [if_neg (by omega)]; decide)]]; rfl
    rw [decide_eq_false c1]
    have hs : 0 ≤ sub ∧ sub ≤ 3 := by omega
    have he : toldE r sub = 0 := by unfold toldE; rw [if_pos ⟨hm, by omega, by omega⟩]
    have e5 : ∀ l : List Spn, l.length ≤ 90000 → V 83 [.osl (prows l), .int .i64 0] = some (.int .i64 (gapP l 0)) := fun l hl => h5 (l, 0) (by show l.length ≤ _; omega)
    have e6 : V 84 [r.w.av] = some (.int .i64 (farP r.w)) := h6 r.w ⟨h.w, hw⟩
    have hmy := Rc.may_at hm sub
    unfold Il.may at hmy
    rw [Bool.and_eq_true] at hmy
    have hgap : 0 ≤ gapP (r.at sub).got 0 ∧ gapP (r.at sub).got 0 ≤ 4611686018427387904 := gap_rng hmy.1 (by omega) (by omega)
    obtain ⟨f1, f2, f3, f4, f5, f6, f7, f8⟩ := far_rng hw
    have hb := h.w.bl
    have e7 : V 86 [.int .i64 (gapP (r.at sub).got 0)] = some (.int .u32 (lowP (gapP (r.at sub).got 0))) := h3 _ ⟨by omega, by omega⟩
    have e8 : V 86 [.int .i64 (farP r.w)] = some (.int .u32 (lowP (farP r.w))) := h3 _ ⟨by omega, by omega⟩
    have main : (Dr21told V M).From 30 ⟨[.int .i64 sub, .int .u32 echo, p0, p1, .int .i64 (gapP (r.at sub).got 0)], [some ⟨[r.av], false, true⟩, some ⟨[o1 Sg.none], false, true⟩]⟩ = some (.tup [(toldS r sub echo).av, .int .i64 (toldE r sub)], []) := by
      refine From.of ((r21told_2 sub echo (gapP (r.at sub).got 0) r.av (Sg.none).av).trans ?_)
      simp only [V21, e6, e7, e8]
      refine (tt_loop (M := M) h1 h2 h3 r h hm sub hs ⟨3, sub, false, true, 0, 0, lowP (gapP (r.at sub).got 0), lowP (farP r.w), 0, 0, 0, 0, echo, [], []⟩ (gapP (r.at sub).got 0) (r.at sub).got 0 [] rfl (by decide)).trans ?_
      rw [he]
      unfold toldS
      rw [if_pos he, winP_wC]
      rfl
    refine Eq.trans ?_ main
    refine From.of ((r21told_1 sub echo r.av (Sg.none).av).trans ?_)
    have g0 := e5 _ (h.at sub)
    rcases sub4 hs with rfl | rfl | rfl | rfl
    all_goals
      simp only [at0, at1, at2, at3] at g0 ⊢
      simp only [V21, D00, D10, D11, D20, D21, D22, D30, D31, D32, D33, g0]
      rfl
theorem r21told_ok (r : Rc) (h : r.Sm) (sub echo : Int) : FnOk Try.prog 45 [r.av, .int .i64 sub, .int .u32 echo] (.tup [(toldS r sub echo).av, .int .i64 (toldE r sub)]) :=
  fn_mk [F_r6edge, F_r21may, F_r4gap, F_r21far, F_r2low, F_r10told] [] (by kernel_rfl) mixed (by kernel_rfl) (r21told_from r h sub echo (hasV 5 rfl rfl) (hasV 0 rfl rfl) (hasV 4 rfl rfl) (hasV 1 rfl rfl) (hasV 2 rfl rfl) (hasV 3 rfl rfl))
noncomputable def F_r21told : Fam Try.prog := { f := 45, ι := Rc × Int × Int, pre := fun p => p.1.Sm, args := fun p => [p.1.av, .int .i64 p.2.1, .int .u32 p.2.2], res := fun p => .tup [(toldS p.1 p.2.1 p.2.2).av, .int .i64 (toldE p.1 p.2.1)], ok := fun p h => r21told_ok p.1 h p.2.1 p.2.2, inj := fun s t h => by rw [rse_inj h] }
def bN : List (Option CB) := [bx (.agg nR), bx (.agg nS), bx (.agg nR)]
def takeX (r : Rc) (x : Sg) (mk : Bool) : Option Res := some (.tup [(takeR r x mk).av, (takeS r x mk).av, .int .i64 (takeE r x mk)], [])
theorem takeX_bad {r : Rc} {x : Sg} {mk : Bool} {e : Int} (he : e ≠ 0) (h : takeE r x mk = e) : takeX r x mk = some (.tup [.agg zR, .agg zS, .int .i64 e], []) := by
  unfold takeX takeR takeS
  rw [h, if_neg he, if_neg he]; rfl
theorem takeX_ok {r : Rc} {x : Sg} {mk : Bool} (h : takeE r x mk = 0) : takeX r x mk = some (.tup [(takeT r x mk).av, (toldS (takeT r x mk) x.sub x.at_).av, .int .i64 0], []) := by
  unfold takeX takeR takeS
  rw [if_pos h, if_pos h, h]
structure TkH (r : Rc) (x : Sg) : Prop where
  h : r.Sm
  hx : x.Ok
  hm : r.may = true
  hp : preE r x = 0
  hl : x.b.length ≤ 1460
  hs : 0 ≤ x.sub ∧ x.sub ≤ 3
theorem TkH.e {r : Rc} {x : Sg} (H : TkH r x) (mk : Bool) : takeE r x mk = if rpE r.w x (tAt r x) ≠ 0 then rpE r.w x (tAt r x) else if addE (r.at x.sub).got (tSp r x) ≠ 0 then addE (r.at x.sub).got (tSp r x) else if mk = true ∧ (tM r x mk).may = false then 5 else 0 := by
  unfold takeE; rw [if_neg (by rw [H.hp]; decide)]
theorem q8 {V : EV} {M : EM} (h1 : HasV V F_r21told) (x : Sg) (t : Rc) (ht : t.Sm) :
    (Dr21take V M).From 4194301 ⟨[p0, p1, p2, p3], [bx x.av, bx (.agg nR), bx (.agg nS), bx t.av]⟩ = some (.tup [t.av, (toldS t x.sub x.at_).av, .int .i64 0], []) := by
  refine From.of ((r21take_8 x.av t.av).trans ?_)
  have e : V 45 [t.av, .int .i64 x.sub, .int .u32 x.at_] = some (.tup [(toldS t x.sub x.at_).av, .int .i64 (toldE t x.sub)]) := h1 (t, x.sub, x.at_) ht
  simp only [V21, e]
theorem q7 {V : EV} {M : EM} (h1 : HasV V F_r21told) (h2 : HasV V F_r10may) {r : Rc} {x : Sg} (H : TkH r x) (mk : Bool) (c1 : rpE r.w x (tAt r x) = 0) (c2 : addE (r.at x.sub).got (tSp r x) = 0) :
    (Dr21take V M).From 1048574 ⟨[.bool mk, p0, p1, p2, p3, .int .i64 (tN x), p4, p5], bx x.av :: bN ++ [bx (takeT r x false).av, bx (r.at x.sub).av]⟩ = takeX r x mk := by
  refine From.of ((r21take_7 mk (tN x) x.av (takeT r x false).av (r.at x.sub).av).trans ?_)
  have hsm : ∀ k, (takeT r x k).Sm := fun k => take_sm H.h H.hx H.hm H.hl k c1 c2
  cases mk with
  | false =>
    have e0 : takeE r x false = 0 := by rw [H.e, if_neg (fun h => h c1), if_neg (fun h => h c2), if_neg (by simp)]
    rw [takeX_ok e0]
    exact q8 h1 x _ (hsm false)
  | true =>
    have hN : 1 ≤ tN x ∧ tN x ≤ 1460 := by have := H.hl; unfold tN; split <;> omega
    have hmm : (r.at x.sub).m.may = true := by
      have := Rc.may_at H.hm x.sub
      unfold Il.may at this
      rw [Bool.and_eq_true] at this
      exact this.2
    rw [Mk.may_iff] at hmm
    have hM : tM r x true = ⟨(r.at x.sub).m.p + 1, (r.at x.sub).m.b + tN x, (r.at x.sub).m.c, (r.at x.sub).m.m, (r.at x.sub).m.q⟩ := by unfold tM; rw [if_pos rfl]
    have e2 : V 85 [Mk.av ⟨(r.at x.sub).m.p + 1, (r.at x.sub).m.b + tN x, (r.at x.sub).m.c, (r.at x.sub).m.m, (r.at x.sub).m.q⟩] = some (.bool (tM r x true).may) := by rw [← hM]; exact h2 _ trivial
    have w1 : IntKind.wrap .i64 ((r.at x.sub).m.p + 1) = (r.at x.sub).m.p + 1 := w64 (by omega) (by omega)
    have w2 : IntKind.wrap .i64 ((r.at x.sub).m.b + tN x) = (r.at x.sub).m.b + tN x := w64 (by omega) (by omega)
    rw [cond_true]
    simp only [V21, w1, w2]
    refine (congrArg (fun z => Option.bind z _) e2).trans ?_
    rw [Option.bind_some]
    refine (gd_of rfl).trans ?_
    refine Eq.trans (b := (Dr21take V M).From 134217646 ⟨[p0, p1, p2, p3, p4, p5, .bool (tM r x true).may], bx x.av :: bN ++ [bx (takeT r x false).av, bx (Mk.av ⟨(r.at x.sub).m.p + 1, (r.at x.sub).m.b + tN x, (r.at x.sub).m.c, (r.at x.sub).m.m, (r.at x.sub).m.q⟩)]⟩) rfl ?_
    rw [← hM]
    refine From.of ((r21take_9 (tM r x true).may x.av (takeT r x false).av (tM r x true).av).trans ?_)
    cases hq : (tM r x true).may with
    | false =>
      have e0 : takeE r x true = 5 := by rw [H.e, if_neg (fun h => h c1), if_neg (fun h => h c2), if_pos ⟨rfl, hq⟩]
      rw [takeX_bad (by decide) e0]; rfl
    | true =>
      have e0 : takeE r x true = 0 := by rw [H.e, if_neg (fun h => h c1), if_neg (fun h => h c2), if_neg (by rw [hq]; simp)]
      rw [takeX_ok e0, Bool.not_true, cond_false]
      refine Eq.trans ?_ (q8 (M := M) h1 x _ (hsm true))
      have hT : ∀ k, takeT r x k = { r.set x.sub ⟨addR (r.at x.sub).got (tSp r x), tM r x k⟩ with w := rpW r.w x (tAt r x) } := fun _ => rfl
      rw [show ci x.av 1 = x.sub from rfl, hT, hT]
      generalize tM r x true = mm
      generalize tM r x false = m2
      generalize tSp r x = sp
      generalize rpW r.w x (tAt r x) = ww
      rcases sub4 H.hs with hk | hk | hk | hk <;> rw [hk]
      all_goals
        simp only [D00, D10, D11, D20, D21, D22, D30, D31, D32, D33, cond_true, cond_false, gd_true]
        rfl
theorem q6 {V : EV} {M : EM} (h1 : HasV V F_r21told) (h2 : HasV V F_r10may) (h3 : HasV V F_r4add) {r : Rc} {x : Sg} (H : TkH r x) (mk : Bool) :
    (Dr21take V M).From 131069 ⟨[.bool mk, p0, p1, p2, p3, .int .i64 (tN x), p4, p5, .int .i64 (tSeq r x), .int .i64 (rpE r.w x (tAt r x))], bx x.av :: bN ++ [bx (Rc.av { r with w := rpW r.w x (tAt r x) }), bx (r.at x.sub).av]⟩ = takeX r x mk := by
  refine From.of ((r21take_6 mk (tN x) (tSeq r x) (rpE r.w x (tAt r x)) x.av (Rc.av { r with w := rpW r.w x (tAt r x) }) (r.at x.sub).av).trans ?_)
  have hN : 1 ≤ tN x ∧ tN x ≤ 1460 := by have := H.hl; unfold tN; split <;> omega
  have hSq : 0 ≤ tSeq r x ∧ tSeq r x ≤ 4611686022722355200 := unwP_rng _ H.hx.q0 H.hx.q1
  have e3 : V 62 [.osl (prows (r.at x.sub).got), .agg [.int .i64 (tSeq r x), .int .i64 (tSeq r x + tN x)]] = some (.tup [.osl (prows (addR (r.at x.sub).got (tSp r x))), .int .i64 (addE (r.at x.sub).got (tSp r x))]) := h3 ((r.at x.sub).got, tSp r x) (by have := H.h.at x.sub; show (r.at x.sub).got.length ≤ _; omega)
  by_cases c1 : rpE r.w x (tAt r x) = 0
  · rw [show (rpE r.w x (tAt r x) == 0) = true by rw [beq_iff_eq]; exact c1]
    simp only [V21, w64 (n := tSeq r x + tN x) (by omega) (by omega), e3]
    by_cases c2 : addE (r.at x.sub).got (tSp r x) = 0
    · rw [show (addE (r.at x.sub).got (tSp r x) == 0) = true by rw [beq_iff_eq]; exact c2]
      refine Eq.trans ?_ (q7 (M := M) h1 h2 H mk c1 c2)
      have hT : takeT r x false = { r.set x.sub ⟨addR (r.at x.sub).got (tSp r x), (r.at x.sub).m⟩ with w := rpW r.w x (tAt r x) } := by unfold takeT tM; rw [if_neg (by decide)]
      rw [hT]
      generalize tSp r x = sp
      generalize rpW r.w x (tAt r x) = ww
      rcases sub4 H.hs with hk | hk | hk | hk <;> rw [hk]
      all_goals
        simp only [D00, D10, D11, D20, D21, D22, D30, D31, D32, D33, Bool.not_true, cond_true, cond_false, gd_true]
        rfl
    · rw [show (addE (r.at x.sub).got (tSp r x) == 0) = false by rw [beq_eq_false_iff_ne]; exact c2]
      rw [takeX_bad c2 (by rw [H.e, if_neg (fun h => h c1), if_pos c2])]; rfl
  · rw [show (rpE r.w x (tAt r x) == 0) = false by rw [beq_eq_false_iff_ne]; exact c1]
    rw [takeX_bad c1 (by rw [H.e, if_pos c1])]; rfl
theorem q5 {V : EV} {M : EM} (h1 : HasV V F_r21told) (h2 : HasV V F_r10may) (h3 : HasV V F_r4add) (h4 : HasV V F_r6put) (h5 : HasV V F_r6shut) {r : Rc} {x : Sg} (H : TkH r x) (mk : Bool) (hf : x.fin = true ∨ ¬ tAt r x + x.b.length > edgeW r.w) :
    (Dr21take V M).From 32765 ⟨[.bool mk, p0, p1, p2, p3, p4, .int .i64 (tN x), p5, p6, .int .i64 (tSeq r x), .int .i64 (tAt r x)], bx r.av :: bx x.av :: bN ++ [bx r.av, bx (r.at x.sub).av]⟩ = takeX r x mk := by
  refine From.of ((r21take_5 mk (tN x) (tSeq r x) (tAt r x) r.av x.av r.av (r.at x.sub).av).trans ?_)
  have e4 : V 26 [r.w.av, .int .i64 (tAt r x), .osl x.b] = some (.tup [(putW r.w (tAt r x) x.b).av, .int .i64 (putM r.w (tAt r x) x.b), .int .i64 (putK r.w (tAt r x) x.b)]) := h4 (r.w, tAt r x, x.b) ⟨H.h.w, H.hx.b, by have := H.hl; show x.b.length ≤ _; omega⟩
  have e5 : V 27 [r.w.av, .int .i64 (tAt r x)] = some (.tup [(shutW r.w (tAt r x)).av, .int .i64 (shutE r.w (tAt r x))]) := h5 (r.w, tAt r x) H.h.w
  refine Eq.trans ?_ (q6 (M := M) h1 h2 h3 H mk)
  unfold rpE rpW
  simp only [V21, e4, e5]
  cases hq : x.fin with
  | true => rfl
  | false =>
    have hn : ¬ tAt r x + x.b.length > edgeW r.w := hf.resolve_left (by rw [hq]; decide)
    rw [if_neg (show ¬ (false = true) by decide), if_neg hn, if_neg (show ¬ (false = true) by decide), if_neg hn]
    rfl
theorem q4 {V : EV} {M : EM} (h1 : HasV V F_r21told) (h2 : HasV V F_r10may) (h3 : HasV V F_r4add) (h4 : HasV V F_r6put) (h5 : HasV V F_r6shut) (h6 : HasV V F_r6edge) {r : Rc} {x : Sg} (H : TkH r x) (mk : Bool) (hn : x.fin = false → tN x = x.b.length) :
    (Dr21take V M).From 8190 ⟨[.bool mk, p0, p1, p2, p3, p4, .int .i64 (tN x), p5, p6, .int .i64 (tSeq r x), .int .i64 (tAt r x)], bx r.av :: bx x.av :: bN ++ [bx r.av, bx (r.at x.sub).av]⟩ = takeX r x mk := by
  refine From.of ((r21take_4 mk (tN x) (tSeq r x) (tAt r x) r.av x.av r.av (r.at x.sub).av).trans ?_)
  have e6 : V 32 [r.w.av] = some (.int .i64 (edgeW r.w)) := h6 r.w H.h.w
  have hAt : 0 ≤ tAt r x ∧ tAt r x ≤ 4611686022722355200 := unwP_rng _ H.hx.d0 H.hx.d1
  have hl := H.hl
  simp only [V21, e6]
  cases hf : x.fin with
  | true => exact q5 h1 h2 h3 h4 h5 H mk (.inl hf)
  | false =>
    rw [hn hf, w64 (n := tAt r x + x.b.length) (by omega) (by omega)]
    by_cases c : tAt r x + x.b.length > edgeW r.w
    · have e0 : rpE r.w x (tAt r x) = 4 := by unfold rpE; rw [if_neg (by rw [hf]; decide), if_pos c]
      rw [decide_eq_true c, takeX_bad (e := 4) (by decide) (by rw [H.e, if_pos (by rw [e0]; decide), e0])]; rfl
    · rw [decide_eq_false c, ← hn hf]
      exact q5 h1 h2 h3 h4 h5 H mk (.inr c)
theorem q3 {V : EV} {M : EM} (h1 : HasV V F_r21told) (h2 : HasV V F_r10may) (h3 : HasV V F_r4add) (h4 : HasV V F_r6put) (h5 : HasV V F_r6shut) (h6 : HasV V F_r6edge) (h7 : HasV V F_r4gap) (h8 : HasV V F_r2unw) (h9 : HasV V F_r21far) {r : Rc} {x : Sg} (H : TkH r x) (mk : Bool) (hn : x.fin = false → tN x = x.b.length) :
    (Dr21take V M).From 2046 ⟨[.bool mk, p0, p1, p2, p3, p4, .int .i64 (tN x), p5, p6], bx r.av :: bx x.av :: bN ++ [bx r.av, bx (r.at x.sub).av]⟩ = takeX r x mk := by
  refine From.of ((r21take_3 mk (tN x) r.av x.av r.av (r.at x.sub).av).trans ?_)
  have hw := Rc.may_w H.hm
  have hmy := Rc.may_at H.hm x.sub
  unfold Il.may at hmy
  rw [Bool.and_eq_true] at hmy
  have hg := gap_rng hmy.1 (f := 0) (by omega) (by omega)
  obtain ⟨f1, f2, f3, f4, f5, f6, f7, f8⟩ := far_rng hw
  have e7 : V 83 [.osl (prows (r.at x.sub).got), .int .i64 0] = some (.int .i64 (gapP (r.at x.sub).got 0)) := h7 ((r.at x.sub).got, 0) (by have := H.h.at x.sub; show (r.at x.sub).got.length ≤ _; omega)
  have e8 : V 82 [.int .i64 (gapP (r.at x.sub).got 0), .int .u32 x.seq] = some (.int .i64 (tSeq r x)) := h8 (gapP (r.at x.sub).got 0, x.seq) ⟨⟨H.hx.q0, H.hx.q1⟩, by simp only; omega, by simp only; omega⟩
  have e9 : V 84 [r.w.av] = some (.int .i64 (farP r.w)) := h9 r.w ⟨H.h.w, hw⟩
  have e10 : V 82 [.int .i64 (farP r.w), .int .u32 x.dsn] = some (.int .i64 (tAt r x)) := h8 (farP r.w, x.dsn) ⟨⟨H.hx.d0, H.hx.d1⟩, by simp only; omega, by simp only; omega⟩
  simp only [V21, e7, e8, e9, e10]
  exact q4 h1 h2 h3 h4 h5 h6 H mk hn
theorem q2 {V : EV} {M : EM} (h1 : HasV V F_r21told) (h2 : HasV V F_r10may) (h3 : HasV V F_r4add) (h4 : HasV V F_r6put) (h5 : HasV V F_r6shut) (h6 : HasV V F_r6edge) (h7 : HasV V F_r4gap) (h8 : HasV V F_r2unw) (h9 : HasV V F_r21far) (h10 : HasV V F_r21own) {r : Rc} {x : Sg} (H : TkH r x) (mk : Bool) (hn : x.fin = false → tN x = x.b.length) :
    (Dr21take V M).From 1021 ⟨[.bool mk, p0, p1, p2, p3, p4, .int .i64 (tN x)], bx r.av :: bx x.av :: bN⟩ = takeX r x mk := by
  refine From.of ((r21take_2 mk (tN x) r.av x.av).trans ?_)
  have e10 : V 43 [r.av] = some r.av := h10 r H.h
  refine Eq.trans ?_ (q3 (M := M) h1 h2 h3 h4 h5 h6 h7 h8 h9 H mk hn)
  simp only [V21, e10]
  rcases sub4 H.hs with hk | hk | hk | hk <;> rw [hk]
  all_goals
    simp only [D00, D10, D11, D20, D21, D22, D30, D31, D32, D33, cond_true, cond_false, gd_true]
    rfl
theorem r21take_from {V : EV} {M : EM} (r : Rc) (h : r.Sm) (x : Sg) (hx : x.Ok) (mk : Bool) (a1 : HasV V F_r21may) (a2 : HasV V F_r7may)
    (h1 : HasV V F_r21told) (h2 : HasV V F_r10may) (h3 : HasV V F_r4add) (h4 : HasV V F_r6put) (h5 : HasV V F_r6shut) (h6 : HasV V F_r6edge) (h7 : HasV V F_r4gap) (h8 : HasV V F_r2unw) (h9 : HasV V F_r21far) (h10 : HasV V F_r21own) :
    (Dr21take V M).From 0 ⟨[r.av, x.av, .bool mk], []⟩ = takeX r x mk := by
  refine From.of ((r21take_0 r.av x.av mk).trans ?_)
  have e1 : V 50 [r.av] = some (.bool r.may) := a1 r h
  have e2 : V 81 [x.av] = some (.bool x.may) := a2 x trivial
  have bad : ∀ e : Int, e ≠ 0 → preE r x = e → takeX r x mk = some (.tup [.agg zR, .agg zS, .int .i64 e], []) := fun e he hp => takeX_bad he (by unfold takeE; rw [if_pos (by rw [hp]; exact he), hp])
  have hp0 : r.may = true → (x.may = false ∨ x.kind ≠ 2 ∨ x.fin ≠ (x.b.length == 0)) → preE r x = 7 := fun hm hh => by unfold preE; rw [if_neg (by rw [hm]; decide), if_pos hh]
  simp only [V21, e1, e2]
  cases hm : r.may with
  | false => rw [bad 1 (by decide) (by unfold preE; rw [if_pos hm])]; rfl
  | true =>
  cases hw : x.may with
  | false => rw [bad 7 (by decide) (hp0 hm (.inl hw))]; rfl
  | true =>
  by_cases c1 : x.kind = 2
  · rw [show (x.kind == 2) = true by rw [beq_iff_eq]; exact c1]
    have hb := (Sg.may_iff.1 hw)
    cases hf : x.fin with
    | true =>
      by_cases c : (x.b.length : Int) > 0
      · rw [decide_eq_true c, bad 7 (by decide) (hp0 hm (.inr (.inr (by rw [hf]; intro hh; have := beq_iff_eq.1 hh.symm; omega))))]; rfl
      · rw [decide_eq_false c]
        have hl0 : x.b.length = 0 := by omega
        have hp : preE r x = 0 := by unfold preE; rw [if_neg (by rw [hm]; decide), if_neg (by rw [hw, hf]; simp [c1, hl0])]
        have hN : tN x = 1 := by unfold tN; rw [if_pos (by omega)]
        refine Eq.trans ?_ (q2 (M := M) h1 h2 h3 h4 h5 h6 h7 h8 h9 h10 ⟨h, hx, hm, hp, by omega, by omega⟩ mk (fun hh => by rw [hf] at hh; cases hh))
        rw [hN]
        simp only [Bool.not_true, cond_false, cond_true]
        refine From.of ((r21take_1 mk r.av x.av).trans ?_)
        rw [show cb x.av 2 = true from hf]; rfl
    | false =>
      by_cases c : x.b.length = 0
      · rw [show ((x.b.length : Int) == 0) = true by rw [beq_iff_eq]; omega, bad 7 (by decide) (hp0 hm (.inr (.inr (by rw [hf, c]; decide))))]; rfl
      · rw [show ((x.b.length : Int) == 0) = false by rw [beq_eq_false_iff_ne]; omega]
        have hp : preE r x = 0 := by unfold preE; rw [if_neg (by rw [hm]; decide), if_neg (by rw [hw, hf]; simp [c1, c])]
        have hN : tN x = x.b.length := by unfold tN; rw [if_neg (by omega)]
        refine Eq.trans ?_ (q2 (M := M) h1 h2 h3 h4 h5 h6 h7 h8 h9 h10 ⟨h, hx, hm, hp, by omega, by omega⟩ mk (fun _ => hN))
        rw [hN]
        simp only [Bool.not_true, Bool.not_false, cond_false, cond_true]
        refine From.of ((r21take_1 mk r.av x.av).trans ?_)
        rw [show cb x.av 2 = false from hf]; rfl
  · rw [show (x.kind == 2) = false by rw [beq_eq_false_iff_ne]; exact c1, bad 7 (by decide) (hp0 hm (.inr (.inl c1)))]; rfl
theorem r21take_ok (r : Rc) (h : r.Sm) (x : Sg) (hx : x.Ok) (mk : Bool) : FnOk Try.prog 44 [r.av, x.av, .bool mk] (.tup [(takeR r x mk).av, (takeS r x mk).av, .int .i64 (takeE r x mk)]) :=
  fn_mk [F_r6put, F_r6shut, F_r6edge, F_r21own, F_r21told, F_r21may, F_r4add, F_r7may, F_r2unw, F_r4gap, F_r21far, F_r10may] [] (by kernel_rfl) mixed (by kernel_rfl)
    (r21take_from r h x hx mk (hasV 5 rfl rfl) (hasV 7 rfl rfl) (hasV 4 rfl rfl) (hasV 11 rfl rfl) (hasV 6 rfl rfl) (hasV 0 rfl rfl) (hasV 1 rfl rfl) (hasV 2 rfl rfl) (hasV 9 rfl rfl) (hasV 8 rfl rfl) (hasV 10 rfl rfl) (hasV 3 rfl rfl))
noncomputable def F_r21take : Fam Try.prog := { f := 44, ι := Rc × Sg × Bool, pre := fun p => p.1.Sm ∧ p.2.1.Ok, args := fun p => [p.1.av, p.2.1.av, .bool p.2.2], res := fun p => .tup [(takeR p.1 p.2.1 p.2.2).av, (takeS p.1 p.2.1 p.2.2).av, .int .i64 (takeE p.1 p.2.1 p.2.2)], ok := fun p h => r21take_ok p.1 h.1 p.2.1 h.2 p.2.2, inj := fun s t h => by rw [rsb_inj h] }
end Vai.L21
