import Derived.Test.YtjienkojedlfjaaN21a
namespace Vai.L21
open Go Go.Proofs Vai Vai.L04 Vai.L06
set_option maxRecDepth 100000
set_option linter.unusedVariables false
set_option linter.unusedSimpArgs false
section
variable {R : Type} {V : EV} {M : EM} {G : Nat → CS → Option R} {K : Res → Option R}
noncomputable abbrev Drtake : EV → EM → Dn := dnV Try.prog 37 [36, 40, 41, 53, 59, 70, 73, 74, 75, 76, 77] [] []
theorem rtake_0 (a0 : AV) (a1 : AV) (a2 : Bool) : (Drtake V M).stepK G K 0 ⟨[wR ((a0)), wS ((a1)), .bool a2], []⟩ =
    Option.bind (V 41 [wR ((a0))]) (fun x0 => gd (fitA [.one .bool] x0) ((bif !AV.getb x0 then Option.bind (V 73 [AV.int .i64 (1 : Int)]) (fun x54 => gd (fitA [.agg kR, .agg kS, .one (.int .i64)] x54) (K (AV.tup [wR (((List.getD (AV.gett x54) 0 .undef))), wS (((List.getD (AV.gett x54) 1 .undef))), AV.int .i64 (ti x54 2)], []))) else Option.bind (V 40 [wS ((a1))]) (fun x1 => gd (fitA [.one .bool] x1) ((bif !AV.getb x1 then Option.bind (V 73 [AV.int .i64 (7 : Int)]) (fun x53 => gd (fitA [.agg kR, .agg kS, .one (.int .i64)] x53) (K (AV.tup [wR (((List.getD (AV.gett x53) 0 .undef))), wS (((List.getD (AV.gett x53) 1 .undef))), AV.int .i64 (ti x53 2)], []))) else (bif !ci a1 0 == (2 : Int) then Option.bind (V 73 [AV.int .i64 (7 : Int)]) (fun x52 => gd (fitA [.agg kR, .agg kS, .one (.int .i64)] x52) (K (AV.tup [wR (((List.getD (AV.gett x52) 0 .undef))), wS (((List.getD (AV.gett x52) 1 .undef))), AV.int .i64 (ti x52 2)], []))) else (bif !cb a1 2 == ((↑(List.length (cl a1 14)) : Int) == (0 : Int)) then Option.bind (V 73 [AV.int .i64 (7 : Int)]) (fun x51 => gd (fitA [.agg kR, .agg kS, .one (.int .i64)] x51) (K (AV.tup [wR (((List.getD (AV.gett x51) 0 .undef))), wS (((List.getD (AV.gett x51) 1 .undef))), AV.int .i64 (ti x51 2)], []))) else Option.bind (V 74 [wR ((a0))]) (fun x2 => gd (fitA [.agg kR] x2) ((bif decide (ci a1 1 = (0 : Int)) then Option.bind (V 59 [AV.osl (cl x2 5), AV.int .i64 (0 : Int)]) (fun x39 => gd (fitA [.one (.int .i64)] x39) (Option.bind (V 75 [AV.int .i64 (AV.geti x39), AV.int .u32 (ci a1 4)]) (fun x40 => gd (fitA [.one (.int .i64)] x40) (Option.bind (V 70 [wW ((x2))]) (fun x41 => gd (fitA [.one (.int .i64)] x41) (Option.bind (V 75 [AV.int .i64 (AV.geti x41), AV.int .u32 (ci a1 5)]) (fun x42 => gd (fitA [.one (.int .i64)] x42) (Option.bind (V 76 [wW ((x2)), wS ((a1)), AV.int .i64 (AV.geti x42)]) (fun x43 => gd (fitA [.agg kW, .one (.int .i64)] x43) ((bif !ti x43 1 == (0 : Int) then Option.bind (V 73 [AV.int .i64 (ti x43 1)]) (fun x50 => gd (fitA [.agg kR, .agg kS, .one (.int .i64)] x50) (K (AV.tup [wR (((List.getD (AV.gett x50) 0 .undef))), wS (((List.getD (AV.gett x50) 1 .undef))), AV.int .i64 (ti x50 2)], []))) else Option.bind (V 53 [AV.osl (cl x2 5), AV.agg [AV.int .i64 (AV.geti x40), AV.int .i64 (IntKind.wrap .i64 (AV.geti x40 + if (1 : Int) > (↑(List.length (cl a1 14)) : Int) then (1 : Int) else (↑(List.length (cl a1 14)) : Int)))]]) (fun x44 => gd (fitA [.one .sl, .one (.int .i64)] x44) ((bif !ti x44 1 == (0 : Int) then Option.bind (V 73 [AV.int .i64 (ti x44 1)]) (fun x49 => gd (fitA [.agg kR, .agg kS, .one (.int .i64)] x49) (K (AV.tup [wR (((List.getD (AV.gett x49) 0 .undef))), wS (((List.getD (AV.gett x49) 1 .undef))), AV.int .i64 (ti x49 2)], []))) else (bif a2 then Option.bind (V 77 [AV.agg (List.append [AV.int .i64 (IntKind.wrap .i64 (ci x2 6 + (1 : Int))), AV.int .i64 (IntKind.wrap .i64 (ci x2 7 + if (1 : Int) > (↑(List.length (cl a1 14)) : Int) then (1 : Int) else (↑(List.length (cl a1 14)) : Int)))] (vwL [.int .i64, .int .i64, .int .i64] 8 (AV.getc x2)))]) (fun x46 => gd (fitA [.one .bool] x46) ((bif !AV.getb x46 then Option.bind (V 73 [AV.int .i64 (5 : Int)]) (fun x48 => gd (fitA [.agg kR, .agg kS, .one (.int .i64)] x48) (K (AV.tup [wR (((List.getD (AV.gett x48) 0 .undef))), wS (((List.getD (AV.gett x48) 1 .undef))), AV.int .i64 (ti x48 2)], []))) else Option.bind (V 36 [AV.agg (List.append (vwL kW 0 (AV.getc (List.getD (AV.gett x43) 0 .undef))) (List.append [AV.osl (tl x44 0), AV.int .i64 (IntKind.wrap .i64 (ci x2 6 + (1 : Int))), AV.int .i64 (IntKind.wrap .i64 (ci x2 7 + if (1 : Int) > (↑(List.length (cl a1 14)) : Int) then (1 : Int) else (↑(List.length (cl a1 14)) : Int)))] (vwL [.int .i64, .int .i64, .int .i64, .sl, .int .i64, .int .i64, .int .i64, .int .i64, .int .i64, .sl, .int .i64, .int .i64, .int .i64, .int .i64, .int .i64, .sl, .int .i64, .int .i64, .int .i64, .int .i64, .int .i64] 8 (AV.getc x2)))), AV.int .i64 (ci a1 1), AV.int .u32 (ci a1 11)]) (fun x47 => gd (fitA [.agg kS, .one (.int .i64)] x47) (K (AV.tup [AV.agg (List.append (vwL kW 0 (AV.getc (List.getD (AV.gett x43) 0 .undef))) (List.append [AV.osl (tl x44 0), AV.int .i64 (IntKind.wrap .i64 (ci x2 6 + (1 : Int))), AV.int .i64 (IntKind.wrap .i64 (ci x2 7 + if (1 : Int) > (↑(List.length (cl a1 14)) : Int) then (1 : Int) else (↑(List.length (cl a1 14)) : Int)))] (vwL [.int .i64, .int .i64, .int .i64, .sl, .int .i64, .int .i64, .int .i64, .int .i64, .int .i64, .sl, .int .i64, .int .i64, .int .i64, .int .i64, .int .i64, .sl, .int .i64, .int .i64, .int .i64, .int .i64, .int .i64] 8 (AV.getc x2)))), wS (((List.getD (AV.gett x47) 0 .undef))), AV.int .i64 (ti x47 1)], [])))))) else Option.bind (V 36 [AV.agg (List.append (vwL kW 0 (AV.getc (List.getD (AV.gett x43) 0 .undef))) (List.append [AV.osl (tl x44 0)] (vwL [.int .i64, .int .i64, .int .i64, .int .i64, .int .i64, .sl, .int .i64, .int .i64, .int .i64, .int .i64, .int .i64, .sl, .int .i64, .int .i64, .int .i64, .int .i64, .int .i64, .sl, .int .i64, .int .i64, .int .i64, .int .i64, .int .i64] 6 (AV.getc x2)))), AV.int .i64 (ci a1 1), AV.int .u32 (ci a1 11)]) (fun x45 => gd (fitA [.agg kS, .one (.int .i64)] x45) (K (AV.tup [AV.agg (List.append (vwL kW 0 (AV.getc (List.getD (AV.gett x43) 0 .undef))) (List.append [AV.osl (tl x44 0)] (vwL [.int .i64, .int .i64, .int .i64, .int .i64, .int .i64, .sl, .int .i64, .int .i64, .int .i64, .int .i64, .int .i64, .sl, .int .i64, .int .i64, .int .i64, .int .i64, .int .i64, .sl, .int .i64, .int .i64, .int .i64, .int .i64, .int .i64] 6 (AV.getc x2)))), wS (((List.getD (AV.gett x45) 0 .undef))), AV.int .i64 (ti x45 1)], [])))))))))))))))))) else (bif decide (ci a1 1 = (1 : Int)) then Option.bind (V 59 [AV.osl (cl x2 11), AV.int .i64 (0 : Int)]) (fun x27 => gd (fitA [.one (.int .i64)] x27) (Option.bind (V 75 [AV.int .i64 (AV.geti x27), AV.int .u32 (ci a1 4)]) (fun x28 => gd (fitA [.one (.int .i64)] x28) (Option.bind (V 70 [wW ((x2))]) (fun x29 => gd (fitA [.one (.int .i64)] x29) (Option.bind (V 75 [AV.int .i64 (AV.geti x29), AV.int .u32 (ci a1 5)]) (fun x30 => gd (fitA [.one (.int .i64)] x30) (Option.bind (V 76 [wW ((x2)), wS ((a1)), AV.int .i64 (AV.geti x30)]) (fun x31 => gd (fitA [.agg kW, .one (.int .i64)] x31) ((bif !ti x31 1 == (0 : Int) then Option.bind (V 73 [AV.int .i64 (ti x31 1)]) (fun x38 => gd (fitA [.agg kR, .agg kS, .one (.int .i64)] x38) (K (AV.tup [wR (((List.getD (AV.gett x38) 0 .undef))), wS (((List.getD (AV.gett x38) 1 .undef))), AV.int .i64 (ti x38 2)], []))) else Option.bind (V 53 [AV.osl (cl x2 11), AV.agg [AV.int .i64 (AV.geti x28), AV.int .i64 (IntKind.wrap .i64 (AV.geti x28 + if (1 : Int) > (↑(List.length (cl a1 14)) : Int) then (1 : Int) else (↑(List.length (cl a1 14)) : Int)))]]) (fun x32 => gd (fitA [.one .sl, .one (.int .i64)] x32) ((bif !ti x32 1 == (0 : Int) then Option.bind (V 73 [AV.int .i64 (ti x32 1)]) (fun x37 => gd (fitA [.agg kR, .agg kS, .one (.int .i64)] x37) (K (AV.tup [wR (((List.getD (AV.gett x37) 0 .undef))), wS (((List.getD (AV.gett x37) 1 .undef))), AV.int .i64 (ti x37 2)], []))) else (bif a2 then Option.bind (V 77 [AV.agg (List.append [AV.int .i64 (IntKind.wrap .i64 (ci x2 12 + (1 : Int))), AV.int .i64 (IntKind.wrap .i64 (ci x2 13 + if (1 : Int) > (↑(List.length (cl a1 14)) : Int) then (1 : Int) else (↑(List.length (cl a1 14)) : Int)))] (vwL [.int .i64, .int .i64, .int .i64] 14 (AV.getc x2)))]) (fun x34 => gd (fitA [.one .bool] x34) ((bif !AV.getb x34 then Option.bind (V 73 [AV.int .i64 (5 : Int)]) (fun x36 => gd (fitA [.agg kR, .agg kS, .one (.int .i64)] x36) (K (AV.tup [wR (((List.getD (AV.gett x36) 0 .undef))), wS (((List.getD (AV.gett x36) 1 .undef))), AV.int .i64 (ti x36 2)], []))) else Option.bind (V 36 [AV.agg (List.append (vwL kW 0 (AV.getc (List.getD (AV.gett x31) 0 .undef))) (List.append (vwL kI 5 (AV.getc x2)) (List.append [AV.osl (tl x32 0), AV.int .i64 (IntKind.wrap .i64 (ci x2 12 + (1 : Int))), AV.int .i64 (IntKind.wrap .i64 (ci x2 13 + if (1 : Int) > (↑(List.length (cl a1 14)) : Int) then (1 : Int) else (↑(List.length (cl a1 14)) : Int)))] (vwL [.int .i64, .int .i64, .int .i64, .sl, .int .i64, .int .i64, .int .i64, .int .i64, .int .i64, .sl, .int .i64, .int .i64, .int .i64, .int .i64, .int .i64] 14 (AV.getc x2))))), AV.int .i64 (ci a1 1), AV.int .u32 (ci a1 11)]) (fun x35 => gd (fitA [.agg kS, .one (.int .i64)] x35) (K (AV.tup [AV.agg (List.append (vwL kW 0 (AV.getc (List.getD (AV.gett x31) 0 .undef))) (List.append (vwL kI 5 (AV.getc x2)) (List.append [AV.osl (tl x32 0), AV.int .i64 (IntKind.wrap .i64 (ci x2 12 + (1 : Int))), AV.int .i64 (IntKind.wrap .i64 (ci x2 13 + if (1 : Int) > (↑(List.length (cl a1 14)) : Int) then (1 : Int) else (↑(List.length (cl a1 14)) : Int)))] (vwL [.int .i64, .int .i64, .int .i64, .sl, .int .i64, .int .i64, .int .i64, .int .i64, .int .i64, .sl, .int .i64, .int .i64, .int .i64, .int .i64, .int .i64] 14 (AV.getc x2))))), wS (((List.getD (AV.gett x35) 0 .undef))), AV.int .i64 (ti x35 1)], [])))))) else Option.bind (V 36 [AV.agg (List.append (vwL kW 0 (AV.getc (List.getD (AV.gett x31) 0 .undef))) (List.append (vwL kI 5 (AV.getc x2)) (List.append [AV.osl (tl x32 0)] (vwL [.int .i64, .int .i64, .int .i64, .int .i64, .int .i64, .sl, .int .i64, .int .i64, .int .i64, .int .i64, .int .i64, .sl, .int .i64, .int .i64, .int .i64, .int .i64, .int .i64] 12 (AV.getc x2))))), AV.int .i64 (ci a1 1), AV.int .u32 (ci a1 11)]) (fun x33 => gd (fitA [.agg kS, .one (.int .i64)] x33) (K (AV.tup [AV.agg (List.append (vwL kW 0 (AV.getc (List.getD (AV.gett x31) 0 .undef))) (List.append (vwL kI 5 (AV.getc x2)) (List.append [AV.osl (tl x32 0)] (vwL [.int .i64, .int .i64, .int .i64, .int .i64, .int .i64, .sl, .int .i64, .int .i64, .int .i64, .int .i64, .int .i64, .sl, .int .i64, .int .i64, .int .i64, .int .i64, .int .i64] 12 (AV.getc x2))))), wS (((List.getD (AV.gett x33) 0 .undef))), AV.int .i64 (ti x33 1)], [])))))))))))))))))) else (bif decide (ci a1 1 = (2 : Int)) then Option.bind (V 59 [AV.osl (cl x2 17), AV.int .i64 (0 : Int)]) (fun x15 => gd (fitA [.one (.int .i64)] x15) (Option.bind (V 75 [AV.int .i64 (AV.geti x15), AV.int .u32 (ci a1 4)]) (fun x16 => gd (fitA [.one (.int .i64)] x16) (Option.bind (V 70 [wW ((x2))]) (fun x17 => gd (fitA [.one (.int .i64)] x17) (Option.bind (V 75 [AV.int .i64 (AV.geti x17), AV.int .u32 (ci a1 5)]) (fun x18 => gd (fitA [.one (.int .i64)] x18) (Option.bind (V 76 [wW ((x2)), wS ((a1)), AV.int .i64 (AV.geti x18)]) (fun x19 => gd (fitA [.agg kW, .one (.int .i64)] x19) ((bif !ti x19 1 == (0 : Int) then Option.bind (V 73 [AV.int .i64 (ti x19 1)]) (fun x26 => gd (fitA [.agg kR, .agg kS, .one (.int .i64)] x26) (K (AV.tup [wR (((List.getD (AV.gett x26) 0 .undef))), wS (((List.getD (AV.gett x26) 1 .undef))), AV.int .i64 (ti x26 2)], []))) else Option.bind (V 53 [AV.osl (cl x2 17), AV.agg [AV.int .i64 (AV.geti x16), AV.int .i64 (IntKind.wrap .i64 (AV.geti x16 + if (1 : Int) > (↑(List.length (cl a1 14)) : Int) then (1 : Int) else (↑(List.length (cl a1 14)) : Int)))]]) (fun x20 => gd (fitA [.one .sl, .one (.int .i64)] x20) ((bif !ti x20 1 == (0 : Int) then Option.bind (V 73 [AV.int .i64 (ti x20 1)]) (fun x25 => gd (fitA [.agg kR, .agg kS, .one (.int .i64)] x25) (K (AV.tup [wR (((List.getD (AV.gett x25) 0 .undef))), wS (((List.getD (AV.gett x25) 1 .undef))), AV.int .i64 (ti x25 2)], []))) else (bif a2 then Option.bind (V 77 [AV.agg (List.append [AV.int .i64 (IntKind.wrap .i64 (ci x2 18 + (1 : Int))), AV.int .i64 (IntKind.wrap .i64 (ci x2 19 + if (1 : Int) > (↑(List.length (cl a1 14)) : Int) then (1 : Int) else (↑(List.length (cl a1 14)) : Int)))] (vwL [.int .i64, .int .i64, .int .i64] 20 (AV.getc x2)))]) (fun x22 => gd (fitA [.one .bool] x22) ((bif !AV.getb x22 then Option.bind (V 73 [AV.int .i64 (5 : Int)]) (fun x24 => gd (fitA [.agg kR, .agg kS, .one (.int .i64)] x24) (K (AV.tup [wR (((List.getD (AV.gett x24) 0 .undef))), wS (((List.getD (AV.gett x24) 1 .undef))), AV.int .i64 (ti x24 2)], []))) else Option.bind (V 36 [AV.agg (List.append (vwL kW 0 (AV.getc (List.getD (AV.gett x19) 0 .undef))) (List.append (vwL [.sl, .int .i64, .int .i64, .int .i64, .int .i64, .int .i64, .sl, .int .i64, .int .i64, .int .i64, .int .i64, .int .i64] 5 (AV.getc x2)) (List.append [AV.osl (tl x20 0), AV.int .i64 (IntKind.wrap .i64 (ci x2 18 + (1 : Int))), AV.int .i64 (IntKind.wrap .i64 (ci x2 19 + if (1 : Int) > (↑(List.length (cl a1 14)) : Int) then (1 : Int) else (↑(List.length (cl a1 14)) : Int)))] (vwL [.int .i64, .int .i64, .int .i64, .sl, .int .i64, .int .i64, .int .i64, .int .i64, .int .i64] 20 (AV.getc x2))))), AV.int .i64 (ci a1 1), AV.int .u32 (ci a1 11)]) (fun x23 => gd (fitA [.agg kS, .one (.int .i64)] x23) (K (AV.tup [AV.agg (List.append (vwL kW 0 (AV.getc (List.getD (AV.gett x19) 0 .undef))) (List.append (vwL [.sl, .int .i64, .int .i64, .int .i64, .int .i64, .int .i64, .sl, .int .i64, .int .i64, .int .i64, .int .i64, .int .i64] 5 (AV.getc x2)) (List.append [AV.osl (tl x20 0), AV.int .i64 (IntKind.wrap .i64 (ci x2 18 + (1 : Int))), AV.int .i64 (IntKind.wrap .i64 (ci x2 19 + if (1 : Int) > (↑(List.length (cl a1 14)) : Int) then (1 : Int) else (↑(List.length (cl a1 14)) : Int)))] (vwL [.int .i64, .int .i64, .int .i64, .sl, .int .i64, .int .i64, .int .i64, .int .i64, .int .i64] 20 (AV.getc x2))))), wS (((List.getD (AV.gett x23) 0 .undef))), AV.int .i64 (ti x23 1)], [])))))) else Option.bind (V 36 [AV.agg (List.append (vwL kW 0 (AV.getc (List.getD (AV.gett x19) 0 .undef))) (List.append (vwL [.sl, .int .i64, .int .i64, .int .i64, .int .i64, .int .i64, .sl, .int .i64, .int .i64, .int .i64, .int .i64, .int .i64] 5 (AV.getc x2)) (List.append [AV.osl (tl x20 0)] (vwL [.int .i64, .int .i64, .int .i64, .int .i64, .int .i64, .sl, .int .i64, .int .i64, .int .i64, .int .i64, .int .i64] 18 (AV.getc x2))))), AV.int .i64 (ci a1 1), AV.int .u32 (ci a1 11)]) (fun x21 => gd (fitA [.agg kS, .one (.int .i64)] x21) (K (AV.tup [AV.agg (List.append (vwL kW 0 (AV.getc (List.getD (AV.gett x19) 0 .undef))) (List.append (vwL [.sl, .int .i64, .int .i64, .int .i64, .int .i64, .int .i64, .sl, .int .i64, .int .i64, .int .i64, .int .i64, .int .i64] 5 (AV.getc x2)) (List.append [AV.osl (tl x20 0)] (vwL [.int .i64, .int .i64, .int .i64, .int .i64, .int .i64, .sl, .int .i64, .int .i64, .int .i64, .int .i64, .int .i64] 18 (AV.getc x2))))), wS (((List.getD (AV.gett x21) 0 .undef))), AV.int .i64 (ti x21 1)], [])))))))))))))))))) else gd (decide (ci a1 1 = (3 : Int))) (Option.bind (V 59 [AV.osl (cl x2 23), AV.int .i64 (0 : Int)]) (fun x3 => gd (fitA [.one (.int .i64)] x3) (Option.bind (V 75 [AV.int .i64 (AV.geti x3), AV.int .u32 (ci a1 4)]) (fun x4 => gd (fitA [.one (.int .i64)] x4) (Option.bind (V 70 [wW ((x2))]) (fun x5 => gd (fitA [.one (.int .i64)] x5) (Option.bind (V 75 [AV.int .i64 (AV.geti x5), AV.int .u32 (ci a1 5)]) (fun x6 => gd (fitA [.one (.int .i64)] x6) (Option.bind (V 76 [wW ((x2)), wS ((a1)), AV.int .i64 (AV.geti x6)]) (fun x7 => gd (fitA [.agg kW, .one (.int .i64)] x7) ((bif !ti x7 1 == (0 : Int) then Option.bind (V 73 [AV.int .i64 (ti x7 1)]) (fun x14 => gd (fitA [.agg kR, .agg kS, .one (.int .i64)] x14) (K (AV.tup [wR (((List.getD (AV.gett x14) 0 .undef))), wS (((List.getD (AV.gett x14) 1 .undef))), AV.int .i64 (ti x14 2)], []))) else Option.bind (V 53 [AV.osl (cl x2 23), AV.agg [AV.int .i64 (AV.geti x4), AV.int .i64 (IntKind.wrap .i64 (AV.geti x4 + if (1 : Int) > (↑(List.length (cl a1 14)) : Int) then (1 : Int) else (↑(List.length (cl a1 14)) : Int)))]]) (fun x8 => gd (fitA [.one .sl, .one (.int .i64)] x8) ((bif !ti x8 1 == (0 : Int) then Option.bind (V 73 [AV.int .i64 (ti x8 1)]) (fun x13 => gd (fitA [.agg kR, .agg kS, .one (.int .i64)] x13) (K (AV.tup [wR (((List.getD (AV.gett x13) 0 .undef))), wS (((List.getD (AV.gett x13) 1 .undef))), AV.int .i64 (ti x13 2)], []))) else (bif a2 then Option.bind (V 77 [AV.agg (List.append [AV.int .i64 (IntKind.wrap .i64 (ci x2 24 + (1 : Int))), AV.int .i64 (IntKind.wrap .i64 (ci x2 25 + if (1 : Int) > (↑(List.length (cl a1 14)) : Int) then (1 : Int) else (↑(List.length (cl a1 14)) : Int)))] (vwL [.int .i64, .int .i64, .int .i64] 26 (AV.getc x2)))]) (fun x10 => gd (fitA [.one .bool] x10) ((bif !AV.getb x10 then Option.bind (V 73 [AV.int .i64 (5 : Int)]) (fun x12 => gd (fitA [.agg kR, .agg kS, .one (.int .i64)] x12) (K (AV.tup [wR (((List.getD (AV.gett x12) 0 .undef))), wS (((List.getD (AV.gett x12) 1 .undef))), AV.int .i64 (ti x12 2)], []))) else Option.bind (V 36 [AV.agg (List.append (vwL kW 0 (AV.getc (List.getD (AV.gett x7) 0 .undef))) (List.append (vwL [.sl, .int .i64, .int .i64, .int .i64, .int .i64, .int .i64, .sl, .int .i64, .int .i64, .int .i64, .int .i64, .int .i64, .sl, .int .i64, .int .i64, .int .i64, .int .i64, .int .i64] 5 (AV.getc x2)) (List.append [AV.osl (tl x8 0), AV.int .i64 (IntKind.wrap .i64 (ci x2 24 + (1 : Int))), AV.int .i64 (IntKind.wrap .i64 (ci x2 25 + if (1 : Int) > (↑(List.length (cl a1 14)) : Int) then (1 : Int) else (↑(List.length (cl a1 14)) : Int)))] (vwL [.int .i64, .int .i64, .int .i64] 26 (AV.getc x2))))), AV.int .i64 (ci a1 1), AV.int .u32 (ci a1 11)]) (fun x11 => gd (fitA [.agg kS, .one (.int .i64)] x11) (K (AV.tup [AV.agg (List.append (vwL kW 0 (AV.getc (List.getD (AV.gett x7) 0 .undef))) (List.append (vwL [.sl, .int .i64, .int .i64, .int .i64, .int .i64, .int .i64, .sl, .int .i64, .int .i64, .int .i64, .int .i64, .int .i64, .sl, .int .i64, .int .i64, .int .i64, .int .i64, .int .i64] 5 (AV.getc x2)) (List.append [AV.osl (tl x8 0), AV.int .i64 (IntKind.wrap .i64 (ci x2 24 + (1 : Int))), AV.int .i64 (IntKind.wrap .i64 (ci x2 25 + if (1 : Int) > (↑(List.length (cl a1 14)) : Int) then (1 : Int) else (↑(List.length (cl a1 14)) : Int)))] (vwL [.int .i64, .int .i64, .int .i64] 26 (AV.getc x2))))), wS (((List.getD (AV.gett x11) 0 .undef))), AV.int .i64 (ti x11 1)], [])))))) else Option.bind (V 36 [AV.agg (List.append (vwL kW 0 (AV.getc (List.getD (AV.gett x7) 0 .undef))) (List.append (vwL [.sl, .int .i64, .int .i64, .int .i64, .int .i64, .int .i64, .sl, .int .i64, .int .i64, .int .i64, .int .i64, .int .i64, .sl, .int .i64, .int .i64, .int .i64, .int .i64, .int .i64] 5 (AV.getc x2)) (List.append [AV.osl (tl x8 0)] (vwL kM 24 (AV.getc x2))))), AV.int .i64 (ci a1 1), AV.int .u32 (ci a1 11)]) (fun x9 => gd (fitA [.agg kS, .one (.int .i64)] x9) (K (AV.tup [AV.agg (List.append (vwL kW 0 (AV.getc (List.getD (AV.gett x7) 0 .undef))) (List.append (vwL [.sl, .int .i64, .int .i64, .int .i64, .int .i64, .int .i64, .sl, .int .i64, .int .i64, .int .i64, .int .i64, .int .i64, .sl, .int .i64, .int .i64, .int .i64, .int .i64, .int .i64] 5 (AV.getc x2)) (List.append [AV.osl (tl x8 0)] (vwL kM 24 (AV.getc x2))))), wS (((List.getD (AV.gett x9) 0 .undef))), AV.int .i64 (ti x9 1)], [])))))))))))))))))))))))))))))))) := by kernel_rfl
end
theorem addE_may {l : List Spn} {s : Spn} (h : addE l s = 0) : mayP (addR l s) = true ∧ (addR l s).length ≤ 1000 ∧ mayP l = true ∧ s.one = true := by
  obtain ⟨h1, h2⟩ := addE_0 h
  unfold addE at h
  split at h
  · rename_i c
    rw [h1]
    exact ⟨may_iff.2 ⟨h2, addL_can (may_iff.1 c.1).2 (one_iff.1 c.2)⟩, h2, c.1, c.2⟩
  · cases h
theorem rp_sm {w : Wv} (hw : w.Sm) {x : Sg} (hx : x.Ok) (n : Int) : (rpW w x n).Sm := by
  unfold rpW
  split
  · exact shutW_sm hw n
  · split
    · exact hw
    · exact putW_sm hw hx.b (by have := hx.bl; omega)
theorem take_sm {r : Rc} (h : r.Sm) {x : Sg} (hx : x.Ok) (hm : r.may = true) (hl : x.b.length ≤ 1460) (mk : Bool) (c1 : rpE r.w x (tAt r x) = 0) (c2 : addE (r.at x.sub).got (tSp r x) = 0) : (takeT r x mk).Sm :=
  h.set (rp_sm h.w hx _) _ (by have := (addE_may c2).2.1; show (addR _ _).length ≤ _; omega)
theorem take_may {r : Rc} (h : r.Sm) {x : Sg} (hx : x.Ok) (hm : r.may = true) (hl : x.b.length ≤ 1460) (mk : Bool) (hp : preE r x = 0) (c1 : rpE r.w x (tAt r x) = 0) (c2 : addE (r.at x.sub).got (tSp r x) = 0) (hq : mk = true → (tM r x mk).may = true) : (takeT r x mk).may = true := by
  refine Rc.may_set hm (rp_next h.w.b hx.b hl c1).may _ ?_
  unfold Il.may
  rw [Bool.and_eq_true]
  refine ⟨(addE_may c2).1, ?_⟩
  cases mk with
  | true => exact hq rfl
  | false =>
    have := Rc.may_at hm x.sub
    unfold Il.may at this
    rw [Bool.and_eq_true] at this
    show (tM r x false).may = true
    unfold tM
    rw [if_neg (by decide)]
    exact this.2
theorem take_rest0 {V : EV} (r : Rc) (h : r.Sm) (hm : r.may = true) (x : Sg) (hx : x.Ok) (mk : Bool) (hk : x.sub = 0) (hp : preE r x = 0) (hl : x.b.length ≤ 1460)
    (h1 : HasV V F_gap) (h2 : HasV V F_unw) (h3 : HasV V F_far) (h4 : HasV V F_rput) (h5 : HasV V F_add) (h6 : HasV V F_mmay) (h7 : HasV V F_fail) (h8 : HasV V F_rtold) :
    (Option.bind (V 59 [AV.osl (cl (Rc.av r) 5), AV.int .i64 (0 : Int)]) (fun x39 => gd (fitA [.one (.int .i64)] x39) (Option.bind (V 75 [AV.int .i64 (AV.geti x39), AV.int .u32 (ci (Sg.av x) 4)]) (fun x40 => gd (fitA [.one (.int .i64)] x40) (Option.bind (V 70 [AV.agg (vwL kW 0 (AV.getc (Rc.av r)))]) (fun x41 => gd (fitA [.one (.int .i64)] x41) (Option.bind (V 75 [AV.int .i64 (AV.geti x41), AV.int .u32 (ci (Sg.av x) 5)]) (fun x42 => gd (fitA [.one (.int .i64)] x42) (Option.bind (V 76 [AV.agg (vwL kW 0 (AV.getc (Rc.av r))), AV.agg (vwL kS 0 (AV.getc (Sg.av x))), AV.int .i64 (AV.geti x42)]) (fun x43 => gd (fitA [.agg kW, .one (.int .i64)] x43) ((bif !ti x43 1 == (0 : Int) then Option.bind (V 73 [AV.int .i64 (ti x43 1)]) (fun x50 => gd (fitA [.agg kR, .agg kS, .one (.int .i64)] x50) (some (AV.tup [AV.agg (vwL kR 0 (AV.getc (List.getD (AV.gett x50) 0 .undef))), AV.agg (vwL kS 0 (AV.getc (List.getD (AV.gett x50) 1 .undef))), AV.int .i64 (ti x50 2)], []))) else Option.bind (V 53 [AV.osl (cl (Rc.av r) 5), AV.agg [AV.int .i64 (AV.geti x40), AV.int .i64 (IntKind.wrap .i64 (AV.geti x40 + if (1 : Int) > (↑(List.length (cl (Sg.av x) 14)) : Int) then (1 : Int) else (↑(List.length (cl (Sg.av x) 14)) : Int)))]]) (fun x44 => gd (fitA [.one .sl, .one (.int .i64)] x44) ((bif !ti x44 1 == (0 : Int) then Option.bind (V 73 [AV.int .i64 (ti x44 1)]) (fun x49 => gd (fitA [.agg kR, .agg kS, .one (.int .i64)] x49) (some (AV.tup [AV.agg (vwL kR 0 (AV.getc (List.getD (AV.gett x49) 0 .undef))), AV.agg (vwL kS 0 (AV.getc (List.getD (AV.gett x49) 1 .undef))), AV.int .i64 (ti x49 2)], []))) else (bif mk then Option.bind (V 77 [AV.agg (List.append [AV.int .i64 (IntKind.wrap .i64 (ci (Rc.av r) 6 + (1 : Int))), AV.int .i64 (IntKind.wrap .i64 (ci (Rc.av r) 7 + if (1 : Int) > (↑(List.length (cl (Sg.av x) 14)) : Int) then (1 : Int) else (↑(List.length (cl (Sg.av x) 14)) : Int)))] (vwL [.int .i64, .int .i64, .int .i64] 8 (AV.getc (Rc.av r))))]) (fun x46 => gd (fitA [.one .bool] x46) ((bif !AV.getb x46 then Option.bind (V 73 [AV.int .i64 (5 : Int)]) (fun x48 => gd (fitA [.agg kR, .agg kS, .one (.int .i64)] x48) (some (AV.tup [AV.agg (vwL kR 0 (AV.getc (List.getD (AV.gett x48) 0 .undef))), AV.agg (vwL kS 0 (AV.getc (List.getD (AV.gett x48) 1 .undef))), AV.int .i64 (ti x48 2)], []))) else Option.bind (V 36 [AV.agg (List.append (vwL kW 0 (AV.getc (List.getD (AV.gett x43) 0 .undef))) (List.append [AV.osl (tl x44 0), AV.int .i64 (IntKind.wrap .i64 (ci (Rc.av r) 6 + (1 : Int))), AV.int .i64 (IntKind.wrap .i64 (ci (Rc.av r) 7 + if (1 : Int) > (↑(List.length (cl (Sg.av x) 14)) : Int) then (1 : Int) else (↑(List.length (cl (Sg.av x) 14)) : Int)))] (vwL [.int .i64, .int .i64, .int .i64, .sl, .int .i64, .int .i64, .int .i64, .int .i64, .int .i64, .sl, .int .i64, .int .i64, .int .i64, .int .i64, .int .i64, .sl, .int .i64, .int .i64, .int .i64, .int .i64, .int .i64] 8 (AV.getc (Rc.av r))))), AV.int .i64 (ci (Sg.av x) 1), AV.int .u32 (ci (Sg.av x) 11)]) (fun x47 => gd (fitA [.agg kS, .one (.int .i64)] x47) (some (AV.tup [AV.agg (List.append (vwL kW 0 (AV.getc (List.getD (AV.gett x43) 0 .undef))) (List.append [AV.osl (tl x44 0), AV.int .i64 (IntKind.wrap .i64 (ci (Rc.av r) 6 + (1 : Int))), AV.int .i64 (IntKind.wrap .i64 (ci (Rc.av r) 7 + if (1 : Int) > (↑(List.length (cl (Sg.av x) 14)) : Int) then (1 : Int) else (↑(List.length (cl (Sg.av x) 14)) : Int)))] (vwL [.int .i64, .int .i64, .int .i64, .sl, .int .i64, .int .i64, .int .i64, .int .i64, .int .i64, .sl, .int .i64, .int .i64, .int .i64, .int .i64, .int .i64, .sl, .int .i64, .int .i64, .int .i64, .int .i64, .int .i64] 8 (AV.getc (Rc.av r))))), AV.agg (vwL kS 0 (AV.getc (List.getD (AV.gett x47) 0 .undef))), AV.int .i64 (ti x47 1)], [])))))) else Option.bind (V 36 [AV.agg (List.append (vwL kW 0 (AV.getc (List.getD (AV.gett x43) 0 .undef))) (List.append [AV.osl (tl x44 0)] (vwL [.int .i64, .int .i64, .int .i64, .int .i64, .int .i64, .sl, .int .i64, .int .i64, .int .i64, .int .i64, .int .i64, .sl, .int .i64, .int .i64, .int .i64, .int .i64, .int .i64, .sl, .int .i64, .int .i64, .int .i64, .int .i64, .int .i64] 6 (AV.getc (Rc.av r))))), AV.int .i64 (ci (Sg.av x) 1), AV.int .u32 (ci (Sg.av x) 11)]) (fun x45 => gd (fitA [.agg kS, .one (.int .i64)] x45) (some (AV.tup [AV.agg (List.append (vwL kW 0 (AV.getc (List.getD (AV.gett x43) 0 .undef))) (List.append [AV.osl (tl x44 0)] (vwL [.int .i64, .int .i64, .int .i64, .int .i64, .int .i64, .sl, .int .i64, .int .i64, .int .i64, .int .i64, .int .i64, .sl, .int .i64, .int .i64, .int .i64, .int .i64, .int .i64, .sl, .int .i64, .int .i64, .int .i64, .int .i64, .int .i64] 6 (AV.getc (Rc.av r))))), AV.agg (vwL kS 0 (AV.getc (List.getD (AV.gett x45) 0 .undef))), AV.int .i64 (ti x45 1)], [])))))))))))))))))) : Option Res) = some (.tup [(takeR r x mk).av, (takeS r x mk).av, .int .i64 (takeE r x mk)], []) := by
  have hw := Rc.may_w hm
  have hat : r.at x.sub = r.s0 := by rw [hk]; rfl
  have e1 : V 59 [.osl (prows r.s0.got), .int .i64 0] = some (.int .i64 (gapP r.s0.got 0)) := h1 (r.s0.got, 0) (by have := h.l0; show r.s0.got.length ≤ _; omega)
  have e2 : V 75 [.int .i64 (gapP r.s0.got 0), .int .u32 x.seq] = some (.int .i64 (tSeq r x)) := by unfold tSeq; rw [hat]; exact h2 (gapP r.s0.got 0, x.seq) ⟨hx.q0, hx.q1⟩
  have e3 : V 70 [r.w.av] = some (.int .i64 (farP r.w)) := h3 r.w ⟨h.w, hw⟩
  have e4 : V 75 [.int .i64 (farP r.w), .int .u32 x.dsn] = some (.int .i64 (tAt r x)) := h2 (farP r.w, x.dsn) ⟨hx.d0, hx.d1⟩
  have hAt : 0 ≤ tAt r x ∧ tAt r x ≤ 4611686022722355200 := unwP_rng _ hx.d0 hx.d1
  have hSq : 0 ≤ tSeq r x ∧ tSeq r x ≤ 4611686022722355200 := unwP_rng _ hx.q0 hx.q1
  have hN : 1 ≤ tN x ∧ tN x ≤ 1460 := by unfold tN; split <;> omega
  have e5 : V 76 [r.w.av, x.av, .int .i64 (tAt r x)] = some (.tup [(rpW r.w x (tAt r x)).av, .int .i64 (rpE r.w x (tAt r x))]) := h4 (r.w, x, tAt r x) ⟨h.w, hx, hAt.1, hAt.2⟩
  have e6 : V 53 [.osl (prows r.s0.got), .agg [.int .i64 (tSeq r x), .int .i64 (tSeq r x + tN x)]] = some (.tup [.osl (prows (addR r.s0.got (tSp r x))), .int .i64 (addE r.s0.got (tSp r x))]) := h5 (r.s0.got, tSp r x) (by have := h.l0; show r.s0.got.length ≤ _; omega)
  have e7 : ∀ e : Int, V 73 [.int .i64 e] = some (.tup [Rc.none.av, Sg.none.av, .int .i64 e]) := fun e => h7 e trivial
  have hmm : r.s0.m.may = true := by
    have := Rc.may_at hm x.sub
    rw [hat] at this
    unfold Il.may at this
    rw [Bool.and_eq_true] at this
    exact this.2
  rw [Mk.may_iff] at hmm
  have w1 : IntKind.wrap .i64 (tSeq r x + if (1 : Int) > (x.b.length : Int) then (1 : Int) else (x.b.length : Int)) = tSeq r x + tN x := w64 (n := tSeq r x + tN x) (by omega) (by omega)
  have w2 : IntKind.wrap .i64 (r.s0.m.p + 1) = r.s0.m.p + 1 := w64 (by omega) (by omega)
  have w3 : IntKind.wrap .i64 (r.s0.m.b + if (1 : Int) > (x.b.length : Int) then (1 : Int) else (x.b.length : Int)) = r.s0.m.b + tN x := w64 (n := r.s0.m.b + tN x) (by omega) (by omega)
  have hE : takeE r x mk = if rpE r.w x (tAt r x) ≠ 0 then rpE r.w x (tAt r x) else if addE r.s0.got (tSp r x) ≠ 0 then addE r.s0.got (tSp r x) else if mk = true ∧ (tM r x mk).may = false then 5 else 0 := by unfold takeE; rw [if_neg (by rw [hp]; decide), hat]
  have hT : takeT r x mk = ⟨rpW r.w x (tAt r x), ⟨addR r.s0.got (tSp r x), tM r x mk⟩, r.s1, r.s2, r.s3⟩ := by unfold takeT; rw [hat, hk]; rfl
  simp only [V21, e1, e2, e3, e4, e5, w1, e6, e7, w2, w3]
  unfold takeR takeS
  by_cases c1 : rpE r.w x (tAt r x) = 0
  · rw [show (rpE r.w x (tAt r x) == 0) = true by rw [beq_iff_eq]; exact c1]
    by_cases c2 : addE r.s0.got (tSp r x) = 0
    · rw [show (addE r.s0.got (tSp r x) == 0) = true by rw [beq_iff_eq]; exact c2]
      have hsm : (takeT r x mk).Sm := take_sm h hx hm hl mk c1 (by rw [hat]; exact c2)
      have hmay : ¬ (mk = true ∧ (tM r x mk).may = false) → (takeT r x mk).may = true := fun hh => take_may h hx hm hl mk hp c1 (by rw [hat]; exact c2) (fun ht => by cases hq : (tM r x mk).may with | true => rfl | false => exact absurd ⟨ht, hq⟩ hh)
      have e9 : V 36 [(takeT r x mk).av, .int .i64 x.sub, .int .u32 x.at_] = some (.tup [(toldS (takeT r x mk) x.sub x.at_).av, .int .i64 (toldE (takeT r x mk) x.sub)]) := h8 (takeT r x mk, x.sub, x.at_) hsm
      cases mk with
      | false =>
        have e10 : toldE (takeT r x false) x.sub = 0 := by unfold toldE; rw [if_pos ⟨hmay (by simp), by omega, by omega⟩]
        have hE0 : takeE r x false = 0 := by rw [hE, if_neg (fun h => h c1), if_neg (fun h => h c2), if_neg (by simp)]
        rw [e10] at e9
        rw [if_pos hE0, if_pos hE0, hE0]
        have hM : tM r x false = r.s0.m := by unfold tM; rw [if_neg (by decide), hat]
        rw [hT, hM] at e9 ⊢
        simp only [Bool.not_true, cond_false]
        refine (congrArg (fun z => Option.bind z _) e9).trans ?_
        simp only [V21]
        rfl
      | true =>
        have hM : tM r x true = ⟨r.s0.m.p + 1, r.s0.m.b + tN x, r.s0.m.c, r.s0.m.m, r.s0.m.q⟩ := by unfold tM; rw [if_pos rfl, hat]
        have e8 : V 77 [Mk.av ⟨r.s0.m.p + 1, r.s0.m.b + tN x, r.s0.m.c, r.s0.m.m, r.s0.m.q⟩] = some (.bool (tM r x true).may) := by rw [← hM]; exact h6 _ trivial
        simp only [Bool.not_true, cond_false, cond_true]
        refine (congrArg (fun z => Option.bind z _) e8).trans ?_
        simp only [V21]
        cases hq : (tM r x true).may with
        | false =>
          have hE0 : takeE r x true = 5 := by rw [hE, if_neg (fun h => h c1), if_neg (fun h => h c2), if_pos ⟨rfl, hq⟩]
          rw [hE0, if_neg (by decide), if_neg (by decide)]; rfl
        | true =>
          have e10 : toldE (takeT r x true) x.sub = 0 := by unfold toldE; rw [if_pos ⟨hmay (by rw [hq]; simp), by omega, by omega⟩]
          have hE0 : takeE r x true = 0 := by rw [hE, if_neg (fun h => h c1), if_neg (fun h => h c2), if_neg (by rw [hq]; simp)]
          rw [e10] at e9
          rw [if_pos hE0, if_pos hE0, hE0]
          rw [hT, hM] at e9 ⊢
          simp only [Bool.not_true, cond_false]
          refine (congrArg (fun z => Option.bind z _) e9).trans ?_
          simp only [V21]
          rfl
    · rw [show (addE r.s0.got (tSp r x) == 0) = false by rw [beq_eq_false_iff_ne]; exact c2]
      have hE0 : takeE r x mk = addE r.s0.got (tSp r x) := by rw [hE, if_neg (fun h => h c1), if_pos c2]
      rw [hE0, if_neg c2, if_neg c2]
      rfl
  · rw [show (rpE r.w x (tAt r x) == 0) = false by rw [beq_eq_false_iff_ne]; exact c1]
    have hE0 : takeE r x mk = rpE r.w x (tAt r x) := by rw [hE, if_pos c1]
    rw [hE0, if_neg c1, if_neg c1]
    rfl
theorem take_rest1 {V : EV} (r : Rc) (h : r.Sm) (hm : r.may = true) (x : Sg) (hx : x.Ok) (mk : Bool) (hk : x.sub = 1) (hp : preE r x = 0) (hl : x.b.length ≤ 1460)
    (h1 : HasV V F_gap) (h2 : HasV V F_unw) (h3 : HasV V F_far) (h4 : HasV V F_rput) (h5 : HasV V F_add) (h6 : HasV V F_mmay) (h7 : HasV V F_fail) (h8 : HasV V F_rtold) :
    (Option.bind (V 59 [AV.osl (cl (Rc.av r) 11), AV.int .i64 (0 : Int)]) (fun x27 => gd (fitA [.one (.int .i64)] x27) (Option.bind (V 75 [AV.int .i64 (AV.geti x27), AV.int .u32 (ci (Sg.av x) 4)]) (fun x28 => gd (fitA [.one (.int .i64)] x28) (Option.bind (V 70 [AV.agg (vwL kW 0 (AV.getc (Rc.av r)))]) (fun x29 => gd (fitA [.one (.int .i64)] x29) (Option.bind (V 75 [AV.int .i64 (AV.geti x29), AV.int .u32 (ci (Sg.av x) 5)]) (fun x30 => gd (fitA [.one (.int .i64)] x30) (Option.bind (V 76 [AV.agg (vwL kW 0 (AV.getc (Rc.av r))), AV.agg (vwL kS 0 (AV.getc (Sg.av x))), AV.int .i64 (AV.geti x30)]) (fun x31 => gd (fitA [.agg kW, .one (.int .i64)] x31) ((bif !ti x31 1 == (0 : Int) then Option.bind (V 73 [AV.int .i64 (ti x31 1)]) (fun x38 => gd (fitA [.agg kR, .agg kS, .one (.int .i64)] x38) (some (AV.tup [AV.agg (vwL kR 0 (AV.getc (List.getD (AV.gett x38) 0 .undef))), AV.agg (vwL kS 0 (AV.getc (List.getD (AV.gett x38) 1 .undef))), AV.int .i64 (ti x38 2)], []))) else Option.bind (V 53 [AV.osl (cl (Rc.av r) 11), AV.agg [AV.int .i64 (AV.geti x28), AV.int .i64 (IntKind.wrap .i64 (AV.geti x28 + if (1 : Int) > (↑(List.length (cl (Sg.av x) 14)) : Int) then (1 : Int) else (↑(List.length (cl (Sg.av x) 14)) : Int)))]]) (fun x32 => gd (fitA [.one .sl, .one (.int .i64)] x32) ((bif !ti x32 1 == (0 : Int) then Option.bind (V 73 [AV.int .i64 (ti x32 1)]) (fun x37 => gd (fitA [.agg kR, .agg kS, .one (.int .i64)] x37) (some (AV.tup [AV.agg (vwL kR 0 (AV.getc (List.getD (AV.gett x37) 0 .undef))), AV.agg (vwL kS 0 (AV.getc (List.getD (AV.gett x37) 1 .undef))), AV.int .i64 (ti x37 2)], []))) else (bif mk then Option.bind (V 77 [AV.agg (List.append [AV.int .i64 (IntKind.wrap .i64 (ci (Rc.av r) 12 + (1 : Int))), AV.int .i64 (IntKind.wrap .i64 (ci (Rc.av r) 13 + if (1 : Int) > (↑(List.length (cl (Sg.av x) 14)) : Int) then (1 : Int) else (↑(List.length (cl (Sg.av x) 14)) : Int)))] (vwL [.int .i64, .int .i64, .int .i64] 14 (AV.getc (Rc.av r))))]) (fun x34 => gd (fitA [.one .bool] x34) ((bif !AV.getb x34 then Option.bind (V 73 [AV.int .i64 (5 : Int)]) (fun x36 => gd (fitA [.agg kR, .agg kS, .one (.int .i64)] x36) (some (AV.tup [AV.agg (vwL kR 0 (AV.getc (List.getD (AV.gett x36) 0 .undef))), AV.agg (vwL kS 0 (AV.getc (List.getD (AV.gett x36) 1 .undef))), AV.int .i64 (ti x36 2)], []))) else Option.bind (V 36 [AV.agg (List.append (vwL kW 0 (AV.getc (List.getD (AV.gett x31) 0 .undef))) (List.append (vwL kI 5 (AV.getc (Rc.av r))) (List.append [AV.osl (tl x32 0), AV.int .i64 (IntKind.wrap .i64 (ci (Rc.av r) 12 + (1 : Int))), AV.int .i64 (IntKind.wrap .i64 (ci (Rc.av r) 13 + if (1 : Int) > (↑(List.length (cl (Sg.av x) 14)) : Int) then (1 : Int) else (↑(List.length (cl (Sg.av x) 14)) : Int)))] (vwL [.int .i64, .int .i64, .int .i64, .sl, .int .i64, .int .i64, .int .i64, .int .i64, .int .i64, .sl, .int .i64, .int .i64, .int .i64, .int .i64, .int .i64] 14 (AV.getc (Rc.av r)))))), AV.int .i64 (ci (Sg.av x) 1), AV.int .u32 (ci (Sg.av x) 11)]) (fun x35 => gd (fitA [.agg kS, .one (.int .i64)] x35) (some (AV.tup [AV.agg (List.append (vwL kW 0 (AV.getc (List.getD (AV.gett x31) 0 .undef))) (List.append (vwL kI 5 (AV.getc (Rc.av r))) (List.append [AV.osl (tl x32 0), AV.int .i64 (IntKind.wrap .i64 (ci (Rc.av r) 12 + (1 : Int))), AV.int .i64 (IntKind.wrap .i64 (ci (Rc.av r) 13 + if (1 : Int) > (↑(List.length (cl (Sg.av x) 14)) : Int) then (1 : Int) else (↑(List.length (cl (Sg.av x) 14)) : Int)))] (vwL [.int .i64, .int .i64, .int .i64, .sl, .int .i64, .int .i64, .int .i64, .int .i64, .int .i64, .sl, .int .i64, .int .i64, .int .i64, .int .i64, .int .i64] 14 (AV.getc (Rc.av r)))))), AV.agg (vwL kS 0 (AV.getc (List.getD (AV.gett x35) 0 .undef))), AV.int .i64 (ti x35 1)], [])))))) else Option.bind (V 36 [AV.agg (List.append (vwL kW 0 (AV.getc (List.getD (AV.gett x31) 0 .undef))) (List.append (vwL kI 5 (AV.getc (Rc.av r))) (List.append [AV.osl (tl x32 0)] (vwL [.int .i64, .int .i64, .int .i64, .int .i64, .int .i64, .sl, .int .i64, .int .i64, .int .i64, .int .i64, .int .i64, .sl, .int .i64, .int .i64, .int .i64, .int .i64, .int .i64] 12 (AV.getc (Rc.av r)))))), AV.int .i64 (ci (Sg.av x) 1), AV.int .u32 (ci (Sg.av x) 11)]) (fun x33 => gd (fitA [.agg kS, .one (.int .i64)] x33) (some (AV.tup [AV.agg (List.append (vwL kW 0 (AV.getc (List.getD (AV.gett x31) 0 .undef))) (List.append (vwL kI 5 (AV.getc (Rc.av r))) (List.append [AV.osl (tl x32 0)] (vwL [.int .i64, .int .i64, .int .i64, .int .i64, .int .i64, .sl, .int .i64, .int .i64, .int .i64, .int .i64, .int .i64, .sl, .int .i64, .int .i64, .int .i64, .int .i64, .int .i64] 12 (AV.getc (Rc.av r)))))), AV.agg (vwL kS 0 (AV.getc (List.getD (AV.gett x33) 0 .undef))), AV.int .i64 (ti x33 1)], [])))))))))))))))))) : Option Res) = some (.tup [(takeR r x mk).av, (takeS r x mk).av, .int .i64 (takeE r x mk)], []) := by
  have hw := Rc.may_w hm
  have hat : r.at x.sub = r.s1 := by rw [hk]; rfl
  have e1 : V 59 [.osl (prows r.s1.got), .int .i64 0] = some (.int .i64 (gapP r.s1.got 0)) := h1 (r.s1.got, 0) (by have := h.l1; show r.s1.got.length ≤ _; omega)
  have e2 : V 75 [.int .i64 (gapP r.s1.got 0), .int .u32 x.seq] = some (.int .i64 (tSeq r x)) := by unfold tSeq; rw [hat]; exact h2 (gapP r.s1.got 0, x.seq) ⟨hx.q0, hx.q1⟩
  have e3 : V 70 [r.w.av] = some (.int .i64 (farP r.w)) := h3 r.w ⟨h.w, hw⟩
  have e4 : V 75 [.int .i64 (farP r.w), .int .u32 x.dsn] = some (.int .i64 (tAt r x)) := h2 (farP r.w, x.dsn) ⟨hx.d0, hx.d1⟩
  have hAt : 0 ≤ tAt r x ∧ tAt r x ≤ 4611686022722355200 := unwP_rng _ hx.d0 hx.d1
  have hSq : 0 ≤ tSeq r x ∧ tSeq r x ≤ 4611686022722355200 := unwP_rng _ hx.q0 hx.q1
  have hN : 1 ≤ tN x ∧ tN x ≤ 1460 := by unfold tN; split <;> omega
  have e5 : V 76 [r.w.av, x.av, .int .i64 (tAt r x)] = some (.tup [(rpW r.w x (tAt r x)).av, .int .i64 (rpE r.w x (tAt r x))]) := h4 (r.w, x, tAt r x) ⟨h.w, hx, hAt.1, hAt.2⟩
  have e6 : V 53 [.osl (prows r.s1.got), .agg [.int .i64 (tSeq r x), .int .i64 (tSeq r x + tN x)]] = some (.tup [.osl (prows (addR r.s1.got (tSp r x))), .int .i64 (addE r.s1.got (tSp r x))]) := h5 (r.s1.got, tSp r x) (by have := h.l1; show r.s1.got.length ≤ _; omega)
  have e7 : ∀ e : Int, V 73 [.int .i64 e] = some (.tup [Rc.none.av, Sg.none.av, .int .i64 e]) := fun e => h7 e trivial
  have hmm : r.s1.m.may = true := by
    have := Rc.may_at hm x.sub
    rw [hat] at this
    unfold Il.may at this
    rw [Bool.and_eq_true] at this
    exact this.2
  rw [Mk.may_iff] at hmm
  have w1 : IntKind.wrap .i64 (tSeq r x + if (1 : Int) > (x.b.length : Int) then (1 : Int) else (x.b.length : Int)) = tSeq r x + tN x := w64 (n := tSeq r x + tN x) (by omega) (by omega)
  have w2 : IntKind.wrap .i64 (r.s1.m.p + 1) = r.s1.m.p + 1 := w64 (by omega) (by omega)
  have w3 : IntKind.wrap .i64 (r.s1.m.b + if (1 : Int) > (x.b.length : Int) then (1 : Int) else (x.b.length : Int)) = r.s1.m.b + tN x := w64 (n := r.s1.m.b + tN x) (by omega) (by omega)
  have hE : takeE r x mk = if rpE r.w x (tAt r x) ≠ 0 then rpE r.w x (tAt r x) else if addE r.s1.got (tSp r x) ≠ 0 then addE r.s1.got (tSp r x) else if mk = true ∧ (tM r x mk).may = false then 5 else 0 := by unfold takeE; rw [if_neg (by rw [hp]; decide), hat]
  have hT : takeT r x mk = ⟨rpW r.w x (tAt r x), r.s0, ⟨addR r.s1.got (tSp r x), tM r x mk⟩, r.s2, r.s3⟩ := by unfold takeT; rw [hat, hk]; rfl
  simp only [V21, e1, e2, e3, e4, e5, w1, e6, e7, w2, w3]
  unfold takeR takeS
  by_cases c1 : rpE r.w x (tAt r x) = 0
  · rw [show (rpE r.w x (tAt r x) == 0) = true by rw [beq_iff_eq]; exact c1]
    by_cases c2 : addE r.s1.got (tSp r x) = 0
    · rw [show (addE r.s1.got (tSp r x) == 0) = true by rw [beq_iff_eq]; exact c2]
      have hsm : (takeT r x mk).Sm := take_sm h hx hm hl mk c1 (by rw [hat]; exact c2)
      have hmay : ¬ (mk = true ∧ (tM r x mk).may = false) → (takeT r x mk).may = true := fun hh => take_may h hx hm hl mk hp c1 (by rw [hat]; exact c2) (fun ht => by cases hq : (tM r x mk).may with | true => rfl | false => exact absurd ⟨ht, hq⟩ hh)
      have e9 : V 36 [(takeT r x mk).av, .int .i64 x.sub, .int .u32 x.at_] = some (.tup [(toldS (takeT r x mk) x.sub x.at_).av, .int .i64 (toldE (takeT r x mk) x.sub)]) := h8 (takeT r x mk, x.sub, x.at_) hsm
      cases mk with
      | false =>
        have e10 : toldE (takeT r x false) x.sub = 0 := by unfold toldE; rw [if_pos ⟨hmay (by simp), by omega, by omega⟩]
        have hE0 : takeE r x false = 0 := by rw [hE, if_neg (fun h => h c1), if_neg (fun h => h c2), if_neg (by simp)]
        rw [e10] at e9
        rw [if_pos hE0, if_pos hE0, hE0]
        have hM : tM r x false = r.s1.m := by unfold tM; rw [if_neg (by decide), hat]
        rw [hT, hM] at e9 ⊢
        simp only [Bool.not_true, cond_false]
        refine (congrArg (fun z => Option.bind z _) e9).trans ?_
        simp only [V21]
        rfl
      | true =>
        have hM : tM r x true = ⟨r.s1.m.p + 1, r.s1.m.b + tN x, r.s1.m.c, r.s1.m.m, r.s1.m.q⟩ := by unfold tM; rw [if_pos rfl, hat]
        have e8 : V 77 [Mk.av ⟨r.s1.m.p + 1, r.s1.m.b + tN x, r.s1.m.c, r.s1.m.m, r.s1.m.q⟩] = some (.bool (tM r x true).may) := by rw [← hM]; exact h6 _ trivial
        simp only [Bool.not_true, cond_false, cond_true]
        refine (congrArg (fun z => Option.bind z _) e8).trans ?_
        simp only [V21]
        cases hq : (tM r x true).may with
        | false =>
          have hE0 : takeE r x true = 5 := by rw [hE, if_neg (fun h => h c1), if_neg (fun h => h c2), if_pos ⟨rfl, hq⟩]
          rw [hE0, if_neg (by decide), if_neg (by decide)]; rfl
        | true =>
          have e10 : toldE (takeT r x true) x.sub = 0 := by unfold toldE; rw [if_pos ⟨hmay (by rw [hq]; simp), by omega, by omega⟩]
          have hE0 : takeE r x true = 0 := by rw [hE, if_neg (fun h => h c1), if_neg (fun h => h c2), if_neg (by rw [hq]; simp)]
          rw [e10] at e9
          rw [if_pos hE0, if_pos hE0, hE0]
          rw [hT, hM] at e9 ⊢
          simp only [Bool.not_true, cond_false]
          refine (congrArg (fun z => Option.bind z _) e9).trans ?_
          simp only [V21]
          rfl
    · rw [show (addE r.s1.got (tSp r x) == 0) = false by rw [beq_eq_false_iff_ne]; exact c2]
      have hE0 : takeE r x mk = addE r.s1.got (tSp r x) := by rw [hE, if_neg (fun h => h c1), if_pos c2]
      rw [hE0, if_neg c2, if_neg c2]
      rfl
  · rw [show (rpE r.w x (tAt r x) == 0) = false by rw [beq_eq_false_iff_ne]; exact c1]
    have hE0 : takeE r x mk = rpE r.w x (tAt r x) := by rw [hE, if_pos c1]
    rw [hE0, if_neg c1, if_neg c1]
    rfl
theorem take_rest2 {V : EV} (r : Rc) (h : r.Sm) (hm : r.may = true) (x : Sg) (hx : x.Ok) (mk : Bool) (hk : x.sub = 2) (hp : preE r x = 0) (hl : x.b.length ≤ 1460)
    (h1 : HasV V F_gap) (h2 : HasV V F_unw) (h3 : HasV V F_far) (h4 : HasV V F_rput) (h5 : HasV V F_add) (h6 : HasV V F_mmay) (h7 : HasV V F_fail) (h8 : HasV V F_rtold) :
    (Option.bind (V 59 [AV.osl (cl (Rc.av r) 17), AV.int .i64 (0 : Int)]) (fun x15 => gd (fitA [.one (.int .i64)] x15) (Option.bind (V 75 [AV.int .i64 (AV.geti x15), AV.int .u32 (ci (Sg.av x) 4)]) (fun x16 => gd (fitA [.one (.int .i64)] x16) (Option.bind (V 70 [AV.agg (vwL kW 0 (AV.getc (Rc.av r)))]) (fun x17 => gd (fitA [.one (.int .i64)] x17) (Option.bind (V 75 [AV.int .i64 (AV.geti x17), AV.int .u32 (ci (Sg.av x) 5)]) (fun x18 => gd (fitA [.one (.int .i64)] x18) (Option.bind (V 76 [AV.agg (vwL kW 0 (AV.getc (Rc.av r))), AV.agg (vwL kS 0 (AV.getc (Sg.av x))), AV.int .i64 (AV.geti x18)]) (fun x19 => gd (fitA [.agg kW, .one (.int .i64)] x19) ((bif !ti x19 1 == (0 : Int) then Option.bind (V 73 [AV.int .i64 (ti x19 1)]) (fun x26 => gd (fitA [.agg kR, .agg kS, .one (.int .i64)] x26) (some (AV.tup [AV.agg (vwL kR 0 (AV.getc (List.getD (AV.gett x26) 0 .undef))), AV.agg (vwL kS 0 (AV.getc (List.getD (AV.gett x26) 1 .undef))), AV.int .i64 (ti x26 2)], []))) else Option.bind (V 53 [AV.osl (cl (Rc.av r) 17), AV.agg [AV.int .i64 (AV.geti x16), AV.int .i64 (IntKind.wrap .i64 (AV.geti x16 + if (1 : Int) > (↑(List.length (cl (Sg.av x) 14)) : Int) then (1 : Int) else (↑(List.length (cl (Sg.av x) 14)) : Int)))]]) (fun x20 => gd (fitA [.one .sl, .one (.int .i64)] x20) ((bif !ti x20 1 == (0 : Int) then Option.bind (V 73 [AV.int .i64 (ti x20 1)]) (fun x25 => gd (fitA [.agg kR, .agg kS, .one (.int .i64)] x25) (some (AV.tup [AV.agg (vwL kR 0 (AV.getc (List.getD (AV.gett x25) 0 .undef))), AV.agg (vwL kS 0 (AV.getc (List.getD (AV.gett x25) 1 .undef))), AV.int .i64 (ti x25 2)], []))) else (bif mk then Option.bind (V 77 [AV.agg (List.append [AV.int .i64 (IntKind.wrap .i64 (ci (Rc.av r) 18 + (1 : Int))), AV.int .i64 (IntKind.wrap .i64 (ci (Rc.av r) 19 + if (1 : Int) > (↑(List.length (cl (Sg.av x) 14)) : Int) then (1 : Int) else (↑(List.length (cl (Sg.av x) 14)) : Int)))] (vwL [.int .i64, .int .i64, .int .i64] 20 (AV.getc (Rc.av r))))]) (fun x22 => gd (fitA [.one .bool] x22) ((bif !AV.getb x22 then Option.bind (V 73 [AV.int .i64 (5 : Int)]) (fun x24 => gd (fitA [.agg kR, .agg kS, .one (.int .i64)] x24) (some (AV.tup [AV.agg (vwL kR 0 (AV.getc (List.getD (AV.gett x24) 0 .undef))), AV.agg (vwL kS 0 (AV.getc (List.getD (AV.gett x24) 1 .undef))), AV.int .i64 (ti x24 2)], []))) else Option.bind (V 36 [AV.agg (List.append (vwL kW 0 (AV.getc (List.getD (AV.gett x19) 0 .undef))) (List.append (vwL [.sl, .int .i64, .int .i64, .int .i64, .int .i64, .int .i64, .sl, .int .i64, .int .i64, .int .i64, .int .i64, .int .i64] 5 (AV.getc (Rc.av r))) (List.append [AV.osl (tl x20 0), AV.int .i64 (IntKind.wrap .i64 (ci (Rc.av r) 18 + (1 : Int))), AV.int .i64 (IntKind.wrap .i64 (ci (Rc.av r) 19 + if (1 : Int) > (↑(List.length (cl (Sg.av x) 14)) : Int) then (1 : Int) else (↑(List.length (cl (Sg.av x) 14)) : Int)))] (vwL [.int .i64, .int .i64, .int .i64, .sl, .int .i64, .int .i64, .int .i64, .int .i64, .int .i64] 20 (AV.getc (Rc.av r)))))), AV.int .i64 (ci (Sg.av x) 1), AV.int .u32 (ci (Sg.av x) 11)]) (fun x23 => gd (fitA [.agg kS, .one (.int .i64)] x23) (some (AV.tup [AV.agg (List.append (vwL kW 0 (AV.getc (List.getD (AV.gett x19) 0 .undef))) (List.append (vwL [.sl, .int .i64, .int .i64, .int .i64, .int .i64, .int .i64, .sl, .int .i64, .int .i64, .int .i64, .int .i64, .int .i64] 5 (AV.getc (Rc.av r))) (List.append [AV.osl (tl x20 0), AV.int .i64 (IntKind.wrap .i64 (ci (Rc.av r) 18 + (1 : Int))), AV.int .i64 (IntKind.wrap .i64 (ci (Rc.av r) 19 + if (1 : Int) > (↑(List.length (cl (Sg.av x) 14)) : Int) then (1 : Int) else (↑(List.length (cl (Sg.av x) 14)) : Int)))] (vwL [.int .i64, .int .i64, .int .i64, .sl, .int .i64, .int .i64, .int .i64, .int .i64, .int .i64] 20 (AV.getc (Rc.av r)))))), AV.agg (vwL kS 0 (AV.getc (List.getD (AV.gett x23) 0 .undef))), AV.int .i64 (ti x23 1)], [])))))) else Option.bind (V 36 [AV.agg (List.append (vwL kW 0 (AV.getc (List.getD (AV.gett x19) 0 .undef))) (List.append (vwL [.sl, .int .i64, .int .i64, .int .i64, .int .i64, .int .i64, .sl, .int .i64, .int .i64, .int .i64, .int .i64, .int .i64] 5 (AV.getc (Rc.av r))) (List.append [AV.osl (tl x20 0)] (vwL [.int .i64, .int .i64, .int .i64, .int .i64, .int .i64, .sl, .int .i64, .int .i64, .int .i64, .int .i64, .int .i64] 18 (AV.getc (Rc.av r)))))), AV.int .i64 (ci (Sg.av x) 1), AV.int .u32 (ci (Sg.av x) 11)]) (fun x21 => gd (fitA [.agg kS, .one (.int .i64)] x21) (some (AV.tup [AV.agg (List.append (vwL kW 0 (AV.getc (List.getD (AV.gett x19) 0 .undef))) (List.append (vwL [.sl, .int .i64, .int .i64, .int .i64, .int .i64, .int .i64, .sl, .int .i64, .int .i64, .int .i64, .int .i64, .int .i64] 5 (AV.getc (Rc.av r))) (List.append [AV.osl (tl x20 0)] (vwL [.int .i64, .int .i64, .int .i64, .int .i64, .int .i64, .sl, .int .i64, .int .i64, .int .i64, .int .i64, .int .i64] 18 (AV.getc (Rc.av r)))))), AV.agg (vwL kS 0 (AV.getc (List.getD (AV.gett x21) 0 .undef))), AV.int .i64 (ti x21 1)], [])))))))))))))))))) : Option Res) = some (.tup [(takeR r x mk).av, (takeS r x mk).av, .int .i64 (takeE r x mk)], []) := by
  have hw := Rc.may_w hm
  have hat : r.at x.sub = r.s2 := by rw [hk]; rfl
  have e1 : V 59 [.osl (prows r.s2.got), .int .i64 0] = some (.int .i64 (gapP r.s2.got 0)) := h1 (r.s2.got, 0) (by have := h.l2; show r.s2.got.length ≤ _; omega)
  have e2 : V 75 [.int .i64 (gapP r.s2.got 0), .int .u32 x.seq] = some (.int .i64 (tSeq r x)) := by unfold tSeq; rw [hat]; exact h2 (gapP r.s2.got 0, x.seq) ⟨hx.q0, hx.q1⟩
  have e3 : V 70 [r.w.av] = some (.int .i64 (farP r.w)) := h3 r.w ⟨h.w, hw⟩
  have e4 : V 75 [.int .i64 (farP r.w), .int .u32 x.dsn] = some (.int .i64 (tAt r x)) := h2 (farP r.w, x.dsn) ⟨hx.d0, hx.d1⟩
  have hAt : 0 ≤ tAt r x ∧ tAt r x ≤ 4611686022722355200 := unwP_rng _ hx.d0 hx.d1
  have hSq : 0 ≤ tSeq r x ∧ tSeq r x ≤ 4611686022722355200 := unwP_rng _ hx.q0 hx.q1
  have hN : 1 ≤ tN x ∧ tN x ≤ 1460 := by unfold tN; split <;> omega
  have e5 : V 76 [r.w.av, x.av, .int .i64 (tAt r x)] = some (.tup [(rpW r.w x (tAt r x)).av, .int .i64 (rpE r.w x (tAt r x))]) := h4 (r.w, x, tAt r x) ⟨h.w, hx, hAt.1, hAt.2⟩
  have e6 : V 53 [.osl (prows r.s2.got), .agg [.int .i64 (tSeq r x), .int .i64 (tSeq r x + tN x)]] = some (.tup [.osl (prows (addR r.s2.got (tSp r x))), .int .i64 (addE r.s2.got (tSp r x))]) := h5 (r.s2.got, tSp r x) (by have := h.l2; show r.s2.got.length ≤ _; omega)
  have e7 : ∀ e : Int, V 73 [.int .i64 e] = some (.tup [Rc.none.av, Sg.none.av, .int .i64 e]) := fun e => h7 e trivial
  have hmm : r.s2.m.may = true := by
    have := Rc.may_at hm x.sub
    rw [hat] at this
    unfold Il.may at this
    rw [Bool.and_eq_true] at this
    exact this.2
  rw [Mk.may_iff] at hmm
  have w1 : IntKind.wrap .i64 (tSeq r x + if (1 : Int) > (x.b.length : Int) then (1 : Int) else (x.b.length : Int)) = tSeq r x + tN x := w64 (n := tSeq r x + tN x) (by omega) (by omega)
  have w2 : IntKind.wrap .i64 (r.s2.m.p + 1) = r.s2.m.p + 1 := w64 (by omega) (by omega)
  have w3 : IntKind.wrap .i64 (r.s2.m.b + if (1 : Int) > (x.b.length : Int) then (1 : Int) else (x.b.length : Int)) = r.s2.m.b + tN x := w64 (n := r.s2.m.b + tN x) (by omega) (by omega)
  have hE : takeE r x mk = if rpE r.w x (tAt r x) ≠ 0 then rpE r.w x (tAt r x) else if addE r.s2.got (tSp r x) ≠ 0 then addE r.s2.got (tSp r x) else if mk = true ∧ (tM r x mk).may = false then 5 else 0 := by unfold takeE; rw [if_neg (by rw [hp]; decide), hat]
  have hT : takeT r x mk = ⟨rpW r.w x (tAt r x), r.s0, r.s1, ⟨addR r.s2.got (tSp r x), tM r x mk⟩, r.s3⟩ := by unfold takeT; rw [hat, hk]; rfl
  simp only [V21, e1, e2, e3, e4, e5, w1, e6, e7, w2, w3]
  unfold takeR takeS
  by_cases c1 : rpE r.w x (tAt r x) = 0
  · rw [show (rpE r.w x (tAt r x) == 0) = true by rw [beq_iff_eq]; exact c1]
    by_cases c2 : addE r.s2.got (tSp r x) = 0
    · rw [show (addE r.s2.got (tSp r x) == 0) = true by rw [beq_iff_eq]; exact c2]
      have hsm : (takeT r x mk).Sm := take_sm h hx hm hl mk c1 (by rw [hat]; exact c2)
      have hmay : ¬ (mk = true ∧ (tM r x mk).may = false) → (takeT r x mk).may = true := fun hh => take_may h hx hm hl mk hp c1 (by rw [hat]; exact c2) (fun ht => by cases hq : (tM r x mk).may with | true => rfl | false => exact absurd ⟨ht, hq⟩ hh)
      have e9 : V 36 [(takeT r x mk).av, .int .i64 x.sub, .int .u32 x.at_] = some (.tup [(toldS (takeT r x mk) x.sub x.at_).av, .int .i64 (toldE (takeT r x mk) x.sub)]) := h8 (takeT r x mk, x.sub, x.at_) hsm
      cases mk with
      | false =>
        have e10 : toldE (takeT r x false) x.sub = 0 := by unfold toldE; rw [if_pos ⟨hmay (by simp), by omega, by omega⟩]
        have hE0 : takeE r x false = 0 := by rw [hE, if_neg (fun h => h c1), if_neg (fun h => h c2), if_neg (by simp)]
        rw [e10] at e9
        rw [if_pos hE0, if_pos hE0, hE0]
        have hM : tM r x false = r.s2.m := by unfold tM; rw [if_neg (by decide), hat]
        rw [hT, hM] at e9 ⊢
        simp only [Bool.not_true, cond_false]
        refine (congrArg (fun z => Option.bind z _) e9).trans ?_
        simp only [V21]
        rfl
      | true =>
        have hM : tM r x true = ⟨r.s2.m.p + 1, r.s2.m.b + tN x, r.s2.m.c, r.s2.m.m, r.s2.m.q⟩ := by unfold tM; rw [if_pos rfl, hat]
        have e8 : V 77 [Mk.av ⟨r.s2.m.p + 1, r.s2.m.b + tN x, r.s2.m.c, r.s2.m.m, r.s2.m.q⟩] = some (.bool (tM r x true).may) := by rw [← hM]; exact h6 _ trivial
        simp only [Bool.not_true, cond_false, cond_true]
        refine (congrArg (fun z => Option.bind z _) e8).trans ?_
        simp only [V21]
        cases hq : (tM r x true).may with
        | false =>
          have hE0 : takeE r x true = 5 := by rw [hE, if_neg (fun h => h c1), if_neg (fun h => h c2), if_pos ⟨rfl, hq⟩]
          rw [hE0, if_neg (by decide), if_neg (by decide)]; rfl
        | true =>
          have e10 : toldE (takeT r x true) x.sub = 0 := by unfold toldE; rw [if_pos ⟨hmay (by rw [hq]; simp), by omega, by omega⟩]
          have hE0 : takeE r x true = 0 := by rw [hE, if_neg (fun h => h c1), if_neg (fun h => h c2), if_neg (by rw [hq]; simp)]
          rw [e10] at e9
          rw [if_pos hE0, if_pos hE0, hE0]
          rw [hT, hM] at e9 ⊢
          simp only [Bool.not_true, cond_false]
          refine (congrArg (fun z => Option.bind z _) e9).trans ?_
          simp only [V21]
          rfl
    · rw [show (addE r.s2.got (tSp r x) == 0) = false by rw [beq_eq_false_iff_ne]; exact c2]
      have hE0 : takeE r x mk = addE r.s2.got (tSp r x) := by rw [hE, if_neg (fun h => h c1), if_pos c2]
      rw [hE0, if_neg c2, if_neg c2]
      rfl
  · rw [show (rpE r.w x (tAt r x) == 0) = false by rw [beq_eq_false_iff_ne]; exact c1]
    have hE0 : takeE r x mk = rpE r.w x (tAt r x) := by rw [hE, if_pos c1]
    rw [hE0, if_neg c1, if_neg c1]
    rfl
theorem take_rest3 {V : EV} (r : Rc) (h : r.Sm) (hm : r.may = true) (x : Sg) (hx : x.Ok) (mk : Bool) (hk : x.sub = 3) (hp : preE r x = 0) (hl : x.b.length ≤ 1460)
    (h1 : HasV V F_gap) (h2 : HasV V F_unw) (h3 : HasV V F_far) (h4 : HasV V F_rput) (h5 : HasV V F_add) (h6 : HasV V F_mmay) (h7 : HasV V F_fail) (h8 : HasV V F_rtold) :
    (Option.bind (V 59 [AV.osl (cl (Rc.av r) 23), AV.int .i64 (0 : Int)]) (fun x3 => gd (fitA [.one (.int .i64)] x3) (Option.bind (V 75 [AV.int .i64 (AV.geti x3), AV.int .u32 (ci (Sg.av x) 4)]) (fun x4 => gd (fitA [.one (.int .i64)] x4) (Option.bind (V 70 [AV.agg (vwL kW 0 (AV.getc (Rc.av r)))]) (fun x5 => gd (fitA [.one (.int .i64)] x5) (Option.bind (V 75 [AV.int .i64 (AV.geti x5), AV.int .u32 (ci (Sg.av x) 5)]) (fun x6 => gd (fitA [.one (.int .i64)] x6) (Option.bind (V 76 [AV.agg (vwL kW 0 (AV.getc (Rc.av r))), AV.agg (vwL kS 0 (AV.getc (Sg.av x))), AV.int .i64 (AV.geti x6)]) (fun x7 => gd (fitA [.agg kW, .one (.int .i64)] x7) ((bif !ti x7 1 == (0 : Int) then Option.bind (V 73 [AV.int .i64 (ti x7 1)]) (fun x14 => gd (fitA [.agg kR, .agg kS, .one (.int .i64)] x14) (some (AV.tup [AV.agg (vwL kR 0 (AV.getc (List.getD (AV.gett x14) 0 .undef))), AV.agg (vwL kS 0 (AV.getc (List.getD (AV.gett x14) 1 .undef))), AV.int .i64 (ti x14 2)], []))) else Option.bind (V 53 [AV.osl (cl (Rc.av r) 23), AV.agg [AV.int .i64 (AV.geti x4), AV.int .i64 (IntKind.wrap .i64 (AV.geti x4 + if (1 : Int) > (↑(List.length (cl (Sg.av x) 14)) : Int) then (1 : Int) else (↑(List.length (cl (Sg.av x) 14)) : Int)))]]) (fun x8 => gd (fitA [.one .sl, .one (.int .i64)] x8) ((bif !ti x8 1 == (0 : Int) then Option.bind (V 73 [AV.int .i64 (ti x8 1)]) (fun x13 => gd (fitA [.agg kR, .agg kS, .one (.int .i64)] x13) (some (AV.tup [AV.agg (vwL kR 0 (AV.getc (List.getD (AV.gett x13) 0 .undef))), AV.agg (vwL kS 0 (AV.getc (List.getD (AV.gett x13) 1 .undef))), AV.int .i64 (ti x13 2)], []))) else (bif mk then Option.bind (V 77 [AV.agg (List.append [AV.int .i64 (IntKind.wrap .i64 (ci (Rc.av r) 24 + (1 : Int))), AV.int .i64 (IntKind.wrap .i64 (ci (Rc.av r) 25 + if (1 : Int) > (↑(List.length (cl (Sg.av x) 14)) : Int) then (1 : Int) else (↑(List.length (cl (Sg.av x) 14)) : Int)))] (vwL [.int .i64, .int .i64, .int .i64] 26 (AV.getc (Rc.av r))))]) (fun x10 => gd (fitA [.one .bool] x10) ((bif !AV.getb x10 then Option.bind (V 73 [AV.int .i64 (5 : Int)]) (fun x12 => gd (fitA [.agg kR, .agg kS, .one (.int .i64)] x12) (some (AV.tup [AV.agg (vwL kR 0 (AV.getc (List.getD (AV.gett x12) 0 .undef))), AV.agg (vwL kS 0 (AV.getc (List.getD (AV.gett x12) 1 .undef))), AV.int .i64 (ti x12 2)], []))) else Option.bind (V 36 [AV.agg (List.append (vwL kW 0 (AV.getc (List.getD (AV.gett x7) 0 .undef))) (List.append (vwL [.sl, .int .i64, .int .i64, .int .i64, .int .i64, .int .i64, .sl, .int .i64, .int .i64, .int .i64, .int .i64, .int .i64, .sl, .int .i64, .int .i64, .int .i64, .int .i64, .int .i64] 5 (AV.getc (Rc.av r))) (List.append [AV.osl (tl x8 0), AV.int .i64 (IntKind.wrap .i64 (ci (Rc.av r) 24 + (1 : Int))), AV.int .i64 (IntKind.wrap .i64 (ci (Rc.av r) 25 + if (1 : Int) > (↑(List.length (cl (Sg.av x) 14)) : Int) then (1 : Int) else (↑(List.length (cl (Sg.av x) 14)) : Int)))] (vwL [.int .i64, .int .i64, .int .i64] 26 (AV.getc (Rc.av r)))))), AV.int .i64 (ci (Sg.av x) 1), AV.int .u32 (ci (Sg.av x) 11)]) (fun x11 => gd (fitA [.agg kS, .one (.int .i64)] x11) (some (AV.tup [AV.agg (List.append (vwL kW 0 (AV.getc (List.getD (AV.gett x7) 0 .undef))) (List.append (vwL [.sl, .int .i64, .int .i64, .int .i64, .int .i64, .int .i64, .sl, .int .i64, .int .i64, .int .i64, .int .i64, .int .i64, .sl, .int .i64, .int .i64, .int .i64, .int .i64, .int .i64] 5 (AV.getc (Rc.av r))) (List.append [AV.osl (tl x8 0), AV.int .i64 (IntKind.wrap .i64 (ci (Rc.av r) 24 + (1 : Int))), AV.int .i64 (IntKind.wrap .i64 (ci (Rc.av r) 25 + if (1 : Int) > (↑(List.length (cl (Sg.av x) 14)) : Int) then (1 : Int) else (↑(List.length (cl (Sg.av x) 14)) : Int)))] (vwL [.int .i64, .int .i64, .int .i64] 26 (AV.getc (Rc.av r)))))), AV.agg (vwL kS 0 (AV.getc (List.getD (AV.gett x11) 0 .undef))), AV.int .i64 (ti x11 1)], [])))))) else Option.bind (V 36 [AV.agg (List.append (vwL kW 0 (AV.getc (List.getD (AV.gett x7) 0 .undef))) (List.append (vwL [.sl, .int .i64, .int .i64, .int .i64, .int .i64, .int .i64, .sl, .int .i64, .int .i64, .int .i64, .int .i64, .int .i64, .sl, .int .i64, .int .i64, .int .i64, .int .i64, .int .i64] 5 (AV.getc (Rc.av r))) (List.append [AV.osl (tl x8 0)] (vwL kM 24 (AV.getc (Rc.av r)))))), AV.int .i64 (ci (Sg.av x) 1), AV.int .u32 (ci (Sg.av x) 11)]) (fun x9 => gd (fitA [.agg kS, .one (.int .i64)] x9) (some (AV.tup [AV.agg (List.append (vwL kW 0 (AV.getc (List.getD (AV.gett x7) 0 .undef))) (List.append (vwL [.sl, .int .i64, .int .i64, .int .i64, .int .i64, .int .i64, .sl, .int .i64, .int .i64, .int .i64, .int .i64, .int .i64, .sl, .int .i64, .int .i64, .int .i64, .int .i64, .int .i64] 5 (AV.getc (Rc.av r))) (List.append [AV.osl (tl x8 0)] (vwL kM 24 (AV.getc (Rc.av r)))))), AV.agg (vwL kS 0 (AV.getc (List.getD (AV.gett x9) 0 .undef))), AV.int .i64 (ti x9 1)], [])))))))))))))))))) : Option Res) = some (.tup [(takeR r x mk).av, (takeS r x mk).av, .int .i64 (takeE r x mk)], []) := by
  have hw := Rc.may_w hm
  have hat : r.at x.sub = r.s3 := by rw [hk]; rfl
  have e1 : V 59 [.osl (prows r.s3.got), .int .i64 0] = some (.int .i64 (gapP r.s3.got 0)) := h1 (r.s3.got, 0) (by have := h.l3; show r.s3.got.length ≤ _; omega)
  have e2 : V 75 [.int .i64 (gapP r.s3.got 0), .int .u32 x.seq] = some (.int .i64 (tSeq r x)) := by unfold tSeq; rw [hat]; exact h2 (gapP r.s3.got 0, x.seq) ⟨hx.q0, hx.q1⟩
  have e3 : V 70 [r.w.av] = some (.int .i64 (farP r.w)) := h3 r.w ⟨h.w, hw⟩
  have e4 : V 75 [.int .i64 (farP r.w), .int .u32 x.dsn] = some (.int .i64 (tAt r x)) := h2 (farP r.w, x.dsn) ⟨hx.d0, hx.d1⟩
  have hAt : 0 ≤ tAt r x ∧ tAt r x ≤ 4611686022722355200 := unwP_rng _ hx.d0 hx.d1
  have hSq : 0 ≤ tSeq r x ∧ tSeq r x ≤ 4611686022722355200 := unwP_rng _ hx.q0 hx.q1
  have hN : 1 ≤ tN x ∧ tN x ≤ 1460 := by unfold tN; split <;> omega
  have e5 : V 76 [r.w.av, x.av, .int .i64 (tAt r x)] = some (.tup [(rpW r.w x (tAt r x)).av, .int .i64 (rpE r.w x (tAt r x))]) := h4 (r.w, x, tAt r x) ⟨h.w, hx, hAt.1, hAt.2⟩
  have e6 : V 53 [.osl (prows r.s3.got), .agg [.int .i64 (tSeq r x), .int .i64 (tSeq r x + tN x)]] = some (.tup [.osl (prows (addR r.s3.got (tSp r x))), .int .i64 (addE r.s3.got (tSp r x))]) := h5 (r.s3.got, tSp r x) (by have := h.l3; show r.s3.got.length ≤ _; omega)
  have e7 : ∀ e : Int, V 73 [.int .i64 e] = some (.tup [Rc.none.av, Sg.none.av, .int .i64 e]) := fun e => h7 e trivial
  have hmm : r.s3.m.may = true := by
    have := Rc.may_at hm x.sub
    rw [hat] at this
    unfold Il.may at this
    rw [Bool.and_eq_true] at this
    exact this.2
  rw [Mk.may_iff] at hmm
  have w1 : IntKind.wrap .i64 (tSeq r x + if (1 : Int) > (x.b.length : Int) then (1 : Int) else (x.b.length : Int)) = tSeq r x + tN x := w64 (n := tSeq r x + tN x) (by omega) (by omega)
  have w2 : IntKind.wrap .i64 (r.s3.m.p + 1) = r.s3.m.p + 1 := w64 (by omega) (by omega)
  have w3 : IntKind.wrap .i64 (r.s3.m.b + if (1 : Int) > (x.b.length : Int) then (1 : Int) else (x.b.length : Int)) = r.s3.m.b + tN x := w64 (n := r.s3.m.b + tN x) (by omega) (by omega)
  have hE : takeE r x mk = if rpE r.w x (tAt r x) ≠ 0 then rpE r.w x (tAt r x) else if addE r.s3.got (tSp r x) ≠ 0 then addE r.s3.got (tSp r x) else if mk = true ∧ (tM r x mk).may = false then 5 else 0 := by unfold takeE; rw [if_neg (by rw [hp]; decide), hat]
  have hT : takeT r x mk = ⟨rpW r.w x (tAt r x), r.s0, r.s1, r.s2, ⟨addR r.s3.got (tSp r x), tM r x mk⟩⟩ := by unfold takeT; rw [hat, hk]; rfl
  simp only [V21, e1, e2, e3, e4, e5, w1, e6, e7, w2, w3]
  unfold takeR takeS
  by_cases c1 : rpE r.w x (tAt r x) = 0
  · rw [show (rpE r.w x (tAt r x) == 0) = true by rw [beq_iff_eq]; exact c1]
    by_cases c2 : addE r.s3.got (tSp r x) = 0
    · rw [show (addE r.s3.got (tSp r x) == 0) = true by rw [beq_iff_eq]; exact c2]
      have hsm : (takeT r x mk).Sm := take_sm h hx hm hl mk c1 (by rw [hat]; exact c2)
      have hmay : ¬ (mk = true ∧ (tM r x mk).may = false) → (takeT r x mk).may = true := fun hh => take_may h hx hm hl mk hp c1 (by rw [hat]; exact c2) (fun ht => by cases hq : (tM r x mk).may with | true => rfl | false => exact absurd ⟨ht, hq⟩ hh)
      have e9 : V 36 [(takeT r x mk).av, .int .i64 x.sub, .int .u32 x.at_] = some (.tup [(toldS (takeT r x mk) x.sub x.at_).av, .int .i64 (toldE (takeT r x mk) x.sub)]) := h8 (takeT r x mk, x.sub, x.at_) hsm
      cases mk with
      | false =>
        have e10 : toldE (takeT r x false) x.sub = 0 := by unfold toldE; rw [if_pos ⟨hmay (by simp), by omega, by omega⟩]
        have hE0 : takeE r x false = 0 := by rw [hE, if_neg (fun h => h c1), if_neg (fun h => h c2), if_neg (by simp)]
        rw [e10] at e9
        rw [if_pos hE0, if_pos hE0, hE0]
        have hM : tM r x false = r.s3.m := by unfold tM; rw [if_neg (by decide), hat]
        rw [hT, hM] at e9 ⊢
        simp only [Bool.not_true, cond_false]
        refine (congrArg (fun z => Option.bind z _) e9).trans ?_
        simp only [V21]
        rfl
      | true =>
        have hM : tM r x true = ⟨r.s3.m.p + 1, r.s3.m.b + tN x, r.s3.m.c, r.s3.m.m, r.s3.m.q⟩ := by unfold tM; rw [if_pos rfl, hat]
        have e8 : V 77 [Mk.av ⟨r.s3.m.p + 1, r.s3.m.b + tN x, r.s3.m.c, r.s3.m.m, r.s3.m.q⟩] = some (.bool (tM r x true).may) := by rw [← hM]; exact h6 _ trivial
        simp only [Bool.not_true, cond_false, cond_true]
        refine (congrArg (fun z => Option.bind z _) e8).trans ?_
        simp only [V21]
        cases hq : (tM r x true).may with
        | false =>
          have hE0 : takeE r x true = 5 := by rw [hE, if_neg (fun h => h c1), if_neg (fun h => h c2), if_pos ⟨rfl, hq⟩]
          rw [hE0, if_neg (by decide), if_neg (by decide)]; rfl
        | true =>
          have e10 : toldE (takeT r x true) x.sub = 0 := by unfold toldE; rw [if_pos ⟨hmay (by rw [hq]; simp), by omega, by omega⟩]
          have hE0 : takeE r x true = 0 := by rw [hE, if_neg (fun h => h c1), if_neg (fun h => h c2), if_neg (by rw [hq]; simp)]
          rw [e10] at e9
          rw [if_pos hE0, if_pos hE0, hE0]
          rw [hT, hM] at e9 ⊢
          simp only [Bool.not_true, cond_false]
          refine (congrArg (fun z => Option.bind z _) e9).trans ?_
          simp only [V21]
          rfl
    · rw [show (addE r.s3.got (tSp r x) == 0) = false by rw [beq_eq_false_iff_ne]; exact c2]
      have hE0 : takeE r x mk = addE r.s3.got (tSp r x) := by rw [hE, if_neg (fun h => h c1), if_pos c2]
      rw [hE0, if_neg c2, if_neg c2]
      rfl
  · rw [show (rpE r.w x (tAt r x) == 0) = false by rw [beq_eq_false_iff_ne]; exact c1]
    have hE0 : takeE r x mk = rpE r.w x (tAt r x) := by rw [hE, if_pos c1]
    rw [hE0, if_neg c1, if_neg c1]
    rfl
theorem rtake_from {V : EV} {M : EM} (r : Rc) (h : r.Sm) (x : Sg) (hx : x.Ok) (mk : Bool) (a1 : HasV V F_rmay) (a2 : HasV V F_wimay) (a3 : HasV V F_rown)
    (h1 : HasV V F_gap) (h2 : HasV V F_unw) (h3 : HasV V F_far) (h4 : HasV V F_rput) (h5 : HasV V F_add) (h6 : HasV V F_mmay) (h7 : HasV V F_fail) (h8 : HasV V F_rtold) :
    (Drtake V M).From 0 ⟨[r.av, x.av, .bool mk], []⟩ = some (.tup [(takeR r x mk).av, (takeS r x mk).av, .int .i64 (takeE r x mk)], []) := by
  refine From.of ((rtake_0 r.av x.av mk).trans ?_)
  have e1 : V 41 [r.av] = some (.bool r.may) := a1 r h
  have e2 : V 40 [x.av] = some (.bool x.may) := a2 x trivial
  have e3 : V 74 [r.av] = some r.av := a3 r h
  have e7 : ∀ e : Int, V 73 [.int .i64 e] = some (.tup [Rc.none.av, Sg.none.av, .int .i64 e]) := fun e => h7 e trivial
  have bad : ∀ e : Int, e ≠ 0 → preE r x = e → (some (AV.tup [Rc.none.av, Sg.none.av, .int .i64 e], []) : Option Res) = some (.tup [(takeR r x mk).av, (takeS r x mk).av, .int .i64 (takeE r x mk)], []) := fun e he hp => by
    have hE : takeE r x mk = e := by unfold takeE; rw [if_pos (by rw [hp]; exact he), hp]
    unfold takeR takeS
    rw [hE, if_neg he, if_neg he]
  cases hm : r.may with
  | false =>
    simp only [V21, e1, hm, e7]
    exact bad 1 (by decide) (by unfold preE; rw [if_pos hm])
  | true =>
  have hp0 : (x.may = false ∨ x.kind ≠ 2 ∨ x.fin ≠ (x.b.length == 0)) → preE r x = 7 := fun hh => by unfold preE; rw [if_neg (by rw [hm]; decide), if_pos hh]
  cases hw : x.may with
  | false =>
    simp only [V21, e1, hm, e2, hw, e7]
    exact bad 7 (by decide) (hp0 (.inl hw))
  | true =>
  by_cases c1 : x.kind = 2
  · by_cases c2 : x.fin = (x.b.length == 0)
    · have hp : preE r x = 0 := by unfold preE; rw [if_neg (by rw [hm]; decide), if_neg (by rw [hw]; simp [c1, c2])]
      have hb := (Sg.may_iff.1 hw)
      have k1 : (x.kind == 2) = true := by rw [beq_iff_eq]; exact c1
      have k2 : (x.fin == ((x.b.length : Int) == 0)) = true := by
        rw [beq_iff_eq, c2, Bool.eq_iff_iff, beq_iff_eq, beq_iff_eq]; omega
      refine (congrArg (fun z => Option.bind z _) e1).trans ?_
      rw [Option.bind_some]
      refine (gd_of rfl).trans ?_
      rw [show (!AV.getb (AV.bool r.may)) = false by rw [getb_bool, hm]; rfl, cond_false]
      refine (congrArg (fun z => Option.bind z _) e2).trans ?_
      rw [Option.bind_some]
      refine (gd_of rfl).trans ?_
      rw [show (!AV.getb (AV.bool x.may)) = false by rw [getb_bool, hw]; rfl, cond_false]
      rw [show (!(ci x.av 0 == 2)) = false from by show (!(x.kind == 2)) = false; rw [k1]; rfl, cond_false]
      rw [show (!(cb x.av 2 == (((cl x.av 14).length : Int) == 0))) = false from by show (!(x.fin == ((x.b.length : Int) == 0))) = false; rw [k2]; rfl, cond_false]
      refine (congrArg (fun z => Option.bind z _) e3).trans ?_
      rw [Option.bind_some]
      refine (gd_of rfl).trans ?_
      by_cases d0 : x.sub = 0
      · rw [show decide (ci x.av 1 = 0) = true from decide_eq_true d0]; exact take_rest0 r h hm x hx mk d0 hp (by omega) h1 h2 h3 h4 h5 h6 h7 h8
      rw [show decide (ci x.av 1 = 0) = false from decide_eq_false d0]
      by_cases d1 : x.sub = 1
      · rw [show decide (ci x.av 1 = 1) = true from decide_eq_true d1]; exact take_rest1 r h hm x hx mk d1 hp (by omega) h1 h2 h3 h4 h5 h6 h7 h8
      rw [show decide (ci x.av 1 = 1) = false from decide_eq_false d1]
      by_cases d2 : x.sub = 2
      · rw [show decide (ci x.av 1 = 2) = true from decide_eq_true d2]; exact take_rest2 r h hm x hx mk d2 hp (by omega) h1 h2 h3 h4 h5 h6 h7 h8
      rw [show decide (ci x.av 1 = 2) = false from decide_eq_false d2]
      have d3 : x.sub = 3 := by omega
      rw [show decide (ci x.av 1 = 3) = true from decide_eq_true d3]; exact take_rest3 r h hm x hx mk d3 hp (by omega) h1 h2 h3 h4 h5 h6 h7 h8
    · have k1 : (x.kind == 2) = true := by rw [beq_iff_eq]; exact c1
      have k2 : (x.fin == ((x.b.length : Int) == 0)) = false := by
        rw [beq_eq_false_iff_ne]
        intro hh
        refine c2 (hh.trans ?_)
        rw [Bool.eq_iff_iff, beq_iff_eq, beq_iff_eq]; omega
      refine (congrArg (fun z => Option.bind z _) e1).trans ?_
      rw [Option.bind_some]
      refine (gd_of rfl).trans ?_
      rw [show (!AV.getb (AV.bool r.may)) = false by rw [getb_bool, hm]; rfl, cond_false]
      refine (congrArg (fun z => Option.bind z _) e2).trans ?_
      rw [Option.bind_some]
      refine (gd_of rfl).trans ?_
      rw [show (!AV.getb (AV.bool x.may)) = false by rw [getb_bool, hw]; rfl, cond_false]
      rw [show (!(ci x.av 0 == 2)) = false from by show (!(x.kind == 2)) = false; rw [k1]; rfl, cond_false]
      rw [show (!(cb x.av 2 == (((cl x.av 14).length : Int) == 0))) = true from by show (!(x.fin == ((x.b.length : Int) == 0))) = true; rw [k2]; rfl, cond_true]
      simp only [V21, e7]
      exact bad 7 (by decide) (hp0 (.inr (.inr c2)))
  · have k1 : (x.kind == 2) = false := by rw [beq_eq_false_iff_ne]; exact c1
    refine (congrArg (fun z => Option.bind z _) e1).trans ?_
    rw [Option.bind_some]
    refine (gd_of rfl).trans ?_
    rw [show (!AV.getb (AV.bool r.may)) = false by rw [getb_bool, hm]; rfl, cond_false]
    refine (congrArg (fun z => Option.bind z _) e2).trans ?_
    rw [Option.bind_some]
    refine (gd_of rfl).trans ?_
    rw [show (!AV.getb (AV.bool x.may)) = false by rw [getb_bool, hw]; rfl, cond_false]
    rw [show (!(ci x.av 0 == 2)) = true from by show (!(x.kind == 2)) = true; rw [k1]; rfl, cond_true]
    simp only [V21, e7]
    exact bad 7 (by decide) (hp0 (.inr (.inl c1)))
theorem rtake_ok (r : Rc) (h : r.Sm) (x : Sg) (hx : x.Ok) (mk : Bool) : FnOk Try.prog 37 [r.av, x.av, .bool mk] (.tup [(takeR r x mk).av, (takeS r x mk).av, .int .i64 (takeE r x mk)]) :=
  fn_mk [F_rtold, F_wimay, F_rmay, F_add, F_gap, F_far, F_fail, F_rown, F_unw, F_rput, F_mmay] [] (by kernel_rfl) mixed (by kernel_rfl) (rtake_from r h x hx mk (hasV 2 rfl rfl) (hasV 1 rfl rfl) (hasV 7 rfl rfl) (hasV 4 rfl rfl) (hasV 8 rfl rfl) (hasV 5 rfl rfl) (hasV 9 rfl rfl) (hasV 3 rfl rfl) (hasV 10 rfl rfl) (hasV 6 rfl rfl) (hasV 0 rfl rfl))
theorem rsb_inj {s t : Rc × Sg × Bool} (h : [s.1.av, s.2.1.av, AV.bool s.2.2] = [t.1.av, t.2.1.av, .bool t.2.2]) : s = t := by
  obtain ⟨a, b, c⟩ := s; obtain ⟨a', b', c'⟩ := t
  have h1 : a = a' := rc_inj (List.cons.inj h).1
  have h2 : b = b' := sg_inj (List.cons.inj (List.cons.inj h).2).1
  have h3 : c = c' := AV.bool.inj (List.cons.inj (List.cons.inj (List.cons.inj h).2).2).1
  rw [h1, h2, h3]
noncomputable def F_rtake : Fam Try.prog := { f := 37, ι := Rc × Sg × Bool, pre := fun p => p.1.Sm ∧ p.2.1.Ok, args := fun p => [p.1.av, p.2.1.av, .bool p.2.2], res := fun p => .tup [(takeR p.1 p.2.1 p.2.2).av, (takeS p.1 p.2.1 p.2.2).av, .int .i64 (takeE p.1 p.2.1 p.2.2)], ok := fun p h => rtake_ok p.1 h.1 p.2.1 h.2 p.2.2, inj := fun s t h => by rw [rsb_inj h] }
end Vai.L21
