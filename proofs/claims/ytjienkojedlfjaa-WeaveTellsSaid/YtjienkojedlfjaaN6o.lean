/- Weaves: WeaveOrder. -/
import Derived.Test.YtjienkojedlfjaaN6l
namespace Vai.L06
open Go Go.Proofs Vai Vai.L04
set_option maxRecDepth 100000
set_option linter.unusedVariables false
set_option linter.unusedSimpArgs false
section
variable {R : Type} {V : EV} {M : EM} {G : Nat → CS → Option R} {K : Res → Option R}
noncomputable abbrev Dlorder : EV → EM → Dn := dnV Try.prog 5 [13, 15, 17, 18, 19, 20, 23, 24] [] [(1018, [0, 1, 2, 8, 10, 11])]
theorem lorder_0 (a0 : List AV) (a1 : List AV) (a2 : List AV) : (Dlorder V M).stepK G K 0 ⟨[.osl a0, .osl a1, .osl a2], []⟩ =
    Option.bind (V 13 []) (fun x0 => gd (fitA [.one .bool] x0) ((bif !AV.getb x0 then K (AV.bool (AV.getb x0), []) else (bif decide ((↑(List.length a0) : Int) > (300 : Int)) then K (AV.bool (AV.getb x0), []) else (bif decide ((↑(List.length a1) : Int) > (40 : Int)) then K (AV.bool (AV.getb x0), []) else Option.bind (V 20 [AV.int .i64 (65536 : Int)]) (fun x1 => gd (fitA [.agg [.int .i64, .sl, .sl, .int .i64, .int .i64], .one (.int .i64)] x1) ((bif !ti x1 1 == (0 : Int) then K (AV.bool false, []) else G 1018 ({ vs := [AV.osl a0, AV.osl a1, AV.osl a2, AV.ptr 1000000 0 0 0, AV.nl, AV.int .i64 (0 : Int)], bs := [some { es := [AV.agg [AV.int .i64 (AV.geti (List.getD (AV.getc (List.getD (AV.gett x1) 0 .undef)) 0 .undef)), AV.osl (AV.getl (List.getD (AV.getc (List.getD (AV.gett x1) 0 .undef)) 1 .undef)), AV.osl (AV.getl (List.getD (AV.getc (List.getD (AV.gett x1) 0 .undef)) 2 .undef)), AV.int .i64 (AV.geti (List.getD (AV.getc (List.getD (AV.gett x1) 0 .undef)) 3 .undef)), AV.int .i64 (AV.geti (List.getD (AV.getc (List.getD (AV.gett x1) 0 .undef)) 4 .undef))]], fr := false, pt := true }] }))))))))) := by kernel_rfl
theorem lorder_1 (l0 : List AV) (l1 : List AV) (l2 : List AV) (n3 : Int) (n4 : Int) (l5 : List AV) (l6 : List AV) (n7 : Int) (n8 : Int) : (Dlorder V M).stepK G K 1018 ⟨[(.osl l0), (.osl l1), (.osl l2), (.ptr 1000000 0 0 0), .nl, (.int .i64 n3)], [some ⟨[(.agg [(.int .i64 n4), (.osl l5), (.osl l6), (.int .i64 n7), (.int .i64 n8)])], false, true⟩]⟩ =
    (bif decide (n3 < (↑(List.length l1) : Int)) then gd (decide ((0 : Int) ≤ n3)) (Option.bind (l1[Int.toNat n3]?) (fun x2 => gd (Vw.fit (.agg [.int .i64, .int .i64]) x2) (gd (decide ((0 : Int) ≤ n3)) (Option.bind (l1[Int.toNat n3]?) (fun x3 => gd (Vw.fit (.agg [.int .i64, .int .i64]) x3) ((bif decide (ci x2 0 < (0 : Int)) then K (AV.bool true, []) else (bif decide (ci x3 1 < (0 : Int)) then K (AV.bool true, []) else (bif decide (ci x2 0 > (↑(List.length l0) : Int)) then K (AV.bool true, []) else (bif decide (ci x3 1 > IntKind.wrap .i64 ((↑(List.length l0) : Int) - ci x2 0)) then K (AV.bool true, []) else gd (gCel 1 l0) (gd (decide ((0 : Int) ≤ IntKind.wrap .i64 (ci x2 0 + ci x3 1) ∧ IntKind.wrap .i64 (ci x2 0 + ci x3 1) ≤ (↑(List.length l0) : Int))) (gd (decide ((0 : Int) ≤ ci x2 0 ∧ ci x2 0 ≤ (↑(Int.toNat (IntKind.wrap .i64 (ci x2 0 + ci x3 1))) : Int))) (Option.bind (V 15 [AV.agg [AV.int .i64 n4, AV.osl l5, AV.osl l6, AV.int .i64 n7, AV.int .i64 n8], AV.int .i64 (ci x2 0), AV.osl (List.drop (Int.toNat (ci x2 0)) (List.take (Int.toNat (IntKind.wrap .i64 (ci x2 0 + ci x3 1))) l0))]) (fun x4 => gd (fitA [.agg [.int .i64, .sl, .sl, .int .i64, .int .i64], .one (.int .i64), .one (.int .i64)] x4) ((bif !ti x4 2 == (0 : Int) then K (AV.bool false, []) else Option.bind (V 18 [AV.agg [AV.int .i64 (AV.geti (List.getD (AV.getc (List.getD (AV.gett x4) 0 .undef)) 0 .undef)), AV.osl (AV.getl (List.getD (AV.getc (List.getD (AV.gett x4) 0 .undef)) 1 .undef)), AV.osl (AV.getl (List.getD (AV.getc (List.getD (AV.gett x4) 0 .undef)) 2 .undef)), AV.int .i64 (AV.geti (List.getD (AV.getc (List.getD (AV.gett x4) 0 .undef)) 3 .undef)), AV.int .i64 (AV.geti (List.getD (AV.getc (List.getD (AV.gett x4) 0 .undef)) 4 .undef))]]) (fun x5 => gd (fitA [.one (.int .i64)] x5) (Option.bind (V 18 [AV.agg [AV.int .i64 n4, AV.osl l5, AV.osl l6, AV.int .i64 n7, AV.int .i64 n8]]) (fun x6 => gd (fitA [.one (.int .i64)] x6) ((bif decide (AV.geti x5 < AV.geti x6) then K (AV.bool false, []) else (bif decide (n3 < (↑(List.length l2) : Int)) then gd (decide ((0 : Int) ≤ n3)) (Option.bind (l2[Int.toNat n3]?) (fun x7 => gd (Vw.fit (.one (.int .i64)) x7) ((bif decide (AV.geti x7 ≥ (0 : Int)) then Option.bind (V 19 [AV.agg [AV.int .i64 (AV.geti (List.getD (AV.getc (List.getD (AV.gett x4) 0 .undef)) 0 .undef)), AV.osl (AV.getl (List.getD (AV.getc (List.getD (AV.gett x4) 0 .undef)) 1 .undef)), AV.osl (AV.getl (List.getD (AV.getc (List.getD (AV.gett x4) 0 .undef)) 2 .undef)), AV.int .i64 (AV.geti (List.getD (AV.getc (List.getD (AV.gett x4) 0 .undef)) 3 .undef)), AV.int .i64 (AV.geti (List.getD (AV.getc (List.getD (AV.gett x4) 0 .undef)) 4 .undef))]]) (fun x8 => gd (fitA [.one (.int .i64)] x8) (gd (decide ((0 : Int) ≤ n3)) (Option.bind (l2[Int.toNat n3]?) (fun x9 => gd (Vw.fit (.one (.int .i64)) x9) (Option.bind (V 23 [AV.agg [AV.int .i64 (AV.geti (List.getD (AV.getc (List.getD (AV.gett x4) 0 .undef)) 0 .undef)), AV.osl (AV.getl (List.getD (AV.getc (List.getD (AV.gett x4) 0 .undef)) 1 .undef)), AV.osl (AV.getl (List.getD (AV.getc (List.getD (AV.gett x4) 0 .undef)) 2 .undef)), AV.int .i64 (AV.geti (List.getD (AV.getc (List.getD (AV.gett x4) 0 .undef)) 3 .undef)), AV.int .i64 (AV.geti (List.getD (AV.getc (List.getD (AV.gett x4) 0 .undef)) 4 .undef))], AV.int .i64 (AV.geti x9)]) (fun x10 => gd (fitA [.agg [.int .i64, .sl, .sl, .int .i64, .int .i64], .one .sl, .one (.int .i64)] x10) ((bif !ti x10 2 == (0 : Int) then K (AV.bool false, []) else (bif decide ((↑(List.length (tl x10 1)) : Int) > AV.geti x8) then K (AV.bool false, []) else gd (decide ((0 : Int) ≤ n3)) (Option.bind (l2[Int.toNat n3]?) (fun x11 => gd (Vw.fit (.one (.int .i64)) x11) ((bif decide ((↑(List.length (tl x10 1)) : Int) > AV.geti x11) then K (AV.bool false, []) else Option.bind (V 18 [AV.agg [AV.int .i64 (AV.geti (List.getD (AV.getc (List.getD (AV.gett x10) 0 .undef)) 0 .undef)), AV.osl (AV.getl (List.getD (AV.getc (List.getD (AV.gett x10) 0 .undef)) 1 .undef)), AV.osl (AV.getl (List.getD (AV.getc (List.getD (AV.gett x10) 0 .undef)) 2 .undef)), AV.int .i64 (AV.geti (List.getD (AV.getc (List.getD (AV.gett x10) 0 .undef)) 3 .undef)), AV.int .i64 (AV.geti (List.getD (AV.getc (List.getD (AV.gett x10) 0 .undef)) 4 .undef))]]) (fun x12 => gd (fitA [.one (.int .i64)] x12) (Option.bind (V 18 [AV.agg [AV.int .i64 (AV.geti (List.getD (AV.getc (List.getD (AV.gett x4) 0 .undef)) 0 .undef)), AV.osl (AV.getl (List.getD (AV.getc (List.getD (AV.gett x4) 0 .undef)) 1 .undef)), AV.osl (AV.getl (List.getD (AV.getc (List.getD (AV.gett x4) 0 .undef)) 2 .undef)), AV.int .i64 (AV.geti (List.getD (AV.getc (List.getD (AV.gett x4) 0 .undef)) 3 .undef)), AV.int .i64 (AV.geti (List.getD (AV.getc (List.getD (AV.gett x4) 0 .undef)) 4 .undef))]]) (fun x13 => gd (fitA [.one (.int .i64)] x13) ((bif !AV.geti x12 == IntKind.wrap .i64 (AV.geti x13 + (↑(List.length (tl x10 1)) : Int)) then K (AV.bool false, []) else gd (gRow 1 (tl x10 1)) (gd (gLen (0 + List.length (tl x10 1)) 1) (gd (gNo (tl x10 1)) (G 1018 ({ vs := [AV.osl l0, AV.osl l1, AV.osl l2, AV.ptr 1000000 0 0 0, AV.sl 1 1000001 0 0 (0 + List.length (tl x10 1)), AV.int .i64 (IntKind.wrap .i64 (n3 + (1 : Int)))], bs := [some { es := [AV.agg [AV.int .i64 (AV.geti (List.getD (AV.getc (List.getD (AV.gett x10) 0 .undef)) 0 .undef)), AV.osl (AV.getl (List.getD (AV.getc (List.getD (AV.gett x10) 0 .undef)) 1 .undef)), AV.osl (AV.getl (List.getD (AV.getc (List.getD (AV.gett x10) 0 .undef)) 2 .undef)), AV.int .i64 (AV.geti (List.getD (AV.getc (List.getD (AV.gett x10) 0 .undef)) 3 .undef)), AV.int .i64 (AV.geti (List.getD (AV.getc (List.getD (AV.gett x10) 0 .undef)) 4 .undef))]], fr := false, pt := true }, some { es := tl x10 1, fr := false, pt := false }] })))))))))))))))))))))) else G 1018 ({ vs := [AV.osl l0, AV.osl l1, AV.osl l2, AV.ptr 1000000 0 0 0, AV.nl, AV.int .i64 (IntKind.wrap .i64 (n3 + (1 : Int)))], bs := [some { es := [AV.agg [AV.int .i64 (AV.geti (List.getD (AV.getc (List.getD (AV.gett x4) 0 .undef)) 0 .undef)), AV.osl (AV.getl (List.getD (AV.getc (List.getD (AV.gett x4) 0 .undef)) 1 .undef)), AV.osl (AV.getl (List.getD (AV.getc (List.getD (AV.gett x4) 0 .undef)) 2 .undef)), AV.int .i64 (AV.geti (List.getD (AV.getc (List.getD (AV.gett x4) 0 .undef)) 3 .undef)), AV.int .i64 (AV.geti (List.getD (AV.getc (List.getD (AV.gett x4) 0 .undef)) 4 .undef))]], fr := false, pt := true }] }))))) else G 1018 ({ vs := [AV.osl l0, AV.osl l1, AV.osl l2, AV.ptr 1000000 0 0 0, AV.nl, AV.int .i64 (IntKind.wrap .i64 (n3 + (1 : Int)))], bs := [some { es := [AV.agg [AV.int .i64 (AV.geti (List.getD (AV.getc (List.getD (AV.gett x4) 0 .undef)) 0 .undef)), AV.osl (AV.getl (List.getD (AV.getc (List.getD (AV.gett x4) 0 .undef)) 1 .undef)), AV.osl (AV.getl (List.getD (AV.getc (List.getD (AV.gett x4) 0 .undef)) 2 .undef)), AV.int .i64 (AV.geti (List.getD (AV.getc (List.getD (AV.gett x4) 0 .undef)) 3 .undef)), AV.int .i64 (AV.geti (List.getD (AV.getc (List.getD (AV.gett x4) 0 .undef)) 4 .undef))]], fr := false, pt := true }] }))))))))))))))))))))))) else gd (gCel 1 l0) (Option.bind (V 24 [AV.nl, AV.osl []]) (fun x0 => gd (fitA [.one .bool] x0) ((bif AV.getb x0 then Option.bind (V 17 [AV.agg [AV.int .i64 n4, AV.osl l5, AV.osl l6, AV.int .i64 n7, AV.int .i64 n8]]) (fun x1 => gd (fitA [.one .bool] x1) ((bif AV.getb x1 then K (AV.bool (n4 == (0 : Int)), []) else K (AV.bool false, [])))) else K (AV.bool false, [])))))) := by kernel_rfl
theorem lorder_2 (l0 : List AV) (l1 : List AV) (l2 : List AV) (k3 : Nat) (n4 : Int) (n5 : Int) (l6 : List AV) (l7 : List AV) (n8 : Int) (n9 : Int) (l10 : List AV) : (Dlorder V M).stepK G K 1018 ⟨[(.osl l0), (.osl l1), (.osl l2), (.ptr 1000000 0 0 0), (.sl 1 1000001 0 0 k3), (.int .i64 n4)], [some ⟨[(.agg [(.int .i64 n5), (.osl l6), (.osl l7), (.int .i64 n8), (.int .i64 n9)])], false, true⟩, some ⟨l10, false, false⟩]⟩ =
    (bif decide (n4 < (↑(List.length l1) : Int)) then gd (decide ((0 : Int) ≤ n4)) (Option.bind (l1[Int.toNat n4]?) (fun x2 => gd (Vw.fit (.agg [.int .i64, .int .i64]) x2) (gd (decide ((0 : Int) ≤ n4)) (Option.bind (l1[Int.toNat n4]?) (fun x3 => gd (Vw.fit (.agg [.int .i64, .int .i64]) x3) ((bif decide (ci x2 0 < (0 : Int)) then K (AV.bool true, []) else (bif decide (ci x3 1 < (0 : Int)) then K (AV.bool true, []) else (bif decide (ci x2 0 > (↑(List.length l0) : Int)) then K (AV.bool true, []) else (bif decide (ci x3 1 > IntKind.wrap .i64 ((↑(List.length l0) : Int) - ci x2 0)) then K (AV.bool true, []) else gd (gCel 1 l0) (gd (decide ((0 : Int) ≤ IntKind.wrap .i64 (ci x2 0 + ci x3 1) ∧ IntKind.wrap .i64 (ci x2 0 + ci x3 1) ≤ (↑(List.length l0) : Int))) (gd (decide ((0 : Int) ≤ ci x2 0 ∧ ci x2 0 ≤ (↑(Int.toNat (IntKind.wrap .i64 (ci x2 0 + ci x3 1))) : Int))) (Option.bind (V 15 [AV.agg [AV.int .i64 n5, AV.osl l6, AV.osl l7, AV.int .i64 n8, AV.int .i64 n9], AV.int .i64 (ci x2 0), AV.osl (List.drop (Int.toNat (ci x2 0)) (List.take (Int.toNat (IntKind.wrap .i64 (ci x2 0 + ci x3 1))) l0))]) (fun x4 => gd (fitA [.agg [.int .i64, .sl, .sl, .int .i64, .int .i64], .one (.int .i64), .one (.int .i64)] x4) ((bif !ti x4 2 == (0 : Int) then K (AV.bool false, []) else Option.bind (V 18 [AV.agg [AV.int .i64 (AV.geti (List.getD (AV.getc (List.getD (AV.gett x4) 0 .undef)) 0 .undef)), AV.osl (AV.getl (List.getD (AV.getc (List.getD (AV.gett x4) 0 .undef)) 1 .undef)), AV.osl (AV.getl (List.getD (AV.getc (List.getD (AV.gett x4) 0 .undef)) 2 .undef)), AV.int .i64 (AV.geti (List.getD (AV.getc (List.getD (AV.gett x4) 0 .undef)) 3 .undef)), AV.int .i64 (AV.geti (List.getD (AV.getc (List.getD (AV.gett x4) 0 .undef)) 4 .undef))]]) (fun x5 => gd (fitA [.one (.int .i64)] x5) (Option.bind (V 18 [AV.agg [AV.int .i64 n5, AV.osl l6, AV.osl l7, AV.int .i64 n8, AV.int .i64 n9]]) (fun x6 => gd (fitA [.one (.int .i64)] x6) ((bif decide (AV.geti x5 < AV.geti x6) then K (AV.bool false, []) else (bif decide (n4 < (↑(List.length l2) : Int)) then gd (decide ((0 : Int) ≤ n4)) (Option.bind (l2[Int.toNat n4]?) (fun x7 => gd (Vw.fit (.one (.int .i64)) x7) ((bif decide (AV.geti x7 ≥ (0 : Int)) then Option.bind (V 19 [AV.agg [AV.int .i64 (AV.geti (List.getD (AV.getc (List.getD (AV.gett x4) 0 .undef)) 0 .undef)), AV.osl (AV.getl (List.getD (AV.getc (List.getD (AV.gett x4) 0 .undef)) 1 .undef)), AV.osl (AV.getl (List.getD (AV.getc (List.getD (AV.gett x4) 0 .undef)) 2 .undef)), AV.int .i64 (AV.geti (List.getD (AV.getc (List.getD (AV.gett x4) 0 .undef)) 3 .undef)), AV.int .i64 (AV.geti (List.getD (AV.getc (List.getD (AV.gett x4) 0 .undef)) 4 .undef))]]) (fun x8 => gd (fitA [.one (.int .i64)] x8) (gd (decide ((0 : Int) ≤ n4)) (Option.bind (l2[Int.toNat n4]?) (fun x9 => gd (Vw.fit (.one (.int .i64)) x9) (Option.bind (V 23 [AV.agg [AV.int .i64 (AV.geti (List.getD (AV.getc (List.getD (AV.gett x4) 0 .undef)) 0 .undef)), AV.osl (AV.getl (List.getD (AV.getc (List.getD (AV.gett x4) 0 .undef)) 1 .undef)), AV.osl (AV.getl (List.getD (AV.getc (List.getD (AV.gett x4) 0 .undef)) 2 .undef)), AV.int .i64 (AV.geti (List.getD (AV.getc (List.getD (AV.gett x4) 0 .undef)) 3 .undef)), AV.int .i64 (AV.geti (List.getD (AV.getc (List.getD (AV.gett x4) 0 .undef)) 4 .undef))], AV.int .i64 (AV.geti x9)]) (fun x10 => gd (fitA [.agg [.int .i64, .sl, .sl, .int .i64, .int .i64], .one .sl, .one (.int .i64)] x10) ((bif !ti x10 2 == (0 : Int) then K (AV.bool false, []) else (bif decide ((↑(List.length (tl x10 1)) : Int) > AV.geti x8) then K (AV.bool false, []) else gd (decide ((0 : Int) ≤ n4)) (Option.bind (l2[Int.toNat n4]?) (fun x11 => gd (Vw.fit (.one (.int .i64)) x11) ((bif decide ((↑(List.length (tl x10 1)) : Int) > AV.geti x11) then K (AV.bool false, []) else Option.bind (V 18 [AV.agg [AV.int .i64 (AV.geti (List.getD (AV.getc (List.getD (AV.gett x10) 0 .undef)) 0 .undef)), AV.osl (AV.getl (List.getD (AV.getc (List.getD (AV.gett x10) 0 .undef)) 1 .undef)), AV.osl (AV.getl (List.getD (AV.getc (List.getD (AV.gett x10) 0 .undef)) 2 .undef)), AV.int .i64 (AV.geti (List.getD (AV.getc (List.getD (AV.gett x10) 0 .undef)) 3 .undef)), AV.int .i64 (AV.geti (List.getD (AV.getc (List.getD (AV.gett x10) 0 .undef)) 4 .undef))]]) (fun x12 => gd (fitA [.one (.int .i64)] x12) (Option.bind (V 18 [AV.agg [AV.int .i64 (AV.geti (List.getD (AV.getc (List.getD (AV.gett x4) 0 .undef)) 0 .undef)), AV.osl (AV.getl (List.getD (AV.getc (List.getD (AV.gett x4) 0 .undef)) 1 .undef)), AV.osl (AV.getl (List.getD (AV.getc (List.getD (AV.gett x4) 0 .undef)) 2 .undef)), AV.int .i64 (AV.geti (List.getD (AV.getc (List.getD (AV.gett x4) 0 .undef)) 3 .undef)), AV.int .i64 (AV.geti (List.getD (AV.getc (List.getD (AV.gett x4) 0 .undef)) 4 .undef))]]) (fun x13 => gd (fitA [.one (.int .i64)] x13) ((bif !AV.geti x12 == IntKind.wrap .i64 (AV.geti x13 + (↑(List.length (tl x10 1)) : Int)) then K (AV.bool false, []) else gd (decide (k3 ≤ List.length l10)) (gd (gRow 1 (tl x10 1)) (gd (gLen (List.length (List.take k3 l10) + List.length (tl x10 1)) 1) (gd (gNo (List.take k3 l10 ++ tl x10 1)) (G 1018 ({ vs := [AV.osl l0, AV.osl l1, AV.osl l2, AV.ptr 1000000 0 0 0, AV.sl 1 1000001 0 0 (List.length (List.take k3 l10) + List.length (tl x10 1)), AV.int .i64 (IntKind.wrap .i64 (n4 + (1 : Int)))], bs := [some { es := [AV.agg [AV.int .i64 (AV.geti (List.getD (AV.getc (List.getD (AV.gett x10) 0 .undef)) 0 .undef)), AV.osl (AV.getl (List.getD (AV.getc (List.getD (AV.gett x10) 0 .undef)) 1 .undef)), AV.osl (AV.getl (List.getD (AV.getc (List.getD (AV.gett x10) 0 .undef)) 2 .undef)), AV.int .i64 (AV.geti (List.getD (AV.getc (List.getD (AV.gett x10) 0 .undef)) 3 .undef)), AV.int .i64 (AV.geti (List.getD (AV.getc (List.getD (AV.gett x10) 0 .undef)) 4 .undef))]], fr := false, pt := true }, some { es := List.take k3 l10 ++ tl x10 1, fr := false, pt := false }] }))))))))))))))))))))))) else gd (gNo l10) (G 1018 ({ vs := [AV.osl l0, AV.osl l1, AV.osl l2, AV.ptr 1000000 0 0 0, AV.sl 1 1000001 0 0 k3, AV.int .i64 (IntKind.wrap .i64 (n4 + (1 : Int)))], bs := [some { es := [AV.agg [AV.int .i64 (AV.geti (List.getD (AV.getc (List.getD (AV.gett x4) 0 .undef)) 0 .undef)), AV.osl (AV.getl (List.getD (AV.getc (List.getD (AV.gett x4) 0 .undef)) 1 .undef)), AV.osl (AV.getl (List.getD (AV.getc (List.getD (AV.gett x4) 0 .undef)) 2 .undef)), AV.int .i64 (AV.geti (List.getD (AV.getc (List.getD (AV.gett x4) 0 .undef)) 3 .undef)), AV.int .i64 (AV.geti (List.getD (AV.getc (List.getD (AV.gett x4) 0 .undef)) 4 .undef))]], fr := false, pt := true }, some { es := l10, fr := false, pt := false }] })))))) else gd (gNo l10) (G 1018 ({ vs := [AV.osl l0, AV.osl l1, AV.osl l2, AV.ptr 1000000 0 0 0, AV.sl 1 1000001 0 0 k3, AV.int .i64 (IntKind.wrap .i64 (n4 + (1 : Int)))], bs := [some { es := [AV.agg [AV.int .i64 (AV.geti (List.getD (AV.getc (List.getD (AV.gett x4) 0 .undef)) 0 .undef)), AV.osl (AV.getl (List.getD (AV.getc (List.getD (AV.gett x4) 0 .undef)) 1 .undef)), AV.osl (AV.getl (List.getD (AV.getc (List.getD (AV.gett x4) 0 .undef)) 2 .undef)), AV.int .i64 (AV.geti (List.getD (AV.getc (List.getD (AV.gett x4) 0 .undef)) 3 .undef)), AV.int .i64 (AV.geti (List.getD (AV.getc (List.getD (AV.gett x4) 0 .undef)) 4 .undef))]], fr := false, pt := true }, some { es := l10, fr := false, pt := false }] })))))))))))))))))))))))) else (bif decide ((↑k3 : Int) > (↑(List.length l0) : Int)) then K (AV.bool false, []) else gd (gCel 1 l0) (gd (decide ((0 : Int) ≤ (↑k3 : Int) ∧ (↑k3 : Int) ≤ (↑(List.length l0) : Int))) (gd (decide (0 + k3 ≤ List.length l10)) (gd (gFree 1 (List.take k3 (List.drop 0 l10))) (Option.bind (V 24 [AV.osl (List.take k3 (List.drop 0 l10)), AV.osl (List.drop 0 (List.take (Int.toNat (↑k3 : Int)) l0))]) (fun x0 => gd (fitA [.one .bool] x0) ((bif AV.getb x0 then Option.bind (V 17 [AV.agg [AV.int .i64 n5, AV.osl l6, AV.osl l7, AV.int .i64 n8, AV.int .i64 n9]]) (fun x1 => gd (fitA [.one .bool] x1) ((bif AV.getb x1 then K (AV.bool (n5 == (↑k3 : Int)), []) else K (AV.bool false, [])))) else K (AV.bool false, [])))))))))) := by kernel_rfl
noncomputable abbrev Drsame3 : EV → EM → Dn := dnV Try.prog 24 [] [] [(58, [0, 1, 5])]
theorem rsame3_0 (a0 : List AV) (a1 : List AV) : (Drsame3 V M).stepK G K 0 ⟨[.osl a0, .osl a1], []⟩ =
    (bif !(↑(List.length a0) : Int) == (↑(List.length a1) : Int) then K (AV.bool false, []) else G 58 ({ vs := [AV.osl a0, AV.osl a1, AV.int .i64 (0 : Int)], bs := [] })) := by kernel_rfl
theorem rsame3_1 (l0 : List AV) (l1 : List AV) (n2 : Int) : (Drsame3 V M).stepK G K 58 ⟨[(.osl l0), (.osl l1), (.int .i64 n2)], []⟩ =
    (bif decide (n2 < (↑(List.length l0) : Int)) then gd (decide ((0 : Int) ≤ n2)) (Option.bind (l0[Int.toNat n2]?) (fun x0 => gd (Vw.fit (.one (.int .u8)) x0) (gd (decide ((0 : Int) ≤ n2)) (Option.bind (l1[Int.toNat n2]?) (fun x1 => gd (Vw.fit (.one (.int .u8)) x1) ((bif !AV.geti x0 == AV.geti x1 then K (AV.bool false, []) else G 58 ({ vs := [AV.osl l0, AV.osl l1, AV.int .i64 (IntKind.wrap .i64 (n2 + (1 : Int)))], bs := [] })))))))) else K (AV.bool true, [])) := by kernel_rfl
noncomputable abbrev Drsame3n : EV → EM → Dn := dnV Try.prog 24 [] [] [(58, [0, 1, 5])]
theorem rsame3n_0 (a1 : List AV) : (Drsame3n V M).stepK G K 0 ⟨[.nl, .osl a1], []⟩ =
    (bif !(0 : Int) == (↑(List.length a1) : Int) then K (AV.bool false, []) else G 58 ({ vs := [AV.nl, AV.osl a1, AV.int .i64 (0 : Int)], bs := [] })) := by kernel_rfl
theorem rsame3n_1 (l0 : List AV) (n1 : Int) : (Drsame3n V M).stepK G K 58 ⟨[.nl, (.osl l0), (.int .i64 n1)], []⟩ =
    (bif decide (n1 < (0 : Int)) then none else K (AV.bool true, [])) := by kernel_rfl
end

/-! ### The same bytes -/
theorem isb_ext {xs ys : List AV} (hx : IsB xs) (hy : IsB ys) (hl : xs.length = ys.length) (h : ∀ i, i < xs.length → byteAt xs i = byteAt ys i) : xs = ys := by
  refine List.ext_getElem? fun i => ?_
  by_cases c : i < xs.length
  · rw [byte_at hx c, byte_at hy (by omega), h i c]
  · rw [List.getElem?_eq_none (by omega), List.getElem?_eq_none (by omega)]
theorem same3_from {V : EV} {M : EM} (xs : List AV) (hx : IsB xs) (hl : xs.length ≤ 9223372036854775806) : ∀ (n i : Nat), n + i = xs.length →
    (Drsame3 V M).From 58 ⟨[.osl xs, .osl xs, .int .i64 i], []⟩ = some (.bool true, [])
  | 0, i, h => by
    refine From.of ((rsame3_1 _ _ _).trans ?_)
    simp only [show decide ((i : Int) < (xs.length : Int)) = false from decide_eq_false (by omega), cond_false]
  | n + 1, i, h => by
    refine From.of ((rsame3_1 _ _ _).trans ?_)
    have ih := same3_from (V := V) (M := M) xs hx hl n (i + 1) (by omega)
    simp only [show decide ((i : Int) < (xs.length : Int)) = true from decide_eq_true (by omega), show decide ((0 : Int) ≤ (i : Int)) = true from decide_eq_true (by omega), Int.toNat_natCast, byte_at hx (show i < xs.length by omega), w64 (n := (i : Int) + 1) (by omega) (by omega), Option.bind_some, fitA_tup, fitA_one, fitA_nil, fitR_cons, fitR_nil, fit_one, fit_agg, okL_cons, okL_nil, ok1_int, ok1_bool, ok1_sl, decide_true, Bool.and_self, gd_true, ti_tup, tl_tup, tb_tup, gett_tup, getc_agg, List.getD_cons_zero, List.getD_cons_succ, geti_int', getl_osl, getb_bool, Bool.not_true, Bool.not_false, cond_true, cond_false, beq_self_eq_true]
    exact ih
def sameA : Option (List AV) → List AV
  | none => [.nl, .osl []]
  | some xs => [.osl xs, .osl xs]
theorem same3_ok : ∀ (o : Option (List AV)), (∀ xs, o = some xs → IsB xs ∧ xs.length ≤ 9223372036854775806) → FnOk Try.prog 24 (sameA o) (.bool true)
  | none, _ => fn_mk [] [] (by kernel_rfl) mixed (by kernel_rfl) (by
    refine From.of ((rsame3n_0 _).trans ?_)
    refine From.of ((rsame3n_1 _ _).trans ?_)
    rfl)
  | some xs, h => fn_mk [] [] (by kernel_rfl) mixed (by kernel_rfl) (by
    refine From.of ((rsame3_0 _ _).trans ?_)
    rw [beq_self_eq_true]
    exact same3_from xs (h xs rfl).1 (h xs rfl).2 xs.length 0 rfl)
noncomputable def F_same3 : Fam Try.prog := { f := 24, ι := Option (List AV), pre := fun o => ∀ xs, o = some xs → IsB xs ∧ xs.length ≤ 9223372036854775806, args := sameA, res := fun _ => .bool true, ok := same3_ok, inj := fun _ _ _ => rfl }

/-! ### Parts that come in whichever order -/
structure OrdI (all : List AV) (w : Wv) (out : List AV) (i : Nat) : Prop where
  may : w.may = true
  en : w.end_ = -1
  cap : w.cap = 65536
  isb : IsB w.b
  ll : w.l.length ≤ i
  base : w.base = out.length
  ol : out.length ≤ all.length
  oe : out = all.take out.length
  me : ∀ n, mem w.l n → n < all.length ∧ byteAt w.b (n - w.base).toNat = byteAt all n.toNat
theorem OrdI.ok {all : List AV} {w : Wv} {out : List AV} {i : Nat} (h : OrdI all w out i) (hi : i ≤ 1000) : w.Ok := by
  have := (mayOf h.may).len
  have := h.ll
  exact ⟨h.isb, by omega, by omega⟩
theorem ord_edge {all : List AV} {w : Wv} {out : List AV} {i : Nat} (h : OrdI all w out i) (hal : all.length ≤ 300) : edgeW w = w.base + 65536 := by
  have := h.base; have := h.ol
  unfold edgeW edgeP; rw [if_pos h.may, h.cap, if_neg (by omega)]
def partB (all : List AV) (a n : Nat) : List AV := (all.take (a + n)).drop a
theorem ord_put {all : List AV} {w : Wv} {out : List AV} {i : Nat} (h : OrdI all w out i) (hall : IsB all) (hal : all.length ≤ 300) (hi : i ≤ 100) {a n : Nat} (hn : a + n ≤ all.length) :
    putK w a (partB all a n) = 0 ∧ OrdI all (putW w a (partB all a n)) out (i + 1) := by
  have hm := mayOf h.may
  have hb := h.base; have hol := h.ol; have hll := h.ll
  have lb : (partB all a n).length = n := by unfold partB; rw [List.length_drop, List.length_take]; omega
  have ib : IsB (partB all a n) := IsB.drop (IsB.take hall _) _
  have hlh := low_high (w := w) (n := a) (k := (partB all a n).length) (by omega) (by omega) (by omega)
  obtain ⟨l1, l2, l3, l4, l5⟩ := hlh
  have k1 : ¬ (w.may = false ∨ (a : Int) < 0 ∨ (a : Int) > 2305843009213693952) := by rw [h.may]; rintro (x | x | x) <;> first | cases x | omega
  have k2 : ¬ (w.end_ ≠ -1 ∧ (a : Int) + (partB all a n).length > w.end_) := fun x => x.1 h.en
  have he := hm.edge
  by_cases c : lowW w a ≥ highW w a (partB all a n).length
  · have k : putK w a (partB all a n) = 0 := by unfold putK; rw [if_neg k1, if_neg k2, if_pos c]
    refine ⟨k, ?_⟩
    have e : putW w a (partB all a n) = w := by unfold putW; rw [if_neg (by simp [k]), if_pos c]
    rw [e]
    exact ⟨h.may, h.en, h.cap, h.isb, by omega, h.base, h.ol, h.oe, h.me⟩
  · have hs : 0 ≤ lowW w a ∧ lowW w a < highW w a (partB all a n).length ∧ highW w a (partB all a n).length ≤ 4611686018427387904 := by have := hm.b0; omega
    have hlen := addL_len w.l ⟨lowW w a, highW w a (partB all a n).length⟩
    have y4 : addE w.l ⟨lowW w a, highW w a (partB all a n).length⟩ = 0 := by
      unfold addE
      rw [if_pos ⟨may_iff.2 ⟨hm.ll, hm.can⟩, one_iff.2 hs⟩, if_neg (by omega)]
    have k : putK w a (partB all a n) = 0 := by unfold putK; rw [if_neg k1, if_neg k2, if_neg c, y4]
    refine ⟨k, ?_⟩
    have e : putW w a (partB all a n) = ⟨w.base, putB w.base a (lowW w a) (highW w a (partB all a n).length) w.b (partB all a n) w.l, addR w.l ⟨lowW w a, highW w a (partB all a n).length⟩, w.cap, w.end_⟩ := by
      unfold putW; rw [if_neg (by simp [k]), if_neg c]
    rw [e]
    have f := put_facts hm h.isb ib (by omega) (show (0 : Int) ≤ a by omega) l1 l2 (by omega) l3 l4 y4
    refine ⟨mayW_plain.2 (put_may hm f l1 (.inl h.en)), h.en, h.cap, f.hB, by rw [f.ge]; show (addL _ _).length ≤ i + 1; omega, h.base, h.ol, h.oe, fun m hm' => ?_⟩
    have hu := upto_lt (base := w.base) f.can hm'
    have hlB := f.lB
    have hlo : w.base ≤ m := by
      rcases (f.me m).1 hm' with g | g
      · exact hm.lo m g
      · omega
    have hk := f.by_ (m - w.base).toNat (by omega)
    rw [show w.base + ((m - w.base).toNat : Int) = m by omega] at hk
    show _ ∧ byteAt (putB _ _ _ _ _ _ _) (m - w.base).toNat = _
    rw [hk]
    rcases (f.me m).1 hm' with g | g
    · rw [if_pos g]; exact h.me m g
    · by_cases g2 : mem w.l m
      · rw [if_pos g2]; exact h.me m g2
      · rw [if_neg g2, if_pos g]
        refine ⟨by omega, ?_⟩
        unfold partB
        rw [byteAt_drop, byteAt_take (by omega), show a + (m - (a : Int)).toNat = m.toNat by have := hm.b0; omega]
theorem ord_read {all : List AV} {w : Wv} {out : List AV} {i : Nat} (h : OrdI all w out i) (hall : IsB all) {r : Int} (hr : 0 ≤ r) :
    OrdI all (readW w r) (out ++ readB w r) i ∧ readE w r = 0 ∧ ((readB w r).length : Int) ≤ readyP w ∧ ((readB w r).length : Int) ≤ r ∧ (readW w r).base = w.base + (readB w r).length ∧ IsB (readB w r) := by
  obtain ⟨k1, k2, k3, k4, k5, k6⟩ := readK_le h.may hr
  obtain ⟨r1, r2, r3, r4, r5, r6, r7, r8⟩ := readW_may h.may hr
  have eB : readB w r = w.b.take (readK w r) := by unfold readB; rw [if_pos ⟨h.may, hr⟩]
  have lB : (readB w r).length = readK w r := by rw [eB, List.length_take]; omega
  have hm := mayOf h.may
  have hb := h.base; have hol := h.ol; have hll := h.ll
  have hg := gap_has h.may (readK w r) k5
  have hend : out.length + readK w r ≤ all.length := by
    by_cases c : readK w r = 0
    · omega
    · have := (h.me _ (hg (w.base + readK w r - 1) (by omega) (by omega))).1; omega
  have hsame : w.b.take (readK w r) = (all.drop out.length).take (readK w r) := by
    refine isb_ext (IsB.take h.isb _) (IsB.take (IsB.drop hall _) _) (by rw [List.length_take, List.length_take, List.length_drop]; omega) fun j hj => ?_
    rw [List.length_take] at hj
    have := (h.me _ (hg (w.base + j) (by omega) (by omega))).2
    rw [byteAt_take (by omega), byteAt_take (by omega), byteAt_drop]
    rw [show (w.base + (j : Int) - w.base).toNat = j by omega, show (w.base + (j : Int)).toNat = out.length + j by omega] at this
    exact this
  refine ⟨⟨r1, by rw [r2, h.en], by rw [r3, h.cap], by rw [r5]; exact IsB.drop h.isb _, by omega, by rw [r4, List.length_append, lB]; omega, by rw [List.length_append, lB]; omega, ?_, fun m hmm => ?_⟩, by unfold readE; rw [if_pos ⟨h.may, hr⟩], by omega, by omega, by rw [r4, lB], by rw [eB]; exact IsB.take h.isb _⟩
  · rw [List.length_append, lB, List.take_add, ← h.oe, eB, hsame]
  · obtain ⟨g1, g2⟩ := (r6 m).1 hmm
    obtain ⟨q1, q2⟩ := h.me m g1
    have := hm.lo m g1
    refine ⟨q1, ?_⟩
    rw [r5, byteAt_drop, r4, ← q2, show readK w r + (m - (w.base + (readK w r : Int))).toNat = (m - w.base).toNat by omega]

/-! ### WeaveOrder, run -/
def oC (all : List AV) (ps : List Spn) (rs : List Int) (w : Wv) (o : Option (List AV)) (i : Nat) : CS :=
  ⟨[.osl all, .osl (prows ps), .osl (rs.map (.int .i64)), .ptr 1000000 0 0 0, (match o with | none => .nl | some xs => .sl 1 1000001 0 0 xs.length), .int .i64 i], some ⟨[w.av], false, true⟩ :: (match o with | none => [] | some xs => [some ⟨xs, false, false⟩])⟩
structure OrdC (V : EV) : Prop where
  put : ∀ (w : Wv) (n : Int) (bs : List AV), w.Ok → IsB bs → bs.length ≤ 1000 → V 15 [w.av, .int .i64 n, .osl bs] = some (.tup [(putW w n bs).av, .int .i64 (putM w n bs), .int .i64 (putK w n bs)])
  edge : ∀ w : Wv, w.Ok → V 18 [w.av] = some (.int .i64 (edgeW w))
  ready : ∀ w : Wv, w.Ok → V 19 [w.av] = some (.int .i64 (readyP w))
  read : ∀ (w : Wv) (n : Int), w.Ok → V 23 [w.av, .int .i64 n] = some (.tup [(readW w n).av, .osl (readB w n), .int .i64 (readE w n)])
  may : ∀ w : Wv, w.Ok → V 17 [w.av] = some (.bool w.may)
  same : ∀ xs, IsB xs → xs.length ≤ 1000 → V 24 [.osl xs, .osl xs] = some (.bool true)
  nil : V 24 [.nl, .osl []] = some (.bool true)
theorem order_end {V : EV} {M : EM} (C : OrdC V) (all : List AV) (ps : List Spn) (rs : List Int) (hall : IsB all) (hal : all.length ≤ 300) (w : Wv) (o : Option (List AV)) (hp : ps.length ≤ 40) (h : OrdI all w (o.getD []) ps.length) :
    (Dlorder V M).From 1018 (oC all ps rs w o ps.length) = some (.bool true, []) := by
  have hok := h.ok (by omega)
  have gc : gCel 1 all = true := IsB.one hall
  rcases o with _ | xs
  · refine From.of ((lorder_1 _ _ _ _ _ _ _ _ _).trans ?_)
    simp only [prows_length, show decide ((ps.length : Int) < (ps.length : Int)) = false from decide_eq_false (by omega), gc, C.nil, C.may w hok, h.may, Option.bind_some, fitA_tup, fitA_one, fitA_nil, fitR_cons, fitR_nil, fit_one, fit_agg, okL_cons, okL_nil, ok1_int, ok1_bool, ok1_sl, decide_true, Bool.and_self, gd_true, ti_tup, tl_tup, tb_tup, gett_tup, getc_agg, List.getD_cons_zero, List.getD_cons_succ, geti_int', getl_osl, getb_bool, Bool.not_true, Bool.not_false, cond_true, cond_false, beq_self_eq_true]
    rw [show w.base = 0 from h.base]; rfl
  · have hol : xs.length ≤ all.length := h.ol
    have ho : xs = all.take xs.length := h.oe
    have hx : IsB xs := by rw [ho]; exact IsB.take hall _
    refine From.of ((lorder_2 _ _ _ _ _ _ _ _ _ _ _).trans ?_)
    simp only [prows_length, show decide ((ps.length : Int) < (ps.length : Int)) = false from decide_eq_false (by omega), show decide ((xs.length : Int) > (all.length : Int)) = false from decide_eq_false (by omega), gc,
      show decide ((0 : Int) ≤ (xs.length : Int) ∧ (xs.length : Int) ≤ (all.length : Int)) = true from decide_eq_true (by omega), List.drop_zero, List.take_length, Nat.zero_add, Nat.le_refl, Int.toNat_natCast, ← ho, show gFree 1 xs = true from IsB.free hx, C.same xs hx (by omega), C.may w hok, h.may, Option.bind_some, fitA_tup, fitA_one, fitA_nil, fitR_cons, fitR_nil, fit_one, fit_agg, okL_cons, okL_nil, ok1_int, ok1_bool, ok1_sl, decide_true, Bool.and_self, gd_true, ti_tup, tl_tup, tb_tup, gett_tup, getc_agg, List.getD_cons_zero, List.getD_cons_succ, geti_int', getl_osl, getb_bool, Bool.not_true, Bool.not_false, cond_true, cond_false, beq_self_eq_true]
    rw [show w.base = xs.length from h.base, beq_self_eq_true]
theorem order_loop {V : EV} {M : EM} (C : OrdC V) (all : List AV) (ps : List Spn) (rs : List Int) (hall : IsB all) (hal : all.length ≤ 300) (hp : ps.length ≤ 40) : ∀ (n i : Nat) (w : Wv) (o : Option (List AV)), n + i = ps.length → OrdI all w (o.getD []) i →
    (Dlorder V M).From 1018 (oC all ps rs w o i) = some (.bool true, [])
  | 0, i, w, o, hi, h => by
    obtain rfl : i = ps.length := by omega
    exact order_end C all ps rs hall hal w o hp h
  | n + 1, i, w, o, hi, h => by
    have hok := h.ok (by omega)
    have gc : gCel 1 all = true := IsB.one hall
    have i0 : decide ((0 : Int) ≤ (i : Int)) = true := decide_eq_true (by omega)
    have i1 : decide ((i : Int) < (ps.length : Int)) = true := decide_eq_true (by omega)
    have ew : IntKind.wrap .i64 ((i : Int) + 1) = ((i + 1 : Nat) : Int) := w64 (by omega) (by omega)
    have hx : (prows ps)[i]? = some (.agg [.int .i64 (pth ps i).a, .int .i64 (pth ps i).b]) := by rw [prows_get, List.getElem?_eq_getElem (by omega), pth_get]; rfl
    have ih := order_loop (V := V) (M := M) C all ps rs hall hal hp n (i + 1)
    rcases o with _ | xs
    case' none => refine From.of ((lorder_1 _ _ _ _ _ _ _ _ _).trans ?_)
    case' some => refine From.of ((lorder_2 _ _ _ _ _ _ _ _ _ _ _).trans ?_)
    all_goals
      simp only [prows_length, i0, i1, Int.toNat_natCast, hx, ci_agg, Option.bind_some, fitA_tup, fitA_one, fitA_nil, fitR_cons, fitR_nil, fit_one, fit_agg, okL_cons, okL_nil, ok1_int, ok1_bool, ok1_sl, decide_true, Bool.and_self, gd_true, ti_tup, tl_tup, tb_tup, gett_tup, getc_agg, List.getD_cons_zero, List.getD_cons_succ, geti_int', getl_osl, getb_bool, Bool.not_true, Bool.not_false, cond_true, cond_false, beq_self_eq_true]
      by_cases c1 : (pth ps i).a < 0
      · rw [decide_eq_true c1, cond_true]
      by_cases c2 : (pth ps i).b < 0
      · rw [decide_eq_true c2, decide_eq_false c1, cond_true, cond_false]
      by_cases c3 : (pth ps i).a > (all.length : Int)
      · rw [decide_eq_true c3, decide_eq_false c1, decide_eq_false c2, cond_true, cond_false, cond_false]
      have e1 : IntKind.wrap .i64 ((all.length : Int) - (pth ps i).a) = (all.length : Int) - (pth ps i).a := w64 (by omega) (by omega)
      by_cases c4 : (pth ps i).b > (all.length : Int) - (pth ps i).a
      · rw [e1, decide_eq_true c4, decide_eq_false c1, decide_eq_false c2, decide_eq_false c3, cond_true, cond_false, cond_false, cond_false]
      have e2 : IntKind.wrap .i64 ((pth ps i).a + (pth ps i).b) = (pth ps i).a + (pth ps i).b := w64 (by omega) (by omega)
      rw [e1, e2, decide_eq_false c4, decide_eq_false c1, decide_eq_false c2, decide_eq_false c3, cond_false, cond_false, cond_false, cond_false, gd_of gc, gd_of (decide_eq_true (by omega)), gd_of (decide_eq_true (by omega))]
      obtain ⟨a, ha⟩ : ∃ a : Nat, (pth ps i).a = a := ⟨(pth ps i).a.toNat, by omega⟩
      obtain ⟨m, hm⟩ : ∃ m : Nat, (pth ps i).b = m := ⟨(pth ps i).b.toNat, by omega⟩
      rw [ha] at c3
      rw [ha, hm] at c4 ⊢
      have hpu := ord_put h hall hal (by omega) (a := a) (n := m) (by omega)
      obtain ⟨p1, p2⟩ := hpu
      have ok2 := p2.ok (by omega)
      have eB : List.drop (Int.toNat (a : Int)) (List.take (Int.toNat ((a : Int) + (m : Int))) all) = partB all a m := by unfold partB; rw [Int.toNat_natCast, show Int.toNat ((a : Int) + (m : Int)) = a + m by omega]
      rw [eB, C.put w a (partB all a m) hok (IsB.drop (IsB.take hall _) _) (by unfold partB; rw [List.length_drop, List.length_take]; omega)]
      simp only [p1, C.edge _ ok2, C.edge _ hok, ord_edge p2 hal, ord_edge h hal, Option.bind_some, fitA_tup, fitA_one, fitA_nil, fitR_cons, fitR_nil, fit_one, fit_agg, okL_cons, okL_nil, ok1_int, ok1_bool, ok1_sl, decide_true, Bool.and_self, gd_true, ti_tup, tl_tup, tb_tup, gett_tup, getc_agg, List.getD_cons_zero, List.getD_cons_succ, geti_int', getl_osl, getb_bool, Bool.not_true, Bool.not_false, cond_true, cond_false, beq_self_eq_true]
      generalize putW w a (partB all a m) = u at *
      have eb : u.base = w.base := by rw [p2.base, h.base]
      rw [decide_eq_false (show ¬ u.base + 65536 < w.base + 65536 by omega), cond_false, List.length_map]
      by_cases d : i < rs.length
      case' neg => rw [decide_eq_false (show ¬ (i : Int) < (rs.length : Int) by omega), cond_false, ew]
      case' pos =>
        have hr : (rs.map (AV.int .i64))[i]? = some (.int .i64 rs[i]) := by rw [List.getElem?_map, List.getElem?_eq_getElem d]; rfl
        rw [decide_eq_true (show (i : Int) < (rs.length : Int) by omega), cond_true]
        simp only [hr, Option.bind_some, fitA_tup, fitA_one, fitA_nil, fitR_cons, fitR_nil, fit_one, fit_agg, okL_cons, okL_nil, ok1_int, ok1_bool, ok1_sl, decide_true, Bool.and_self, gd_true, ti_tup, tl_tup, tb_tup, gett_tup, getc_agg, List.getD_cons_zero, List.getD_cons_succ, geti_int', getl_osl, getb_bool, Bool.not_true, Bool.not_false, cond_true, cond_false, beq_self_eq_true]
        by_cases g : rs[i] ≥ 0
        case' neg => rw [decide_eq_false g, cond_false, ew]
        case' pos =>
          obtain ⟨q1, q2, q3, q4, q5, q6⟩ := ord_read p2 hall g
          have ok3 := q1.ok (by omega)
          have hout := q1.ol
          rw [List.length_append] at hout
          rw [decide_eq_true g, cond_true]
          simp only [C.ready u ok2, C.read u _ ok2, q2, C.edge _ ok3, C.edge _ ok2, ord_edge q1 hal, ord_edge p2 hal, decide_eq_false (show ¬ ((readB u rs[i]).length : Int) > readyP u by omega), decide_eq_false (show ¬ ((readB u rs[i]).length : Int) > rs[i] by omega),
            w64 (n := u.base + 65536 + (readB u rs[i]).length) (by have := p2.base; have := p2.ol; omega) (by have := p2.base; have := p2.ol; omega), show ((readW u rs[i]).base + 65536 == u.base + 65536 + (readB u rs[i]).length) = true by rw [q5]; simp; omega, Option.bind_some, fitA_tup, fitA_one, fitA_nil, fitR_cons, fitR_nil, fit_one, fit_agg, okL_cons, okL_nil, ok1_int, ok1_bool, ok1_sl, decide_true, Bool.and_self, gd_true, ti_tup, tl_tup, tb_tup, gett_tup, getc_agg, List.getD_cons_zero, List.getD_cons_succ, geti_int', getl_osl, getb_bool, Bool.not_true, Bool.not_false, cond_true, cond_false, beq_self_eq_true]
          rw [ew]
    · have hxs : IsB xs := by have : xs = all.take xs.length := h.oe; rw [this]; exact IsB.take hall _
      have hout' : xs.length + (readB u rs[i]).length ≤ all.length := hout
      rw [List.take_length, gd_of (decide_eq_true (Nat.le_refl _)), gd_of (show gRow 1 _ = true from IsB.ok q6), gd_of (gLen_of (by omega) (by omega)), gd_of (isb_no (IsB.append hxs q6)), ← List.length_append]
      exact ih (readW u rs[i]) (some (xs ++ readB u rs[i])) (by omega) q1
    · have hxs : IsB xs := by have : xs = all.take xs.length := h.oe; rw [this]; exact IsB.take hall _
      rw [gd_of (isb_no hxs)]
      exact ih u (some xs) (by omega) p2
    · have hxs : IsB xs := by have : xs = all.take xs.length := h.oe; rw [this]; exact IsB.take hall _
      rw [gd_of (isb_no hxs)]
      exact ih u (some xs) (by omega) p2
    · have hout' : 0 + (readB u rs[i]).length ≤ all.length := hout
      rw [gd_of (show gRow 1 _ = true from IsB.ok q6), gd_of (gLen_of (by omega) (by omega)), gd_of (isb_no q6), Nat.zero_add]
      exact ih (readW u rs[i]) (some (readB u rs[i])) (by omega) q1
    · exact ih u none (by omega) p2
    · exact ih u none (by omega) p2
theorem order_from {V : EV} {M : EM} (all : List AV) (ps : List Spn) (rs : List Int) (hall : IsB all) (e0 : V 13 [] = some (.bool true)) (e1 : V 20 [.int .i64 65536] = some (.tup [(newW 65536).av, .int .i64 (newE 65536)])) (C : OrdC V) :
    (Dlorder V M).From 0 ⟨[.osl all, .osl (prows ps), .osl (rs.map (.int .i64))], []⟩ = some (.bool true, []) := by
  refine From.of ((lorder_0 _ _ _).trans ?_)
  simp only [e0, Option.bind_some, fitA_tup, fitA_one, fitA_nil, fitR_cons, fitR_nil, fit_one, fit_agg, okL_cons, okL_nil, ok1_int, ok1_bool, ok1_sl, decide_true, Bool.and_self, gd_true, ti_tup, tl_tup, tb_tup, gett_tup, getc_agg, List.getD_cons_zero, List.getD_cons_succ, geti_int', getl_osl, getb_bool, Bool.not_true, Bool.not_false, cond_true, cond_false, beq_self_eq_true]
  by_cases c1 : (all.length : Int) > 300
  · rw [decide_eq_true c1]; rfl
  by_cases c2 : (ps.length : Int) > 40
  · rw [decide_eq_false c1, prows_length, decide_eq_true c2]; rfl
  have n1 : newE 65536 = 0 := by kernel_rfl
  have n2 : newW 65536 = ⟨0, [], [], 65536, -1⟩ := by kernel_rfl
  rw [n1, n2] at e1
  simp only [decide_eq_false c1, prows_length, decide_eq_false c2, e1, Option.bind_some, fitA_tup, fitA_one, fitA_nil, fitR_cons, fitR_nil, fit_one, fit_agg, okL_cons, okL_nil, ok1_int, ok1_bool, ok1_sl, decide_true, Bool.and_self, gd_true, ti_tup, tl_tup, tb_tup, gett_tup, getc_agg, List.getD_cons_zero, List.getD_cons_succ, geti_int', getl_osl, getb_bool, Bool.not_true, Bool.not_false, cond_true, cond_false, beq_self_eq_true]
  exact order_loop C all ps rs hall (by omega) (by omega) ps.length 0 ⟨0, [], [], 65536, -1⟩ none rfl
    ⟨by kernel_rfl, rfl, rfl, IsB.nil, Nat.le_refl _, rfl, Nat.zero_le _, by simp, fun n hn => absurd hn mem_nil⟩
theorem lorder_ok (all : List AV) (ps : List Spn) (rs : List Int) (hall : IsB all) : FnOk Try.prog 5 [.osl all, .osl (prows ps), .osl (rs.map (.int .i64))] (.bool true) :=
  fn_mk [F_awake, F_wput, F_wmay, F_wedge, F_wready, F_wnew, F_wread, F_same3] [] (by kernel_rfl) mixed (by kernel_rfl) (order_from all ps rs hall (envV_at F_awake () trivial [] _ rfl) (envV_at F_wnew (65536 : Int) trivial [F_awake, F_wput, F_wmay, F_wedge, F_wready] _ rfl)
    { put := fun w n bs h1 h2 h3 => envV_at F_wput (w, n, bs) ⟨h1, h2, by show bs.length ≤ _; omega⟩ [F_awake] _ rfl
      edge := fun w h => envV_at F_wedge w h [F_awake, F_wput, F_wmay] _ rfl
      ready := fun w h => envV_at F_wready w h [F_awake, F_wput, F_wmay, F_wedge] _ rfl
      read := fun w n h => envV_at F_wread (w, n) h [F_awake, F_wput, F_wmay, F_wedge, F_wready, F_wnew] _ rfl
      may := fun w h => envV_at F_wmay w h [F_awake, F_wput] _ rfl
      same := fun xs h1 h2 => envV_at F_same3 (some xs) (fun ys h => by cases h; exact ⟨h1, by omega⟩) [F_awake, F_wput, F_wmay, F_wedge, F_wready, F_wnew, F_wread] _ rfl
      nil := envV_at F_same3 none (fun ys h => by cases h) [F_awake, F_wput, F_wmay, F_wedge, F_wready, F_wnew, F_wread] _ rfl })
/-! ### The shapes -/
theorem hasInts {l : List AV} (h : Has (.slice (.int .i64) false) l) : ∃ q : List Int, l = [.osl (q.map (.int .i64))] ∧ q.length ≤ 9223372036854775807 := by
  obtain ⟨xs, rfl, hl, hx⟩ := hasSl h
  have key : ∀ (ys : List AV), (∀ x ∈ ys, x = mk false x.cells ∧ Has (.int .i64) x.cells) → ∃ q : List Int, ys = q.map (.int .i64) := by
    intro ys
    induction ys with
    | nil => intro _; exact ⟨[], rfl⟩
    | cons y ys ih =>
      intro h
      obtain ⟨q, hq⟩ := ih fun x hx => h x (List.mem_cons_of_mem _ hx)
      obtain ⟨h1, h2⟩ := h y (List.mem_cons_self ..)
      obtain ⟨n, hn, _⟩ := hasInt h2
      rw [hn] at h1
      exact ⟨n :: q, by rw [hq, List.map_cons, h1]; rfl⟩
  obtain ⟨q, rfl⟩ := key xs hx
  exact ⟨q, rfl, by rw [List.length_map] at hl; exact hl⟩
theorem sh_ints : shOf Try.prog 4 39 = some (.slice (.int .i64) false) := by kernel_rfl
theorem sh_prs : shOf Try.prog 4 38 = some (.slice shSpn true) := by kernel_rfl

end Vai.L06
