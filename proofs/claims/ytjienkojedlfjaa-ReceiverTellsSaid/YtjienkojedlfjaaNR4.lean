import Derived.Test.YtjienkojedlfjaaNR
namespace Vai.L04
open Go Go.Proofs Vai
set_option maxRecDepth 100000
set_option linter.unusedVariables false
set_option linter.unusedSimpArgs false
section
variable {R : Type} {V : EV} {M : EM} {G : Nat → CS → Option R} {K : Res → Option R}
noncomputable abbrev Dr4one : EV → EM → Dn := dnV Try.prog 95 [] [] []
theorem r4one_0 (a0_0 : Int) (a0_1 : Int) : (Dr4one V M).stepK G K 0 ⟨[.agg [.int .i64 a0_0, .int .i64 a0_1]], []⟩ =
    (bif decide (a0_0 ≥ (0 : Int)) then (bif decide (a0_1 > a0_0) then K (AV.bool (decide (a0_1 ≤ (4611686018427387904 : Int))), []) else K (AV.bool false, [])) else K (AV.bool false, [])) := by kernel_rfl
noncomputable abbrev Dr4may : EV → EM → Dn := dnV Try.prog 66 [95] [] [(26, [0, 3])]
theorem r4may_0 (a0 : List AV) : (Dr4may V M).stepK G K 0 ⟨[.osl a0], []⟩ =
    G 26 ({ vs := [AV.osl a0, AV.int .i64 (0 : Int)], bs := [] }) := by kernel_rfl
theorem r4may_1 (l0 : List AV) (n1 : Int) : (Dr4may V M).stepK G K 26 ⟨[(.osl l0), (.int .i64 n1)], []⟩ =
    (bif decide (n1 < (↑(List.length l0) : Int)) then gd (decide ((0 : Int) ≤ n1)) (Option.bind (l0[Int.toNat n1]?) (fun x0 => gd (Vw.fit (.agg [.int .i64, .int .i64]) x0) (Option.bind (V 95 [AV.agg [AV.int .i64 (ci x0 0), AV.int .i64 (ci x0 1)]]) (fun x1 => gd (fitA [.one .bool] x1) ((bif !AV.getb x1 then K (AV.bool false, []) else (bif decide (n1 > (0 : Int)) then gd (decide ((0 : Int) ≤ n1)) (Option.bind (l0[Int.toNat n1]?) (fun x2 => gd (Vw.fit (.agg [.int .i64, .int .i64]) x2) (gd (decide ((0 : Int) ≤ IntKind.wrap .i64 (n1 - (1 : Int)))) (Option.bind (l0[Int.toNat (IntKind.wrap .i64 (n1 - (1 : Int)))]?) (fun x3 => gd (Vw.fit (.agg [.int .i64, .int .i64]) x3) ((bif decide (ci x2 0 ≤ ci x3 1) then K (AV.bool false, []) else G 26 ({ vs := [AV.osl l0, AV.int .i64 (IntKind.wrap .i64 (n1 + (1 : Int)))], bs := [] })))))))) else G 26 ({ vs := [AV.osl l0, AV.int .i64 (IntKind.wrap .i64 (n1 + (1 : Int)))], bs := [] })))))))) else K (AV.bool (decide ((↑(List.length l0) : Int) ≤ (1000 : Int))), [])) := by kernel_rfl
noncomputable abbrev Dr4in : EV → EM → Dn := dnV Try.prog 63 [] [] [(26, [0, 1, 5])]
theorem r4in_0 (a0 : List AV) (a1 : Int) : (Dr4in V M).stepK G K 0 ⟨[.osl a0, .int .i64 a1], []⟩ =
    G 26 ({ vs := [AV.osl a0, AV.int .i64 a1, AV.int .i64 (0 : Int)], bs := [] }) := by kernel_rfl
theorem r4in_1 (l0 : List AV) (n1 : Int) (n2 : Int) : (Dr4in V M).stepK G K 26 ⟨[(.osl l0), (.int .i64 n1), (.int .i64 n2)], []⟩ =
    (bif decide (n2 < (↑(List.length l0) : Int)) then gd (decide ((0 : Int) ≤ n2)) (Option.bind (l0[Int.toNat n2]?) (fun x0 => gd (Vw.fit (.agg [.int .i64, .int .i64]) x0) ((bif decide (ci x0 0 ≤ n1) then gd (decide ((0 : Int) ≤ n2)) (Option.bind (l0[Int.toNat n2]?) (fun x1 => gd (Vw.fit (.agg [.int .i64, .int .i64]) x1) ((bif decide (n1 < ci x1 1) then K (AV.bool true, []) else G 26 ({ vs := [AV.osl l0, AV.int .i64 n1, AV.int .i64 (IntKind.wrap .i64 (n2 + (1 : Int)))], bs := [] }))))) else G 26 ({ vs := [AV.osl l0, AV.int .i64 n1, AV.int .i64 (IntKind.wrap .i64 (n2 + (1 : Int)))], bs := [] }))))) else K (AV.bool false, [])) := by kernel_rfl
noncomputable abbrev Dr4same : EV → EM → Dn := dnV Try.prog 56 [] [] [(58, [0, 1, 5])]
theorem r4same_0 (a0 : List AV) (a1 : List AV) : (Dr4same V M).stepK G K 0 ⟨[.osl a0, .osl a1], []⟩ =
    (bif !(↑(List.length a0) : Int) == (↑(List.length a1) : Int) then K (AV.bool false, []) else G 58 ({ vs := [AV.osl a0, AV.osl a1, AV.int .i64 (0 : Int)], bs := [] })) := by kernel_rfl
theorem r4same_1 (l0 : List AV) (l1 : List AV) (n2 : Int) : (Dr4same V M).stepK G K 58 ⟨[(.osl l0), (.osl l1), (.int .i64 n2)], []⟩ =
    (bif decide (n2 < (↑(List.length l0) : Int)) then gd (decide ((0 : Int) ≤ n2)) (Option.bind (l0[Int.toNat n2]?) (fun x0 => gd (Vw.fit (.agg [.int .i64, .int .i64]) x0) (gd (decide ((0 : Int) ≤ n2)) (Option.bind (l1[Int.toNat n2]?) (fun x1 => gd (Vw.fit (.agg [.int .i64, .int .i64]) x1) ((bif !(ci x0 0 == ci x1 0 && (ci x0 1 == ci x1 1 && true)) then K (AV.bool false, []) else G 58 ({ vs := [AV.osl l0, AV.osl l1, AV.int .i64 (IntKind.wrap .i64 (n2 + (1 : Int)))], bs := [] })))))))) else K (AV.bool true, [])) := by kernel_rfl
noncomputable abbrev Dr4put : EV → EM → Dn := dnV Try.prog 104 [] [] [(28, [0, 1, 5]), (14, [0, 1, 5]), (61, [0, 1, 5])]
theorem r4put_0 (a0 : List AV) (a1 : Int) : (Dr4put V M).stepK G K 0 ⟨[.osl a0, .int .i64 a1], []⟩ =
    G 28 ({ vs := [AV.osl a0, AV.int .i64 a1, AV.int .i64 (↑(List.length a0) : Int)], bs := [] }) := by kernel_rfl
theorem r4put_1 (l0 : List AV) (n1 : Int) (n2 : Int) : (Dr4put V M).stepK G K 28 ⟨[(.osl l0), (.int .i64 n1), (.int .i64 n2)], []⟩ =
    (bif decide (n2 > (0 : Int)) then gd (decide ((0 : Int) ≤ IntKind.wrap .i64 (n2 - (1 : Int)))) (Option.bind (l0[Int.toNat (IntKind.wrap .i64 (n2 - (1 : Int)))]?) (fun x0 => gd (Vw.fit (.one (.int .i64)) x0) ((bif decide (AV.geti x0 > n1) then G 28 ({ vs := [AV.osl l0, AV.int .i64 n1, AV.int .i64 (IntKind.wrap .i64 (n2 - (1 : Int)))], bs := [] }) else G 14 ({ vs := [AV.osl l0, AV.int .i64 n1, AV.int .i64 n2], bs := [] }))))) else G 14 ({ vs := [AV.osl l0, AV.int .i64 n1, AV.int .i64 n2], bs := [] })) := by kernel_rfl
theorem r4put_2 (l0 : List AV) (n1 : Int) (n2 : Int) : (Dr4put V M).stepK G K 14 ⟨[(.osl l0), (.int .i64 n1), (.int .i64 n2)], []⟩ =
    (bif decide (n2 > (0 : Int)) then gd (decide ((0 : Int) ≤ IntKind.wrap .i64 (n2 - (1 : Int)))) (Option.bind (l0[Int.toNat (IntKind.wrap .i64 (n2 - (1 : Int)))]?) (fun x0 => gd (Vw.fit (.one (.int .i64)) x0) ((bif AV.geti x0 == n1 then K (AV.osl l0, []) else G 61 ({ vs := [AV.osl l0, AV.int .i64 n1, AV.int .i64 n2], bs := [] }))))) else G 61 ({ vs := [AV.osl l0, AV.int .i64 n1, AV.int .i64 n2], bs := [] })) := by kernel_rfl
theorem r4put_3 (l0 : List AV) (n1 : Int) (n2 : Int) : (Dr4put V M).stepK G K 61 ⟨[(.osl l0), (.int .i64 n1), (.int .i64 n2)], []⟩ =
    gd (gCel 1 l0) (gd (decide ((0 : Int) ≤ n2 ∧ n2 ≤ (↑(List.length l0) : Int))) (gd (gRow 1 (List.drop 0 (List.take (Int.toNat n2) l0))) (gd (gLen (0 + List.length (List.drop 0 (List.take (Int.toNat n2) l0))) 8) (gd (decide (0 + List.length (List.drop 0 (List.take (Int.toNat n2) l0)) ≤ List.length (List.drop 0 (List.take (Int.toNat n2) l0)))) (gd (gLen (List.length (List.take (0 + List.length (List.drop 0 (List.take (Int.toNat n2) l0))) (List.drop 0 (List.take (Int.toNat n2) l0))) + 1) 8) (gd (gCel 1 l0) (gd (decide ((0 : Int) ≤ n2 ∧ n2 ≤ (↑(List.length l0) : Int))) (gd (decide (List.length (List.take (0 + List.length (List.drop 0 (List.take (Int.toNat n2) l0))) (List.drop 0 (List.take (Int.toNat n2) l0))) + 1 ≤ List.length (List.take (0 + List.length (List.drop 0 (List.take (Int.toNat n2) l0))) (List.drop 0 (List.take (Int.toNat n2) l0)) ++ [AV.int .i64 n1]))) (gd (gRow 1 (List.drop (Int.toNat n2) (List.take (List.length l0) l0))) (gd (gLen (List.length (List.take (List.length (List.take (0 + List.length (List.drop 0 (List.take (Int.toNat n2) l0))) (List.drop 0 (List.take (Int.toNat n2) l0))) + 1) (List.take (0 + List.length (List.drop 0 (List.take (Int.toNat n2) l0))) (List.drop 0 (List.take (Int.toNat n2) l0)) ++ [AV.int .i64 n1])) + List.length (List.drop (Int.toNat n2) (List.take (List.length l0) l0))) 8) (gd (decide (0 + (List.length (List.take (List.length (List.take (0 + List.length (List.drop 0 (List.take (Int.toNat n2) l0))) (List.drop 0 (List.take (Int.toNat n2) l0))) + 1) (List.take (0 + List.length (List.drop 0 (List.take (Int.toNat n2) l0))) (List.drop 0 (List.take (Int.toNat n2) l0)) ++ [AV.int .i64 n1])) + List.length (List.drop (Int.toNat n2) (List.take (List.length l0) l0))) ≤ List.length (List.take (List.length (List.take (0 + List.length (List.drop 0 (List.take (Int.toNat n2) l0))) (List.drop 0 (List.take (Int.toNat n2) l0))) + 1) (List.take (0 + List.length (List.drop 0 (List.take (Int.toNat n2) l0))) (List.drop 0 (List.take (Int.toNat n2) l0)) ++ [AV.int .i64 n1]) ++ List.drop (Int.toNat n2) (List.take (List.length l0) l0)))) (gd (gFree 1 (List.take (List.length (List.take (List.length (List.take (0 + List.length (List.drop 0 (List.take (Int.toNat n2) l0))) (List.drop 0 (List.take (Int.toNat n2) l0))) + 1) (List.take (0 + List.length (List.drop 0 (List.take (Int.toNat n2) l0))) (List.drop 0 (List.take (Int.toNat n2) l0)) ++ [AV.int .i64 n1])) + List.length (List.drop (Int.toNat n2) (List.take (List.length l0) l0))) (List.drop 0 (List.take (List.length (List.take (0 + List.length (List.drop 0 (List.take (Int.toNat n2) l0))) (List.drop 0 (List.take (Int.toNat n2) l0))) + 1) (List.take (0 + List.length (List.drop 0 (List.take (Int.toNat n2) l0))) (List.drop 0 (List.take (Int.toNat n2) l0)) ++ [AV.int .i64 n1]) ++ List.drop (Int.toNat n2) (List.take (List.length l0) l0))))) (K (AV.osl (List.take (List.length (List.take (List.length (List.take (0 + List.length (List.drop 0 (List.take (Int.toNat n2) l0))) (List.drop 0 (List.take (Int.toNat n2) l0))) + 1) (List.take (0 + List.length (List.drop 0 (List.take (Int.toNat n2) l0))) (List.drop 0 (List.take (Int.toNat n2) l0)) ++ [AV.int .i64 n1])) + List.length (List.drop (Int.toNat n2) (List.take (List.length l0) l0))) (List.drop 0 (List.take (List.length (List.take (0 + List.length (List.drop 0 (List.take (Int.toNat n2) l0))) (List.drop 0 (List.take (Int.toNat n2) l0))) + 1) (List.take (0 + List.length (List.drop 0 (List.take (Int.toNat n2) l0))) (List.drop 0 (List.take (Int.toNat n2) l0)) ++ [AV.int .i64 n1]) ++ List.drop (Int.toNat n2) (List.take (List.length l0) l0)))), [])))))))))))))) := by kernel_rfl
noncomputable abbrev Dr4putn : EV → EM → Dn := dnV Try.prog 104 [] [] []
theorem r4putn_0 (a1 : Int) : (Dr4putn V M).stepK G K 0 ⟨[.nl, .int .i64 a1], []⟩ =
    K (AV.osl [AV.int .i64 a1], []) := by kernel_rfl
noncomputable abbrev Dr4ends : EV → EM → Dn := dnV Try.prog 103 [104] [] [(58, [0, 3, 4])]
theorem r4ends_0 (a0 : List AV) : (Dr4ends V M).stepK G K 0 ⟨[.osl a0], []⟩ =
    G 58 ({ vs := [AV.osl a0, AV.nl, AV.int .i64 (0 : Int)], bs := [] }) := by kernel_rfl
theorem r4ends_1 (l0 : List AV) (n1 : Int) : (Dr4ends V M).stepK G K 58 ⟨[(.osl l0), .nl, (.int .i64 n1)], []⟩ =
    (bif decide (n1 < (↑(List.length l0) : Int)) then gd (decide ((0 : Int) ≤ n1)) (Option.bind (l0[Int.toNat n1]?) (fun x0 => gd (Vw.fit (.agg [.int .i64, .int .i64]) x0) (Option.bind (V 104 [AV.nl, AV.int .i64 (ci x0 0)]) (fun x1 => gd (fitA [.one .sl] x1) (gd (decide ((0 : Int) ≤ n1)) (Option.bind (l0[Int.toNat n1]?) (fun x2 => gd (Vw.fit (.agg [.int .i64, .int .i64]) x2) (Option.bind (V 104 [AV.osl (AV.getl x1), AV.int .i64 (ci x2 1)]) (fun x3 => gd (fitA [.one .sl] x3) (G 58 ({ vs := [AV.osl l0, AV.osl (AV.getl x3), AV.int .i64 (IntKind.wrap .i64 (n1 + (1 : Int)))], bs := [] }))))))))))) else K (AV.osl [], [])) := by kernel_rfl
theorem r4ends_2 (l0 : List AV) (l1 : List AV) (n2 : Int) : (Dr4ends V M).stepK G K 58 ⟨[(.osl l0), (.osl l1), (.int .i64 n2)], []⟩ =
    (bif decide (n2 < (↑(List.length l0) : Int)) then gd (decide ((0 : Int) ≤ n2)) (Option.bind (l0[Int.toNat n2]?) (fun x0 => gd (Vw.fit (.agg [.int .i64, .int .i64]) x0) (Option.bind (V 104 [AV.osl l1, AV.int .i64 (ci x0 0)]) (fun x1 => gd (fitA [.one .sl] x1) (gd (decide ((0 : Int) ≤ n2)) (Option.bind (l0[Int.toNat n2]?) (fun x2 => gd (Vw.fit (.agg [.int .i64, .int .i64]) x2) (Option.bind (V 104 [AV.osl (AV.getl x1), AV.int .i64 (ci x2 1)]) (fun x3 => gd (fitA [.one .sl] x3) (G 58 ({ vs := [AV.osl l0, AV.osl (AV.getl x3), AV.int .i64 (IntKind.wrap .i64 (n2 + (1 : Int)))], bs := [] }))))))))))) else K (AV.osl l1, [])) := by kernel_rfl
noncomputable abbrev Dr4made : EV → EM → Dn := dnV Try.prog 96 [63, 103] [] [(250, [0, 2, 7, 8, 9, 10]), (64077, [0, 2, 7, 8, 9, 10])]
theorem r4made_0 (a0 : List AV) (a1_0 : Int) (a1_1 : Int) (a2 : Bool) : (Dr4made V M).stepK G K 0 ⟨[.osl a0, .agg [.int .i64 a1_0, .int .i64 a1_1], .bool a2], []⟩ =
    gd (gRow 2 a0) (gd (gLen (0 + List.length a0) 16) (gd (decide (0 + List.length a0 ≤ List.length a0)) (gd (gLen (List.length (List.take (0 + List.length a0) a0) + 1) 16) (gd (decide (0 + (List.length (List.take (0 + List.length a0) a0) + 1) ≤ List.length (List.take (0 + List.length a0) a0 ++ [AV.agg [AV.int .i64 a1_0, AV.int .i64 a1_1]]))) (gd (gFree 2 (List.take (List.length (List.take (0 + List.length a0) a0) + 1) (List.drop 0 (List.take (0 + List.length a0) a0 ++ [AV.agg [AV.int .i64 a1_0, AV.int .i64 a1_1]])))) (Option.bind (V 103 [AV.osl (List.take (List.length (List.take (0 + List.length a0) a0) + 1) (List.drop 0 (List.take (0 + List.length a0) a0 ++ [AV.agg [AV.int .i64 a1_0, AV.int .i64 a1_1]])))]) (fun x0 => gd (fitA [.one .sl] x0) (G 250 ({ vs := [AV.osl a0, AV.bool a2, AV.osl (AV.getl x0), AV.sl 2 1000000 0 0 1, AV.nl, AV.int .i64 (0 : Int)], bs := [some { es := [AV.agg [AV.int .i64 a1_0, AV.int .i64 a1_1]], fr := false, pt := false }] }))))))))) := by kernel_rfl
theorem r4made_1 (l0 : List AV) (b1 : Bool) (l2 : List AV) (k3 : Nat) (n4 : Int) (l5 : List AV) : (Dr4made V M).stepK G K 250 ⟨[(.osl l0), (.bool b1), (.osl l2), (.sl 2 1000000 0 0 k3), .nl, (.int .i64 n4)], [some ⟨l5, false, false⟩]⟩ =
    (bif decide (IntKind.wrap .i64 (n4 + (1 : Int)) < (↑(List.length l2) : Int)) then gd (decide ((0 : Int) ≤ n4)) (Option.bind (l2[Int.toNat n4]?) (fun x0 => gd (Vw.fit (.one (.int .i64)) x0) (Option.bind (V 63 [AV.osl l0, AV.int .i64 (AV.geti x0)]) (fun x1 => gd (fitA [.one .bool] x1) (gd (decide ((0 : Int) ≤ n4)) (Option.bind (l2[Int.toNat n4]?) (fun x2 => gd (Vw.fit (.one (.int .i64)) x2) (gd (decide (0 + k3 ≤ List.length l5)) (gd (gFree 2 (List.take k3 (List.drop 0 l5))) (Option.bind (V 63 [AV.osl (List.take k3 (List.drop 0 l5)), AV.int .i64 (AV.geti x2)]) (fun x3 => gd (fitA [.one .bool] x3) ((bif b1 then (bif !AV.getb x1 then gd (gNo l5) (G 250 ({ vs := [AV.osl l0, AV.bool b1, AV.osl l2, AV.sl 2 1000000 0 0 k3, AV.nl, AV.int .i64 (IntKind.wrap .i64 (n4 + (1 : Int)))], bs := [some { es := l5, fr := false, pt := false }] })) else (bif AV.getb x3 then gd (gNo l5) (G 250 ({ vs := [AV.osl l0, AV.bool b1, AV.osl l2, AV.sl 2 1000000 0 0 k3, AV.nl, AV.int .i64 (IntKind.wrap .i64 (n4 + (1 : Int)))], bs := [some { es := l5, fr := false, pt := false }] })) else (bif !b1 then (bif !AV.getb x1 then (bif !AV.getb x3 then gd (gNo l5) (G 250 ({ vs := [AV.osl l0, AV.bool b1, AV.osl l2, AV.sl 2 1000000 0 0 k3, AV.nl, AV.int .i64 (IntKind.wrap .i64 (n4 + (1 : Int)))], bs := [some { es := l5, fr := false, pt := false }] })) else gd (gNo l5) (G 64077 ({ vs := [AV.osl l0, AV.bool b1, AV.osl l2, AV.sl 2 1000000 0 0 k3, AV.nl, AV.int .i64 n4], bs := [some { es := l5, fr := false, pt := false }] }))) else gd (gNo l5) (G 64077 ({ vs := [AV.osl l0, AV.bool b1, AV.osl l2, AV.sl 2 1000000 0 0 k3, AV.nl, AV.int .i64 n4], bs := [some { es := l5, fr := false, pt := false }] }))) else gd (gNo l5) (G 64077 ({ vs := [AV.osl l0, AV.bool b1, AV.osl l2, AV.sl 2 1000000 0 0 k3, AV.nl, AV.int .i64 n4], bs := [some { es := l5, fr := false, pt := false }] }))))) else (bif !b1 then (bif !AV.getb x1 then (bif !AV.getb x3 then gd (gNo l5) (G 250 ({ vs := [AV.osl l0, AV.bool b1, AV.osl l2, AV.sl 2 1000000 0 0 k3, AV.nl, AV.int .i64 (IntKind.wrap .i64 (n4 + (1 : Int)))], bs := [some { es := l5, fr := false, pt := false }] })) else gd (gNo l5) (G 64077 ({ vs := [AV.osl l0, AV.bool b1, AV.osl l2, AV.sl 2 1000000 0 0 k3, AV.nl, AV.int .i64 n4], bs := [some { es := l5, fr := false, pt := false }] }))) else gd (gNo l5) (G 64077 ({ vs := [AV.osl l0, AV.bool b1, AV.osl l2, AV.sl 2 1000000 0 0 k3, AV.nl, AV.int .i64 n4], bs := [some { es := l5, fr := false, pt := false }] }))) else gd (gNo l5) (G 64077 ({ vs := [AV.osl l0, AV.bool b1, AV.osl l2, AV.sl 2 1000000 0 0 k3, AV.nl, AV.int .i64 n4], bs := [some { es := l5, fr := false, pt := false }] })))))))))))))))) else K (AV.osl [], [])) := by kernel_rfl
theorem r4made_2 (l0 : List AV) (b1 : Bool) (l2 : List AV) (k3 : Nat) (n4 : Int) (l5 : List AV) : (Dr4made V M).stepK G K 64077 ⟨[(.osl l0), (.bool b1), (.osl l2), (.sl 2 1000000 0 0 k3), .nl, (.int .i64 n4)], [some ⟨l5, false, false⟩]⟩ =
    gd (decide ((0 : Int) ≤ n4)) (Option.bind (l2[Int.toNat n4]?) (fun x0 => gd (Vw.fit (.one (.int .i64)) x0) (gd (decide ((0 : Int) ≤ IntKind.wrap .i64 (n4 + (1 : Int)))) (Option.bind (l2[Int.toNat (IntKind.wrap .i64 (n4 + (1 : Int)))]?) (fun x1 => gd (Vw.fit (.one (.int .i64)) x1) (gd (gNo l5) (G 250 ({ vs := [AV.osl l0, AV.bool b1, AV.osl l2, AV.sl 2 1000000 0 0 k3, AV.sl 2 1000001 0 0 1, AV.int .i64 (IntKind.wrap .i64 (n4 + (1 : Int)))], bs := [some { es := l5, fr := false, pt := false }, some { es := [AV.agg [AV.int .i64 (AV.geti x0), AV.int .i64 (AV.geti x1)]], fr := false, pt := false }] })))))))) := by kernel_rfl
theorem r4made_3 (l0 : List AV) (b1 : Bool) (l2 : List AV) (k3 : Nat) (k4 : Nat) (n5 : Int) (l6 : List AV) (l7 : List AV) : (Dr4made V M).stepK G K 250 ⟨[(.osl l0), (.bool b1), (.osl l2), (.sl 2 1000000 0 0 k3), (.sl 2 1000001 0 0 k4), (.int .i64 n5)], [some ⟨l6, false, false⟩, some ⟨l7, false, false⟩]⟩ =
    (bif decide (IntKind.wrap .i64 (n5 + (1 : Int)) < (↑(List.length l2) : Int)) then gd (decide ((0 : Int) ≤ n5)) (Option.bind (l2[Int.toNat n5]?) (fun x0 => gd (Vw.fit (.one (.int .i64)) x0) (Option.bind (V 63 [AV.osl l0, AV.int .i64 (AV.geti x0)]) (fun x1 => gd (fitA [.one .bool] x1) (gd (decide ((0 : Int) ≤ n5)) (Option.bind (l2[Int.toNat n5]?) (fun x2 => gd (Vw.fit (.one (.int .i64)) x2) (gd (decide (0 + k3 ≤ List.length l6)) (gd (gFree 2 (List.take k3 (List.drop 0 l6))) (Option.bind (V 63 [AV.osl (List.take k3 (List.drop 0 l6)), AV.int .i64 (AV.geti x2)]) (fun x3 => gd (fitA [.one .bool] x3) ((bif b1 then (bif !AV.getb x1 then gd (gNo l6) (gd (gNo l7) (G 250 ({ vs := [AV.osl l0, AV.bool b1, AV.osl l2, AV.sl 2 1000000 0 0 k3, AV.sl 2 1000001 0 0 k4, AV.int .i64 (IntKind.wrap .i64 (n5 + (1 : Int)))], bs := [some { es := l6, fr := false, pt := false }, some { es := l7, fr := false, pt := false }] }))) else (bif AV.getb x3 then gd (gNo l6) (gd (gNo l7) (G 250 ({ vs := [AV.osl l0, AV.bool b1, AV.osl l2, AV.sl 2 1000000 0 0 k3, AV.sl 2 1000001 0 0 k4, AV.int .i64 (IntKind.wrap .i64 (n5 + (1 : Int)))], bs := [some { es := l6, fr := false, pt := false }, some { es := l7, fr := false, pt := false }] }))) else (bif !b1 then (bif !AV.getb x1 then (bif !AV.getb x3 then gd (gNo l6) (gd (gNo l7) (G 250 ({ vs := [AV.osl l0, AV.bool b1, AV.osl l2, AV.sl 2 1000000 0 0 k3, AV.sl 2 1000001 0 0 k4, AV.int .i64 (IntKind.wrap .i64 (n5 + (1 : Int)))], bs := [some { es := l6, fr := false, pt := false }, some { es := l7, fr := false, pt := false }] }))) else gd (gNo l6) (gd (gNo l7) (G 64077 ({ vs := [AV.osl l0, AV.bool b1, AV.osl l2, AV.sl 2 1000000 0 0 k3, AV.sl 2 1000001 0 0 k4, AV.int .i64 n5], bs := [some { es := l6, fr := false, pt := false }, some { es := l7, fr := false, pt := false }] })))) else gd (gNo l6) (gd (gNo l7) (G 64077 ({ vs := [AV.osl l0, AV.bool b1, AV.osl l2, AV.sl 2 1000000 0 0 k3, AV.sl 2 1000001 0 0 k4, AV.int .i64 n5], bs := [some { es := l6, fr := false, pt := false }, some { es := l7, fr := false, pt := false }] })))) else gd (gNo l6) (gd (gNo l7) (G 64077 ({ vs := [AV.osl l0, AV.bool b1, AV.osl l2, AV.sl 2 1000000 0 0 k3, AV.sl 2 1000001 0 0 k4, AV.int .i64 n5], bs := [some { es := l6, fr := false, pt := false }, some { es := l7, fr := false, pt := false }] })))))) else (bif !b1 then (bif !AV.getb x1 then (bif !AV.getb x3 then gd (gNo l6) (gd (gNo l7) (G 250 ({ vs := [AV.osl l0, AV.bool b1, AV.osl l2, AV.sl 2 1000000 0 0 k3, AV.sl 2 1000001 0 0 k4, AV.int .i64 (IntKind.wrap .i64 (n5 + (1 : Int)))], bs := [some { es := l6, fr := false, pt := false }, some { es := l7, fr := false, pt := false }] }))) else gd (gNo l6) (gd (gNo l7) (G 64077 ({ vs := [AV.osl l0, AV.bool b1, AV.osl l2, AV.sl 2 1000000 0 0 k3, AV.sl 2 1000001 0 0 k4, AV.int .i64 n5], bs := [some { es := l6, fr := false, pt := false }, some { es := l7, fr := false, pt := false }] })))) else gd (gNo l6) (gd (gNo l7) (G 64077 ({ vs := [AV.osl l0, AV.bool b1, AV.osl l2, AV.sl 2 1000000 0 0 k3, AV.sl 2 1000001 0 0 k4, AV.int .i64 n5], bs := [some { es := l6, fr := false, pt := false }, some { es := l7, fr := false, pt := false }] })))) else gd (gNo l6) (gd (gNo l7) (G 64077 ({ vs := [AV.osl l0, AV.bool b1, AV.osl l2, AV.sl 2 1000000 0 0 k3, AV.sl 2 1000001 0 0 k4, AV.int .i64 n5], bs := [some { es := l6, fr := false, pt := false }, some { es := l7, fr := false, pt := false }] }))))))))))))))))) else gd (decide (0 + k4 ≤ List.length l7)) (gd (gFree 2 (List.take k4 (List.drop 0 l7))) (K (AV.osl (List.take k4 (List.drop 0 l7)), [])))) := by kernel_rfl
theorem r4made_4 (l0 : List AV) (b1 : Bool) (l2 : List AV) (k3 : Nat) (k4 : Nat) (n5 : Int) (l6 : List AV) (l7 : List AV) : (Dr4made V M).stepK G K 64077 ⟨[(.osl l0), (.bool b1), (.osl l2), (.sl 2 1000000 0 0 k3), (.sl 2 1000001 0 0 k4), (.int .i64 n5)], [some ⟨l6, false, false⟩, some ⟨l7, false, false⟩]⟩ =
    (bif decide ((↑k4 : Int) > (0 : Int)) then gd (decide ((0 : Int) ≤ IntKind.wrap .i64 ((↑k4 : Int) - (1 : Int)) ∧ IntKind.wrap .i64 ((↑k4 : Int) - (1 : Int)) < (↑k4 : Int))) (Option.bind (l7[0 + Int.toNat (IntKind.wrap .i64 ((↑k4 : Int) - (1 : Int)))]?) (fun x2 => gd (Vw.fit (.agg [.int .i64, .int .i64]) x2) (gd (decide ((0 : Int) ≤ n5)) (Option.bind (l2[Int.toNat n5]?) (fun x3 => gd (Vw.fit (.one (.int .i64)) x3) ((bif ci x2 1 == AV.geti x3 then gd (decide ((0 : Int) ≤ IntKind.wrap .i64 (n5 + (1 : Int)))) (Option.bind (l2[Int.toNat (IntKind.wrap .i64 (n5 + (1 : Int)))]?) (fun x6 => gd (Vw.fit (.one (.int .i64)) x6) (gd (decide ((0 : Int) ≤ IntKind.wrap .i64 ((↑k4 : Int) - (1 : Int)) ∧ IntKind.wrap .i64 ((↑k4 : Int) - (1 : Int)) < (↑k4 : Int))) (Option.bind (l7[0 + Int.toNat (IntKind.wrap .i64 ((↑k4 : Int) - (1 : Int)))]?) (fun x7 => gd (Vw.fit (.agg [.int .i64, .int .i64]) x7) (gd (gNo l6) (gd (gNo (List.set l7 (0 + Int.toNat (IntKind.wrap .i64 ((↑k4 : Int) - (1 : Int)))) (AV.agg [AV.int .i64 (ci x7 0), AV.int .i64 (AV.geti x6)]))) (G 250 ({ vs := [AV.osl l0, AV.bool b1, AV.osl l2, AV.sl 2 1000000 0 0 k3, AV.sl 2 1000001 0 0 k4, AV.int .i64 (IntKind.wrap .i64 (n5 + (1 : Int)))], bs := [some { es := l6, fr := false, pt := false }, some { es := List.set l7 (0 + Int.toNat (IntKind.wrap .i64 ((↑k4 : Int) - (1 : Int)))) (AV.agg [AV.int .i64 (ci x7 0), AV.int .i64 (AV.geti x6)]), fr := false, pt := false }] }))))))))) else gd (decide ((0 : Int) ≤ n5)) (Option.bind (l2[Int.toNat n5]?) (fun x4 => gd (Vw.fit (.one (.int .i64)) x4) (gd (decide ((0 : Int) ≤ IntKind.wrap .i64 (n5 + (1 : Int)))) (Option.bind (l2[Int.toNat (IntKind.wrap .i64 (n5 + (1 : Int)))]?) (fun x5 => gd (Vw.fit (.one (.int .i64)) x5) (gd (decide (k4 ≤ List.length l7)) (gd (gLen (List.length (List.take k4 l7) + 1) 16) (gd (gNo l6) (gd (gNo (List.take k4 l7 ++ [AV.agg [AV.int .i64 (AV.geti x4), AV.int .i64 (AV.geti x5)]])) (G 250 ({ vs := [AV.osl l0, AV.bool b1, AV.osl l2, AV.sl 2 1000000 0 0 k3, AV.sl 2 1000001 0 0 (List.length (List.take k4 l7) + 1), AV.int .i64 (IntKind.wrap .i64 (n5 + (1 : Int)))], bs := [some { es := l6, fr := false, pt := false }, some { es := List.take k4 l7 ++ [AV.agg [AV.int .i64 (AV.geti x4), AV.int .i64 (AV.geti x5)]], fr := false, pt := false }] })))))))))))))))))) else gd (decide ((0 : Int) ≤ n5)) (Option.bind (l2[Int.toNat n5]?) (fun x0 => gd (Vw.fit (.one (.int .i64)) x0) (gd (decide ((0 : Int) ≤ IntKind.wrap .i64 (n5 + (1 : Int)))) (Option.bind (l2[Int.toNat (IntKind.wrap .i64 (n5 + (1 : Int)))]?) (fun x1 => gd (Vw.fit (.one (.int .i64)) x1) (gd (decide (k4 ≤ List.length l7)) (gd (gLen (List.length (List.take k4 l7) + 1) 16) (gd (gNo l6) (gd (gNo (List.take k4 l7 ++ [AV.agg [AV.int .i64 (AV.geti x0), AV.int .i64 (AV.geti x1)]])) (G 250 ({ vs := [AV.osl l0, AV.bool b1, AV.osl l2, AV.sl 2 1000000 0 0 k3, AV.sl 2 1000001 0 0 (List.length (List.take k4 l7) + 1), AV.int .i64 (IntKind.wrap .i64 (n5 + (1 : Int)))], bs := [some { es := l6, fr := false, pt := false }, some { es := List.take k4 l7 ++ [AV.agg [AV.int .i64 (AV.geti x0), AV.int .i64 (AV.geti x1)]], fr := false, pt := false }] })))))))))))) := by kernel_rfl
noncomputable abbrev Dr4add : EV → EM → Dn := dnV Try.prog 62 [66, 95, 96] [] []
theorem r4add_0 (a0 : List AV) (a1_0 : Int) (a1_1 : Int) : (Dr4add V M).stepK G K 0 ⟨[.osl a0, .agg [.int .i64 a1_0, .int .i64 a1_1]], []⟩ =
    Option.bind (V 66 [AV.osl a0]) (fun x0 => gd (fitA [.one .bool] x0) ((bif !AV.getb x0 then K (AV.tup [AV.osl [], AV.int .i64 (1 : Int)], []) else Option.bind (V 95 [AV.agg [AV.int .i64 a1_0, AV.int .i64 a1_1]]) (fun x1 => gd (fitA [.one .bool] x1) ((bif !AV.getb x1 then K (AV.tup [AV.osl [], AV.int .i64 (1 : Int)], []) else Option.bind (V 96 [AV.osl a0, AV.agg [AV.int .i64 a1_0, AV.int .i64 a1_1], AV.bool false]) (fun x2 => gd (fitA [.one .sl] x2) ((bif decide ((↑(List.length (AV.getl x2)) : Int) > (1000 : Int)) then K (AV.tup [AV.osl [], AV.int .i64 (4 : Int)], []) else K (AV.tup [AV.osl (AV.getl x2), AV.int .i64 (0 : Int)], [])))))))))) := by kernel_rfl
noncomputable abbrev Dr4cut : EV → EM → Dn := dnV Try.prog 65 [66, 95, 96] [] []
theorem r4cut_0 (a0 : List AV) (a1_0 : Int) (a1_1 : Int) : (Dr4cut V M).stepK G K 0 ⟨[.osl a0, .agg [.int .i64 a1_0, .int .i64 a1_1]], []⟩ =
    Option.bind (V 66 [AV.osl a0]) (fun x0 => gd (fitA [.one .bool] x0) ((bif !AV.getb x0 then K (AV.tup [AV.osl [], AV.int .i64 (1 : Int)], []) else Option.bind (V 95 [AV.agg [AV.int .i64 a1_0, AV.int .i64 a1_1]]) (fun x1 => gd (fitA [.one .bool] x1) ((bif !AV.getb x1 then K (AV.tup [AV.osl [], AV.int .i64 (1 : Int)], []) else Option.bind (V 96 [AV.osl a0, AV.agg [AV.int .i64 a1_0, AV.int .i64 a1_1], AV.bool true]) (fun x2 => gd (fitA [.one .sl] x2) ((bif decide ((↑(List.length (AV.getl x2)) : Int) > (1000 : Int)) then K (AV.tup [AV.osl [], AV.int .i64 (4 : Int)], []) else K (AV.tup [AV.osl (AV.getl x2), AV.int .i64 (0 : Int)], [])))))))))) := by kernel_rfl
end
theorem gI (k : IntKind) (n : Int) : (AV.int k n).geti = n := by cases k <;> rfl
theorem VT :
    (∀ {α β : Type} (a : α) (f : α → Option β), Option.bind (some a) f = f a) ∧
    (∀ (v w : Vw) (vs : List Vw) (xs : List AV), fitA (v :: w :: vs) (.tup xs) = fitR (v :: w :: vs) xs) ∧
    (∀ (v : Vw) (x : AV), fitA [v] x = v.fit x) ∧
    (fitA [] (.tup []) = true) ∧
    (∀ (v : Vw) (vs : List Vw) (x : AV) (xs : List AV), fitR (v :: vs) (x :: xs) = (v.fit x && fitR vs xs)) ∧
    (fitR [] [] = true) ∧
    (∀ (k : Kd) (x : AV), Vw.fit (.one k) x = ok1 k x) ∧
    (∀ (ks : List Kd) (cs : List AV), Vw.fit (.agg ks) (.agg cs) = okL ks cs) ∧
    (∀ (k : Kd) (ks : List Kd) (x : AV) (xs : List AV), okL (k :: ks) (x :: xs) = (ok1 k x && okL ks xs)) ∧
    (okL [] [] = true) ∧
    (∀ (k k' : IntKind) (n : Int), ok1 (.int k) (.int k' n) = decide (k = k')) ∧
    (∀ b : Bool, ok1 .bool (.bool b) = true) ∧
    (∀ l : List AV, ok1 .sl (.osl l) = true) ∧
    (decide True = true) ∧
    (∀ k : IntKind, decide (k = k) = true) ∧
    (∀ b : Bool, (b && b) = b) ∧
    (∀ {R : Type} (k : Option R), gd true k = k) ∧
    (∀ (cs : List AV) (i : Nat), ti (.tup cs) i = (cs.getD i .undef).geti) ∧
    (∀ (cs : List AV) (i : Nat), tl (.tup cs) i = (cs.getD i .undef).getl) ∧
    (∀ (cs : List AV) (i : Nat), tb (.tup cs) i = (cs.getD i .undef).getb) ∧
    (∀ l : List AV, (AV.tup l).gett = l) ∧
    (∀ l : List AV, (AV.agg l).getc = l) ∧
    (∀ (x : AV) (l : List AV) (d : AV), (x :: l).getD 0 d = x) ∧
    (∀ (x : AV) (l : List AV) (n : Nat) (d : AV), (x :: l).getD (n + 1) d = l.getD n d) ∧
    (∀ (k : IntKind) (n : Int), (AV.int k n).geti = n) ∧
    (∀ l : List AV, (AV.osl l).getl = l) ∧
    (∀ b : Bool, (AV.bool b).getb = b) ∧
    ((!true) = false) ∧
    ((!false) = true) ∧
    (∀ {α : Type} (a b : α), (bif true then a else b) = a) ∧
    (∀ {α : Type} (a b : α), (bif false then a else b) = b) ∧
    (∀ n : Int, (n == n) = true) ∧
    (∀ b : Bool, (b == b) = true) :=
  ⟨fun _ _ => rfl, fun _ _ _ _ => rfl, fun _ _ => rfl, rfl, fun _ _ _ _ => rfl, rfl, fun _ _ => rfl, fun _ _ => rfl, fun _ _ _ _ => rfl, rfl, fun _ _ _ => rfl, fun _ => rfl, fun _ => rfl, rfl, fun _ => decide_eq_true rfl, fun b => Bool.and_self b, fun _ => rfl, fun _ _ => rfl, fun _ _ => rfl, fun _ _ => rfl, fun _ => rfl, fun _ => rfl, fun _ _ _ => rfl, fun _ _ _ _ => rfl, gI, fun _ => rfl, fun _ => rfl, rfl, rfl, fun _ _ => rfl, fun _ _ => rfl, fun n => beq_self_eq_true n, fun b => beq_self_eq_true b⟩
theorem r4one_ok (s : Spn) : FnOk Try.prog 95 [s.av] (.bool s.one) := by
  refine fn_mk [] [] (by kernel_rfl) mixed (by kernel_rfl) (From.of ((r4one_0 _ _).trans ?_))
  have : s.one = decide (0 ≤ s.a ∧ s.a < s.b ∧ s.b ≤ 4611686018427387904) := rfl
  rw [this]
  by_cases h1 : 0 ≤ s.a <;> by_cases h2 : s.a < s.b <;> by_cases h3 : s.b ≤ 4611686018427387904 <;> simp [h1, h2, h3]
noncomputable def F_r4one : Fam Try.prog := { f := 95, ι := Spn, pre := fun _ => True, args := fun s => [s.av], res := fun s => .bool s.one, ok := fun s _ => r4one_ok s, inj := fun s t h => by rw [av_inj (List.cons.inj h).1] }
theorem r4may_loop {V : EV} {M : EM} (e : ∀ s : Spn, V 95 [s.av] = some (.bool s.one)) (l : List Spn) (hl : l.length ≤ 9223372036854775806) : ∀ (m : List Spn) (i : Nat) (p : Int), l.drop i = m → (p = if i = 0 then -1 else (pth l (i - 1)).b) →
    (Dr4may V M).From 26 ⟨[.osl (prows l), .int .i64 i], []⟩ = some (.bool (Rz p m && decide (l.length ≤ 1000)), [])
  | [], i, p, h, hp => by
    refine From.of ((r4may_1 _ _).trans ?_)
    have := drop_end h
    rw [prows_length, decide_eq_false (show ¬ (i : Int) < (l.length : Int) by omega), cond_false, show decide ((l.length : Int) ≤ 1000) = decide (l.length ≤ 1000) from decide_eq_decide.2 (by omega)]
    rfl
  | s :: m, i, p, h, hp => by
    obtain ⟨h1, h2, h3⟩ := drop_get h
    have ih := r4may_loop (V := V) (M := M) e l hl m (i + 1) s.b h3 (by
      rw [if_neg (by omega), Nat.add_sub_cancel]
      have : l[i] = s := by rw [List.getElem?_eq_getElem h2] at h1; exact Option.some.inj h1
      rw [← this, pth_get h2])
    have hx : (prows l)[i]? = some (.agg [.int .i64 s.a, .int .i64 s.b]) := by rw [prows_get, h1]; rfl
    have es : V 95 [.agg [.int .i64 s.a, .int .i64 s.b]] = some (.bool s.one) := e s
    refine From.of ((r4may_1 _ _).trans ?_)
    simp only [prows_length, show decide ((i : Int) < (l.length : Int)) = true from decide_eq_true (by omega), show decide ((0 : Int) ≤ (i : Int)) = true from decide_eq_true (by omega), Int.toNat_natCast, hx, ci_agg, es, w64 (n := (i : Int) + 1) (by omega) (by omega), VT]
    cases ho : s.one with
    | false => simp [Rz, ho]
    | true =>
      have hs := one_iff.1 ho
      by_cases c : i = 0
      · subst c
        rw [if_pos rfl] at hp
        simp only [show decide (((0 : Nat) : Int) > 0) = false from rfl, VT]
        refine Eq.trans ih ?_
        simp [Rz, ho, hp, show (-1 : Int) < s.a by omega]
      · rw [if_neg c] at hp
        have hy : (prows l)[i - 1]? = some (.agg [.int .i64 (pth l (i - 1)).a, .int .i64 (pth l (i - 1)).b]) := by rw [prows_get, List.getElem?_eq_getElem (by omega), pth_get]; rfl
        simp only [show decide ((i : Int) > 0) = true from decide_eq_true (by omega), w64 (n := (i : Int) - 1) (by omega) (by omega), show decide ((0 : Int) ≤ (i : Int) - 1) = true from decide_eq_true (by omega), show Int.toNat ((i : Int) - 1) = i - 1 by omega, hy, ci_agg, VT]
        by_cases d : s.a ≤ (pth l (i - 1)).b
        · simp [d, Rz, ho, hp, show ¬ (pth l (i - 1)).b < s.a by omega]
        · rw [decide_eq_false d, cond_false]
          refine Eq.trans ih ?_
          simp [Rz, ho, hp, show (pth l (i - 1)).b < s.a by omega]
theorem r4may_ok (l : List Spn) (hl : l.length ≤ 9223372036854775806) : FnOk Try.prog 66 [.osl (prows l)] (.bool (mayP l)) := by
  refine fn_mk [F_r4one] [] (by kernel_rfl) mixed (by kernel_rfl) (From.of ((r4may_0 _).trans ?_))
  refine (r4may_loop (fun s => envV_at F_r4one s trivial [] _ rfl) l hl l 0 (-1) rfl rfl).trans ?_
  unfold mayP; rw [Bool.and_comm]
noncomputable def F_r4may : Fam Try.prog := { f := 66, ι := List Spn, pre := fun l => l.length ≤ 9223372036854775806, args := fun l => [.osl (prows l)], res := fun l => .bool (mayP l), ok := r4may_ok, inj := fun s t h => by rw [prows_inj (AV.osl.inj (List.cons.inj h).1)] }
theorem memB_cons (s : Spn) (l : List Spn) (n : Int) : memB (s :: l) n = (decide (s.a ≤ n ∧ n < s.b) || memB l n) := by
  rw [Bool.eq_iff_iff, Bool.or_eq_true, memB_iff, memB_iff, mem_cons, decide_eq_true_eq]; rfl
theorem memB_nil (n : Int) : memB [] n = false := by rw [← Bool.not_eq_true, memB_iff]; exact mem_nil
theorem r4in_loop {V : EV} {M : EM} (l : List Spn) (hl : l.length ≤ 9223372036854775806) (n : Int) : ∀ (m : List Spn) (i : Nat), l.drop i = m →
    (Dr4in V M).From 26 ⟨[.osl (prows l), .int .i64 n, .int .i64 i], []⟩ = some (.bool (memB m n), [])
  | [], i, h => by
    refine From.of ((r4in_1 _ _ _).trans ?_)
    have := drop_end h
    rw [prows_length, decide_eq_false (show ¬ (i : Int) < (l.length : Int) by omega), cond_false, memB_nil]
  | s :: m, i, h => by
    obtain ⟨h1, h2, h3⟩ := drop_get h
    have ih := r4in_loop (V := V) (M := M) l hl n m (i + 1) h3
    have hx : (prows l)[i]? = some (.agg [.int .i64 s.a, .int .i64 s.b]) := by rw [prows_get, h1]; rfl
    refine From.of ((r4in_1 _ _ _).trans ?_)
    simp only [prows_length, show decide ((i : Int) < (l.length : Int)) = true from decide_eq_true (by omega), show decide ((0 : Int) ≤ (i : Int)) = true from decide_eq_true (by omega), Int.toNat_natCast, hx, ci_agg, w64 (n := (i : Int) + 1) (by omega) (by omega), VT]
    rw [memB_cons]
    by_cases c1 : s.a ≤ n
    · rw [decide_eq_true c1, cond_true]
      by_cases c2 : n < s.b
      · rw [decide_eq_true c2, cond_true, decide_eq_true ⟨c1, c2⟩]; rfl
      · rw [decide_eq_false c2, cond_false, decide_eq_false (fun x => c2 x.2), Bool.false_or]; exact ih
    · rw [decide_eq_false c1, cond_false, decide_eq_false (fun x => c1 x.1), Bool.false_or]; exact ih
theorem r4in_ok (l : List Spn) (hl : l.length ≤ 9223372036854775806) (n : Int) : FnOk Try.prog 63 [.osl (prows l), .int .i64 n] (.bool (memB l n)) :=
  fn_mk [] [] (by kernel_rfl) mixed (by kernel_rfl) (From.of ((r4in_0 _ _).trans (r4in_loop l hl n l 0 rfl)))
noncomputable def F_r4in : Fam Try.prog := { f := 63, ι := List Spn × Int, pre := fun p => p.1.length ≤ 9223372036854775806, args := fun p => [.osl (prows p.1), .int .i64 p.2], res := fun p => .bool (memB p.1 p.2), ok := fun p h => r4in_ok p.1 h p.2, inj := fun s t h => by rw [prows_inj (AV.osl.inj (List.cons.inj h).1), (AV.int.inj (List.cons.inj (List.cons.inj h).2).1).2] }
theorem r4same_loop {V : EV} {M : EM} (l : List Spn) (hl : l.length ≤ 9223372036854775806) : ∀ (m : List Spn) (i : Nat), l.drop i = m → (Dr4same V M).From 58 ⟨[.osl (prows l), .osl (prows l), .int .i64 i], []⟩ = some (.bool true, [])
  | [], i, h => by
    refine From.of ((r4same_1 _ _ _).trans ?_)
    have := drop_end h
    rw [prows_length, decide_eq_false (show ¬ (i : Int) < (l.length : Int) by omega), cond_false]
  | s :: m, i, h => by
    obtain ⟨h1, h2, h3⟩ := drop_get h
    have ih := r4same_loop (V := V) (M := M) l hl m (i + 1) h3
    have hx : (prows l)[i]? = some (.agg [.int .i64 s.a, .int .i64 s.b]) := by rw [prows_get, h1]; rfl
    refine From.of ((r4same_1 _ _ _).trans ?_)
    simp only [prows_length, show decide ((i : Int) < (l.length : Int)) = true from decide_eq_true (by omega), show decide ((0 : Int) ≤ (i : Int)) = true from decide_eq_true (by omega), Int.toNat_natCast, hx, ci_agg, w64 (n := (i : Int) + 1) (by omega) (by omega), VT]
    exact ih
theorem r4same_ok (l : List Spn) (hl : l.length ≤ 9223372036854775806) : FnOk Try.prog 56 [.osl (prows l), .osl (prows l)] (.bool true) :=
  fn_mk [] [] (by kernel_rfl) mixed (by kernel_rfl) (From.of ((r4same_0 _ _).trans (by rw [beq_self_eq_true]; exact r4same_loop l hl l 0 rfl)))
noncomputable def F_r4same : Fam Try.prog := { f := 56, ι := List Spn, pre := fun l => l.length ≤ 9223372036854775806, args := fun l => [.osl (prows l), .osl (prows l)], res := fun _ => .bool true, ok := r4same_ok, inj := fun _ _ _ => rfl }
def irows (xs : List Int) : List AV := xs.map (AV.int .i64)
theorem irows_length (xs : List Int) : (irows xs).length = xs.length := List.length_map _
theorem irows_get {xs : List Int} {i : Nat} (h : i < xs.length) : (irows xs)[i]? = some (.int .i64 (ith xs i)) := by unfold irows; rw [List.getElem?_map, List.getElem?_eq_getElem h, ith_get h]; rfl
theorem irows_inj : ∀ {l m : List Int}, irows l = irows m → l = m
  | [], [], _ => rfl
  | [], _ :: _, h => by cases h
  | _ :: _, [], h => by cases h
  | s :: l, t :: m, h => by
    have h : AV.int .i64 s :: irows l = AV.int .i64 t :: irows m := h
    rw [(AV.int.inj (List.cons.inj h).1).2, irows_inj (List.cons.inj h).2]
theorem gRow_i (l : List Int) : gRow 1 (irows l) = true := gRow_map (f := AV.int .i64) (fun _ => ⟨rfl, rfl⟩) l
theorem gFree_i (l : List Int) : gFree 1 (irows l) = true := gFree_map (f := AV.int .i64) (fun _ => ⟨rfl, rfl⟩) l
theorem gCel_i (l : List Int) : gCel 1 (irows l) = true := gCel_map (f := AV.int .i64) (fun _ => rfl) l
theorem irows_take (l : List Int) (n : Nat) : (irows l).take n = irows (l.take n) := List.map_take.symm
theorem irows_drop (l : List Int) (n : Nat) : (irows l).drop n = irows (l.drop n) := List.map_drop.symm
theorem irows_app (l m : List Int) : irows l ++ irows m = irows (l ++ m) := List.map_append.symm
theorem irows_one (n : Int) : [AV.int .i64 n] = irows [n] := rfl
theorem r4put_end {V : EV} {M : EM} (xs : List Int) (hl : xs.length ≤ 1000000) (n : Int) (k : Nat) (hk : k ≤ xs.length) : (Dr4put V M).From 61 ⟨[.osl (irows xs), .int .i64 n, .int .i64 k], []⟩ = some (.osl (irows (xs.take k ++ [n] ++ xs.drop k)), []) := by
  refine From.of ((r4put_3 _ _ _).trans ?_)
  have t1 : (irows (xs.take k)).take (xs.take k).length = irows (xs.take k) := by rw [irows_take, List.take_length]
  have t2 : (irows (xs.take k ++ [n])).take ((xs.take k).length + 1) = irows (xs.take k ++ [n]) := by rw [irows_take, List.take_of_length_le (by simp)]
  have t3 : (irows (xs.take k ++ [n] ++ xs.drop k)).take ((xs.take k).length + 1 + (xs.drop k).length) = irows (xs.take k ++ [n] ++ xs.drop k) := by rw [irows_take, List.take_of_length_le (by simp; omega)]
  have t4 : (irows xs).take xs.length = irows xs := by rw [irows_take, List.take_length]
  simp only [Int.toNat_natCast, irows_take, irows_length, List.drop_zero, Nat.zero_add, List.take_length, irows_one, irows_app, irows_drop, gCel_i, gRow_i, gFree_i, gd_true]
  have l1 : (xs.take k).length = k := by rw [List.length_take]; omega
  have l2 : (xs.drop k).length = xs.length - k := List.length_drop
  have m1 : List.take (k + 1) (List.take k xs ++ [n]) = List.take k xs ++ [n] := List.take_of_length_le (by simp; omega)
  have m2 : List.take (k + 1 + (xs.length - k)) (List.take k xs ++ [n] ++ List.drop k xs) = List.take k xs ++ [n] ++ List.drop k xs := List.take_of_length_le (by simp; omega)
  simp only [l1, l2, m1, List.length_append, List.length_cons, List.length_nil, Nat.zero_add, m2]
  rw [gd_of (decide_eq_true (by omega)), gd_of (gLen_of (by omega) (by omega)), gd_of (decide_eq_true (by omega)), gd_of (gLen_of (by omega) (by omega)), gd_of (decide_eq_true (by omega)), gd_of (decide_eq_true (by omega)), gd_of (gLen_of (by omega) (by omega)), gd_of (decide_eq_true (by omega))]
theorem r4put_mid {V : EV} {M : EM} (xs : List Int) (hl : xs.length ≤ 1000000) (n : Int) (k : Nat) (hk : k ≤ xs.length) : (Dr4put V M).From 14 ⟨[.osl (irows xs), .int .i64 n, .int .i64 k], []⟩ = some (.osl (irows (if 0 < k ∧ ith xs (k - 1) = n then xs else xs.take k ++ [n] ++ xs.drop k)), []) := by
  refine From.of ((r4put_2 _ _ _).trans ?_)
  have he := r4put_end (V := V) (M := M) xs hl n k hk
  by_cases c : k = 0
  · subst c
    rw [if_neg (by omega)]; exact he
  · simp only [show decide ((k : Int) > 0) = true from decide_eq_true (by omega), w64 (n := (k : Int) - 1) (by omega) (by omega), show decide ((0 : Int) ≤ (k : Int) - 1) = true from decide_eq_true (by omega), show Int.toNat ((k : Int) - 1) = k - 1 by omega, irows_get (show k - 1 < xs.length by omega), VT]
    by_cases d : ith xs (k - 1) = n
    · rw [if_pos ⟨by omega, d⟩, d, beq_self_eq_true, cond_true]
    · rw [if_neg (fun x => d x.2), show (ith xs (k - 1) == n) = false by simpa using d, cond_false]; exact he
theorem r4put_loop {V : EV} {M : EM} (xs : List Int) (hl : xs.length ≤ 1000000) (n : Int) : ∀ k, k ≤ xs.length → (Dr4put V M).From 28 ⟨[.osl (irows xs), .int .i64 n, .int .i64 k], []⟩ = (Dr4put V M).From 14 ⟨[.osl (irows xs), .int .i64 n, .int .i64 (atF xs n k)], []⟩
  | 0, _ => by refine From.of ((r4put_1 _ _ _).trans ?_); rfl
  | k + 1, h => by
    have ih := r4put_loop (V := V) (M := M) xs hl n k (by omega)
    refine From.of ((r4put_1 _ _ _).trans ?_)
    simp only [show decide (((k + 1 : Nat) : Int) > 0) = true from decide_eq_true (by omega), w64 (n := ((k + 1 : Nat) : Int) - 1) (by omega) (by omega), show decide ((0 : Int) ≤ ((k + 1 : Nat) : Int) - 1) = true from decide_eq_true (by omega), show Int.toNat (((k + 1 : Nat) : Int) - 1) = k by omega, irows_get (show k < xs.length by omega), VT]
    unfold atF
    by_cases d : ith xs k > n
    · rw [decide_eq_true d, cond_true, if_pos d, show ((k + 1 : Nat) : Int) - 1 = (k : Int) by omega]; exact ih
    · rw [decide_eq_false d, cond_false, if_neg d]
theorem r4putn_ok (n : Int) : FnOk Try.prog 104 [.nl, .int .i64 n] (.osl (irows [n])) := fn_mk [] [] (by kernel_rfl) mixed (by kernel_rfl) (From.of ((r4putn_0 _).trans rfl))
theorem r4put_ok (xs : List Int) (hl : xs.length ≤ 1000000) (n : Int) : FnOk Try.prog 104 [.osl (irows xs), .int .i64 n] (.osl (irows (putL xs n))) :=
  fn_mk [] [] (by kernel_rfl) mixed (by kernel_rfl) (From.of ((r4put_0 _ _).trans (by rw [irows_length]; exact (r4put_loop xs hl n xs.length (Nat.le_refl _)).trans (r4put_mid xs hl n _ (atF_spec xs n xs.length).1))))
def putA : Option (List Int) × Int → List AV
  | (none, n) => [.nl, .int .i64 n]
  | (some xs, n) => [.osl (irows xs), .int .i64 n]
def putO : Option (List Int) × Int → AV
  | (none, n) => .osl (irows [n])
  | (some xs, n) => .osl (irows (putL xs n))
theorem putA_inj : ∀ {s t : Option (List Int) × Int}, putA s = putA t → s = t
  | (none, n), (none, m), h => by rw [(AV.int.inj (List.cons.inj (List.cons.inj h).2).1).2]
  | (some xs, n), (some ys, m), h => by rw [(AV.int.inj (List.cons.inj (List.cons.inj h).2).1).2, irows_inj (AV.osl.inj (List.cons.inj h).1)]
  | (none, n), (some ys, m), h => by cases (List.cons.inj h).1
  | (some xs, n), (none, m), h => by cases (List.cons.inj h).1
noncomputable def F_r4put : Fam Try.prog := { f := 104, ι := Option (List Int) × Int, pre := fun p => ∀ xs, p.1 = some xs → xs.length ≤ 1000000, args := putA, res := putO, ok := fun p h => (match p, h with | (none, n), _ => r4putn_ok n | (some xs, n), h => r4put_ok xs (h xs rfl) n), inj := fun s t h => by rw [putA_inj h] }
theorem putL_nil (n : Int) : putL [] n = [n] := by unfold putL; rfl
theorem putL_len (xs : List Int) (n : Int) : (putL xs n).length ≤ xs.length + 1 := by
  unfold putL; split
  · omega
  · simp only [List.length_append, List.length_take, List.length_drop, List.length_cons, List.length_nil]; omega
def enC (l : List Spn) (o : Option (List Int)) (i : Nat) : CS := ⟨[.osl (prows l), (match o with | none => .nl | some xs => .osl (irows xs)), .int .i64 i], []⟩
theorem r4ends_loop {V : EV} {M : EM} (e : ∀ p : Option (List Int) × Int, (∀ xs, p.1 = some xs → xs.length ≤ 1000000) → V 104 (putA p) = some (putO p)) (l : List Spn) (hl : l.length ≤ 100000) : ∀ (m : List Spn) (i : Nat) (o : Option (List Int)), l.drop i = m → (o.getD []).length ≤ 2 * i →
    (Dr4ends V M).From 58 (enC l o i) = some (.osl (irows (m.foldl endsF (o.getD []))), [])
  | [], i, o, h, hi => by
    have := drop_end h
    rcases o with _ | xs
    · refine From.of ((r4ends_1 _ _).trans ?_)
      rw [prows_length, decide_eq_false (show ¬ (i : Int) < (l.length : Int) by omega), cond_false]; rfl
    · refine From.of ((r4ends_2 _ _ _).trans ?_)
      rw [prows_length, decide_eq_false (show ¬ (i : Int) < (l.length : Int) by omega), cond_false]; rfl
  | s :: m, i, o, h, hi => by
    obtain ⟨h1, h2, h3⟩ := drop_get h
    have hx : (prows l)[i]? = some (.agg [.int .i64 s.a, .int .i64 s.b]) := by rw [prows_get, h1]; rfl
    have e2 : ∀ xs : List Int, xs.length ≤ 1000000 → ∀ n, V 104 [.osl (irows xs), .int .i64 n] = some (.osl (irows (putL xs n))) := fun xs hx n => e (some xs, n) fun ys h => by cases h; exact hx
    have ih := fun xs (hx : xs.length ≤ 2 * (i + 1)) => r4ends_loop (V := V) (M := M) e l hl m (i + 1) (some xs) h3 hx
    rcases o with _ | xs
    · have e1 : V 104 [.nl, .int .i64 s.a] = some (.osl (irows [s.a])) := e (none, s.a) fun ys h => by cases h
      refine From.of ((r4ends_1 _ _).trans ?_)
      simp only [prows_length, show decide ((i : Int) < (l.length : Int)) = true from decide_eq_true (by omega), show decide ((0 : Int) ≤ (i : Int)) = true from decide_eq_true (by omega), Int.toNat_natCast, hx, ci_agg, e1, e2 [s.a] (by simp) s.b, w64 (n := (i : Int) + 1) (by omega) (by omega), VT]
      have := putL_len [s.a] s.b
      refine (ih (putL [s.a] s.b) (by simp at this; omega)).trans ?_
      show _ = some (AV.osl (irows (m.foldl endsF (endsF [] s))), [])
      unfold endsF
      rw [putL_nil]; rfl
    · have p1 := putL_len xs s.a
      have p2 := putL_len (putL xs s.a) s.b
      have hi' : xs.length ≤ 2 * i := hi
      refine From.of ((r4ends_2 _ _ _).trans ?_)
      simp only [prows_length, show decide ((i : Int) < (l.length : Int)) = true from decide_eq_true (by omega), show decide ((0 : Int) ≤ (i : Int)) = true from decide_eq_true (by omega), Int.toNat_natCast, hx, ci_agg, e2 xs (by omega) s.a, e2 (putL xs s.a) (by omega) s.b, w64 (n := (i : Int) + 1) (by omega) (by omega), VT]
      exact ih _ (by omega)
theorem r4ends_ok (l : List Spn) (hl : l.length ≤ 100000) : FnOk Try.prog 103 [.osl (prows l)] (.osl (irows (endsL l))) :=
  fn_mk [F_r4put] [] (by kernel_rfl) mixed (by kernel_rfl) (From.of ((r4ends_0 _).trans (r4ends_loop (fun p h => envV_at F_r4put p h [] _ rfl) l hl l 0 none rfl (Nat.zero_le _))))
noncomputable def F_r4ends : Fam Try.prog := { f := 103, ι := List Spn, pre := fun l => l.length ≤ 100000, args := fun l => [.osl (prows l)], res := fun l => .osl (irows (endsL l)), ok := r4ends_ok, inj := fun s t h => by rw [prows_inj (AV.osl.inj (List.cons.inj h).1)] }
def mdC (l : List Spn) (s : Spn) (wo : Bool) (e : List Int) (out : List Spn) (i : Nat) : CS := ⟨[.osl (prows l), .bool wo, .osl (irows e), .sl 2 1000000 0 0 1, nsl 1000001 out, .int .i64 i], some ⟨prows [s], false, false⟩ :: nbl out⟩
theorem nsl_ne {out : List Spn} (h : out ≠ []) (i : Nat) : nsl i out = .sl 2 i 0 0 out.length ∧ nbl out = [some ⟨prows out, false, false⟩] := by unfold nsl nbl; rw [if_neg h, if_neg h]; exact ⟨rfl, rfl⟩
theorem gNo_rows4 (l : List Spn) : gNo (prows l) = true := gNo_map (f := Spn.av) (fun _ => rfl) l
theorem made_step {V : EV} {M : EM} (l : List Spn) (s : Spn) (wo : Bool) (e : List Int) (he : e.length ≤ 1000000) (out : List Spn) (ho : out.length ≤ 1000000) (i : Nat) (hi : i + 1 < e.length) :
    (Dr4made V M).From 64077 (mdC l s wo e out i) = (Dr4made V M).From 250 (mdC l s wo e (stepM out (ith e i) (ith e (i + 1))) (i + 1)) := by
  have i0 : decide ((0 : Int) ≤ (i : Int)) = true := decide_eq_true (by omega)
  have i1 : IntKind.wrap .i64 ((i : Int) + 1) = ((i + 1 : Nat) : Int) := w64 (by omega) (by omega)
  have i2 : decide ((0 : Int) ≤ ((i + 1 : Nat) : Int)) = true := decide_eq_true (by omega)
  have x0 := irows_get (show i < e.length by omega)
  have x1 := irows_get (show i + 1 < e.length by omega)
  unfold mdC
  by_cases c : out = []
  · subst c
    refine From.of ((r4made_2 _ _ _ _ _ _).trans ?_)
    simp only [i0, i1, i2, Int.toNat_natCast, x0, x1, gNo_rows4, VT]
    rfl
  · have hpos : 0 < out.length := by rcases out with _ | ⟨t, r⟩; exact absurd rfl c; simp
    obtain ⟨n1, n2⟩ := nsl_ne c 1000001
    rw [n1, n2]
    refine From.of ((r4made_4 _ _ _ _ _ _ _ _).trans ?_)
    have k0 : decide ((out.length : Int) > 0) = true := decide_eq_true (by omega)
    have k1 : IntKind.wrap .i64 ((out.length : Int) - 1) = ((out.length - 1 : Nat) : Int) := by rw [w64 (by omega) (by omega)]; omega
    have k2 : decide ((0 : Int) ≤ ((out.length - 1 : Nat) : Int) ∧ ((out.length - 1 : Nat) : Int) < (out.length : Int)) = true := decide_eq_true (by omega)
    have xl : (prows out)[out.length - 1]? = some (.agg [.int .i64 (pth out (out.length - 1)).a, .int .i64 (pth out (out.length - 1)).b]) := by rw [prows_get, List.getElem?_eq_getElem (by omega), pth_get]; rfl
    simp only [i0, i1, i2, k0, k1, k2, Int.toNat_natCast, Nat.zero_add, x0, x1, xl, ci_agg, gNo_rows4, prows_length, VT]
    unfold stepM
    by_cases d : (pth out (out.length - 1)).b = ith e i
    · rw [if_pos ⟨hpos, d⟩, d, beq_self_eq_true, cond_true]
      have hs : (prows out).set (out.length - 1) (.agg [.int .i64 (pth out (out.length - 1)).a, .int .i64 (ith e (i + 1))]) = prows (out.set (out.length - 1) ⟨(pth out (out.length - 1)).a, ith e (i + 1)⟩) := by
        unfold prows; rw [List.map_set]; rfl
      have hne : out.set (out.length - 1) ⟨(pth out (out.length - 1)).a, ith e (i + 1)⟩ ≠ [] := by
        intro h; have := congrArg List.length h; rw [List.length_set] at this; simp at this; exact c this
      obtain ⟨m1, m2⟩ := nsl_ne hne 1000001
      rw [hs, gNo_rows4, gd_true, m1, m2, List.length_set]
    · rw [if_neg (fun x => d x.2), show ((pth out (out.length - 1)).b == ith e i) = false by simpa using d, cond_false]
      have ht : (prows out).take out.length = prows out := take_rows out
      obtain ⟨m1, m2⟩ := nsl_ne (out := out ++ [⟨ith e i, ith e (i + 1)⟩]) (by simp) 1000001
      rw [m1, m2, ht, rows_two ⟨ith e i, ith e (i + 1)⟩, gNo_rows4, prows_length, gd_of (decide_eq_true (Nat.le_refl _)), gd_of (gLen_of (by omega) (by omega)), gd_true, List.length_append]
      rfl
theorem stepM_len (out : List Spn) (x y : Int) : (stepM out x y).length ≤ out.length + 1 := by
  unfold stepM; split
  · rw [List.length_set]; omega
  · simp
theorem made_loop {V : EV} {M : EM} (l : List Spn) (s : Spn) (wo : Bool) (e : List Int) (he : e.length ≤ 500000) (e1 : ∀ n, V 63 [.osl (prows l), .int .i64 n] = some (.bool (memB l n))) (e2 : ∀ n, V 63 [.osl (prows [s]), .int .i64 n] = some (.bool (memB [s] n))) :
    ∀ (n i : Nat) (out : List Spn), n + i = e.length → out.length ≤ i → (Dr4made V M).From 250 (mdC l s wo e out i) = some (.osl (prows (madeF (keepM l s wo) (e.drop i) out)), [])
  | n, i, out, hi, ho => by
    have i0 : decide ((0 : Int) ≤ (i : Int)) = true := decide_eq_true (by omega)
    have i1 : IntKind.wrap .i64 ((i : Int) + 1) = ((i + 1 : Nat) : Int) := w64 (by omega) (by omega)
    by_cases c : i + 1 < e.length
    · obtain ⟨n, rfl⟩ : ∃ m, n = m + 1 := ⟨n - 1, by omega⟩
      have ih := fun out (h : out.length ≤ i + 1) => made_loop (V := V) (M := M) l s wo e he e1 e2 n (i + 1) out (by omega) h
      have ms := made_step (V := V) (M := M) l s wo e (by omega) out (by omega) i c
      have x0 := irows_get (show i < e.length by omega)
      have ed : e.drop i = ith e i :: ith e (i + 1) :: e.drop (i + 2) := by rw [List.drop_eq_getElem_cons (by omega), List.drop_eq_getElem_cons c, ith_get, ith_get]
      have fin : (Dr4made V M).From 250 (mdC l s wo e out i) = if keepM l s wo (ith e i) = true then (Dr4made V M).From 64077 (mdC l s wo e out i) else (Dr4made V M).From 250 (mdC l s wo e out (i + 1)) := by
        have c1 : decide (((i + 1 : Nat) : Int) < (e.length : Int)) = true := decide_eq_true (by omega)
        have ht : (prows [s]).take 1 = prows [s] := rfl
        have hl1 : (prows [s]).length = 1 := rfl
        unfold mdC keepM
        by_cases d : out = []
        · subst d
          refine From.of ((r4made_1 _ _ _ _ _ _).trans ?_)
          simp only [i0, i1, c1, irows_length, Int.toNat_natCast, Nat.zero_add, x0, e1, e2, ht, hl1, List.drop_zero, Nat.le_refl, gFree_rows, gNo_rows4, VT]
          cases wo <;> cases memB l (ith e i) <;> cases memB [s] (ith e i) <;> rfl
        · obtain ⟨n1, n2⟩ := nsl_ne d 1000001
          rw [n1, n2]
          refine From.of ((r4made_3 _ _ _ _ _ _ _ _).trans ?_)
          simp only [i0, i1, c1, irows_length, Int.toNat_natCast, Nat.zero_add, x0, e1, e2, ht, hl1, List.drop_zero, Nat.le_refl, gFree_rows, gNo_rows4, VT]
          cases wo <;> cases memB l (ith e i) <;> cases memB [s] (ith e i) <;> rfl
      rw [fin, ms, ed]
      have ed2 : ith e (i + 1) :: e.drop (i + 2) = e.drop (i + 1) := by rw [List.drop_eq_getElem_cons c, ith_get]
      show _ = some (AV.osl (prows (madeF (keepM l s wo) (ith e (i + 1) :: e.drop (i + 2)) (if keepM l s wo (ith e i) = true then stepM out (ith e i) (ith e (i + 1)) else out))), [])
      rw [ed2]
      have := stepM_len out (ith e i) (ith e (i + 1))
      split
      · exact ih _ (by omega)
      · exact ih _ (by omega)
    · have c1 : decide (((i + 1 : Nat) : Int) < (e.length : Int)) = false := decide_eq_false (by omega)
      have em : madeF (keepM l s wo) (e.drop i) out = out := by
        have hlen : (e.drop i).length ≤ 1 := by rw [List.length_drop]; omega
        generalize e.drop i = q at *
        rcases q with _ | ⟨x, _ | ⟨y, r⟩⟩
        · rfl
        · rfl
        · simp at hlen
      rw [em]
      unfold mdC
      by_cases d : out = []
      · subst d
        refine From.of ((r4made_1 _ _ _ _ _ _).trans ?_)
        simp only [i1, c1, irows_length, VT]
        rfl
      · obtain ⟨n1, n2⟩ := nsl_ne d 1000001
        rw [n1, n2]
        refine From.of ((r4made_3 _ _ _ _ _ _ _ _).trans ?_)
        simp only [i1, c1, irows_length, VT, List.drop_zero, take_rows, Nat.zero_add, prows_length, Nat.le_refl, gFree_rows]
theorem r4made_ok (l : List Spn) (hl : l.length ≤ 90000) (s : Spn) (wo : Bool) : FnOk Try.prog 96 [.osl (prows l), s.av, .bool wo] (.osl (prows (madeL l s wo))) := by
  refine fn_mk [F_r4in, F_r4ends] [] (by kernel_rfl) mixed (by kernel_rfl) (From.of ((r4made_0 _ _ _ _).trans ?_))
  have l1 : (prows l).length = l.length := prows_length l
  have t2 : (prows (l ++ [s])).take (l.length + 1) = prows (l ++ [s]) := List.take_of_length_le (by simp)
  have hen := envV_at F_r4ends (l ++ [s]) (by show (l ++ [s]).length ≤ _; simp; omega) [F_r4in] [] rfl
  have hen' : envV [F_r4in, F_r4ends] 103 [.osl (prows (l ++ [s]))] = some (.osl (irows (endsL (l ++ [s])))) := hen
  simp only [gRow_rows, l1, Nat.zero_add, take_rows, List.drop_zero, rows_two s, t2, gFree_rows, hen', VT]
  rw [gd_of (gLen_of (by omega) (by omega)), gd_of (decide_eq_true (Nat.le_refl _)), gd_of (gLen_of (by omega) (by omega)), gd_of (decide_eq_true (by simp))]
  have h3 := (ends_spec (l ++ [s])).2.2
  refine (made_loop l s wo (endsL (l ++ [s])) (by simp at h3; omega) (fun n => envV_at F_r4in (l, n) (by show l.length ≤ _; omega) [] _ rfl) (fun n => envV_at F_r4in ([s], n) (by show 1 ≤ _; omega) [] _ rfl) (endsL (l ++ [s])).length 0 [] rfl (Nat.le_refl _)).trans ?_
  rfl
noncomputable def F_r4made : Fam Try.prog := { f := 96, ι := List Spn × Spn × Bool, pre := fun p => p.1.length ≤ 90000, args := fun p => [.osl (prows p.1), p.2.1.av, .bool p.2.2], res := fun p => .osl (prows (madeL p.1 p.2.1 p.2.2)), ok := fun p h => r4made_ok p.1 h p.2.1 p.2.2, inj := fun s t h => by rw [prows_inj (AV.osl.inj (List.cons.inj h).1), av_inj (List.cons.inj (List.cons.inj h).2).1, AV.bool.inj (List.cons.inj (List.cons.inj (List.cons.inj h).2).2).1] }
theorem r4add_ok (l : List Spn) (hl : l.length ≤ 90000) (s : Spn) : FnOk Try.prog 62 [.osl (prows l), s.av] (.tup [.osl (prows (addR l s)), .int .i64 (addE l s)]) := by
  refine fn_mk [F_r4may, F_r4one, F_r4made] [] (by kernel_rfl) mixed (by kernel_rfl) (From.of ((r4add_0 _ _ _).trans ?_))
  have q1 : envV [F_r4may, F_r4one, F_r4made] 66 [.osl (prows l)] = some (.bool (mayP l)) := envV_at F_r4may l (by show l.length ≤ _; omega) [] _ rfl
  have q2 : envV [F_r4may, F_r4one, F_r4made] 95 [.agg [.int .i64 s.a, .int .i64 s.b]] = some (.bool s.one) := envV_at F_r4one s trivial [F_r4may] _ rfl
  have q3 : envV [F_r4may, F_r4one, F_r4made] 96 [.osl (prows l), .agg [.int .i64 s.a, .int .i64 s.b], .bool false] = some (.osl (prows (madeL l s false))) := envV_at F_r4made (l, s, false) hl [F_r4may, F_r4one] _ rfl
  simp only [q1, VT]
  unfold addR addE
  cases h1 : mayP l with
  | false => rfl
  | true =>
    simp only [q2, VT]
    cases h2 : s.one with
    | false => rfl
    | true =>
      simp only [q3, prows_length, VT]
      rw [made_add (may_iff.1 h1).2 (one_iff.1 h2)]
      by_cases c : (addL l s).length > 1000
      · rw [decide_eq_true (show ((addL l s).length : Int) > 1000 by omega)]; simp [c, prows]
      · rw [decide_eq_false (show ¬ ((addL l s).length : Int) > 1000 by omega)]; simp [c, prows]
noncomputable def F_r4add : Fam Try.prog := { f := 62, ι := List Spn × Spn, pre := fun p => p.1.length ≤ 90000, args := fun p => [.osl (prows p.1), p.2.av], res := fun p => .tup [.osl (prows (addR p.1 p.2)), .int .i64 (addE p.1 p.2)], ok := fun p h => r4add_ok p.1 h p.2, inj := fun s t h => by rw [prows_inj (AV.osl.inj (List.cons.inj h).1), av_inj (List.cons.inj (List.cons.inj h).2).1] }
theorem r4cut_ok (l : List Spn) (hl : l.length ≤ 90000) (s : Spn) : FnOk Try.prog 65 [.osl (prows l), s.av] (.tup [.osl (prows (cutR l s)), .int .i64 (cutE l s)]) := by
  refine fn_mk [F_r4may, F_r4one, F_r4made] [] (by kernel_rfl) mixed (by kernel_rfl) (From.of ((r4cut_0 _ _ _).trans ?_))
  have q1 : envV [F_r4may, F_r4one, F_r4made] 66 [.osl (prows l)] = some (.bool (mayP l)) := envV_at F_r4may l (by show l.length ≤ _; omega) [] _ rfl
  have q2 : envV [F_r4may, F_r4one, F_r4made] 95 [.agg [.int .i64 s.a, .int .i64 s.b]] = some (.bool s.one) := envV_at F_r4one s trivial [F_r4may] _ rfl
  have q3 : envV [F_r4may, F_r4one, F_r4made] 96 [.osl (prows l), .agg [.int .i64 s.a, .int .i64 s.b], .bool true] = some (.osl (prows (madeL l s true))) := envV_at F_r4made (l, s, true) hl [F_r4may, F_r4one] _ rfl
  simp only [q1, VT]
  unfold cutR cutE
  cases h1 : mayP l with
  | false => rfl
  | true =>
    simp only [q2, VT]
    cases h2 : s.one with
    | false => rfl
    | true =>
      simp only [q3, prows_length, VT]
      rw [made_cut (may_iff.1 h1).2 (one_iff.1 h2)]
      by_cases c : (cutL l s).length > 1000
      · rw [decide_eq_true (show ((cutL l s).length : Int) > 1000 by omega)]; simp [c, prows]
      · rw [decide_eq_false (show ¬ ((cutL l s).length : Int) > 1000 by omega)]; simp [c, prows]
noncomputable def F_r4cut : Fam Try.prog := { f := 65, ι := List Spn × Spn, pre := fun p => p.1.length ≤ 90000, args := fun p => [.osl (prows p.1), p.2.av], res := fun p => .tup [.osl (prows (cutR p.1 p.2)), .int .i64 (cutE p.1 p.2)], ok := fun p h => r4cut_ok p.1 h p.2, inj := fun s t h => by rw [prows_inj (AV.osl.inj (List.cons.inj h).1), av_inj (List.cons.inj (List.cons.inj h).2).1] }
end Vai.L04
