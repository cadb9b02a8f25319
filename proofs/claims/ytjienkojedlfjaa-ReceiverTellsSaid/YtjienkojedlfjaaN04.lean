import Derived.Test.YtjienkojedlfjaaNP
namespace Vai.L04
open Go Go.Proofs Vai
set_option maxRecDepth 100000
set_option linter.unusedVariables false
set_option linter.unusedSimpArgs false
theorem mixed : Try.prog.follows .mixedOrders = true := by kernel_rfl
section
variable {R : Type} {V : EV} {M : EM} {G : Nat → CS → Option R} {K : Res → Option R}
noncomputable abbrev Done : EV → EM → Dn := dnV Try.prog 90 [] [] []
theorem one_0 (a0_0 : Int) (a0_1 : Int) : (Done V M).stepK G K 0 ⟨[.agg [.int .i64 a0_0, .int .i64 a0_1]], []⟩ =
    (bif decide (a0_0 ≥ (0 : Int)) then (bif decide (a0_0 < a0_1) then K (AV.bool (decide (a0_1 ≤ (4611686018427387904 : Int))), []) else K (AV.bool false, [])) else K (AV.bool false, [])) := by kernel_rfl
noncomputable abbrev Dmay : EV → EM → Dn := dnV Try.prog 57 [90] [] [(58, [0, 3, 6, 7, 8])]
theorem may_0 (a0 : List AV) : (Dmay V M).stepK G K 0 ⟨[.osl a0], []⟩ =
    G 58 ({ vs := [AV.osl a0, AV.int .i64 (-1 : Int), AV.osl a0, AV.int .i64 (↑(List.length a0) : Int), AV.int .i64 (0 : Int)], bs := [] }) := by kernel_rfl
theorem may_1 (l0 : List AV) (n1 : Int) (l2 : List AV) (n3 : Int) (n4 : Int) : (Dmay V M).stepK G K 58 ⟨[(.osl l0), (.int .i64 n1), (.osl l2), (.int .i64 n3), (.int .i64 n4)], []⟩ =
    (bif decide (n4 < n3) then gd (decide ((0 : Int) ≤ n4)) (Option.bind (l2[Int.toNat n4]?) (fun x0 => gd (Vw.fit (.agg [.int .i64, .int .i64]) x0) (Option.bind (V 90 [AV.agg [AV.int .i64 (ci x0 0), AV.int .i64 (ci x0 1)]]) (fun x1 => gd (fitA [.one .bool] x1) ((bif !AV.getb x1 then K (AV.bool false, []) else (bif decide (ci x0 0 ≤ n1) then K (AV.bool false, []) else G 58 ({ vs := [AV.osl l0, AV.int .i64 (ci x0 1), AV.osl l2, AV.int .i64 n3, AV.int .i64 (IntKind.wrap .i64 (n4 + (1 : Int)))], bs := [] })))))))) else K (AV.bool (decide ((↑(List.length l0) : Int) ≤ (1000 : Int))), [])) := by kernel_rfl
noncomputable abbrev Dgap : EV → EM → Dn := dnV Try.prog 59 [57] [] [(122, [1, 12, 13, 14])]
theorem gap_0 (a0 : List AV) (a1 : Int) : (Dgap V M).stepK G K 0 ⟨[.osl a0, .int .i64 a1], []⟩ =
    Option.bind (V 57 [AV.osl a0]) (fun x0 => gd (fitA [.one .bool] x0) ((bif !AV.getb x0 then K (AV.int .i64 (0 : Int), []) else G 122 ({ vs := [AV.int .i64 (if (0 : Int) > a1 then (0 : Int) else a1), AV.osl a0, AV.int .i64 (↑(List.length a0) : Int), AV.int .i64 (0 : Int)], bs := [] })))) := by kernel_rfl
theorem gap_1 (n0 : Int) (l1 : List AV) (n2 : Int) (n3 : Int) : (Dgap V M).stepK G K 122 ⟨[(.int .i64 n0), (.osl l1), (.int .i64 n2), (.int .i64 n3)], []⟩ =
    (bif decide (n3 < n2) then gd (decide ((0 : Int) ≤ n3)) (Option.bind (l1[Int.toNat n3]?) (fun x0 => gd (Vw.fit (.agg [.int .i64, .int .i64]) x0) ((bif decide (ci x0 0 ≤ n0) then (bif decide (n0 < ci x0 1) then G 122 ({ vs := [AV.int .i64 (ci x0 1), AV.osl l1, AV.int .i64 n2, AV.int .i64 (IntKind.wrap .i64 (n3 + (1 : Int)))], bs := [] }) else G 122 ({ vs := [AV.int .i64 n0, AV.osl l1, AV.int .i64 n2, AV.int .i64 (IntKind.wrap .i64 (n3 + (1 : Int)))], bs := [] })) else G 122 ({ vs := [AV.int .i64 n0, AV.osl l1, AV.int .i64 n2, AV.int .i64 (IntKind.wrap .i64 (n3 + (1 : Int)))], bs := [] }))))) else K (AV.int .i64 n0, [])) := by kernel_rfl
noncomputable abbrev Dsize : EV → EM → Dn := dnV Try.prog 55 [57] [] [(122, [3, 9, 10, 11])]
theorem size_0 (a0 : List AV) : (Dsize V M).stepK G K 0 ⟨[.osl a0], []⟩ =
    Option.bind (V 57 [AV.osl a0]) (fun x0 => gd (fitA [.one .bool] x0) ((bif !AV.getb x0 then K (AV.int .i64 (0 : Int), []) else G 122 ({ vs := [AV.int .i64 (0 : Int), AV.osl a0, AV.int .i64 (↑(List.length a0) : Int), AV.int .i64 (0 : Int)], bs := [] })))) := by kernel_rfl
theorem size_1 (n0 : Int) (l1 : List AV) (n2 : Int) (n3 : Int) : (Dsize V M).stepK G K 122 ⟨[(.int .i64 n0), (.osl l1), (.int .i64 n2), (.int .i64 n3)], []⟩ =
    (bif decide (n3 < n2) then gd (decide ((0 : Int) ≤ n3)) (Option.bind (l1[Int.toNat n3]?) (fun x0 => gd (Vw.fit (.agg [.int .i64, .int .i64]) x0) (G 122 ({ vs := [AV.int .i64 (IntKind.wrap .i64 (n0 + IntKind.wrap .i64 (ci x0 1 - ci x0 0))), AV.osl l1, AV.int .i64 n2, AV.int .i64 (IntKind.wrap .i64 (n3 + (1 : Int)))], bs := [] })))) else K (AV.int .i64 n0, [])) := by kernel_rfl
noncomputable abbrev Dtold : EV → EM → Dn := dnV Try.prog 91 [] [] []
theorem told_0 (a0 : List AV) : (Dtold V M).stepK G K 0 ⟨[.osl a0], []⟩ =
    (bif decide ((↑(List.length a0) : Int) > (1000 : Int)) then K (AV.tup [AV.osl [], AV.int .i64 (4 : Int)], []) else K (AV.tup [AV.osl a0, AV.int .i64 (0 : Int)], [])) := by kernel_rfl
noncomputable abbrev Dadd : EV → EM → Dn := dnV Try.prog 53 [57, 90, 91] [] [(442, [3, 6, 7, 18, 19, 20])]
theorem add_0 (a0 : List AV) (a1_0 : Int) (a1_1 : Int) : (Dadd V M).stepK G K 0 ⟨[.osl a0, .agg [.int .i64 a1_0, .int .i64 a1_1]], []⟩ =
    Option.bind (V 57 [AV.osl a0]) (fun x0 => gd (fitA [.one .bool] x0) ((bif !AV.getb x0 then K (AV.tup [AV.osl [], AV.int .i64 (1 : Int)], []) else Option.bind (V 90 [AV.agg [AV.int .i64 a1_0, AV.int .i64 a1_1]]) (fun x1 => gd (fitA [.one .bool] x1) ((bif !AV.getb x1 then K (AV.tup [AV.osl [], AV.int .i64 (1 : Int)], []) else G 442 ({ vs := [AV.ptr 1000000 0 0 0, AV.nl, AV.nl, AV.osl a0, AV.int .i64 (↑(List.length a0) : Int), AV.int .i64 (0 : Int)], bs := [some { es := [AV.agg [AV.int .i64 a1_0, AV.int .i64 a1_1]], fr := false, pt := true }] }))))))) := by kernel_rfl
theorem add_1 (l0 : List AV) (n1 : Int) (n2 : Int) (n3 : Int) (n4 : Int) : (Dadd V M).stepK G K 442 ⟨[(.ptr 1000000 0 0 0), .nl, .nl, (.osl l0), (.int .i64 n1), (.int .i64 n2)], [some ⟨[(.agg [(.int .i64 n3), (.int .i64 n4)])], false, true⟩]⟩ =
    (bif decide (n2 < n1) then gd (decide ((0 : Int) ≤ n2)) (Option.bind (l0[Int.toNat n2]?) (fun x1 => gd (Vw.fit (.agg [.int .i64, .int .i64]) x1) ((bif decide (ci x1 1 < n3) then G 442 ({ vs := [AV.ptr 1000000 0 0 0, AV.sl 2 1000001 0 0 1, AV.nl, AV.osl l0, AV.int .i64 n1, AV.int .i64 (IntKind.wrap .i64 (n2 + (1 : Int)))], bs := [some { es := [AV.agg [AV.int .i64 n3, AV.int .i64 n4]], fr := false, pt := true }, some { es := [AV.agg [AV.int .i64 (ci x1 0), AV.int .i64 (ci x1 1)]], fr := false, pt := false }] }) else (bif decide (ci x1 0 > n4) then G 442 ({ vs := [AV.ptr 1000000 0 0 0, AV.nl, AV.sl 2 1000001 0 0 1, AV.osl l0, AV.int .i64 n1, AV.int .i64 (IntKind.wrap .i64 (n2 + (1 : Int)))], bs := [some { es := [AV.agg [AV.int .i64 n3, AV.int .i64 n4]], fr := false, pt := true }, some { es := [AV.agg [AV.int .i64 (ci x1 0), AV.int .i64 (ci x1 1)]], fr := false, pt := false }] }) else G 442 ({ vs := [AV.ptr 1000000 0 0 0, AV.nl, AV.nl, AV.osl l0, AV.int .i64 n1, AV.int .i64 (IntKind.wrap .i64 (n2 + (1 : Int)))], bs := [some { es := [AV.agg [AV.int .i64 (if ci x1 0 < n3 then ci x1 0 else n3), AV.int .i64 (if ci x1 1 > n4 then ci x1 1 else n4)]], fr := false, pt := true }] })))))) else Option.bind (V 91 [AV.osl [AV.agg [AV.int .i64 n3, AV.int .i64 n4]]]) (fun x0 => gd (fitA [.one .sl, .one (.int .i64)] x0) (K (AV.tup [AV.osl (tl x0 0), AV.int .i64 (ti x0 1)], [])))) := by kernel_rfl
theorem add_2 (k0 : Nat) (l1 : List AV) (n2 : Int) (n3 : Int) (n4 : Int) (n5 : Int) (l6 : List AV) : (Dadd V M).stepK G K 442 ⟨[(.ptr 1000000 0 0 0), .nl, (.sl 2 1000001 0 0 k0), (.osl l1), (.int .i64 n2), (.int .i64 n3)], [some ⟨[(.agg [(.int .i64 n4), (.int .i64 n5)])], false, true⟩, some ⟨l6, false, false⟩]⟩ =
    (bif decide (n3 < n2) then gd (decide ((0 : Int) ≤ n3)) (Option.bind (l1[Int.toNat n3]?) (fun x1 => gd (Vw.fit (.agg [.int .i64, .int .i64]) x1) ((bif decide (ci x1 1 < n4) then gd (gNo l6) (G 442 ({ vs := [AV.ptr 1000000 0 0 0, AV.sl 2 1000001 0 0 1, AV.sl 2 1000002 0 0 k0, AV.osl l1, AV.int .i64 n2, AV.int .i64 (IntKind.wrap .i64 (n3 + (1 : Int)))], bs := [some { es := [AV.agg [AV.int .i64 n4, AV.int .i64 n5]], fr := false, pt := true }, some { es := [AV.agg [AV.int .i64 (ci x1 0), AV.int .i64 (ci x1 1)]], fr := false, pt := false }, some { es := l6, fr := false, pt := false }] })) else (bif decide (ci x1 0 > n5) then gd (decide (k0 ≤ List.length l6)) (gd (gLen (List.length (List.take k0 l6) + 1) 16) (gd (gNo (List.take k0 l6 ++ [AV.agg [AV.int .i64 (ci x1 0), AV.int .i64 (ci x1 1)]])) (G 442 ({ vs := [AV.ptr 1000000 0 0 0, AV.nl, AV.sl 2 1000001 0 0 (List.length (List.take k0 l6) + 1), AV.osl l1, AV.int .i64 n2, AV.int .i64 (IntKind.wrap .i64 (n3 + (1 : Int)))], bs := [some { es := [AV.agg [AV.int .i64 n4, AV.int .i64 n5]], fr := false, pt := true }, some { es := List.take k0 l6 ++ [AV.agg [AV.int .i64 (ci x1 0), AV.int .i64 (ci x1 1)]], fr := false, pt := false }] })))) else gd (gNo l6) (G 442 ({ vs := [AV.ptr 1000000 0 0 0, AV.nl, AV.sl 2 1000001 0 0 k0, AV.osl l1, AV.int .i64 n2, AV.int .i64 (IntKind.wrap .i64 (n3 + (1 : Int)))], bs := [some { es := [AV.agg [AV.int .i64 (if ci x1 0 < n4 then ci x1 0 else n4), AV.int .i64 (if ci x1 1 > n5 then ci x1 1 else n5)]], fr := false, pt := true }, some { es := l6, fr := false, pt := false }] }))))))) else gd (decide (0 + k0 ≤ List.length l6)) (gd (gRow 2 (List.take k0 (List.drop 0 l6))) (gd (gLen (1 + List.length (List.take k0 (List.drop 0 l6))) 16) (gd (decide (0 + (1 + List.length (List.take k0 (List.drop 0 l6))) ≤ List.length (AV.agg [AV.int .i64 n4, AV.int .i64 n5] :: List.take k0 (List.drop 0 l6)))) (gd (gFree 2 (List.take (1 + List.length (List.take k0 (List.drop 0 l6))) (List.drop 0 (AV.agg [AV.int .i64 n4, AV.int .i64 n5] :: List.take k0 (List.drop 0 l6))))) (Option.bind (V 91 [AV.osl (List.take (1 + List.length (List.take k0 (List.drop 0 l6))) (List.drop 0 (AV.agg [AV.int .i64 n4, AV.int .i64 n5] :: List.take k0 (List.drop 0 l6))))]) (fun x0 => gd (fitA [.one .sl, .one (.int .i64)] x0) (K (AV.tup [AV.osl (tl x0 0), AV.int .i64 (ti x0 1)], []))))))))) := by kernel_rfl
theorem add_3 (k0 : Nat) (l1 : List AV) (n2 : Int) (n3 : Int) (n4 : Int) (n5 : Int) (l6 : List AV) : (Dadd V M).stepK G K 442 ⟨[(.ptr 1000000 0 0 0), (.sl 2 1000001 0 0 k0), .nl, (.osl l1), (.int .i64 n2), (.int .i64 n3)], [some ⟨[(.agg [(.int .i64 n4), (.int .i64 n5)])], false, true⟩, some ⟨l6, false, false⟩]⟩ =
    (bif decide (n3 < n2) then gd (decide ((0 : Int) ≤ n3)) (Option.bind (l1[Int.toNat n3]?) (fun x1 => gd (Vw.fit (.agg [.int .i64, .int .i64]) x1) ((bif decide (ci x1 1 < n4) then gd (decide (k0 ≤ List.length l6)) (gd (gLen (List.length (List.take k0 l6) + 1) 16) (gd (gNo (List.take k0 l6 ++ [AV.agg [AV.int .i64 (ci x1 0), AV.int .i64 (ci x1 1)]])) (G 442 ({ vs := [AV.ptr 1000000 0 0 0, AV.sl 2 1000001 0 0 (List.length (List.take k0 l6) + 1), AV.nl, AV.osl l1, AV.int .i64 n2, AV.int .i64 (IntKind.wrap .i64 (n3 + (1 : Int)))], bs := [some { es := [AV.agg [AV.int .i64 n4, AV.int .i64 n5]], fr := false, pt := true }, some { es := List.take k0 l6 ++ [AV.agg [AV.int .i64 (ci x1 0), AV.int .i64 (ci x1 1)]], fr := false, pt := false }] })))) else (bif decide (ci x1 0 > n5) then gd (gNo l6) (G 442 ({ vs := [AV.ptr 1000000 0 0 0, AV.sl 2 1000001 0 0 k0, AV.sl 2 1000002 0 0 1, AV.osl l1, AV.int .i64 n2, AV.int .i64 (IntKind.wrap .i64 (n3 + (1 : Int)))], bs := [some { es := [AV.agg [AV.int .i64 n4, AV.int .i64 n5]], fr := false, pt := true }, some { es := l6, fr := false, pt := false }, some { es := [AV.agg [AV.int .i64 (ci x1 0), AV.int .i64 (ci x1 1)]], fr := false, pt := false }] })) else gd (gNo l6) (G 442 ({ vs := [AV.ptr 1000000 0 0 0, AV.sl 2 1000001 0 0 k0, AV.nl, AV.osl l1, AV.int .i64 n2, AV.int .i64 (IntKind.wrap .i64 (n3 + (1 : Int)))], bs := [some { es := [AV.agg [AV.int .i64 (if ci x1 0 < n4 then ci x1 0 else n4), AV.int .i64 (if ci x1 1 > n5 then ci x1 1 else n5)]], fr := false, pt := true }, some { es := l6, fr := false, pt := false }] }))))))) else gd (decide (k0 ≤ List.length l6)) (gd (gLen (List.length (List.take k0 l6) + 1) 16) (gd (decide (List.length (List.take k0 l6) + 1 ≤ List.length (List.take k0 l6 ++ [AV.agg [AV.int .i64 n4, AV.int .i64 n5]]))) (gd (gLen (List.length (List.take (List.length (List.take k0 l6) + 1) (List.take k0 l6 ++ [AV.agg [AV.int .i64 n4, AV.int .i64 n5]])) + 0) 16) (gd (decide (0 + (List.length (List.take (List.length (List.take k0 l6) + 1) (List.take k0 l6 ++ [AV.agg [AV.int .i64 n4, AV.int .i64 n5]])) + 0) ≤ List.length (List.take (List.length (List.take k0 l6) + 1) (List.take k0 l6 ++ [AV.agg [AV.int .i64 n4, AV.int .i64 n5]]) ++ []))) (gd (gFree 2 (List.take (List.length (List.take (List.length (List.take k0 l6) + 1) (List.take k0 l6 ++ [AV.agg [AV.int .i64 n4, AV.int .i64 n5]])) + 0) (List.drop 0 (List.take (List.length (List.take k0 l6) + 1) (List.take k0 l6 ++ [AV.agg [AV.int .i64 n4, AV.int .i64 n5]]) ++ [])))) (Option.bind (V 91 [AV.osl (List.take (List.length (List.take (List.length (List.take k0 l6) + 1) (List.take k0 l6 ++ [AV.agg [AV.int .i64 n4, AV.int .i64 n5]])) + 0) (List.drop 0 (List.take (List.length (List.take k0 l6) + 1) (List.take k0 l6 ++ [AV.agg [AV.int .i64 n4, AV.int .i64 n5]]) ++ [])))]) (fun x0 => gd (fitA [.one .sl, .one (.int .i64)] x0) (K (AV.tup [AV.osl (tl x0 0), AV.int .i64 (ti x0 1)], [])))))))))) := by kernel_rfl
theorem add_4 (k0 : Nat) (k1 : Nat) (l2 : List AV) (n3 : Int) (n4 : Int) (n5 : Int) (n6 : Int) (l7 : List AV) (l8 : List AV) : (Dadd V M).stepK G K 442 ⟨[(.ptr 1000000 0 0 0), (.sl 2 1000001 0 0 k0), (.sl 2 1000002 0 0 k1), (.osl l2), (.int .i64 n3), (.int .i64 n4)], [some ⟨[(.agg [(.int .i64 n5), (.int .i64 n6)])], false, true⟩, some ⟨l7, false, false⟩, some ⟨l8, false, false⟩]⟩ =
    (bif decide (n4 < n3) then gd (decide ((0 : Int) ≤ n4)) (Option.bind (l2[Int.toNat n4]?) (fun x1 => gd (Vw.fit (.agg [.int .i64, .int .i64]) x1) ((bif decide (ci x1 1 < n5) then gd (decide (k0 ≤ List.length l7)) (gd (gLen (List.length (List.take k0 l7) + 1) 16) (gd (gNo (List.take k0 l7 ++ [AV.agg [AV.int .i64 (ci x1 0), AV.int .i64 (ci x1 1)]])) (gd (gNo l8) (G 442 ({ vs := [AV.ptr 1000000 0 0 0, AV.sl 2 1000001 0 0 (List.length (List.take k0 l7) + 1), AV.sl 2 1000002 0 0 k1, AV.osl l2, AV.int .i64 n3, AV.int .i64 (IntKind.wrap .i64 (n4 + (1 : Int)))], bs := [some { es := [AV.agg [AV.int .i64 n5, AV.int .i64 n6]], fr := false, pt := true }, some { es := List.take k0 l7 ++ [AV.agg [AV.int .i64 (ci x1 0), AV.int .i64 (ci x1 1)]], fr := false, pt := false }, some { es := l8, fr := false, pt := false }] }))))) else (bif decide (ci x1 0 > n6) then gd (decide (k1 ≤ List.length l8)) (gd (gLen (List.length (List.take k1 l8) + 1) 16) (gd (gNo l7) (gd (gNo (List.take k1 l8 ++ [AV.agg [AV.int .i64 (ci x1 0), AV.int .i64 (ci x1 1)]])) (G 442 ({ vs := [AV.ptr 1000000 0 0 0, AV.sl 2 1000001 0 0 k0, AV.sl 2 1000002 0 0 (List.length (List.take k1 l8) + 1), AV.osl l2, AV.int .i64 n3, AV.int .i64 (IntKind.wrap .i64 (n4 + (1 : Int)))], bs := [some { es := [AV.agg [AV.int .i64 n5, AV.int .i64 n6]], fr := false, pt := true }, some { es := l7, fr := false, pt := false }, some { es := List.take k1 l8 ++ [AV.agg [AV.int .i64 (ci x1 0), AV.int .i64 (ci x1 1)]], fr := false, pt := false }] }))))) else gd (gNo l7) (gd (gNo l8) (G 442 ({ vs := [AV.ptr 1000000 0 0 0, AV.sl 2 1000001 0 0 k0, AV.sl 2 1000002 0 0 k1, AV.osl l2, AV.int .i64 n3, AV.int .i64 (IntKind.wrap .i64 (n4 + (1 : Int)))], bs := [some { es := [AV.agg [AV.int .i64 (if ci x1 0 < n5 then ci x1 0 else n5), AV.int .i64 (if ci x1 1 > n6 then ci x1 1 else n6)]], fr := false, pt := true }, some { es := l7, fr := false, pt := false }, some { es := l8, fr := false, pt := false }] })))))))) else gd (decide (k0 ≤ List.length l7)) (gd (gLen (List.length (List.take k0 l7) + 1) 16) (gd (decide (0 + k1 ≤ List.length l8)) (gd (decide (List.length (List.take k0 l7) + 1 ≤ List.length (List.take k0 l7 ++ [AV.agg [AV.int .i64 n5, AV.int .i64 n6]]))) (gd (gRow 2 (List.take k1 (List.drop 0 l8))) (gd (gLen (List.length (List.take (List.length (List.take k0 l7) + 1) (List.take k0 l7 ++ [AV.agg [AV.int .i64 n5, AV.int .i64 n6]])) + List.length (List.take k1 (List.drop 0 l8))) 16) (gd (decide (0 + (List.length (List.take (List.length (List.take k0 l7) + 1) (List.take k0 l7 ++ [AV.agg [AV.int .i64 n5, AV.int .i64 n6]])) + List.length (List.take k1 (List.drop 0 l8))) ≤ List.length (List.take (List.length (List.take k0 l7) + 1) (List.take k0 l7 ++ [AV.agg [AV.int .i64 n5, AV.int .i64 n6]]) ++ List.take k1 (List.drop 0 l8)))) (gd (gFree 2 (List.take (List.length (List.take (List.length (List.take k0 l7) + 1) (List.take k0 l7 ++ [AV.agg [AV.int .i64 n5, AV.int .i64 n6]])) + List.length (List.take k1 (List.drop 0 l8))) (List.drop 0 (List.take (List.length (List.take k0 l7) + 1) (List.take k0 l7 ++ [AV.agg [AV.int .i64 n5, AV.int .i64 n6]]) ++ List.take k1 (List.drop 0 l8))))) (Option.bind (V 91 [AV.osl (List.take (List.length (List.take (List.length (List.take k0 l7) + 1) (List.take k0 l7 ++ [AV.agg [AV.int .i64 n5, AV.int .i64 n6]])) + List.length (List.take k1 (List.drop 0 l8))) (List.drop 0 (List.take (List.length (List.take k0 l7) + 1) (List.take k0 l7 ++ [AV.agg [AV.int .i64 n5, AV.int .i64 n6]]) ++ List.take k1 (List.drop 0 l8))))]) (fun x0 => gd (fitA [.one .sl, .one (.int .i64)] x0) (K (AV.tup [AV.osl (tl x0 0), AV.int .i64 (ti x0 1)], [])))))))))))) := by kernel_rfl
end
@[simp] theorem prows_get (l : List Spn) (i : Nat) : (prows l)[i]? = (l[i]?).map Spn.av := List.getElem?_map
@[simp] theorem prows_length (l : List Spn) : (prows l).length = l.length := List.length_map _
theorem drop_get {α : Type} {l m : List α} {s : α} {i : Nat} (h : l.drop i = s :: m) : l[i]? = some s ∧ i < l.length ∧ l.drop (i + 1) = m := by
  have h0 : l[i]? = some s := by rw [← Nat.add_zero i, ← List.getElem?_drop, h]; rfl
  exact ⟨h0, (List.getElem?_eq_some_iff.1 h0).1, by rw [← List.drop_drop, h]; rfl⟩
theorem drop_end {α : Type} {l : List α} {i : Nat} (h : l.drop i = []) : l.length ≤ i := List.drop_eq_nil_iff.1 h
theorem av_inj {s t : Spn} (h : s.av = t.av) : s = t := by
  obtain ⟨a, b⟩ := s; obtain ⟨c, d⟩ := t
  simp only [Spn.av, AV.agg.injEq, List.cons.injEq, AV.int.injEq, true_and, and_true] at h
  rw [h.1, h.2]
theorem prows_inj : ∀ {l m : List Spn}, prows l = prows m → l = m
  | [], [], _ => rfl
  | [], _ :: _, h => by cases h
  | _ :: _, [], h => by cases h
  | s :: l, t :: m, h => by
    have h : s.av :: prows l = t.av :: prows m := h
    rw [List.cons.injEq] at h
    rw [av_inj h.1, prows_inj h.2]
theorem one_ok (s : Spn) : FnOk Try.prog 90 [s.av] (.bool s.one) := by
  refine fn_mk [] [] (by kernel_rfl) mixed (by kernel_rfl) (From.of ((one_0 s.a s.b).trans ?_))
  by_cases h1 : s.a ≥ 0 <;> by_cases h2 : s.a < s.b <;> simp [h1, h2, Spn.one]
noncomputable def F_one : Fam Try.prog := { f := 90, ι := Spn, pre := fun _ => True, args := fun s => [s.av], res := fun s => .bool s.one, ok := fun s _ => one_ok s, inj := fun s t h => by rw [av_inj (List.cons.inj h).1] }
theorem may_loop {V : EV} {M : EM} (hV : ∀ s : Spn, V 90 [s.av] = some (.bool s.one)) (l : List Spn) (hl : l.length ≤ 9223372036854775806) : ∀ (m : List Spn) (i : Nat) (last : Int), l.drop i = m →
    (Dmay V M).From 58 ⟨[.osl (prows l), .int .i64 last, .osl (prows l), .int .i64 l.length, .int .i64 i], []⟩ = some (.bool (Rz last m && decide (l.length ≤ 1000)), [])
  | [], i, last, h => by
    refine From.of ((may_1 _ _ _ _ _).trans ?_)
    have := drop_end h
    simp [show ¬ ((i : Int) < (l.length : Int)) by omega, Rz]
    omega
  | s :: m, i, last, h => by
    refine From.of ((may_1 _ _ _ _ _).trans ?_)
    obtain ⟨h1, h2, h3⟩ := drop_get h
    have ih := may_loop (M := M) hV l hl m (i + 1) s.b h3
    have e := hV s
    simp only [Spn.av] at e
    simp [show (i : Int) < (l.length : Int) by omega, h1, Spn.av, e, w64 (n := (i : Int) + 1) (by omega) (by omega), Rz]
    simp at ih
    by_cases h4 : s.one = true <;> by_cases h5 : s.a ≤ last <;> simp [h4, h5, ih]
    · omega
    · simp [show last < s.a by omega]
theorem may_ok (l : List Spn) (hl : l.length ≤ 9223372036854775806) : FnOk Try.prog 57 [.osl (prows l)] (.bool (mayP l)) := by
  refine fn_mk [F_one] [] (by kernel_rfl) mixed (by kernel_rfl) (From.of ((may_0 _).trans ?_))
  have := may_loop (V := envV [F_one]) (M := envM (P := Try.prog) []) (fun s => envV_at F_one s trivial [] [] rfl) l hl l 0 (-1) rfl
  rw [show mayP l = (Rz (-1) l && decide (l.length ≤ 1000)) from Bool.and_comm _ _]
  simpa using this
noncomputable def F_may : Fam Try.prog := { f := 57, ι := List Spn, pre := fun l => l.length ≤ 9223372036854775806, args := fun l => [.osl (prows l)], res := fun l => .bool (mayP l), ok := may_ok, inj := fun s t h => by rw [prows_inj (AV.osl.inj (List.cons.inj h).1)] }
theorem told_ok (l : List Spn) : FnOk Try.prog 91 [.osl (prows l)] (if l.length > 1000 then .tup [.osl [], .int .i64 4] else .tup [.osl (prows l), .int .i64 0]) := by
  refine fn_mk [] [] (by kernel_rfl) mixed (by kernel_rfl) (From.of ((told_0 _).trans ?_))
  by_cases h : l.length > 1000
  · rw [if_pos h]; simp [h, show ((l.length : Int) > 1000) by omega]
  · rw [if_neg h]; simp [h, show ¬ ((l.length : Int) > 1000) by omega]
noncomputable def F_told : Fam Try.prog := { f := 91, ι := List Spn, pre := fun _ => True, args := fun l => [.osl (prows l)], res := fun l => if l.length > 1000 then .tup [.osl [], .int .i64 4] else .tup [.osl (prows l), .int .i64 0], ok := fun l _ => told_ok l, inj := fun s t h => by rw [prows_inj (AV.osl.inj (List.cons.inj h).1)] }
theorem gap_loop {V : EV} {M : EM} (l : List Spn) (hl : l.length ≤ 9223372036854775806) : ∀ (m : List Spn) (i : Nat) (f : Int), l.drop i = m →
    (Dgap V M).From 122 ⟨[.int .i64 f, .osl (prows l), .int .i64 l.length, .int .i64 i], []⟩ = some (.int .i64 (m.foldl gapF f), [])
  | [], i, f, h => by
    refine From.of ((gap_1 _ _ _ _).trans ?_)
    have := drop_end h
    simp [show ¬ ((i : Int) < (l.length : Int)) by omega]
  | s :: m, i, f, h => by
    refine From.of ((gap_1 _ _ _ _).trans ?_)
    obtain ⟨h1, h2, h3⟩ := drop_get h
    have ih := gap_loop (V := V) (M := M) l hl m (i + 1) (gapF f s) h3
    simp [show (i : Int) < (l.length : Int) by omega, h1, Spn.av, w64 (n := (i : Int) + 1) (by omega) (by omega)]
    simp [gapF] at ih
    by_cases h4 : s.a ≤ f <;> by_cases h5 : f < s.b <;> simp [h4, h5, ih, gapF] at ih ⊢ <;> exact ih
theorem gap_from {V : EV} {M : EM} (l : List Spn) (f : Int) (hl : l.length ≤ 9223372036854775806) (e : V 57 [.osl (prows l)] = some (.bool (mayP l))) : (Dgap V M).From 0 ⟨[.osl (prows l), .int .i64 f], []⟩ = some (.int .i64 (gapP l f), []) := by
  refine From.of ((gap_0 _ _).trans ?_)
  have := gap_loop (V := V) (M := M) l hl l 0 (if 0 > f then 0 else f) rfl
  simp [e]
  cases hm : mayP l with
  | false => simp [gapP, hm]
  | true => simpa [gapP, hm] using this
theorem gap_ok (l : List Spn) (f : Int) (hl : l.length ≤ 9223372036854775806) : FnOk Try.prog 59 [.osl (prows l), .int .i64 f] (.int .i64 (gapP l f)) :=
  fn_mk [F_may] [] (by kernel_rfl) mixed (by kernel_rfl) (gap_from l f hl (envV_at F_may l hl [] [] rfl))
noncomputable def F_gap : Fam Try.prog := { f := 59, ι := List Spn × Int, pre := fun p => p.1.length ≤ 9223372036854775806, args := fun p => [.osl (prows p.1), .int .i64 p.2], res := fun p => .int .i64 (gapP p.1 p.2), ok := fun p h => gap_ok p.1 p.2 h, inj := fun s t h => by simp at h; rw [prows_inj h.1, h.2] }
theorem Rz.size : ∀ {last : Int} {l : List Spn}, Rz last l = true → last ≤ 4611686018427387904 → 0 ≤ sizeP l ∧ sizeP l + last ≤ 4611686018427387904
  | last, [], _, h => by unfold sizeP; omega
  | last, s :: l, h, hl => by
    unfold Rz at h
    simp only [Bool.and_eq_true, decide_eq_true_eq, Spn.one] at h
    have := Rz.size h.2 (by omega)
    unfold sizeP; omega
theorem size_loop {V : EV} {M : EM} (l : List Spn) (hl : l.length ≤ 9223372036854775806) : ∀ (m : List Spn) (i : Nat) (n last : Int), l.drop i = m → Rz last m = true → -1 ≤ last → last ≤ 4611686018427387904 → 0 ≤ n → n ≤ last + 1 →
    (Dsize V M).From 122 ⟨[.int .i64 n, .osl (prows l), .int .i64 l.length, .int .i64 i], []⟩ = some (.int .i64 (n + sizeP m), [])
  | [], i, n, last, h, _, _, _, _, _ => by
    refine From.of ((size_1 _ _ _ _).trans ?_)
    have := drop_end h
    simp [show ¬ ((i : Int) < (l.length : Int)) by omega, sizeP]
  | s :: m, i, n, last, h, hr, h0, hb, hn, hn2 => by
    refine From.of ((size_1 _ _ _ _).trans ?_)
    obtain ⟨h1, h2, h3⟩ := drop_get h
    unfold Rz at hr
    simp only [Bool.and_eq_true, decide_eq_true_eq, Spn.one] at hr
    have ih := size_loop (V := V) (M := M) l hl m (i + 1) (n + (s.b - s.a)) s.b h3 hr.2 (by omega) (by omega) (by omega) (by omega)
    simp [show (i : Int) < (l.length : Int) by omega, h1, Spn.av, w64 (n := (i : Int) + 1) (by omega) (by omega), w64 (n := s.b - s.a) (by omega) (by omega), w64 (n := n + (s.b - s.a)) (by omega) (by omega)]
    simp [sizeP] at ih ⊢
    rw [ih]
    congr 3
    omega
theorem size_from {V : EV} {M : EM} (l : List Spn) (hl : l.length ≤ 9223372036854775806) (e : V 57 [.osl (prows l)] = some (.bool (mayP l))) : (Dsize V M).From 0 ⟨[.osl (prows l)], []⟩ = some (.int .i64 (sizeS l), []) := by
  refine From.of ((size_0 _).trans ?_)
  simp [e]
  cases hm : mayP l with
  | false => simp [sizeS, hm]
  | true =>
    have hr : Rz (-1) l = true := by unfold mayP at hm; rw [Bool.and_eq_true] at hm; exact hm.2
    have := size_loop (V := V) (M := M) l hl l 0 0 (-1) rfl hr (by omega) (by omega) (by omega) (by omega)
    simpa [sizeS, hm] using this
theorem size_ok (l : List Spn) (hl : l.length ≤ 9223372036854775806) : FnOk Try.prog 55 [.osl (prows l)] (.int .i64 (sizeS l)) :=
  fn_mk [F_may] [] (by kernel_rfl) mixed (by kernel_rfl) (size_from l hl (envV_at F_may l hl [] [] rfl))
noncomputable def F_size : Fam Try.prog := { f := 55, ι := List Spn, pre := fun l => l.length ≤ 9223372036854775806, args := fun l => [.osl (prows l)], res := fun l => .int .i64 (sizeS l), ok := size_ok, inj := fun s t h => by rw [prows_inj (AV.osl.inj (List.cons.inj h).1)] }
structure AS where
  s : Spn
  xs : List Spn
  ys : List Spn
def addF (t : AS) (x : Spn) : AS :=
  if x.b < t.s.a then { t with xs := t.xs ++ [x] }
  else if x.a > t.s.b then { t with ys := t.ys ++ [x] }
  else { t with s := ⟨if x.a < t.s.a then x.a else t.s.a, if x.b > t.s.b then x.b else t.s.b⟩ }
def addS (l : List Spn) (s : Spn) (i : Nat) : AS := (l.take i).foldl addF ⟨s, [], []⟩
def addL (l : List Spn) (s : Spn) : List Spn := (addS l s l.length).xs ++ [(addS l s l.length).s] ++ (addS l s l.length).ys
def addE (l : List Spn) (s : Spn) : Int := if mayP l = true ∧ s.one = true then (if (addL l s).length > 1000 then 4 else 0) else 1
def addR (l : List Spn) (s : Spn) : List Spn := if addE l s = 0 then addL l s else []
def nsl (i : Nat) (xs : List Spn) : AV := if xs = [] then .nl else .sl 2 i 0 0 xs.length
def nbl (xs : List Spn) : List (Option CB) := if xs = [] then [] else [some ⟨prows xs, false, false⟩]
def adC (l : List Spn) (i : Nat) (t : AS) : CS :=
  ⟨[.ptr 1000000 0 0 0, nsl 1000001 t.xs, nsl (if t.xs = [] then 1000001 else 1000002) t.ys, .osl (prows l), .int .i64 l.length, .int .i64 i], some ⟨[.agg [.int .i64 t.s.a, .int .i64 t.s.b]], false, true⟩ :: (nbl t.xs ++ nbl t.ys)⟩
theorem gNo_rows (l : List Spn) : gNo (prows l) = true := gNo_map (f := Spn.av) (fun _ => rfl) l
theorem gRow_rows (l : List Spn) : gRow 2 (prows l) = true := gRow_map (f := Spn.av) (fun _ => ⟨rfl, rfl⟩) l
theorem gFree_rows (l : List Spn) : gFree 2 (prows l) = true := gFree_map (f := Spn.av) (fun _ => ⟨rfl, rfl⟩) l
theorem take_rows (l : List Spn) : (prows l).take l.length = prows l := List.take_of_length_le (by simp)
theorem rows_one (x : Spn) : [AV.agg [.int .i64 x.a, .int .i64 x.b]] = prows [x] := rfl
theorem rows_two (x : Spn) (l : List Spn) : prows l ++ [AV.agg [.int .i64 x.a, .int .i64 x.b]] = prows (l ++ [x]) := prows_snoc l x.a x.b
theorem rows_cons (a b : Int) (l : List Spn) : AV.agg [.int .i64 a, .int .i64 b] :: prows l = prows (⟨a, b⟩ :: l) := rfl
theorem gLen_small {n : Nat} (h : n ≤ 2000) : gLen n 16 = true := gLen_of (by omega) (by omega)
theorem add_step {V : EV} {M : EM} (l : List Spn) (hl : l.length ≤ 1000) (i : Nat) (t : AS) (ht : t.xs.length + t.ys.length ≤ 1000) (x : Spn) (hx : l[i]? = some x) : (Dadd V M).From 442 (adC l i t) = (Dadd V M).From 442 (adC l (i + 1) (addF t x)) := by
  have hi : i < l.length := (List.getElem?_eq_some_iff.1 hx).1
  obtain ⟨s, xs, ys⟩ := t
  have hw : IntKind.wrap .i64 ((i : Int) + 1) = ((i + 1 : Nat) : Int) := w64 (by omega) (by omega)
  have hlt : ((i : Int) < (l.length : Int)) := by omega
  simp only at ht
  have g1 : gLen (xs.length + 1) 16 = true := gLen_small (by omega)
  have g2 : gLen (ys.length + 1) 16 = true := gLen_small (by omega)
  unfold adC addF
  by_cases ex : xs = [] <;> by_cases ey : ys = [] <;> simp only [ex, ey, nsl, nbl, if_true, if_false, List.nil_append, List.append_nil, List.cons_append]
  · refine From.of ((add_1 _ _ _ _ _).trans ?_)
    by_cases h1 : x.b < s.a <;> by_cases h2 : x.a > s.b <;> simp [hlt, hx, Spn.av, hw, h1, h2, prows]
  · refine From.of ((add_2 _ _ _ _ _ _ _).trans ?_)
    by_cases h1 : x.b < s.a <;> by_cases h2 : x.a > s.b <;> simp [hlt, hx, Spn.av, hw, h1, h2, ey, g1, g2, gNo_rows, take_rows, rows_two] <;> simp [prows, Spn.av]
  · refine From.of ((add_3 _ _ _ _ _ _ _).trans ?_)
    by_cases h1 : x.b < s.a <;> by_cases h2 : x.a > s.b <;> simp [hlt, hx, Spn.av, hw, h1, h2, ex, g1, g2, gNo_rows, take_rows, rows_two] <;> simp [prows, Spn.av]
  · refine From.of ((add_4 _ _ _ _ _ _ _ _ _).trans ?_)
    by_cases h1 : x.b < s.a <;> by_cases h2 : x.a > s.b <;> simp [hlt, hx, Spn.av, hw, h1, h2, ex, ey, g1, g2, gNo_rows, take_rows, rows_two]
theorem toldK {o : Option AV} {n : Nat} {x : List AV} (h : o = some (if n > 1000 then .tup [.osl [], .int .i64 4] else .tup [.osl x, .int .i64 0])) :
    (o.bind fun x0 => gd (fitA [.one .sl, .one (.int .i64)] x0) (some (AV.tup [AV.osl (tl x0 0), AV.int .i64 (ti x0 1)], []))) = some ((if n > 1000 then .tup [.osl [], .int .i64 4] else .tup [.osl x, .int .i64 0], []) : Res) := by
  rw [h]
  by_cases h : n > 1000 <;> simp [h]
theorem take_all' {l : List Spn} {n : Nat} (h : n = l.length) : (prows l).take n = prows l := by rw [h]; exact take_rows l
theorem add_end {V : EV} {M : EM} (l : List Spn) (t : AS) (ht : t.xs.length + t.ys.length ≤ 1000) (e : ∀ m : List Spn, V 91 [.osl (prows m)] = some (if m.length > 1000 then .tup [.osl [], .int .i64 4] else .tup [.osl (prows m), .int .i64 0])) :
    (Dadd V M).From 442 (adC l l.length t) = some (if (t.xs ++ [t.s] ++ t.ys).length > 1000 then .tup [.osl [], .int .i64 4] else .tup [.osl (prows (t.xs ++ [t.s] ++ t.ys)), .int .i64 0], []) := by
  obtain ⟨s, xs, ys⟩ := t
  simp only at ht
  have e1 := e (xs ++ [s] ++ ys)
  have g1 : gLen (xs.length + 1) 16 = true := gLen_small (by omega)
  have g2 : gLen (1 + ys.length) 16 = true := gLen_small (by omega)
  have g3 : gLen (xs.length + 1 + ys.length) 16 = true := gLen_small (by omega)
  have t1 : (prows (xs ++ [s])).take (xs.length + 1) = prows (xs ++ [s]) := take_all' (by simp)
  have t2 : (prows (s :: ys)).take (1 + ys.length) = prows (s :: ys) := take_all' (by simp; omega)
  have t3 : (prows (xs ++ [s] ++ ys)).take (xs.length + 1 + ys.length) = prows (xs ++ [s] ++ ys) := take_all' (by simp; omega)
  unfold adC
  by_cases ex : xs = [] <;> by_cases ey : ys = [] <;> simp only [ex, ey, nsl, nbl, if_true, if_false, List.nil_append, List.append_nil, List.cons_append]
  · refine From.of ((add_1 _ _ _ _ _).trans ?_)
    simp only [Int.lt_irrefl, decide_false, cond_false]
    exact toldK (x := prows [s]) (n := [s].length) (by simpa [ex, ey, rows_one] using e1)
  · refine From.of ((add_2 _ _ _ _ _ _ _).trans ?_)
    simp only [Int.lt_irrefl, decide_false, cond_false, List.drop_zero, Nat.zero_add, take_rows, prows_length, rows_cons, gRow_rows, gd_true, g2, t2, gFree_rows, List.length_cons, Nat.le_refl, decide_true]
    rw [gd_of (decide_eq_true (by omega))]
    exact toldK (by simpa [ex, ey] using e1)
  · refine From.of ((add_3 _ _ _ _ _ _ _).trans ?_)
    simp only [Int.lt_irrefl, decide_false, cond_false, List.drop_zero, Nat.zero_add, take_rows, prows_length, rows_two, gRow_rows, gd_true, g1, t1, gFree_rows, List.length_append, List.length_cons, List.length_nil, Nat.add_zero, List.append_nil, Nat.le_refl, decide_true]
    exact toldK (by simpa [ex, ey] using e1)
  · refine From.of ((add_4 _ _ _ _ _ _ _ _ _).trans ?_)
    simp only [Int.lt_irrefl, decide_false, cond_false, List.drop_zero, Nat.zero_add, take_rows, prows_length, rows_two, prows_app, gRow_rows, gd_true, g1, g3, t1, t3, gFree_rows, List.length_append, List.length_cons, List.length_nil, Nat.add_zero, List.append_nil, Nat.le_refl, decide_true]
    exact toldK (by simpa [ex, ey, Nat.add_assoc, Nat.add_comm 1] using e1)
theorem addS_succ {l : List Spn} {s x : Spn} {i : Nat} (hi : l[i]? = some x) : addS l s (i + 1) = addF (addS l s i) x := by
  unfold addS
  have h := (List.getElem?_eq_some_iff.1 hi)
  rw [List.take_succ_eq_append_getElem h.1, List.foldl_append, h.2]; rfl
theorem addS_len (l : List Spn) (s : Spn) : ∀ i, i ≤ l.length → (addS l s i).xs.length + (addS l s i).ys.length ≤ i
  | 0, _ => by simp [addS]
  | i + 1, h => by
    have := addS_len l s i (by omega)
    rw [addS_succ (List.getElem?_eq_getElem (show i < l.length by omega))]
    unfold addF
    split
    · simp; omega
    · split
      · simp; omega
      · simp; omega
theorem add_loop {V : EV} {M : EM} (l : List Spn) (s : Spn) (hl : l.length ≤ 1000) : ∀ i, i ≤ l.length → (Dadd V M).From 442 (adC l 0 ⟨s, [], []⟩) = (Dadd V M).From 442 (adC l i (addS l s i))
  | 0, _ => rfl
  | i + 1, h => by
    rw [add_loop l s hl i (by omega), add_step l hl i _ (by have := addS_len l s i (by omega); omega) _ (List.getElem?_eq_getElem (show i < l.length by omega)), ← addS_succ (List.getElem?_eq_getElem _)]
theorem add_from {V : EV} {M : EM} (l : List Spn) (s : Spn) (hm : V 57 [.osl (prows l)] = some (.bool (mayP l))) (ho : V 90 [.agg [.int .i64 s.a, .int .i64 s.b]] = some (.bool s.one))
    (e : ∀ m : List Spn, V 91 [.osl (prows m)] = some (if m.length > 1000 then .tup [.osl [], .int .i64 4] else .tup [.osl (prows m), .int .i64 0])) :
    (Dadd V M).From 0 ⟨[.osl (prows l), .agg [.int .i64 s.a, .int .i64 s.b]], []⟩ = some (.tup [.osl (prows (addR l s)), .int .i64 (addE l s)], []) := by
  refine From.of ((add_0 _ _ _).trans ?_)
  simp only [hm, ho, Option.bind_some, fitA_one, fit_one, ok1_bool, gd_true, getb_bool]
  cases h1 : mayP l with
  | false => simp [addR, addE, h1, prows]
  | true =>
    cases h2 : s.one with
    | false => simp [addR, addE, h1, h2, prows]
    | true =>
      have hl : l.length ≤ 1000 := by unfold mayP at h1; rw [Bool.and_eq_true, decide_eq_true_eq] at h1; exact h1.1
      have := add_loop (V := V) (M := M) l s hl l.length (Nat.le_refl _)
      rw [add_end l _ (by have := addS_len l s l.length (Nat.le_refl _); omega) e] at this
      simp only [adC, nsl, nbl, if_true, List.nil_append] at this
      simp only [Bool.not_true, cond_false, prows_length]
      rw [show ((0 : Int) = ((0 : Nat) : Int)) from rfl]
      refine this.trans ?_
      show _ = some (AV.tup [AV.osl (prows (addR l s)), AV.int .i64 (addE l s)], [])
      by_cases h : (addL l s).length > 1000
      · have h' := h; unfold addL at h'; rw [if_pos h']; simp [addR, addE, h1, h2, h, prows]
      · have h' := h; unfold addL at h'; rw [if_neg h']
        have e0 : addE l s = 0 := by unfold addE; rw [if_pos ⟨h1, h2⟩, if_neg h]
        unfold addR
        rw [if_pos e0, e0]
        rfl
theorem add_ok (l : List Spn) (s : Spn) (hl : l.length ≤ 9223372036854775806) : FnOk Try.prog 53 [.osl (prows l), s.av] (.tup [.osl (prows (addR l s)), .int .i64 (addE l s)]) :=
  fn_mk [F_may, F_one, F_told] [] (by kernel_rfl) mixed (by kernel_rfl) (add_from l s (envV_at F_may l hl [] _ rfl) (envV_at F_one s trivial [F_may] _ rfl) fun m => envV_at F_told m trivial [F_may, F_one] _ rfl)
noncomputable def F_add : Fam Try.prog := { f := 53, ι := List Spn × Spn, pre := fun p => p.1.length ≤ 9223372036854775806, args := fun p => [.osl (prows p.1), p.2.av], res := fun p => .tup [.osl (prows (addR p.1 p.2)), .int .i64 (addE p.1 p.2)], ok := fun p h => add_ok p.1 p.2 h, inj := fun s t h => by simp at h; rw [prows_inj h.1, av_inj h.2] }
end Vai.L04
