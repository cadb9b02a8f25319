/- Receivers: segments of one message. -/
import Derived.Test.YtjienkojedlfjaaN21u
namespace Vai.L21
open Go Go.Proofs Vai Vai.L04 Vai.L06
set_option maxRecDepth 100000
set_option linter.unusedVariables false
set_option linter.unusedSimpArgs false
abbrev kP : List Kd := [.int .i64, .int .i64, .int .i64, .int .i64, .bool, .bool, .int .i64]
section
variable {R : Type} {V : EV} {M : EM} {G : Nat → CS → Option R} {K : Res → Option R}
noncomputable abbrev Dlpre : EV → EM → Dn := dnV Try.prog 12 [24, 34, 37, 40, 41, 42, 47, 49] [] [(2042, [0, 1, 8, 10, 11, 12]), (535379646, [0, 1, 8, 10, 11, 12, 13, 16, 19]), (133844906, [0, 1, 8, 10, 11, 12, 13, 16, 18]), (261413, [0, 1, 8, 10, 11, 12, 13]), (1045661, [0, 1, 8, 10, 11, 12, 13, 14]), (1045662, [0, 1, 8, 10, 11, 12, 13, 15, 16, 17]), (4182653, [0, 1, 8, 10, 11, 12, 13]), (8365309, [0, 1, 8, 10, 11, 12]), (16730620, [0, 1, 8, 10, 11, 12, 240])]
theorem lpre_0 (a0 : List AV) (a1 : List AV) (a2 : Int) : (Dlpre V M).stepK G K 0 ⟨[.osl a0, .osl a1, .int .i64 a2], []⟩ =
    Option.bind (V 34 []) (fun x0 => gd (fitA [.one .bool] x0) ((bif !AV.getb x0 then K (AV.bool (AV.getb x0), []) else (bif decide ((↑(List.length a0) : Int) > (300 : Int)) then K (AV.bool (AV.getb x0), []) else (bif decide ((↑(List.length a1) : Int) > (40 : Int)) then K (AV.bool (AV.getb x0), []) else Option.bind (V 47 [AV.int .i64 a2]) (fun x1 => gd (fitA [.agg kR, .one (.int .i64)] x1) ((bif !ti x1 1 == (0 : Int) then (bif decide (a2 < (0 : Int)) then K (AV.bool true, []) else K (AV.bool (decide (a2 > (65536 : Int))), [])) else gd (decide (IntKind.wrap .i64 ((↑(List.length a0) : Int) + (1 : Int)) = IntKind.wrap .i64 ((↑(List.length a0) : Int) + (1 : Int)) ∧ (0 : Int) ≤ IntKind.wrap .i64 ((↑(List.length a0) : Int) + (1 : Int)) ∧ IntKind.wrap .i64 ((↑(List.length a0) : Int) + (1 : Int)) ≤ (140737488355328 : Int) ∧ Int.toNat (IntKind.wrap .i64 ((↑(List.length a0) : Int) + (1 : Int))) * 1 ≤ 140737488355328)) (gd (gRow 1 (List.replicate (Int.toNat (IntKind.wrap .i64 ((↑(List.length a0) : Int) + (1 : Int)))) (AV.bool false))) (gd (gNo (List.replicate (Int.toNat (IntKind.wrap .i64 ((↑(List.length a0) : Int) + (1 : Int)))) (AV.bool false))) (G 2042 ({ vs := [AV.osl a0, AV.osl a1, p0, AV.nl, AV.sl 1 1000001 0 0 (List.length (List.replicate (Int.toNat (IntKind.wrap .i64 ((↑(List.length a0) : Int) + (1 : Int)))) (AV.bool false))), AV.int .i64 (0 : Int)], bs := [bx (wR (((List.getD (AV.gett x1) 0 .undef)))), some { es := List.replicate (Int.toNat (IntKind.wrap .i64 ((↑(List.length a0) : Int) + (1 : Int)))) (AV.bool false), fr := false, pt := false }] })))))))))))) := by kernel_rfl
theorem lpre_1 (l0 : List AV) (l1 : List AV) (k2 : Nat) (n3 : Int) (v4 : AV) (l5 : List AV) : (Dlpre V M).stepK G K 2042 ⟨[(.osl l0), (.osl l1), p0, .nl, (.sl 1 1000001 0 0 k2), (.int .i64 n3)], [bx (wR ((v4))), some ⟨l5, false, false⟩]⟩ =
    (bif decide (n3 < (↑(List.length l1) : Int)) then gd (decide ((0 : Int) ≤ n3)) (Option.bind (l1[Int.toNat n3]?) (fun x0 => gd (Vw.fit (.agg kP) x0) ((bif decide (ci x0 0 < (0 : Int)) then K (AV.bool true, []) else (bif decide (ci x0 0 > (3 : Int)) then K (AV.bool true, []) else (bif decide (ci x0 1 < (0 : Int)) then K (AV.bool true, []) else (bif decide (ci x0 1 > (1000000 : Int)) then K (AV.bool true, []) else (bif decide (ci x0 2 < (0 : Int)) then K (AV.bool true, []) else (bif decide (ci x0 2 > (↑(List.length l0) : Int)) then K (AV.bool true, []) else (bif decide (ci x0 3 < (0 : Int)) then K (AV.bool true, []) else (bif decide (ci x0 3 > IntKind.wrap .i64 ((↑(List.length l0) : Int) - ci x0 2)) then K (AV.bool true, []) else gd (gNo l5) (G 261413 ({ vs := [AV.osl l0, AV.osl l1, p0, AV.nl, AV.sl 1 1000001 0 0 k2, AV.int .i64 n3, p2], bs := [bx (wR ((v4))), some { es := l5, fr := false, pt := false }, bx (AV.agg (vwL kP 0 (AV.getc x0)))] }))))))))))))) else K (AV.bool true, [])) := by kernel_rfl
theorem lpre_2 (l0 : List AV) (l1 : List AV) (k2 : Nat) (n3 : Int) (v4 : AV) (l5 : List AV) (v6 : AV) : (Dlpre V M).stepK G K 261413 ⟨[(.osl l0), (.osl l1), p0, .nl, (.sl 1 1000001 0 0 k2), (.int .i64 n3), p2], [bx (wR ((v4))), some ⟨l5, false, false⟩, bx (.agg (vwL kP 0 (AV.getc v6)))]⟩ =
    gd (gCel 1 l0) (gd (decide ((0 : Int) ≤ IntKind.wrap .i64 (ci v6 2 + ci v6 3) ∧ IntKind.wrap .i64 (ci v6 2 + ci v6 3) ≤ (↑(List.length l0) : Int))) (gd (decide ((0 : Int) ≤ ci v6 2 ∧ ci v6 2 ≤ (↑(Int.toNat (IntKind.wrap .i64 (ci v6 2 + ci v6 3))) : Int))) ((bif cb v6 4 then gd (gNo l5) (G 1045661 ({ vs := [AV.osl l0, AV.osl l1, p0, AV.nl, AV.sl 1 1000001 0 0 k2, AV.int .i64 n3, p2, p3], bs := [bx (wR ((v4))), some { es := l5, fr := false, pt := false }, bx (AV.agg (vwL kP 0 (AV.getc v6))), bx (AV.agg [AV.int .i64 (2 : Int), AV.int .i64 (ci v6 0), AV.bool true, AV.bool false, AV.int .u32 (IntKind.wrap .u32 (ci v6 1)), AV.int .u32 (IntKind.wrap .u32 (↑(List.length l0) : Int)), AV.int .u32 (0 : Int), AV.int .u32 (0 : Int), AV.int .i64 (0 : Int), AV.int .i64 (0 : Int), AV.int .u32 (0 : Int), AV.int .u32 (0 : Int), AV.int .u32 (0 : Int), AV.nl, AV.nl])] })) else gd (gNo l5) (G 1045661 ({ vs := [AV.osl l0, AV.osl l1, p0, AV.nl, AV.sl 1 1000001 0 0 k2, AV.int .i64 n3, p2, p3], bs := [bx (wR ((v4))), some { es := l5, fr := false, pt := false }, bx (AV.agg (vwL kP 0 (AV.getc v6))), bx (AV.agg [AV.int .i64 (2 : Int), AV.int .i64 (ci v6 0), AV.bool false, AV.bool false, AV.int .u32 (IntKind.wrap .u32 (ci v6 1)), AV.int .u32 (IntKind.wrap .u32 (ci v6 2)), AV.int .u32 (0 : Int), AV.int .u32 (0 : Int), AV.int .i64 (0 : Int), AV.int .i64 (0 : Int), AV.int .u32 (0 : Int), AV.int .u32 (0 : Int), AV.int .u32 (0 : Int), AV.nl, AV.osl (List.drop (Int.toNat (ci v6 2)) (List.take (Int.toNat (IntKind.wrap .i64 (ci v6 2 + ci v6 3))) l0))])] })))))) := by kernel_rfl
theorem lpre_3 (l0 : List AV) (l1 : List AV) (k2 : Nat) (n3 : Int) (v4 : AV) (l5 : List AV) (v6 : AV) (v7 : AV) (l8 : List AV) : (Dlpre V M).stepK G K 1045661 ⟨[(.osl l0), (.osl l1), p0, .nl, (.sl 1 1000001 0 0 k2), (.int .i64 n3), p2, p3], [bx (wR ((v4))), some ⟨l5, false, false⟩, bx (.agg (vwL kP 0 (AV.getc v6))), bx (.agg (List.append (vwL kO 0 (AV.getc v7)) [.nl, (.osl l8)]))]⟩ =
    Option.bind (V 37 [wR ((v4)), AV.agg (List.append (vwL kO 0 (AV.getc v7)) [AV.nl, AV.osl l8]), AV.bool (cb v6 5)]) (fun x0 => gd (fitA [.agg kR, .agg kS, .one (.int .i64)] x0) (gd (gNo l5) (G 1045662 ({ vs := [AV.osl l0, AV.osl l1, p0, AV.nl, AV.sl 1 1000001 0 0 k2, AV.int .i64 n3, p2, p3, p4, AV.int .i64 (ti x0 2)], bs := [bx (wR ((v4))), some { es := l5, fr := false, pt := false }, bx (AV.agg (vwL kP 0 (AV.getc v6))), bx (wR (((List.getD (AV.gett x0) 0 .undef)))), bx (wS (((List.getD (AV.gett x0) 1 .undef))))] })))) := by kernel_rfl
theorem lpre_4 (l0 : List AV) (l1 : List AV) (k2 : Nat) (n3 : Int) (v4 : AV) (l5 : List AV) (v6 : AV) (v7 : AV) : (Dlpre V M).stepK G K 1045661 ⟨[(.osl l0), (.osl l1), p0, .nl, (.sl 1 1000001 0 0 k2), (.int .i64 n3), p2, p3], [bx (wR ((v4))), some ⟨l5, false, false⟩, bx (.agg (vwL kP 0 (AV.getc v6))), bx (.agg (List.append (vwL kO 0 (AV.getc v7)) [.nl, .nl]))]⟩ =
    Option.bind (V 37 [wR ((v4)), AV.agg (List.append (vwL kO 0 (AV.getc v7)) [AV.nl, AV.nl]), AV.bool (cb v6 5)]) (fun x0 => gd (fitA [.agg kR, .agg kS, .one (.int .i64)] x0) (gd (gNo l5) (G 1045662 ({ vs := [AV.osl l0, AV.osl l1, p0, AV.nl, AV.sl 1 1000001 0 0 k2, AV.int .i64 n3, p2, p3, p4, AV.int .i64 (ti x0 2)], bs := [bx (wR ((v4))), some { es := l5, fr := false, pt := false }, bx (AV.agg (vwL kP 0 (AV.getc v6))), bx (wR (((List.getD (AV.gett x0) 0 .undef)))), bx (wS (((List.getD (AV.gett x0) 1 .undef))))] })))) := by kernel_rfl
theorem lpre_5 (l0 : List AV) (l1 : List AV) (k2 : Nat) (n3 : Int) (n4 : Int) (v5 : AV) (l6 : List AV) (v7 : AV) (v8 : AV) (v9 : AV) : (Dlpre V M).stepK G K 1045662 ⟨[(.osl l0), (.osl l1), p0, .nl, (.sl 1 1000001 0 0 k2), (.int .i64 n3), p2, p3, p4, (.int .i64 n4)], [bx (wR ((v5))), some ⟨l6, false, false⟩, bx (.agg (vwL kP 0 (AV.getc v7))), bx (wR ((v8))), bx (wS ((v9)))]⟩ =
    (bif n4 == (0 : Int) then gd (gNo l6) (G 133844906 ({ vs := [AV.osl l0, AV.osl l1, p0, AV.nl, AV.sl 1 1000001 0 0 k2, AV.int .i64 n3, p2, p3, AV.int .i64 (0 : Int)], bs := [bx (wR ((v8))), some { es := l6, fr := false, pt := false }, bx (AV.agg (vwL kP 0 (AV.getc v7))), bx (wS ((v9)))] })) else gd (gNo l6) (G 4182653 ({ vs := [AV.osl l0, AV.osl l1, p0, AV.nl, AV.sl 1 1000001 0 0 k2, AV.int .i64 n3, p2], bs := [bx (wR ((v5))), some { es := l6, fr := false, pt := false }, bx (AV.agg (vwL kP 0 (AV.getc v7)))] }))) := by kernel_rfl
theorem lpre_6 (l0 : List AV) (l1 : List AV) (k2 : Nat) (n3 : Int) (v4 : AV) (l5 : List AV) (v6 : AV) : (Dlpre V M).stepK G K 4182653 ⟨[(.osl l0), (.osl l1), p0, .nl, (.sl 1 1000001 0 0 k2), (.int .i64 n3), p2], [bx (wR ((v4))), some ⟨l5, false, false⟩, bx (.agg (vwL kP 0 (AV.getc v6)))]⟩ =
    (bif decide (ci v6 6 ≥ (0 : Int)) then Option.bind (V 42 [wR ((v4)), AV.int .i64 (ci v6 6)]) (fun x0 => gd (fitA [.agg kR, .one .sl, .one (.int .i64)] x0) ((bif !ti x0 2 == (0 : Int) then K (AV.bool false, []) else (bif decide ((↑(List.length (tl x0 1)) : Int) > ci v6 6) then K (AV.bool false, []) else gd (gRow 1 (tl x0 1)) (gd (gLen (0 + List.length (tl x0 1)) 1) (gd (gNo (tl x0 1)) (gd (gNo l5) (G 8365309 ({ vs := [AV.osl l0, AV.osl l1, p0, AV.sl 1 1000001 0 0 (0 + List.length (tl x0 1)), AV.sl 1 1000002 0 0 k2, AV.int .i64 n3], bs := [bx (wR (((List.getD (AV.gett x0) 0 .undef)))), some { es := tl x0 1, fr := false, pt := false }, some { es := l5, fr := false, pt := false }] }))))))))) else gd (gNo l5) (G 8365309 ({ vs := [AV.osl l0, AV.osl l1, p0, AV.nl, AV.sl 1 1000001 0 0 k2, AV.int .i64 n3], bs := [bx (wR ((v4))), some { es := l5, fr := false, pt := false }] }))) := by kernel_rfl
theorem lpre_7 (l0 : List AV) (l1 : List AV) (k2 : Nat) (n3 : Int) (n4 : Int) (v5 : AV) (l6 : List AV) (v7 : AV) (v8 : AV) : (Dlpre V M).stepK G K 133844906 ⟨[(.osl l0), (.osl l1), p0, .nl, (.sl 1 1000001 0 0 k2), (.int .i64 n3), p2, p3, (.int .i64 n4)], [bx (wR ((v5))), some ⟨l6, false, false⟩, bx (.agg (vwL kP 0 (AV.getc v7))), bx (wS ((v8)))]⟩ =
    (bif decide (n4 < ci v7 3) then (bif !cb v7 4 then gd (decide ((0 : Int) ≤ IntKind.wrap .i64 (ci v7 2 + n4) ∧ IntKind.wrap .i64 (ci v7 2 + n4) < (↑k2 : Int))) (Option.bind (l6[0 + Int.toNat (IntKind.wrap .i64 (ci v7 2 + n4))]?) (fun x6 => gd (Vw.fit (.one .bool) x6) (gd (gNo (List.set l6 (0 + Int.toNat (IntKind.wrap .i64 (ci v7 2 + n4))) (AV.bool true))) (G 133844906 ({ vs := [AV.osl l0, AV.osl l1, p0, AV.nl, AV.sl 1 1000001 0 0 k2, AV.int .i64 n3, p2, p3, AV.int .i64 (IntKind.wrap .i64 (n4 + (1 : Int)))], bs := [bx (wR ((v5))), some { es := List.set l6 (0 + Int.toNat (IntKind.wrap .i64 (ci v7 2 + n4))) (AV.bool true), fr := false, pt := false }, bx (AV.agg (vwL kP 0 (AV.getc v7))), bx (wS ((v8)))] }))))) else (bif cb v7 4 then gd (decide ((0 : Int) ≤ (↑(List.length l0) : Int) ∧ (↑(List.length l0) : Int) < (↑k2 : Int))) (Option.bind (l6[0 + Int.toNat (↑(List.length l0) : Int)]?) (fun x4 => gd (Vw.fit (.one .bool) x4) (Option.bind (V 40 [wS ((v8))]) (fun x5 => gd (fitA [.one .bool] x5) ((bif !AV.getb x5 then K (AV.bool false, []) else (bif !ci v8 0 == (3 : Int) then K (AV.bool false, []) else (bif !ci v8 1 == ci v7 0 then K (AV.bool false, []) else (bif decide (IntKind.wrap .i64 (ci v8 7) > IntKind.wrap .i64 ((↑(List.length l0) : Int) + (1 : Int))) then K (AV.bool false, []) else gd (gNo (List.set l6 (0 + Int.toNat (↑(List.length l0) : Int)) (AV.bool true))) (G 535379646 ({ vs := [AV.osl l0, AV.osl l1, p0, AV.nl, AV.sl 1 1000001 0 0 k2, AV.int .i64 n3, p2, p3, AV.int .i64 (0 : Int)], bs := [bx (wR ((v5))), some { es := List.set l6 (0 + Int.toNat (↑(List.length l0) : Int)) (AV.bool true), fr := false, pt := false }, bx (AV.agg (vwL kP 0 (AV.getc v7))), bx (wS ((v8)))] }))))))))))) else Option.bind (V 40 [wS ((v8))]) (fun x3 => gd (fitA [.one .bool] x3) ((bif !AV.getb x3 then K (AV.bool false, []) else (bif !ci v8 0 == (3 : Int) then K (AV.bool false, []) else (bif !ci v8 1 == ci v7 0 then K (AV.bool false, []) else (bif decide (IntKind.wrap .i64 (ci v8 7) > IntKind.wrap .i64 ((↑(List.length l0) : Int) + (1 : Int))) then K (AV.bool false, []) else gd (gNo l6) (G 535379646 ({ vs := [AV.osl l0, AV.osl l1, p0, AV.nl, AV.sl 1 1000001 0 0 k2, AV.int .i64 n3, p2, p3, AV.int .i64 (0 : Int)], bs := [bx (wR ((v5))), some { es := l6, fr := false, pt := false }, bx (AV.agg (vwL kP 0 (AV.getc v7))), bx (wS ((v8)))] })))))))))) else (bif cb v7 4 then gd (decide ((0 : Int) ≤ (↑(List.length l0) : Int) ∧ (↑(List.length l0) : Int) < (↑k2 : Int))) (Option.bind (l6[0 + Int.toNat (↑(List.length l0) : Int)]?) (fun x1 => gd (Vw.fit (.one .bool) x1) (Option.bind (V 40 [wS ((v8))]) (fun x2 => gd (fitA [.one .bool] x2) ((bif !AV.getb x2 then K (AV.bool false, []) else (bif !ci v8 0 == (3 : Int) then K (AV.bool false, []) else (bif !ci v8 1 == ci v7 0 then K (AV.bool false, []) else (bif decide (IntKind.wrap .i64 (ci v8 7) > IntKind.wrap .i64 ((↑(List.length l0) : Int) + (1 : Int))) then K (AV.bool false, []) else gd (gNo (List.set l6 (0 + Int.toNat (↑(List.length l0) : Int)) (AV.bool true))) (G 535379646 ({ vs := [AV.osl l0, AV.osl l1, p0, AV.nl, AV.sl 1 1000001 0 0 k2, AV.int .i64 n3, p2, p3, AV.int .i64 (0 : Int)], bs := [bx (wR ((v5))), some { es := List.set l6 (0 + Int.toNat (↑(List.length l0) : Int)) (AV.bool true), fr := false, pt := false }, bx (AV.agg (vwL kP 0 (AV.getc v7))), bx (wS ((v8)))] }))))))))))) else Option.bind (V 40 [wS ((v8))]) (fun x0 => gd (fitA [.one .bool] x0) ((bif !AV.getb x0 then K (AV.bool false, []) else (bif !ci v8 0 == (3 : Int) then K (AV.bool false, []) else (bif !ci v8 1 == ci v7 0 then K (AV.bool false, []) else (bif decide (IntKind.wrap .i64 (ci v8 7) > IntKind.wrap .i64 ((↑(List.length l0) : Int) + (1 : Int))) then K (AV.bool false, []) else gd (gNo l6) (G 535379646 ({ vs := [AV.osl l0, AV.osl l1, p0, AV.nl, AV.sl 1 1000001 0 0 k2, AV.int .i64 n3, p2, p3, AV.int .i64 (0 : Int)], bs := [bx (wR ((v5))), some { es := l6, fr := false, pt := false }, bx (AV.agg (vwL kP 0 (AV.getc v7))), bx (wS ((v8)))] })))))))))) := by kernel_rfl
theorem lpre_8 (l0 : List AV) (l1 : List AV) (k2 : Nat) (n3 : Int) (v4 : AV) (l5 : List AV) : (Dlpre V M).stepK G K 8365309 ⟨[(.osl l0), (.osl l1), p0, .nl, (.sl 1 1000001 0 0 k2), (.int .i64 n3)], [bx (wR ((v4))), some ⟨l5, false, false⟩]⟩ =
    Option.bind (V 41 [wR ((v4))]) (fun x0 => gd (fitA [.one .bool] x0) (gd (gNo l5) (G 16730620 ({ vs := [AV.osl l0, AV.osl l1, p0, AV.nl, AV.sl 1 1000001 0 0 k2, AV.int .i64 n3, AV.bool !AV.getb x0], bs := [bx (wR ((v4))), some { es := l5, fr := false, pt := false }] })))) := by kernel_rfl
theorem lpre_9 (l0 : List AV) (l1 : List AV) (k2 : Nat) (k3 : Nat) (n4 : Int) (v5 : AV) (l6 : List AV) (l7 : List AV) : (Dlpre V M).stepK G K 8365309 ⟨[(.osl l0), (.osl l1), p0, (.sl 1 1000001 0 0 k2), (.sl 1 1000002 0 0 k3), (.int .i64 n4)], [bx (wR ((v5))), some ⟨l6, false, false⟩, some ⟨l7, false, false⟩]⟩ =
    (bif decide ((↑k2 : Int) > (↑(List.length l0) : Int)) then gd (gNo l6) (gd (gNo l7) (G 16730620 ({ vs := [AV.osl l0, AV.osl l1, p0, AV.sl 1 1000001 0 0 k2, AV.sl 1 1000002 0 0 k3, AV.int .i64 n4, AV.bool true], bs := [bx (wR ((v5))), some { es := l6, fr := false, pt := false }, some { es := l7, fr := false, pt := false }] }))) else Option.bind (V 41 [wR ((v5))]) (fun x0 => gd (fitA [.one .bool] x0) (gd (gNo l6) (gd (gNo l7) (G 16730620 ({ vs := [AV.osl l0, AV.osl l1, p0, AV.sl 1 1000001 0 0 k2, AV.sl 1 1000002 0 0 k3, AV.int .i64 n4, AV.bool !AV.getb x0], bs := [bx (wR ((v5))), some { es := l6, fr := false, pt := false }, some { es := l7, fr := false, pt := false }] })))))) := by kernel_rfl
theorem lpre_10 (l0 : List AV) (l1 : List AV) (k2 : Nat) (n3 : Int) (n4 : Int) (v5 : AV) (l6 : List AV) (v7 : AV) (v8 : AV) : (Dlpre V M).stepK G K 535379646 ⟨[(.osl l0), (.osl l1), p0, .nl, (.sl 1 1000001 0 0 k2), (.int .i64 n3), p2, p3, (.int .i64 n4)], [bx (wR ((v5))), some ⟨l6, false, false⟩, bx (.agg (vwL kP 0 (AV.getc v7))), bx (wS ((v8)))]⟩ =
    (bif decide (n4 < IntKind.wrap .i64 (ci v8 7)) then gd (decide ((0 : Int) ≤ n4 ∧ n4 < (↑k2 : Int))) (Option.bind (l6[0 + Int.toNat n4]?) (fun x0 => gd (Vw.fit (.one .bool) x0) ((bif !AV.getb x0 then K (AV.bool false, []) else gd (gNo l6) (G 535379646 ({ vs := [AV.osl l0, AV.osl l1, p0, AV.nl, AV.sl 1 1000001 0 0 k2, AV.int .i64 n3, p2, p3, AV.int .i64 (IntKind.wrap .i64 (n4 + (1 : Int)))], bs := [bx (wR ((v5))), some { es := l6, fr := false, pt := false }, bx (AV.agg (vwL kP 0 (AV.getc v7))), bx (wS ((v8)))] })))))) else gd (gNo l6) (G 4182653 ({ vs := [AV.osl l0, AV.osl l1, p0, AV.nl, AV.sl 1 1000001 0 0 k2, AV.int .i64 n3, p2], bs := [bx (wR ((v5))), some { es := l6, fr := false, pt := false }, bx (AV.agg (vwL kP 0 (AV.getc v7)))] }))) := by kernel_rfl
theorem lpre_11 (l0 : List AV) (l1 : List AV) (k2 : Nat) (n3 : Int) (b4 : Bool) (v5 : AV) (l6 : List AV) : (Dlpre V M).stepK G K 16730620 ⟨[(.osl l0), (.osl l1), p0, .nl, (.sl 1 1000001 0 0 k2), (.int .i64 n3), (.bool b4)], [bx (wR ((v5))), some ⟨l6, false, false⟩]⟩ =
    (bif b4 then K (AV.bool false, []) else gd (gCel 1 l0) (Option.bind (V 24 [AV.nl, AV.osl []]) (fun x0 => gd (fitA [.one .bool] x0) ((bif !AV.getb x0 then K (AV.bool false, []) else Option.bind (V 49 [wR ((v5))]) (fun x1 => gd (fitA [.one .bool] x1) ((bif AV.getb x1 then (bif decide ((0 : Int) < (↑(List.length l0) : Int)) then K (AV.bool false, []) else gd (gNo l6) (G 2042 ({ vs := [AV.osl l0, AV.osl l1, p0, AV.nl, AV.sl 1 1000001 0 0 k2, AV.int .i64 (IntKind.wrap .i64 (n3 + (1 : Int)))], bs := [bx (wR ((v5))), some { es := l6, fr := false, pt := false }] }))) else gd (gNo l6) (G 2042 ({ vs := [AV.osl l0, AV.osl l1, p0, AV.nl, AV.sl 1 1000001 0 0 k2, AV.int .i64 (IntKind.wrap .i64 (n3 + (1 : Int)))], bs := [bx (wR ((v5))), some { es := l6, fr := false, pt := false }] })))))))))) := by kernel_rfl
theorem lpre_12 (l0 : List AV) (l1 : List AV) (k2 : Nat) (k3 : Nat) (n4 : Int) (b5 : Bool) (v6 : AV) (l7 : List AV) (l8 : List AV) : (Dlpre V M).stepK G K 16730620 ⟨[(.osl l0), (.osl l1), p0, (.sl 1 1000001 0 0 k2), (.sl 1 1000002 0 0 k3), (.int .i64 n4), (.bool b5)], [bx (wR ((v6))), some ⟨l7, false, false⟩, some ⟨l8, false, false⟩]⟩ =
    (bif b5 then K (AV.bool false, []) else gd (gCel 1 l0) (gd (decide ((0 : Int) ≤ (↑k2 : Int) ∧ (↑k2 : Int) ≤ (↑(List.length l0) : Int))) (gd (decide (0 + k2 ≤ List.length l7)) (gd (gFree 1 (List.take k2 (List.drop 0 l7))) (Option.bind (V 24 [AV.osl (List.take k2 (List.drop 0 l7)), AV.osl (List.drop 0 (List.take (Int.toNat (↑k2 : Int)) l0))]) (fun x0 => gd (fitA [.one .bool] x0) ((bif !AV.getb x0 then K (AV.bool false, []) else Option.bind (V 49 [wR ((v6))]) (fun x1 => gd (fitA [.one .bool] x1) ((bif AV.getb x1 then (bif decide ((↑k2 : Int) < (↑(List.length l0) : Int)) then K (AV.bool false, []) else gd (gNo l7) (gd (gNo l8) (G 2042 ({ vs := [AV.osl l0, AV.osl l1, p0, AV.sl 1 1000001 0 0 k2, AV.sl 1 1000002 0 0 k3, AV.int .i64 (IntKind.wrap .i64 (n4 + (1 : Int)))], bs := [bx (wR ((v6))), some { es := l7, fr := false, pt := false }, some { es := l8, fr := false, pt := false }] })))) else gd (gNo l7) (gd (gNo l8) (G 2042 ({ vs := [AV.osl l0, AV.osl l1, p0, AV.sl 1 1000001 0 0 k2, AV.sl 1 1000002 0 0 k3, AV.int .i64 (IntKind.wrap .i64 (n4 + (1 : Int)))], bs := [bx (wR ((v6))), some { es := l7, fr := false, pt := false }, some { es := l8, fr := false, pt := false }] })))))))))))))) := by kernel_rfl
theorem lpre_13 (l0 : List AV) (l1 : List AV) (k2 : Nat) (k3 : Nat) (n4 : Int) (v5 : AV) (l6 : List AV) (l7 : List AV) : (Dlpre V M).stepK G K 2042 ⟨[(.osl l0), (.osl l1), p0, (.sl 1 1000001 0 0 k2), (.sl 1 1000002 0 0 k3), (.int .i64 n4)], [bx (wR ((v5))), some ⟨l6, false, false⟩, some ⟨l7, false, false⟩]⟩ =
    (bif decide (n4 < (↑(List.length l1) : Int)) then gd (decide ((0 : Int) ≤ n4)) (Option.bind (l1[Int.toNat n4]?) (fun x0 => gd (Vw.fit (.agg kP) x0) ((bif decide (ci x0 0 < (0 : Int)) then K (AV.bool true, []) else (bif decide (ci x0 0 > (3 : Int)) then K (AV.bool true, []) else (bif decide (ci x0 1 < (0 : Int)) then K (AV.bool true, []) else (bif decide (ci x0 1 > (1000000 : Int)) then K (AV.bool true, []) else (bif decide (ci x0 2 < (0 : Int)) then K (AV.bool true, []) else (bif decide (ci x0 2 > (↑(List.length l0) : Int)) then K (AV.bool true, []) else (bif decide (ci x0 3 < (0 : Int)) then K (AV.bool true, []) else (bif decide (ci x0 3 > IntKind.wrap .i64 ((↑(List.length l0) : Int) - ci x0 2)) then K (AV.bool true, []) else gd (gNo l6) (gd (gNo l7) (G 261413 ({ vs := [AV.osl l0, AV.osl l1, p0, AV.sl 1 1000001 0 0 k2, AV.sl 1 1000002 0 0 k3, AV.int .i64 n4, p3], bs := [bx (wR ((v5))), some { es := l6, fr := false, pt := false }, some { es := l7, fr := false, pt := false }, bx (AV.agg (vwL kP 0 (AV.getc x0)))] })))))))))))))) else K (AV.bool true, [])) := by kernel_rfl
theorem lpre_14 (l0 : List AV) (l1 : List AV) (k2 : Nat) (k3 : Nat) (n4 : Int) (v5 : AV) (l6 : List AV) (l7 : List AV) (v8 : AV) : (Dlpre V M).stepK G K 261413 ⟨[(.osl l0), (.osl l1), p0, (.sl 1 1000001 0 0 k2), (.sl 1 1000002 0 0 k3), (.int .i64 n4), p3], [bx (wR ((v5))), some ⟨l6, false, false⟩, some ⟨l7, false, false⟩, bx (.agg (vwL kP 0 (AV.getc v8)))]⟩ =
    gd (gCel 1 l0) (gd (decide ((0 : Int) ≤ IntKind.wrap .i64 (ci v8 2 + ci v8 3) ∧ IntKind.wrap .i64 (ci v8 2 + ci v8 3) ≤ (↑(List.length l0) : Int))) (gd (decide ((0 : Int) ≤ ci v8 2 ∧ ci v8 2 ≤ (↑(Int.toNat (IntKind.wrap .i64 (ci v8 2 + ci v8 3))) : Int))) ((bif cb v8 4 then gd (gNo l6) (gd (gNo l7) (G 1045661 ({ vs := [AV.osl l0, AV.osl l1, p0, AV.sl 1 1000001 0 0 k2, AV.sl 1 1000002 0 0 k3, AV.int .i64 n4, p3, p4], bs := [bx (wR ((v5))), some { es := l6, fr := false, pt := false }, some { es := l7, fr := false, pt := false }, bx (AV.agg (vwL kP 0 (AV.getc v8))), bx (AV.agg [AV.int .i64 (2 : Int), AV.int .i64 (ci v8 0), AV.bool true, AV.bool false, AV.int .u32 (IntKind.wrap .u32 (ci v8 1)), AV.int .u32 (IntKind.wrap .u32 (↑(List.length l0) : Int)), AV.int .u32 (0 : Int), AV.int .u32 (0 : Int), AV.int .i64 (0 : Int), AV.int .i64 (0 : Int), AV.int .u32 (0 : Int), AV.int .u32 (0 : Int), AV.int .u32 (0 : Int), AV.nl, AV.nl])] }))) else gd (gNo l6) (gd (gNo l7) (G 1045661 ({ vs := [AV.osl l0, AV.osl l1, p0, AV.sl 1 1000001 0 0 k2, AV.sl 1 1000002 0 0 k3, AV.int .i64 n4, p3, p4], bs := [bx (wR ((v5))), some { es := l6, fr := false, pt := false }, some { es := l7, fr := false, pt := false }, bx (AV.agg (vwL kP 0 (AV.getc v8))), bx (AV.agg [AV.int .i64 (2 : Int), AV.int .i64 (ci v8 0), AV.bool false, AV.bool false, AV.int .u32 (IntKind.wrap .u32 (ci v8 1)), AV.int .u32 (IntKind.wrap .u32 (ci v8 2)), AV.int .u32 (0 : Int), AV.int .u32 (0 : Int), AV.int .i64 (0 : Int), AV.int .i64 (0 : Int), AV.int .u32 (0 : Int), AV.int .u32 (0 : Int), AV.int .u32 (0 : Int), AV.nl, AV.osl (List.drop (Int.toNat (ci v8 2)) (List.take (Int.toNat (IntKind.wrap .i64 (ci v8 2 + ci v8 3))) l0))])] }))))))) := by kernel_rfl
theorem lpre_15 (l0 : List AV) (l1 : List AV) (k2 : Nat) (k3 : Nat) (n4 : Int) (v5 : AV) (l6 : List AV) (l7 : List AV) (v8 : AV) (v9 : AV) (l10 : List AV) : (Dlpre V M).stepK G K 1045661 ⟨[(.osl l0), (.osl l1), p0, (.sl 1 1000001 0 0 k2), (.sl 1 1000002 0 0 k3), (.int .i64 n4), p3, p4], [bx (wR ((v5))), some ⟨l6, false, false⟩, some ⟨l7, false, false⟩, bx (.agg (vwL kP 0 (AV.getc v8))), bx (.agg (List.append (vwL kO 0 (AV.getc v9)) [.nl, (.osl l10)]))]⟩ =
    Option.bind (V 37 [wR ((v5)), AV.agg (List.append (vwL kO 0 (AV.getc v9)) [AV.nl, AV.osl l10]), AV.bool (cb v8 5)]) (fun x0 => gd (fitA [.agg kR, .agg kS, .one (.int .i64)] x0) (gd (gNo l6) (gd (gNo l7) (G 1045662 ({ vs := [AV.osl l0, AV.osl l1, p0, AV.sl 1 1000001 0 0 k2, AV.sl 1 1000002 0 0 k3, AV.int .i64 n4, p3, p4, p5, AV.int .i64 (ti x0 2)], bs := [bx (wR ((v5))), some { es := l6, fr := false, pt := false }, some { es := l7, fr := false, pt := false }, bx (AV.agg (vwL kP 0 (AV.getc v8))), bx (wR (((List.getD (AV.gett x0) 0 .undef)))), bx (wS (((List.getD (AV.gett x0) 1 .undef))))] }))))) := by kernel_rfl
theorem lpre_16 (l0 : List AV) (l1 : List AV) (k2 : Nat) (k3 : Nat) (n4 : Int) (v5 : AV) (l6 : List AV) (l7 : List AV) (v8 : AV) (v9 : AV) : (Dlpre V M).stepK G K 1045661 ⟨[(.osl l0), (.osl l1), p0, (.sl 1 1000001 0 0 k2), (.sl 1 1000002 0 0 k3), (.int .i64 n4), p3, p4], [bx (wR ((v5))), some ⟨l6, false, false⟩, some ⟨l7, false, false⟩, bx (.agg (vwL kP 0 (AV.getc v8))), bx (.agg (List.append (vwL kO 0 (AV.getc v9)) [.nl, .nl]))]⟩ =
    Option.bind (V 37 [wR ((v5)), AV.agg (List.append (vwL kO 0 (AV.getc v9)) [AV.nl, AV.nl]), AV.bool (cb v8 5)]) (fun x0 => gd (fitA [.agg kR, .agg kS, .one (.int .i64)] x0) (gd (gNo l6) (gd (gNo l7) (G 1045662 ({ vs := [AV.osl l0, AV.osl l1, p0, AV.sl 1 1000001 0 0 k2, AV.sl 1 1000002 0 0 k3, AV.int .i64 n4, p3, p4, p5, AV.int .i64 (ti x0 2)], bs := [bx (wR ((v5))), some { es := l6, fr := false, pt := false }, some { es := l7, fr := false, pt := false }, bx (AV.agg (vwL kP 0 (AV.getc v8))), bx (wR (((List.getD (AV.gett x0) 0 .undef)))), bx (wS (((List.getD (AV.gett x0) 1 .undef))))] }))))) := by kernel_rfl
theorem lpre_17 (l0 : List AV) (l1 : List AV) (k2 : Nat) (k3 : Nat) (n4 : Int) (n5 : Int) (v6 : AV) (l7 : List AV) (l8 : List AV) (v9 : AV) (v10 : AV) (v11 : AV) : (Dlpre V M).stepK G K 1045662 ⟨[(.osl l0), (.osl l1), p0, (.sl 1 1000001 0 0 k2), (.sl 1 1000002 0 0 k3), (.int .i64 n4), p3, p4, p5, (.int .i64 n5)], [bx (wR ((v6))), some ⟨l7, false, false⟩, some ⟨l8, false, false⟩, bx (.agg (vwL kP 0 (AV.getc v9))), bx (wR ((v10))), bx (wS ((v11)))]⟩ =
    (bif n5 == (0 : Int) then gd (gNo l7) (gd (gNo l8) (G 133844906 ({ vs := [AV.osl l0, AV.osl l1, p0, AV.sl 1 1000001 0 0 k2, AV.sl 1 1000002 0 0 k3, AV.int .i64 n4, p3, p4, AV.int .i64 (0 : Int)], bs := [bx (wR ((v10))), some { es := l7, fr := false, pt := false }, some { es := l8, fr := false, pt := false }, bx (AV.agg (vwL kP 0 (AV.getc v9))), bx (wS ((v11)))] }))) else gd (gNo l7) (gd (gNo l8) (G 4182653 ({ vs := [AV.osl l0, AV.osl l1, p0, AV.sl 1 1000001 0 0 k2, AV.sl 1 1000002 0 0 k3, AV.int .i64 n4, p3], bs := [bx (wR ((v6))), some { es := l7, fr := false, pt := false }, some { es := l8, fr := false, pt := false }, bx (AV.agg (vwL kP 0 (AV.getc v9)))] })))) := by kernel_rfl
theorem lpre_18 (l0 : List AV) (l1 : List AV) (k2 : Nat) (k3 : Nat) (n4 : Int) (v5 : AV) (l6 : List AV) (l7 : List AV) (v8 : AV) : (Dlpre V M).stepK G K 4182653 ⟨[(.osl l0), (.osl l1), p0, (.sl 1 1000001 0 0 k2), (.sl 1 1000002 0 0 k3), (.int .i64 n4), p3], [bx (wR ((v5))), some ⟨l6, false, false⟩, some ⟨l7, false, false⟩, bx (.agg (vwL kP 0 (AV.getc v8)))]⟩ =
    (bif decide (ci v8 6 ≥ (0 : Int)) then Option.bind (V 42 [wR ((v5)), AV.int .i64 (ci v8 6)]) (fun x0 => gd (fitA [.agg kR, .one .sl, .one (.int .i64)] x0) ((bif !ti x0 2 == (0 : Int) then K (AV.bool false, []) else (bif decide ((↑(List.length (tl x0 1)) : Int) > ci v8 6) then K (AV.bool false, []) else gd (decide (k2 ≤ List.length l6)) (gd (gRow 1 (tl x0 1)) (gd (gLen (List.length (List.take k2 l6) + List.length (tl x0 1)) 1) (gd (gNo (List.take k2 l6 ++ tl x0 1)) (gd (gNo l7) (G 8365309 ({ vs := [AV.osl l0, AV.osl l1, p0, AV.sl 1 1000001 0 0 (List.length (List.take k2 l6) + List.length (tl x0 1)), AV.sl 1 1000002 0 0 k3, AV.int .i64 n4], bs := [bx (wR (((List.getD (AV.gett x0) 0 .undef)))), some { es := List.take k2 l6 ++ tl x0 1, fr := false, pt := false }, some { es := l7, fr := false, pt := false }] })))))))))) else gd (gNo l6) (gd (gNo l7) (G 8365309 ({ vs := [AV.osl l0, AV.osl l1, p0, AV.sl 1 1000001 0 0 k2, AV.sl 1 1000002 0 0 k3, AV.int .i64 n4], bs := [bx (wR ((v5))), some { es := l6, fr := false, pt := false }, some { es := l7, fr := false, pt := false }] })))) := by kernel_rfl
theorem lpre_19 (l0 : List AV) (l1 : List AV) (k2 : Nat) (k3 : Nat) (n4 : Int) (n5 : Int) (v6 : AV) (l7 : List AV) (l8 : List AV) (v9 : AV) (v10 : AV) : (Dlpre V M).stepK G K 133844906 ⟨[(.osl l0), (.osl l1), p0, (.sl 1 1000001 0 0 k2), (.sl 1 1000002 0 0 k3), (.int .i64 n4), p3, p4, (.int .i64 n5)], [bx (wR ((v6))), some ⟨l7, false, false⟩, some ⟨l8, false, false⟩, bx (.agg (vwL kP 0 (AV.getc v9))), bx (wS ((v10)))]⟩ =
    (bif decide (n5 < ci v9 3) then (bif !cb v9 4 then gd (decide ((0 : Int) ≤ IntKind.wrap .i64 (ci v9 2 + n5) ∧ IntKind.wrap .i64 (ci v9 2 + n5) < (↑k3 : Int))) (Option.bind (l8[0 + Int.toNat (IntKind.wrap .i64 (ci v9 2 + n5))]?) (fun x6 => gd (Vw.fit (.one .bool) x6) (gd (gNo l7) (gd (gNo (List.set l8 (0 + Int.toNat (IntKind.wrap .i64 (ci v9 2 + n5))) (AV.bool true))) (G 133844906 ({ vs := [AV.osl l0, AV.osl l1, p0, AV.sl 1 1000001 0 0 k2, AV.sl 1 1000002 0 0 k3, AV.int .i64 n4, p3, p4, AV.int .i64 (IntKind.wrap .i64 (n5 + (1 : Int)))], bs := [bx (wR ((v6))), some { es := l7, fr := false, pt := false }, some { es := List.set l8 (0 + Int.toNat (IntKind.wrap .i64 (ci v9 2 + n5))) (AV.bool true), fr := false, pt := false }, bx (AV.agg (vwL kP 0 (AV.getc v9))), bx (wS ((v10)))] })))))) else (bif cb v9 4 then gd (decide ((0 : Int) ≤ (↑(List.length l0) : Int) ∧ (↑(List.length l0) : Int) < (↑k3 : Int))) (Option.bind (l8[0 + Int.toNat (↑(List.length l0) : Int)]?) (fun x4 => gd (Vw.fit (.one .bool) x4) (Option.bind (V 40 [wS ((v10))]) (fun x5 => gd (fitA [.one .bool] x5) ((bif !AV.getb x5 then K (AV.bool false, []) else (bif !ci v10 0 == (3 : Int) then K (AV.bool false, []) else (bif !ci v10 1 == ci v9 0 then K (AV.bool false, []) else (bif decide (IntKind.wrap .i64 (ci v10 7) > IntKind.wrap .i64 ((↑(List.length l0) : Int) + (1 : Int))) then K (AV.bool false, []) else gd (gNo l7) (gd (gNo (List.set l8 (0 + Int.toNat (↑(List.length l0) : Int)) (AV.bool true))) (G 535379646 ({ vs := [AV.osl l0, AV.osl l1, p0, AV.sl 1 1000001 0 0 k2, AV.sl 1 1000002 0 0 k3, AV.int .i64 n4, p3, p4, AV.int .i64 (0 : Int)], bs := [bx (wR ((v6))), some { es := l7, fr := false, pt := false }, some { es := List.set l8 (0 + Int.toNat (↑(List.length l0) : Int)) (AV.bool true), fr := false, pt := false }, bx (AV.agg (vwL kP 0 (AV.getc v9))), bx (wS ((v10)))] })))))))))))) else Option.bind (V 40 [wS ((v10))]) (fun x3 => gd (fitA [.one .bool] x3) ((bif !AV.getb x3 then K (AV.bool false, []) else (bif !ci v10 0 == (3 : Int) then K (AV.bool false, []) else (bif !ci v10 1 == ci v9 0 then K (AV.bool false, []) else (bif decide (IntKind.wrap .i64 (ci v10 7) > IntKind.wrap .i64 ((↑(List.length l0) : Int) + (1 : Int))) then K (AV.bool false, []) else gd (gNo l7) (gd (gNo l8) (G 535379646 ({ vs := [AV.osl l0, AV.osl l1, p0, AV.sl 1 1000001 0 0 k2, AV.sl 1 1000002 0 0 k3, AV.int .i64 n4, p3, p4, AV.int .i64 (0 : Int)], bs := [bx (wR ((v6))), some { es := l7, fr := false, pt := false }, some { es := l8, fr := false, pt := false }, bx (AV.agg (vwL kP 0 (AV.getc v9))), bx (wS ((v10)))] }))))))))))) else (bif cb v9 4 then gd (decide ((0 : Int) ≤ (↑(List.length l0) : Int) ∧ (↑(List.length l0) : Int) < (↑k3 : Int))) (Option.bind (l8[0 + Int.toNat (↑(List.length l0) : Int)]?) (fun x1 => gd (Vw.fit (.one .bool) x1) (Option.bind (V 40 [wS ((v10))]) (fun x2 => gd (fitA [.one .bool] x2) ((bif !AV.getb x2 then K (AV.bool false, []) else (bif !ci v10 0 == (3 : Int) then K (AV.bool false, []) else (bif !ci v10 1 == ci v9 0 then K (AV.bool false, []) else (bif decide (IntKind.wrap .i64 (ci v10 7) > IntKind.wrap .i64 ((↑(List.length l0) : Int) + (1 : Int))) then K (AV.bool false, []) else gd (gNo l7) (gd (gNo (List.set l8 (0 + Int.toNat (↑(List.length l0) : Int)) (AV.bool true))) (G 535379646 ({ vs := [AV.osl l0, AV.osl l1, p0, AV.sl 1 1000001 0 0 k2, AV.sl 1 1000002 0 0 k3, AV.int .i64 n4, p3, p4, AV.int .i64 (0 : Int)], bs := [bx (wR ((v6))), some { es := l7, fr := false, pt := false }, some { es := List.set l8 (0 + Int.toNat (↑(List.length l0) : Int)) (AV.bool true), fr := false, pt := false }, bx (AV.agg (vwL kP 0 (AV.getc v9))), bx (wS ((v10)))] })))))))))))) else Option.bind (V 40 [wS ((v10))]) (fun x0 => gd (fitA [.one .bool] x0) ((bif !AV.getb x0 then K (AV.bool false, []) else (bif !ci v10 0 == (3 : Int) then K (AV.bool false, []) else (bif !ci v10 1 == ci v9 0 then K (AV.bool false, []) else (bif decide (IntKind.wrap .i64 (ci v10 7) > IntKind.wrap .i64 ((↑(List.length l0) : Int) + (1 : Int))) then K (AV.bool false, []) else gd (gNo l7) (gd (gNo l8) (G 535379646 ({ vs := [AV.osl l0, AV.osl l1, p0, AV.sl 1 1000001 0 0 k2, AV.sl 1 1000002 0 0 k3, AV.int .i64 n4, p3, p4, AV.int .i64 (0 : Int)], bs := [bx (wR ((v6))), some { es := l7, fr := false, pt := false }, some { es := l8, fr := false, pt := false }, bx (AV.agg (vwL kP 0 (AV.getc v9))), bx (wS ((v10)))] }))))))))))) := by kernel_rfl
theorem lpre_20 (l0 : List AV) (l1 : List AV) (k2 : Nat) (k3 : Nat) (n4 : Int) (n5 : Int) (v6 : AV) (l7 : List AV) (l8 : List AV) (v9 : AV) (v10 : AV) : (Dlpre V M).stepK G K 535379646 ⟨[(.osl l0), (.osl l1), p0, (.sl 1 1000001 0 0 k2), (.sl 1 1000002 0 0 k3), (.int .i64 n4), p3, p4, (.int .i64 n5)], [bx (wR ((v6))), some ⟨l7, false, false⟩, some ⟨l8, false, false⟩, bx (.agg (vwL kP 0 (AV.getc v9))), bx (wS ((v10)))]⟩ =
    (bif decide (n5 < IntKind.wrap .i64 (ci v10 7)) then gd (decide ((0 : Int) ≤ n5 ∧ n5 < (↑k3 : Int))) (Option.bind (l8[0 + Int.toNat n5]?) (fun x0 => gd (Vw.fit (.one .bool) x0) ((bif !AV.getb x0 then K (AV.bool false, []) else gd (gNo l7) (gd (gNo l8) (G 535379646 ({ vs := [AV.osl l0, AV.osl l1, p0, AV.sl 1 1000001 0 0 k2, AV.sl 1 1000002 0 0 k3, AV.int .i64 n4, p3, p4, AV.int .i64 (IntKind.wrap .i64 (n5 + (1 : Int)))], bs := [bx (wR ((v6))), some { es := l7, fr := false, pt := false }, some { es := l8, fr := false, pt := false }, bx (AV.agg (vwL kP 0 (AV.getc v9))), bx (wS ((v10)))] }))))))) else gd (gNo l7) (gd (gNo l8) (G 4182653 ({ vs := [AV.osl l0, AV.osl l1, p0, AV.sl 1 1000001 0 0 k2, AV.sl 1 1000002 0 0 k3, AV.int .i64 n4, p3], bs := [bx (wR ((v6))), some { es := l7, fr := false, pt := false }, some { es := l8, fr := false, pt := false }, bx (AV.agg (vwL kP 0 (AV.getc v9)))] })))) := by kernel_rfl
end
/-! ### Segments of one message -/
def setN (ts : List Bool) (a : Nat) : Nat → List Bool
  | 0 => ts
  | k + 1 => (setN ts a k).set (a + k) true
theorem setN_len (ts : List Bool) (a : Nat) : ∀ k, (setN ts a k).length = ts.length
  | 0 => rfl
  | k + 1 => by unfold setN; rw [List.length_set, setN_len ts a k]
theorem set_true {ts : List Bool} {p i : Nat} (h : ts[p]? = some true) : (ts.set i true)[p]? = some true := by
  rw [List.getElem?_set]
  split
  · rename_i e
    subst e
    have hp : i < ts.length := by rw [List.getElem?_eq_some_iff] at h; exact h.1
    rw [if_pos hp]
  · exact h
theorem set_at {ts : List Bool} {i : Nat} (h : i < ts.length) : (ts.set i true)[i]? = some true := by
  rw [List.getElem?_set, if_pos rfl, if_pos h]
theorem setN_old {ts : List Bool} {a p : Nat} (h : ts[p]? = some true) : ∀ k, (setN ts a k)[p]? = some true
  | 0 => h
  | k + 1 => set_true (setN_old h k)
theorem setN_new {ts : List Bool} {a p : Nat} (hp : p < ts.length) : ∀ k, a ≤ p → p < a + k → (setN ts a k)[p]? = some true
  | 0, h1, h2 => by omega
  | k + 1, h1, h2 => by
    unfold setN
    by_cases e : p = a + k
    · subst e
      exact set_at (by rw [setN_len]; exact hp)
    · exact set_true (setN_new hp k h1 (by omega))
structure PreI (all : List AV) (r : Rc) (out : List AV) (ts : List Bool) : Prop where
  may : r.may = true
  isb : IsB r.w.b
  base : r.w.base = out.length
  ol : out.length ≤ all.length
  oe : out = all.take out.length
  en : r.w.end_ = -1 ∨ r.w.end_ = all.length
  me : ∀ n, mem r.w.l n → n < all.length ∧ byteAt r.w.b (n - r.w.base).toNat = byteAt all n.toNat
  tl : ts.length = all.length + 1
  tb : ∀ p : Nat, p < out.length → ts[p]? = some true
  tm : ∀ n, mem r.w.l n → ts[n.toNat]? = some true
  te : r.w.end_ = all.length → ts[all.length]? = some true
theorem il_len {x : Il} (h : x.may = true) : x.got.length ≤ 90000 := by
  unfold Il.may at h
  rw [Bool.and_eq_true] at h
  have := (may_iff.1 h.1).1
  omega
theorem may_sm {r : Rc} (h : r.may = true) (hb : IsB r.w.b) : r.Sm := by
  have hw := mayOf (Rc.may_w h)
  have := hw.len; have := hw.ll
  exact ⟨⟨hb, by omega, by omega⟩, by have := il_len (Rc.may_at h 0); exact this, by have := il_len (Rc.may_at h 1); exact this, by have := il_len (Rc.may_at h 2); exact this, by have := il_len (Rc.may_at h 3); exact this⟩
theorem PreI.far {all : List AV} {r : Rc} {out : List AV} {ts : List Bool} (h : PreI all r out ts) : 0 ≤ farP r.w ∧ farP r.w ≤ all.length + 1 ∧ ∀ k : Nat, (k : Int) < farP r.w → ts[k]? = some true := by
  have hw := Rc.may_w h.may
  obtain ⟨g1, g2, g3, g4, g5⟩ := ready_le hw
  have hb := h.base; have hol := h.ol
  have hgl : gapP r.w.l r.w.base ≤ all.length := by
    by_cases c : gapP r.w.l r.w.base = r.w.base
    · omega
    · have := (h.me _ (g4 (gapP r.w.l r.w.base - 1) (by omega) (by omega))).1; omega
  have below : ∀ k : Nat, (k : Int) < r.w.base + readyP r.w → ts[k]? = some true := fun k hk => by
    by_cases c : (k : Int) < r.w.base
    · exact h.tb k (by omega)
    · have := h.tm k (g4 k (by omega) (by omega))
      rwa [Int.toNat_natCast] at this
  unfold farP
  split
  · rename_i e
    refine ⟨by omega, by omega, fun k hk => ?_⟩
    by_cases c : (k : Int) < r.w.base + readyP r.w
    · exact below k c
    · have he := h.en
      have hb0 := (mayOf hw).b0
      have e2 : r.w.end_ = all.length := by omega
      have : k = all.length := by omega
      rw [this]; exact h.te e2
  · exact ⟨by omega, by omega, below⟩
theorem PreI.read {all : List AV} (hall : IsB all) {r : Rc} {out : List AV} {ts : List Bool} (h : PreI all r out ts) {n : Int} (hn : 0 ≤ n) :
    readRE r n = 0 ∧ PreI all (readR r n) (out ++ readRB r n) ts ∧ ((readRB r n).length : Int) ≤ n ∧ IsB (readRB r n) ∧ (readRB r n).length ≤ 90000 := by
  have hw := Rc.may_w h.may
  have q0 : readE r.w n = 0 := by unfold readE; rw [if_pos ⟨hw, hn⟩]
  have q1 : readRE r n = 0 := by unfold readRE; rw [if_pos h.may]; exact q0
  have q2 : readR r n = { r with w := readW r.w n } := by unfold readR; rw [if_pos q1]
  have q3 : readRB r n = readB r.w n := by unfold readRB; rw [if_pos q1]
  obtain ⟨k1, k2, k3, k4, k5, k6⟩ := readK_le hw hn
  obtain ⟨r1, r2, r3, r4, r5, r6, r7, r8⟩ := readW_may hw hn
  have eB : readB r.w n = r.w.b.take (readK r.w n) := by unfold readB; rw [if_pos ⟨hw, hn⟩]
  have lB : (readB r.w n).length = readK r.w n := by rw [eB, List.length_take]; omega
  have hm := mayOf hw
  have hb := h.base; have hol := h.ol
  have hg := gap_has hw (readK r.w n) k5
  have hend : out.length + readK r.w n ≤ all.length := by
    by_cases c : readK r.w n = 0
    · omega
    · have := (h.me _ (hg (r.w.base + readK r.w n - 1) (by omega) (by omega))).1; omega
  have hsame : r.w.b.take (readK r.w n) = (all.drop out.length).take (readK r.w n) := by
    refine isb_ext (IsB.take h.isb _) (IsB.take (IsB.drop hall _) _) (by rw [List.length_take, List.length_take, List.length_drop]; omega) fun j hj => ?_
    rw [List.length_take] at hj
    have := (h.me _ (hg (r.w.base + j) (by omega) (by omega))).2
    rw [byteAt_take (by omega), byteAt_take (by omega), byteAt_drop]
    rw [show (r.w.base + (j : Int) - r.w.base).toNat = j by omega, show (r.w.base + (j : Int)).toNat = out.length + j by omega] at this
    exact this
  have hlen := hm.len
  refine ⟨q1, ?_, by rw [q3, lB]; omega, by rw [q3, eB]; exact IsB.take h.isb _, by rw [q3, lB]; omega⟩
  rw [q2, q3]
  have hmt : Rc.may { r with w := readW r.w n } = true := by
    have := h.may
    unfold Rc.may at this ⊢
    rw [Bool.and_eq_true] at this ⊢
    exact ⟨r1, this.2⟩
  refine ⟨hmt, by rw [r5]; exact IsB.drop h.isb _, by rw [List.length_append, lB]; show (readW r.w n).base = _; rw [r4]; omega, by rw [List.length_append, lB]; omega, ?_, by rw [r2]; exact h.en, fun m hmm => ?_, h.tl, fun p hp => ?_, fun m hmm => h.tm m ((r6 m).1 hmm).1, fun he => h.te (by rw [← r2]; exact he)⟩
  · rw [List.length_append, lB, List.take_add, ← h.oe, eB, hsame]
  · obtain ⟨g1, g2⟩ := (r6 m).1 hmm
    obtain ⟨z1, z2⟩ := h.me m g1
    have := hm.lo m g1
    refine ⟨z1, ?_⟩
    show byteAt (readW r.w n).b (m - (readW r.w n).base).toNat = _
    rw [r5, byteAt_drop, r4, ← z2, show readK r.w n + (m - (r.w.base + (readK r.w n : Int))).toNat = (m - r.w.base).toNat by omega]
  · rw [List.length_append, lB] at hp
    by_cases c : p < out.length
    · exact h.tb p c
    · have := h.tm (p : Int) (hg p (by omega) (by omega))
      rwa [Int.toNat_natCast] at this
/-- A part of a message, or its end. -/
structure Stp where
  sub : Int
  seq : Int
  dsn : Int
  n : Int
  fin : Bool
  mkd : Bool
  rd : Int

def Stp.av (s : Stp) : AV := .agg [.int .i64 s.sub, .int .i64 s.seq, .int .i64 s.dsn, .int .i64 s.n, .bool s.fin, .bool s.mkd, .int .i64 s.rd]
structure Stp.Fits (all : List AV) (s : Stp) : Prop where
  s0 : 0 ≤ s.sub ∧ s.sub ≤ 3
  q : 0 ≤ s.seq ∧ s.seq ≤ 1000000
  d : 0 ≤ s.dsn ∧ s.dsn ≤ all.length
  n : 0 ≤ s.n ∧ s.n ≤ all.length - s.dsn
def partP (all : List AV) (s : Stp) : List AV := (all.take (s.dsn + s.n).toNat).drop s.dsn.toNat
def segP (all : List AV) (s : Stp) : Sg := if s.fin = true then ⟨2, s.sub, true, false, lowP s.seq, lowP all.length, 0, 0, 0, 0, 0, 0, 0, [], []⟩ else ⟨2, s.sub, false, false, lowP s.seq, lowP s.dsn, 0, 0, 0, 0, 0, 0, 0, [], partP all s⟩
def tsP (all : List AV) (s : Stp) (ts : List Bool) : List Bool := if s.fin = true then ts.set all.length true else setN ts s.dsn.toNat s.n.toNat
theorem segP_ok {all : List AV} (hall : IsB all) (hal : all.length ≤ 300) {s : Stp} (h : s.Fits all) : (segP all s).Ok := by
  have hd := h.d; have hn := h.n; have hq := h.q
  have l1 := lowP_rng s.seq; have l2 := lowP_rng all.length; have l3 := lowP_rng s.dsn
  unfold segP
  split
  · exact ⟨IsB.nil, Nat.zero_le _, Nat.zero_le _, l1.1, l1.2, l2.1, l2.2⟩
  · refine ⟨IsB.drop (IsB.take hall _) _, ?_, Nat.zero_le _, l1.1, l1.2, l3.1, l3.2⟩
    show (partP all s).length ≤ 90000
    unfold partP; rw [List.length_drop, List.length_take]; omega
theorem PreI.take {all : List AV} (hall : IsB all) (hal : all.length ≤ 300) {r : Rc} {out : List AV} {ts : List Bool} (h : PreI all r out ts) {s : Stp} (hs : s.Fits all) (e : takeE r (segP all s) s.mkd = 0) :
    PreI all (takeT r (segP all s) s.mkd) out (tsP all s ts) := by
  have ok := segP_ok hall hal hs
  have sm := may_sm h.may h.isb
  obtain ⟨c1, c2, c3, c4⟩ := take_0 e
  obtain ⟨d1, d2, d3, d4⟩ := pre_0 c1
  have hl : (segP all s).b.length ≤ 1460 := by have := Sg.may_iff.1 d2; omega
  have hm2 := takeT_may sm ok e
  have hw := Rc.may_w h.may
  have hnx := rp_next sm.w.b ok.b hl c2
  have hb := h.base; have hol := h.ol; have hd := hs.d; have hn := hs.n
  have hat : tAt r (segP all s) = (segP all s).dsn := tAt_low ok hw (by omega)
  have hwT : (takeT r (segP all s) s.mkd).w = rpW r.w (segP all s) (tAt r (segP all s)) := rfl
  rw [hat] at c2 hwT hnx
  cases hf : s.fin with
  | true =>
    have es : segP all s = ⟨2, s.sub, true, false, lowP s.seq, lowP all.length, 0, 0, 0, 0, 0, 0, 0, [], []⟩ := by unfold segP; rw [if_pos hf]
    have edsn : (segP all s).dsn = all.length := by rw [es]; exact lowP_of (by omega) (by omega)
    have efin : (segP all s).fin = true := by rw [es]
    have c2' : shutE r.w all.length = 0 := by unfold rpE at c2; rw [if_pos efin, edsn] at c2; exact c2
    have ew : (takeT r (segP all s) s.mkd).w = { r.w with end_ := (all.length : Int) } := by
      rw [hwT]; unfold rpW; rw [if_pos efin, edsn]; exact (shutW_may c2').2.1
    have et : tsP all s ts = ts.set all.length true := by unfold tsP; rw [if_pos hf]
    rw [et]
    refine ⟨hm2, by rw [ew]; exact h.isb, by rw [ew]; exact h.base, h.ol, h.oe, by rw [ew]; exact .inr rfl, fun m hm => by rw [ew] at hm ⊢; exact h.me m hm, by rw [List.length_set]; exact h.tl, fun p hp => set_true (h.tb p hp), fun m hm => by rw [ew] at hm; exact set_true (h.tm m hm), fun _ => set_at (by rw [h.tl]; omega)⟩
  | false =>
    have hf' : ¬ s.fin = true := by rw [hf]; decide
    have es : segP all s = ⟨2, s.sub, false, false, lowP s.seq, lowP s.dsn, 0, 0, 0, 0, 0, 0, 0, [], partP all s⟩ := by unfold segP; rw [if_neg hf']
    have edsn : (segP all s).dsn = s.dsn := by rw [es]; exact lowP_of (by omega) (by omega)
    have eb : (segP all s).b = partP all s := by rw [es]
    have efin : ¬ (segP all s).fin = true := by rw [es]; exact Bool.false_ne_true
    have lb : ((partP all s).length : Int) = s.n := by unfold partP; rw [List.length_drop, List.length_take]; omega
    have ib : IsB (partP all s) := IsB.drop (IsB.take hall _) _
    have et : tsP all s ts = setN ts s.dsn.toNat s.n.toNat := by unfold tsP; rw [if_neg hf']
    unfold rpE at c2
    rw [if_neg efin, edsn, eb] at c2
    by_cases c9 : s.dsn + (partP all s).length > edgeW r.w
    · rw [if_pos c9] at c2; cases c2
    rw [if_neg c9] at c2
    have ew : (takeT r (segP all s) s.mkd).w = putW r.w s.dsn (partP all s) := by
      rw [hwT]; unfold rpW; rw [if_neg efin, edsn, eb, if_neg c9]
    rw [et]
    have hen : (takeT r (segP all s) s.mkd).w.end_ = r.w.end_ ∧ ∀ m, mem (takeT r (segP all s) s.mkd).w.l m → mem r.w.l m ∨ (s.dsn ≤ m ∧ m < s.dsn + s.n) := by
      rw [ew]
      obtain ⟨_, _, _, _, ⟨_, e2⟩ | ⟨c, f, d, e2⟩⟩ := putW_zero h.isb ib (by omega) c2
      · rw [e2]; exact ⟨rfl, fun m hm => .inl hm⟩
      · have hlh := low_high (w := r.w) (n := s.dsn) (k := (partP all s).length) (by omega) (by omega) (by omega)
        rw [e2]
        refine ⟨rfl, fun m hm => ?_⟩
        rcases (f.me m).1 hm with g | g
        · exact .inl g
        · exact .inr (by omega)
    have hbase : (takeT r (segP all s) s.mkd).w.base = r.w.base := by rw [hwT]; exact hnx.base
    have hbyte : ∀ m, mem (takeT r (segP all s) s.mkd).w.l m → m < all.length ∧ byteAt (takeT r (segP all s) s.mkd).w.b (m - r.w.base).toNat = byteAt all m.toNat := by
      rw [ew]
      obtain ⟨_, _, _, _, ⟨_, e2⟩ | ⟨c, f, d, e2⟩⟩ := putW_zero h.isb ib (by omega) c2
      · rw [e2]; exact h.me
      · have hlh := low_high (w := r.w) (n := s.dsn) (k := (partP all s).length) (by omega) (by omega) (by omega)
        have hm0 := mayOf hw
        rw [e2]
        intro m hm'
        have hu := upto_lt (base := r.w.base) f.can hm'
        have hlB := f.lB
        have hlo : r.w.base ≤ m := by
          rcases (f.me m).1 hm' with g | g
          · exact hm0.lo m g
          · omega
        have hk := f.by_ (m - r.w.base).toNat (by omega)
        rw [show r.w.base + ((m - r.w.base).toNat : Int) = m by omega] at hk
        show _ ∧ byteAt (putB _ _ _ _ _ _ _) (m - r.w.base).toNat = _
        rw [hk]
        by_cases g2 : mem r.w.l m
        · rw [if_pos g2]; exact h.me m g2
        · have g := ((f.me m).1 hm').resolve_left g2
          rw [if_neg g2, if_pos g]
          refine ⟨by omega, ?_⟩
          have hb0 := hm0.b0
          unfold partP
          rw [byteAt_drop, byteAt_take (by omega), show s.dsn.toNat + (m - s.dsn).toNat = m.toNat by omega]
    refine ⟨hm2, by rw [hwT]; exact hnx.b, by rw [hbase]; exact h.base, h.ol, h.oe, by rw [hen.1]; exact h.en, fun m hm => by rw [hbase]; exact hbyte m hm, by rw [setN_len]; exact h.tl, fun p hp => setN_old (h.tb p hp) _, fun m hm => ?_, fun he => setN_old (h.te (by rw [← hen.1]; exact he)) _⟩
    rcases hen.2 m hm with g | g
    · exact setN_old (h.tm m g) _
    · exact setN_new (by rw [h.tl]; omega) _ (by omega) (by omega)
theorem newR_pre {all : List AV} {room : Int} (e : newE room = 0) : PreI all (newR room) [] (List.replicate (all.length + 1) false) := by
  have hr : 0 ≤ room ∧ room ≤ 65536 := by
    unfold newE at e
    split at e
    · cases e
    · omega
  have ew : newW room = ⟨0, [], [], room, -1⟩ := by unfold newW; rw [if_neg (by omega)]
  have er : (newR room).w = ⟨0, [], [], room, -1⟩ := by unfold newR; rw [if_pos e]; exact ew
  have hmem : ∀ n, ¬ mem [] n := fun n => mem_nil
  have wm : Wv.may ⟨0, [], [], room, -1⟩ = true := mayW_plain.2 ⟨hr.1, hr.2, Int.le_refl 0, by show (0 : Int) ≤ 2305843009213693952; decide, Nat.zero_le _, ⟨fun s hs => (by cases hs), List.Pairwise.nil⟩, fun n hn => absurd hn (hmem n), by show (0 : Int) ≤ edgeP 0 room; unfold edgeP; split <;> omega, rfl, .inl rfl, fun k hk => absurd hk (Nat.not_lt_zero k)⟩
  have hm : (newR room).may = true := by
    have : newR room = { Rc.none with w := newW room } := by unfold newR; rw [if_pos e]
    rw [this, ew]
    unfold Rc.may
    rw [Bool.and_eq_true]
    exact ⟨wm, by rfl⟩
  refine ⟨hm, by rw [er]; exact IsB.nil, by rw [er]; rfl, Nat.zero_le _, rfl, by rw [er]; exact .inl rfl, fun n hn => by rw [er] at hn; exact absurd hn (hmem n), List.length_replicate, fun p hp => absurd hp (Nat.not_lt_zero p), fun n hn => by rw [er] at hn; exact absurd hn (hmem n), fun he => ?_⟩
  rw [er] at he
  have : (-1 : Int) = all.length := he
  omega
/-! ### ReceiverPrefix, run -/
def prw (l : List Stp) : List AV := l.map Stp.av
theorem prw_len (l : List Stp) : (prw l).length = l.length := List.length_map _
theorem prw_at {l : List Stp} {i : Nat} {s : Stp} (h : l[i]? = some s) : (prw l)[Int.toNat (i : Int)]? = some s.av := by rw [Int.toNat_natCast]; unfold prw; rw [List.getElem?_map, h]; rfl
def brw (ts : List Bool) : List AV := ts.map AV.bool
theorem brw_len (ts : List Bool) : (brw ts).length = ts.length := List.length_map _
theorem brw_at {ts : List Bool} {k : Nat} {b : Bool} (h : ts[k]? = some b) : (brw ts)[k]? = some (.bool b) := by unfold brw; rw [List.getElem?_map, h]; rfl
theorem brw_set (ts : List Bool) (k : Nat) : (brw ts).set k (.bool true) = brw (ts.set k true) := by unfold brw; rw [List.map_set]
theorem gNo_t (ts : List Bool) : gNo (brw ts) = true := gNo_map (f := AV.bool) (fun _ => rfl) ts
theorem gNo_b {xs : List AV} (h : IsB xs) : gNo xs = true := List.all_eq_true.2 fun x hx => by obtain ⟨n, rfl⟩ := h x hx; rfl
theorem sc0 (s : Stp) : ci s.av 0 = s.sub := id rfl
theorem sc1 (s : Stp) : ci s.av 1 = s.seq := id rfl
theorem sc2 (s : Stp) : ci s.av 2 = s.dsn := id rfl
theorem sc3 (s : Stp) : ci s.av 3 = s.n := id rfl
theorem sc4 (s : Stp) : cb s.av 4 = s.fin := id rfl
theorem sc5 (s : Stp) : cb s.av 5 = s.mkd := id rfl
theorem sc6 (s : Stp) : ci s.av 6 = s.rd := id rfl
theorem fStp (s : Stp) : Vw.fit (.agg kP) s.av = true := id rfl
def oV (all l : List AV) (o : Option (List AV)) (n : Nat) (i : Int) : List AV := match o with
  | none => [.osl all, .osl l, p0, .nl, .sl 1 1000001 0 0 n, .int .i64 i]
  | some xs => [.osl all, .osl l, p0, .sl 1 1000001 0 0 xs.length, .sl 1 1000002 0 0 n, .int .i64 i]
def oQ (o : Option (List AV)) (ts : List Bool) : List (Option CB) := match o with
  | none => [some ⟨brw ts, false, false⟩]
  | some xs => [some ⟨xs, false, false⟩, some ⟨brw ts, false, false⟩]
def pA (o : Option (List AV)) (k : Nat) : AV := match o with
  | none => .ptr (1000002 + k) 0 0 0
  | some _ => .ptr (1000003 + k) 0 0 0
/-- The end of a round. -/
theorem pf_next {V : EV} {M : EM} (h1 : HasV V F_same3) (h2 : HasV V F_rmay) (h3 : HasV V F_rover) (all : List AV) (hall : IsB all) (hal : all.length ≤ 300) (l : List AV) (r : Rc) (o : Option (List AV)) (ts : List Bool) (h : PreI all r (o.getD []) ts) (i : Nat) (hi : i ≤ 40) :
    (Dlpre V M).From 8365309 ⟨oV all l o ts.length i, bx r.av :: oQ o ts⟩ = (Dlpre V M).From 2042 ⟨oV all l o ts.length (i + 1 : Nat), bx r.av :: oQ o ts⟩ := by
  have sm := may_sm h.may h.isb
  have e2 : V 41 [r.av] = some (.bool r.may) := h2 r sm
  have e3 : V 49 [r.av] = some (.bool (overW r.w)) := h3 r sm
  have hw1 : IntKind.wrap .i64 ((i : Int) + 1) = ((i + 1 : Nat) : Int) := w64 (n := (i : Int) + 1) (by omega) (by omega)
  have hov : overW r.w = true → (o.getD []).length = all.length := fun hh => by
    unfold overW at hh
    rw [Bool.and_eq_true, beq_iff_eq] at hh
    have := h.en; have := h.base; omega
  have gc : gCel 1 all = true := IsB.one hall
  have hol := h.ol
  cases o with
  | none =>
    refine From.of ((lpre_8 all l ts.length i r.av (brw ts)).trans ?_)
    simp only [V21, e2, h.may, gNo_t]
    refine From.of ((lpre_11 all l ts.length i false r.av (brw ts)).trans ?_)
    have e1 : V 24 [.nl, .osl []] = some (.bool true) := h1 none (fun xs hh => by cases hh)
    simp only [V21, gc, e1, e3, gNo_t, hw1]
    cases ho : overW r.w with
    | false => rfl
    | true =>
      have := hov ho
      rw [cond_true, decide_eq_false (by simp only [Option.getD_none, List.length_nil] at this; omega)]
      rfl
  | some xs =>
    have hx : xs = all.take xs.length := h.oe
    have hxb : IsB xs := by rw [hx]; exact IsB.take hall _
    have hol : xs.length ≤ all.length := hol
    refine From.of ((lpre_9 all l xs.length ts.length i r.av xs (brw ts)).trans ?_)
    rw [decide_eq_false (by omega)]
    simp only [V21, e2, h.may, gNo_t, gNo_b hxb]
    refine From.of ((lpre_12 all l xs.length ts.length i false r.av xs (brw ts)).trans ?_)
    have e1 : V 24 [.osl xs, .osl xs] = some (.bool true) := h1 (some xs) (fun ys hh => by cases hh; exact ⟨hxb, by omega⟩)
    have t1 : List.take xs.length (List.drop 0 xs) = xs := tkl xs
    have t2 : List.drop 0 (List.take (Int.toNat (xs.length : Int)) all) = xs := by rw [Int.toNat_natCast, List.drop_zero]; exact hx.symm
    simp only [V21, gc]
    rw [gd_of (decide_eq_true ⟨by omega, by omega⟩), gd_of (decide_eq_true (by omega)), t1, t2, gd_of (show gFree 1 xs = true from IsB.free hxb)]
    simp only [V21, e1, e3, gNo_t, gNo_b hxb, hw1]
    cases ho : overW r.w with
    | false => rfl
    | true =>
      have : xs.length = all.length := hov ho
      rw [cond_true, decide_eq_false (by omega)]
      rfl
/-- What is read. -/
theorem pr_next {V : EV} {M : EM} (h1 : HasV V F_rread) (all : List AV) (hall : IsB all) (hal : all.length ≤ 300) (l : List AV) (r : Rc) (o : Option (List AV)) (ts : List Bool) (h : PreI all r (o.getD []) ts) (s : Stp) (i : Nat) :
    ∃ r' o', PreI all r' (Option.getD o' []) ts ∧ (Dlpre V M).From 4182653 ⟨oV all l o ts.length i ++ [pA o 0], bx r.av :: oQ o ts ++ [bx s.av]⟩ = (Dlpre V M).From 8365309 ⟨oV all l o' ts.length i, bx r'.av :: oQ o' ts⟩ := by
  have sm := may_sm h.may h.isb
  have e1 : V 42 [r.av, .int .i64 s.rd] = some (.tup [(readR r s.rd).av, .osl (readRB r s.rd), .int .i64 (readRE r s.rd)]) := h1 (r, s.rd) sm
  have hol := h.ol
  by_cases c : s.rd ≥ 0
  · obtain ⟨q1, q2, q3, q4, q5⟩ := h.read hall c
    refine ⟨readR r s.rd, some (o.getD [] ++ readRB r s.rd), q2, ?_⟩
    have gr : gRow 1 (readRB r s.rd) = true := IsB.ok q4
    cases o with
    | none =>
      refine From.of ((lpre_6 all l ts.length i r.av (brw ts) s.av).trans ?_)
      simp only [V21, sc6, e1, q1, gr, gNo_t, gNo_b q4]
      rw [decide_eq_true c, cond_true, decide_eq_false (by omega), cond_false, gd_of (gLen_of (by omega) (by omega))]
      simp only [Nat.zero_add]
      rfl
    | some xs =>
      have hx : xs = all.take xs.length := h.oe
      have hxb : IsB xs := by rw [hx]; exact IsB.take hall _
      have hol : xs.length ≤ all.length := hol
      have tk : List.take xs.length xs = xs := List.take_length
      refine From.of ((lpre_18 all l xs.length ts.length i r.av xs (brw ts) s.av).trans ?_)
      simp only [V21, sc6, e1, q1, gr, gNo_t, tk, gNo_b (IsB.append hxb q4)]
      rw [decide_eq_true c, cond_true, decide_eq_false (by omega), cond_false, gd_of (decide_eq_true (Nat.le_refl _)), gd_of (gLen_of (by omega) (by omega))]
      rw [← List.length_append]
      rfl
  · refine ⟨r, o, h, ?_⟩
    cases o with
    | none =>
      refine From.of ((lpre_6 all l ts.length i r.av (brw ts) s.av).trans ?_)
      simp only [V21, sc6, gNo_t]
      rw [decide_eq_false c]; rfl
    | some xs =>
      have hx : xs = all.take xs.length := h.oe
      have hxb : IsB xs := by rw [hx]; exact IsB.take hall _
      refine From.of ((lpre_18 all l xs.length ts.length i r.av xs (brw ts) s.av).trans ?_)
      simp only [V21, sc6, gNo_t, gNo_b hxb]
      rw [decide_eq_false c]; rfl
/-- All that is told of came. -/
theorem pl_told {V : EV} {M : EM} (all l : List AV) (t : Rc) (o : Option (List AV)) (ho : ∀ xs, o = some xs → IsB xs) (ts : List Bool) (htl : ts.length ≤ 400) (s : Stp) (y : Sg) (hy : 0 ≤ y.dgot ∧ y.dgot ≤ ts.length) (ht : ∀ k : Nat, (k : Int) < y.dgot → ts[k]? = some true) (i : Nat) : ∀ (m k : Nat), (k : Int) + m = y.dgot →
    (Dlpre V M).From 535379646 ⟨oV all l o ts.length i ++ [pA o 0, pA o 1, .int .i64 k], bx t.av :: oQ o ts ++ [bx s.av, bx y.av]⟩ = (Dlpre V M).From 4182653 ⟨oV all l o ts.length i ++ [pA o 0], bx t.av :: oQ o ts ++ [bx s.av]⟩
  | 0, k, hk => by
    have w1 : IntKind.wrap .i64 y.dgot = y.dgot := w64 (by omega) (by omega)
    cases o with
    | none =>
      refine From.of ((lpre_10 all l ts.length i k t.av (brw ts) s.av y.av).trans ?_)
      simp only [V21, w1, gNo_t]
      rw [decide_eq_false (by omega)]; rfl
    | some xs =>
      refine From.of ((lpre_20 all l xs.length ts.length i k t.av xs (brw ts) s.av y.av).trans ?_)
      simp only [V21, w1, gNo_t, gNo_b (ho xs rfl)]
      rw [decide_eq_false (by omega)]; rfl
  | m + 1, k, hk => by
    have w1 : IntKind.wrap .i64 y.dgot = y.dgot := w64 (by omega) (by omega)
    have w2 : IntKind.wrap .i64 ((k : Int) + 1) = ((k + 1 : Nat) : Int) := w64 (n := (k : Int) + 1) (by omega) (by omega)
    have e := brw_at (ht k (by omega))
    have e' : (brw ts)[0 + Int.toNat (k : Int)]? = some (.bool true) := by rw [Nat.zero_add, Int.toNat_natCast]; exact e
    have ih := pl_told (V := V) (M := M) all l t o ho ts htl s y hy ht i m (k + 1) (by omega)
    cases o with
    | none =>
      refine From.of ((lpre_10 all l ts.length i k t.av (brw ts) s.av y.av).trans ?_)
      simp only [V21, w1, w2, gNo_t, e']
      rw [decide_eq_true (by omega), cond_true, gd_of (decide_eq_true ⟨by omega, by omega⟩)]
      exact ih
    | some xs =>
      refine From.of ((lpre_20 all l xs.length ts.length i k t.av xs (brw ts) s.av y.av).trans ?_)
      simp only [V21, w1, w2, gNo_t, gNo_b (ho xs rfl), e']
      rw [decide_eq_true (by omega), cond_true, gd_of (decide_eq_true ⟨by omega, by omega⟩)]
      exact ih
/-- What is marked as taken. -/
theorem pm_in {V : EV} {M : EM} (all l : List AV) (hal : all.length ≤ 300) (t : Rc) (o : Option (List AV)) (ho : ∀ xs, o = some xs → IsB xs) (ts : List Bool) (htl : ts.length = all.length + 1) (s : Stp) (hs : s.Fits all) (hf : s.fin = false) (y : Sg) (i : Nat) : ∀ (m k : Nat), (k : Int) + m = s.n →
    (Dlpre V M).From 133844906 ⟨oV all l o ts.length i ++ [pA o 0, pA o 1, .int .i64 k], bx t.av :: oQ o (setN ts s.dsn.toNat k) ++ [bx s.av, bx y.av]⟩ = (Dlpre V M).From 133844906 ⟨oV all l o ts.length i ++ [pA o 0, pA o 1, .int .i64 s.n], bx t.av :: oQ o (setN ts s.dsn.toNat s.n.toNat) ++ [bx s.av, bx y.av]⟩
  | 0, k, hk => by rw [show (k : Int) = s.n by omega, show k = s.n.toNat by omega]
  | m + 1, k, hk => by
    have hd := hs.d; have hn := hs.n
    have w1 : IntKind.wrap .i64 (s.dsn + k) = ((s.dsn.toNat + k : Nat) : Int) := by rw [w64 (by omega) (by omega)]; omega
    have w2 : IntKind.wrap .i64 ((k : Int) + 1) = ((k + 1 : Nat) : Int) := w64 (n := (k : Int) + 1) (by omega) (by omega)
    have hl : (setN ts s.dsn.toNat k).length = ts.length := setN_len _ _ _
    have hb : (brw (setN ts s.dsn.toNat k))[0 + Int.toNat ((s.dsn.toNat + k : Nat) : Int)]? = some (.bool ((setN ts s.dsn.toNat k)[s.dsn.toNat + k]'(by omega))) := by
      rw [Nat.zero_add, Int.toNat_natCast]
      exact brw_at (List.getElem?_eq_getElem _)
    have hset : List.set (brw (setN ts s.dsn.toNat k)) (0 + Int.toNat ((s.dsn.toNat + k : Nat) : Int)) (AV.bool true) = brw (setN ts s.dsn.toNat (k + 1)) := by rw [Nat.zero_add, Int.toNat_natCast, brw_set]; rfl
    have ih := pm_in (V := V) (M := M) all l hal t o ho ts htl s hs hf y i m (k + 1) (by omega)
    cases o with
    | none =>
      refine From.of ((lpre_7 all l ts.length i k t.av (brw (setN ts s.dsn.toNat k)) s.av y.av).trans ?_)
      simp only [V21, sc2, sc3, sc4, hf, w1, w2, hb, hset, gNo_t]
      rw [decide_eq_true (by omega), cond_true, gd_of (decide_eq_true ⟨by omega, by omega⟩)]
      exact ih
    | some xs =>
      refine From.of ((lpre_19 all l xs.length ts.length i k t.av xs (brw (setN ts s.dsn.toNat k)) s.av y.av).trans ?_)
      simp only [V21, sc2, sc3, sc4, hf, w1, w2, hb, hset, gNo_t, gNo_b (ho xs rfl)]
      rw [decide_eq_true (by omega), cond_true, gd_of (decide_eq_true ⟨by omega, by omega⟩)]
      exact ih
/-- An answer, as it is asked. -/
structure AnsOk (all : List AV) (s : Stp) (y : Sg) : Prop where
  may : y.may = true
  kind : y.kind = 3
  sub : y.sub = s.sub
  lo : 0 ≤ y.dgot
  hi : y.dgot ≤ all.length + 1
theorem pm_out {V : EV} {M : EM} (h1 : HasV V F_wimay) (all l : List AV) (hal : all.length ≤ 300) (t : Rc) (o : Option (List AV)) (ho : ∀ xs, o = some xs → IsB xs) (ts : List Bool) (htl : ts.length = all.length + 1) (s : Stp) (y : Sg) (hy : AnsOk all s y) (i : Nat) (k : Int) (hk : s.fin = true ∨ ¬ k < s.n) :
    (Dlpre V M).From 133844906 ⟨oV all l o ts.length i ++ [pA o 0, pA o 1, .int .i64 k], bx t.av :: oQ o ts ++ [bx s.av, bx y.av]⟩ = (Dlpre V M).From 535379646 ⟨oV all l o ts.length i ++ [pA o 0, pA o 1, .int .i64 (0 : Nat)], bx t.av :: oQ o (if s.fin = true then ts.set all.length true else ts) ++ [bx s.av, bx y.av]⟩ := by
  have e1 : V 40 [y.av] = some (.bool y.may) := h1 y trivial
  have h2 := hy.lo; have h3 := hy.hi
  have w1 : IntKind.wrap .i64 y.dgot = y.dgot := w64 (by omega) (by omega)
  have w2 : IntKind.wrap .i64 ((all.length : Int) + 1) = (all.length : Int) + 1 := w64 (by omega) (by omega)
  have k1 : (y.kind == 3) = true := by rw [beq_iff_eq]; exact hy.kind
  have k2 : (y.sub == s.sub) = true := by rw [beq_iff_eq]; exact hy.sub
  have k3 : decide (y.dgot > (all.length : Int) + 1) = false := decide_eq_false (by omega)
  have hb : (brw ts)[0 + Int.toNat (all.length : Int)]? = some (.bool (ts[all.length]'(by omega))) := by
    rw [Nat.zero_add, Int.toNat_natCast]
    exact brw_at (List.getElem?_eq_getElem _)
  have hset : List.set (brw ts) (0 + Int.toNat (all.length : Int)) (AV.bool true) = brw (ts.set all.length true) := by rw [Nat.zero_add, Int.toNat_natCast, brw_set]
  have g1 : decide ((0 : Int) ≤ (all.length : Int) ∧ (all.length : Int) < (ts.length : Int)) = true := decide_eq_true ⟨by omega, by omega⟩
  cases hf : s.fin with
  | true =>
    rw [if_pos rfl]
    cases o with
    | none =>
      refine From.of ((lpre_7 all l ts.length i k t.av (brw ts) s.av y.av).trans ?_)
      simp only [V21, sc0, sc2, sc3, sc4, hf, hb, hset, gNo_t, e1, hy.may, k1, k2, w1, w2, k3, g1, Bool.cond_self]
      rfl
    | some xs =>
      refine From.of ((lpre_19 all l xs.length ts.length i k t.av xs (brw ts) s.av y.av).trans ?_)
      simp only [V21, sc0, sc2, sc3, sc4, hf, hb, hset, gNo_t, e1, hy.may, k1, k2, w1, w2, k3, g1, gNo_b (ho xs rfl), Bool.cond_self]
      rfl
  | false =>
    have hk' : ¬ k < s.n := hk.resolve_left (by rw [hf]; decide)
    rw [if_neg (by decide)]
    cases o with
    | none =>
      refine From.of ((lpre_7 all l ts.length i k t.av (brw ts) s.av y.av).trans ?_)
      simp only [V21, sc0, sc2, sc3, sc4, hf, gNo_t, e1, hy.may, k1, k2, w1, w2, k3]
      rw [decide_eq_false hk']
      rfl
    | some xs =>
      refine From.of ((lpre_19 all l xs.length ts.length i k t.av xs (brw ts) s.av y.av).trans ?_)
      simp only [V21, sc0, sc2, sc3, sc4, hf, gNo_t, e1, hy.may, k1, k2, w1, w2, k3, gNo_b (ho xs rfl)]
      rw [decide_eq_false hk']
      rfl
theorem tsP_len (all : List AV) (s : Stp) (ts : List Bool) : (tsP all s ts).length = ts.length := by
  unfold tsP
  split
  · exact List.length_set
  · exact setN_len _ _ _
/-- What is taken, and told. -/
theorem pt_next {V : EV} {M : EM} (h1 : HasV V F_wimay) (all : List AV) (hall : IsB all) (hal : all.length ≤ 300) (l : List AV) (r : Rc) (o : Option (List AV)) (ts : List Bool) (h : PreI all r (o.getD []) ts) (s : Stp) (hs : s.Fits all) (e : takeE r (segP all s) s.mkd = 0) (i : Nat) :
    (Dlpre V M).From 133844906 ⟨oV all l o ts.length i ++ [pA o 0, pA o 1, .int .i64 (0 : Nat)], bx (takeT r (segP all s) s.mkd).av :: oQ o ts ++ [bx s.av, bx (toldS (takeT r (segP all s) s.mkd) (segP all s).sub (segP all s).at_).av]⟩ =
      (Dlpre V M).From 4182653 ⟨oV all l o (tsP all s ts).length i ++ [pA o 0], bx (takeT r (segP all s) s.mkd).av :: oQ o (tsP all s ts) ++ [bx s.av]⟩ := by
  have hn := h.take hall hal hs e
  have ok := segP_ok hall hal hs
  have sm := may_sm h.may h.isb
  have es : (segP all s).sub = s.sub := by unfold segP; split <;> rfl
  have ho : ∀ xs, o = some xs → IsB xs := fun xs hx => by
    subst hx
    have : xs = all.take xs.length := h.oe
    rw [this]; exact IsB.take hall _
  have z1 : toldE (takeT r (segP all s) s.mkd) s.sub = 0 := by unfold toldE; rw [if_pos ⟨hn.may, hs.s0.1, hs.s0.2⟩]
  obtain ⟨f1, f2, f3⟩ := hn.far
  have hdg : (toldS (takeT r (segP all s) s.mkd) s.sub (segP all s).at_).dgot = farP (takeT r (segP all s) s.mkd).w := by unfold toldS; rw [if_pos z1]; exact lowP_of (by omega) (by omega)
  have hmm2 : ((takeT r (segP all s) s.mkd).at s.sub).m.may = true := (Bool.and_eq_true_iff.1 (Rc.may_at hn.may s.sub)).2
  rw [es]
  have hy : AnsOk all s (toldS (takeT r (segP all s) s.mkd) s.sub (segP all s).at_) := ⟨toldS_may z1 hmm2 (Rc.may_w hn.may) hs.s0, by unfold toldS; rw [if_pos z1], by unfold toldS; rw [if_pos z1], by rw [hdg]; exact f1, by rw [hdg]; exact f2⟩
  generalize toldS (takeT r (segP all s) s.mkd) s.sub (segP all s).at_ = y at *
  generalize takeT r (segP all s) s.mkd = t at *
  have htl := h.tl
  have htl2 := tsP_len all s ts
  have last := pl_told (V := V) (M := M) all l t o ho (tsP all s ts) (by omega) s y ⟨hy.lo, by have := hy.hi; omega⟩ (fun k hk => f3 k (by rw [← hdg]; exact hk)) i y.dgot.toNat 0 (by have := hy.lo; omega)
  refine Eq.trans ?_ last
  rw [htl2]
  cases hf : s.fin with
  | true =>
    have et : tsP all s ts = ts.set all.length true := by unfold tsP; rw [if_pos hf]
    have := pm_out (V := V) (M := M) h1 all l hal t o ho ts htl s y hy i ((0 : Nat) : Int) (.inl hf)
    rw [if_pos hf] at this
    rw [this, et]
  | false =>
    have et : tsP all s ts = setN ts s.dsn.toNat s.n.toNat := by unfold tsP; rw [if_neg (by rw [hf]; decide)]
    have hn0 := hs.n
    have a1 := pm_in (V := V) (M := M) all l hal t o ho ts htl s hs hf y i s.n.toNat 0 (by omega)
    have a2 := pm_out (V := V) (M := M) h1 all l hal t o ho (setN ts s.dsn.toNat s.n.toNat) (by rw [setN_len]; exact htl) s y hy i s.n (.inr (by omega))
    rw [if_neg (by rw [hf]; decide), setN_len] at a2
    rw [et]
    exact a1.trans a2
/-- A segment. -/
theorem ps_next {V : EV} {M : EM} (h1 : HasV V F_wimay) (h2 : HasV V F_rtake.wide) (all : List AV) (hall : IsB all) (hal : all.length ≤ 300) (l : List AV) (r : Rc) (o : Option (List AV)) (ts : List Bool) (h : PreI all r (o.getD []) ts) (s : Stp) (hs : s.Fits all) (i : Nat) :
    ∃ r' ts', PreI all r' (o.getD []) ts' ∧ (Dlpre V M).From 261413 ⟨oV all l o ts.length i ++ [pA o 0], bx r.av :: oQ o ts ++ [bx s.av]⟩ = (Dlpre V M).From 4182653 ⟨oV all l o ts'.length i ++ [pA o 0], bx r'.av :: oQ o ts' ++ [bx s.av]⟩ := by
  have ok := segP_ok hall hal hs
  have sm := may_sm h.may h.isb
  have ho : ∀ xs, o = some xs → IsB xs := fun xs hx => by
    subst hx
    have : xs = all.take xs.length := h.oe
    rw [this]; exact IsB.take hall _
  have hd := hs.d; have hn := hs.n; have hq := hs.q
  have w1 : IntKind.wrap .i64 (s.dsn + s.n) = s.dsn + s.n := w64 (by omega) (by omega)
  have gc : gCel 1 all = true := IsB.one hall
  have g1 : decide ((0 : Int) ≤ s.dsn + s.n ∧ s.dsn + s.n ≤ (all.length : Int)) = true := decide_eq_true ⟨by omega, by omega⟩
  have g2 : decide ((0 : Int) ≤ s.dsn ∧ s.dsn ≤ ((s.dsn + s.n).toNat : Int)) = true := decide_eq_true ⟨by omega, by omega⟩
  -- what is told of the call
  have D : (Dlpre V M).From 261413 ⟨oV all l o ts.length i ++ [pA o 0], bx r.av :: oQ o ts ++ [bx s.av]⟩ = (Dlpre V M).From 1045662 ⟨oV all l o ts.length i ++ [pA o 0, pA o 1, pA o 2, .int .i64 (takeE r (segP all s) s.mkd)], bx r.av :: oQ o ts ++ [bx s.av, bx (takeR r (segP all s) s.mkd).av, bx (takeS r (segP all s) s.mkd).av]⟩ := by
    cases hf : s.fin with
    | true =>
      have es : segP all s = ⟨2, s.sub, true, false, lowP s.seq, lowP all.length, 0, 0, 0, 0, 0, 0, 0, [], []⟩ := by unfold segP; rw [if_pos hf]
      have e2 : V 37 [r.av, AV.agg (List.append (vwL kO 0 (AV.getc (segP all s).av)) [AV.nl, AV.nl]), AV.bool s.mkd] = some (.tup [(takeR r (segP all s) s.mkd).av, (takeS r (segP all s) s.mkd).av, .int .i64 (takeE r (segP all s) s.mkd)]) := h2.wide (r, segP all s, s.mkd) ⟨sm, ok⟩ _ (by rw [es]; rfl)
      cases o with
      | none =>
        refine From.of ((lpre_2 all l ts.length i r.av (brw ts) s.av).trans ?_)
        simp only [V21, sc0, sc1, sc2, sc3, sc4, hf, w1, gc, g1, g2, gNo_t]
        refine Eq.trans (b := (Dlpre V M).From 1045661 ⟨oV all l none ts.length i ++ [pA none 0, pA none 1], bx r.av :: oQ none ts ++ [bx s.av, bx (AV.agg (List.append (vwL kO 0 (AV.getc (segP all s).av)) [AV.nl, AV.nl]))]⟩) (by rw [es]; rfl) ?_
        refine From.of ((lpre_4 all l ts.length i r.av (brw ts) s.av (segP all s).av).trans ?_)
        simp only [V21, sc5, e2, gNo_t]
        rfl
      | some xs =>
        refine From.of ((lpre_14 all l xs.length ts.length i r.av xs (brw ts) s.av).trans ?_)
        simp only [V21, sc0, sc1, sc2, sc3, sc4, hf, w1, gc, g1, g2, gNo_t, gNo_b (ho xs rfl)]
        refine Eq.trans (b := (Dlpre V M).From 1045661 ⟨oV all l (some xs) ts.length i ++ [pA (some xs) 0, pA (some xs) 1], bx r.av :: oQ (some xs) ts ++ [bx s.av, bx (AV.agg (List.append (vwL kO 0 (AV.getc (segP all s).av)) [AV.nl, AV.nl]))]⟩) (by rw [es]; rfl) ?_
        refine From.of ((lpre_16 all l xs.length ts.length i r.av xs (brw ts) s.av (segP all s).av).trans ?_)
        simp only [V21, sc5, e2, gNo_t, gNo_b (ho xs rfl)]
        rfl
    | false =>
      have es : segP all s = ⟨2, s.sub, false, false, lowP s.seq, lowP s.dsn, 0, 0, 0, 0, 0, 0, 0, [], partP all s⟩ := by unfold segP; rw [if_neg (by rw [hf]; decide)]
      have e2 : V 37 [r.av, AV.agg (List.append (vwL kO 0 (AV.getc (segP all s).av)) [AV.nl, AV.osl (partP all s)]), AV.bool s.mkd] = some (.tup [(takeR r (segP all s) s.mkd).av, (takeS r (segP all s) s.mkd).av, .int .i64 (takeE r (segP all s) s.mkd)]) := h2.wide (r, segP all s, s.mkd) ⟨sm, ok⟩ _ (by rw [es]; rfl)
      have ep : List.drop s.dsn.toNat (List.take (s.dsn + s.n).toNat all) = partP all s := rfl
      cases o with
      | none =>
        refine From.of ((lpre_2 all l ts.length i r.av (brw ts) s.av).trans ?_)
        simp only [V21, sc0, sc1, sc2, sc3, sc4, hf, w1, gc, g1, g2, gNo_t, ep]
        refine Eq.trans (b := (Dlpre V M).From 1045661 ⟨oV all l none ts.length i ++ [pA none 0, pA none 1], bx r.av :: oQ none ts ++ [bx s.av, bx (AV.agg (List.append (vwL kO 0 (AV.getc (segP all s).av)) [AV.nl, AV.osl (partP all s)]))]⟩) (by rw [es]; rfl) ?_
        refine From.of ((lpre_3 all l ts.length i r.av (brw ts) s.av (segP all s).av (partP all s)).trans ?_)
        simp only [V21, sc5, e2, gNo_t]
        rfl
      | some xs =>
        refine From.of ((lpre_14 all l xs.length ts.length i r.av xs (brw ts) s.av).trans ?_)
        simp only [V21, sc0, sc1, sc2, sc3, sc4, hf, w1, gc, g1, g2, gNo_t, gNo_b (ho xs rfl), ep]
        refine Eq.trans (b := (Dlpre V M).From 1045661 ⟨oV all l (some xs) ts.length i ++ [pA (some xs) 0, pA (some xs) 1], bx r.av :: oQ (some xs) ts ++ [bx s.av, bx (AV.agg (List.append (vwL kO 0 (AV.getc (segP all s).av)) [AV.nl, AV.osl (partP all s)]))]⟩) (by rw [es]; rfl) ?_
        refine From.of ((lpre_15 all l xs.length ts.length i r.av xs (brw ts) s.av (segP all s).av (partP all s)).trans ?_)
        simp only [V21, sc5, e2, gNo_t, gNo_b (ho xs rfl)]
        rfl
  by_cases c : takeE r (segP all s) s.mkd = 0
  · have eR : takeR r (segP all s) s.mkd = takeT r (segP all s) s.mkd := by unfold takeR; rw [if_pos c]
    have eS : takeS r (segP all s) s.mkd = toldS (takeT r (segP all s) s.mkd) (segP all s).sub (segP all s).at_ := by unfold takeS; rw [if_pos c]
    refine ⟨takeT r (segP all s) s.mkd, tsP all s ts, h.take hall hal hs c, D.trans ?_⟩
    have last := pt_next (V := V) (M := M) h1 all hall hal l r o ts h s hs c i
    rw [eR, eS, c]
    refine Eq.trans ?_ last
    cases o with
    | none =>
      refine From.of ((lpre_5 all l ts.length i 0 r.av (brw ts) s.av (takeT r (segP all s) s.mkd).av (toldS (takeT r (segP all s) s.mkd) (segP all s).sub (segP all s).at_).av).trans ?_)
      simp only [V21, gNo_t]
      rfl
    | some xs =>
      refine From.of ((lpre_17 all l xs.length ts.length i 0 r.av xs (brw ts) s.av (takeT r (segP all s) s.mkd).av (toldS (takeT r (segP all s) s.mkd) (segP all s).sub (segP all s).at_).av).trans ?_)
      simp only [V21, gNo_t, gNo_b (ho xs rfl)]
      rfl
  · refine ⟨r, ts, h, D.trans ?_⟩
    have k1 : (takeE r (segP all s) s.mkd == 0) = false := by rw [beq_eq_false_iff_ne]; exact c
    generalize takeE r (segP all s) s.mkd = e at *
    cases o with
    | none =>
      refine From.of ((lpre_5 all l ts.length i e r.av (brw ts) s.av (takeR r (segP all s) s.mkd).av (takeS r (segP all s) s.mkd).av).trans ?_)
      simp only [V21, k1, gNo_t]
      rfl
    | some xs =>
      refine From.of ((lpre_17 all l xs.length ts.length i e r.av xs (brw ts) s.av (takeR r (segP all s) s.mkd).av (takeS r (segP all s) s.mkd).av).trans ?_)
      simp only [V21, k1, gNo_t, gNo_b (ho xs rfl)]
      rfl
/-- All segments. -/
theorem pre_loop {V : EV} {M : EM} (h1 : HasV V F_wimay) (h2 : HasV V F_rtake.wide) (h3 : HasV V F_rread) (h4 : HasV V F_same3) (h5 : HasV V F_rmay) (h6 : HasV V F_rover) (all : List AV) (hall : IsB all) (hal : all.length ≤ 300) (l : List Stp) (hl : l.length ≤ 40) :
    ∀ (m : List Stp) (i : Nat) (r : Rc) (o : Option (List AV)) (ts : List Bool), l.drop i = m → PreI all r (o.getD []) ts →
    (Dlpre V M).From 2042 ⟨oV all (prw l) o ts.length i, bx r.av :: oQ o ts⟩ = some (.bool true, [])
  | [], i, r, o, ts, hd, h => by
    have hi := drop_end hd
    cases o with
    | none =>
      refine From.of ((lpre_1 all (prw l) ts.length i r.av (brw ts)).trans ?_)
      rw [prw_len, decide_eq_false (by omega)]; rfl
    | some xs =>
      refine From.of ((lpre_13 all (prw l) xs.length ts.length i r.av xs (brw ts)).trans ?_)
      rw [prw_len, decide_eq_false (by omega)]; rfl
  | s :: m, i, r, o, ts, hd, h => by
    obtain ⟨g1, g2, g3⟩ := drop_get hd
    have ho : ∀ xs, o = some xs → IsB xs := fun xs hx => by
      subst hx
      have : xs = all.take xs.length := h.oe
      rw [this]; exact IsB.take hall _
    -- what a round does
    have go : s.Fits all → (Dlpre V M).From 261413 ⟨oV all (prw l) o ts.length i ++ [pA o 0], bx r.av :: oQ o ts ++ [bx s.av]⟩ = some (.bool true, []) := fun hs => by
      obtain ⟨r1, ts1, p1, q1⟩ := ps_next (V := V) (M := M) h1 h2 all hall hal (prw l) r o ts h s hs i
      obtain ⟨r2, o2, p2, q2⟩ := pr_next (V := V) (M := M) h3 all hall hal (prw l) r1 o ts1 p1 s i
      rw [q1, q2, pf_next h4 h5 h6 all hall hal (prw l) r2 o2 ts1 p2 i (by omega)]
      exact pre_loop h1 h2 h3 h4 h5 h6 all hall hal l hl m (i + 1) r2 o2 ts1 g3 p2
    have w1 : ∀ d : Int, 0 ≤ d → d ≤ 300 → IntKind.wrap .i64 ((all.length : Int) - d) = (all.length : Int) - d := fun d h0 h1 => w64 (by omega) (by omega)
    have body : ∀ X : Option Res, (s.Fits all → X = some (.bool true, [])) →
        (bif decide (s.sub < 0) then some (.bool true, []) else bif decide (s.sub > 3) then some (.bool true, []) else bif decide (s.seq < 0) then some (.bool true, []) else bif decide (s.seq > 1000000) then some (.bool true, []) else bif decide (s.dsn < 0) then some (.bool true, []) else bif decide (s.dsn > (all.length : Int)) then some (.bool true, []) else bif decide (s.n < 0) then some (.bool true, []) else bif decide (s.n > IntKind.wrap .i64 ((all.length : Int) - s.dsn)) then some (.bool true, []) else X) = some (.bool true, []) := fun X hX => by
      by_cases c1 : s.sub < 0
      · rw [decide_eq_true c1]; rfl
      by_cases c2 : s.sub > 3
      · rw [decide_eq_false c1, decide_eq_true c2]; rfl
      by_cases c3 : s.seq < 0
      · rw [decide_eq_false c1, decide_eq_false c2, decide_eq_true c3]; rfl
      by_cases c4 : s.seq > 1000000
      · rw [decide_eq_false c1, decide_eq_false c2, decide_eq_false c3, decide_eq_true c4]; rfl
      by_cases c5 : s.dsn < 0
      · rw [decide_eq_false c1, decide_eq_false c2, decide_eq_false c3, decide_eq_false c4, decide_eq_true c5]; rfl
      by_cases c6 : s.dsn > (all.length : Int)
      · rw [decide_eq_false c1, decide_eq_false c2, decide_eq_false c3, decide_eq_false c4, decide_eq_false c5, decide_eq_true c6]; rfl
      by_cases c7 : s.n < 0
      · rw [decide_eq_false c1, decide_eq_false c2, decide_eq_false c3, decide_eq_false c4, decide_eq_false c5, decide_eq_false c6, decide_eq_true c7]; rfl
      rw [w1 s.dsn (by omega) (by omega)]
      by_cases c8 : s.n > (all.length : Int) - s.dsn
      · rw [decide_eq_false c1, decide_eq_false c2, decide_eq_false c3, decide_eq_false c4, decide_eq_false c5, decide_eq_false c6, decide_eq_false c7, decide_eq_true c8]; rfl
      rw [decide_eq_false c1, decide_eq_false c2, decide_eq_false c3, decide_eq_false c4, decide_eq_false c5, decide_eq_false c6, decide_eq_false c7, decide_eq_false c8]
      exact hX ⟨by omega, by omega, by omega, by omega⟩
    cases o with
    | none =>
      refine From.of ((lpre_1 all (prw l) ts.length i r.av (brw ts)).trans ?_)
      rw [prw_len, decide_eq_true (by omega), cond_true, gd_of (decide_eq_true (by omega)), prw_at g1]
      simp only [V21, fStp, sc0, sc1, sc2, sc3, gNo_t]
      exact body _ go
    | some xs =>
      refine From.of ((lpre_13 all (prw l) xs.length ts.length i r.av xs (brw ts)).trans ?_)
      rw [prw_len, decide_eq_true (by omega), cond_true, gd_of (decide_eq_true (by omega)), prw_at g1]
      simp only [V21, fStp, sc0, sc1, sc2, sc3, gNo_t, gNo_b (ho xs rfl)]
      exact body _ go
theorem lpre_from {V : EV} {M : EM} (h0 : V 34 [] = some (.bool true)) (h1 : HasV V F_wimay) (h2 : HasV V F_rtake.wide) (h3 : HasV V F_rread) (h4 : HasV V F_same3) (h5 : HasV V F_rmay) (h6 : HasV V F_rover) (h7 : HasV V F_rnew) (all : List AV) (hall : IsB all) (l : List Stp) (room : Int) :
    (Dlpre V M).From 0 ⟨[.osl all, .osl (prw l), .int .i64 room], []⟩ = some (.bool true, []) := by
  refine From.of ((lpre_0 all (prw l) room).trans ?_)
  have e7 : V 47 [.int .i64 room] = some (.tup [(newR room).av, .int .i64 (newE room)]) := h7 room trivial
  by_cases c1 : (all.length : Int) > 300
  · rw [decide_eq_true c1]
    simp only [V21, h0]
    try rfl
  have w1 : IntKind.wrap .i64 ((all.length : Int) + 1) = ((all.length + 1 : Nat) : Int) := by rw [w64 (by omega) (by omega)]; rfl
  have gA : decide (IntKind.wrap .i64 ((↑(List.length all) : Int) + (1 : Int)) = IntKind.wrap .i64 ((↑(List.length all) : Int) + (1 : Int)) ∧ (0 : Int) ≤ IntKind.wrap .i64 ((↑(List.length all) : Int) + (1 : Int)) ∧ IntKind.wrap .i64 ((↑(List.length all) : Int) + (1 : Int)) ≤ (140737488355328 : Int) ∧ Int.toNat (IntKind.wrap .i64 ((↑(List.length all) : Int) + (1 : Int))) * 1 ≤ 140737488355328) = true := by
    rw [decide_eq_true_eq, w1]
    exact ⟨rfl, by omega, by omega, by omega⟩
  rw [decide_eq_false c1, gA]
  simp only [V21, h0, e7, prw_len]
  by_cases c2 : (l.length : Int) > 40
  · rw [decide_eq_true c2]; rfl
  rw [decide_eq_false c2]
  by_cases c3 : newE room = 0
  · rw [show (newE room == 0) = true by rw [beq_iff_eq]; exact c3]
    simp only [V21, w1, Int.toNat_natCast]
    have hrep : List.replicate (all.length + 1) (AV.bool false) = brw (List.replicate (all.length + 1) false) := by unfold brw; rw [List.map_replicate]
    rw [hrep, gd_of (show gRow 1 (brw (List.replicate (all.length + 1) false)) = true from gRow_map (f := AV.bool) (fun _ => ⟨rfl, rfl⟩) _), gd_of (gNo_t _), brw_len]
    exact pre_loop h1 h2 h3 h4 h5 h6 all hall (by omega) l (by omega) l 0 (newR room) none (List.replicate (all.length + 1) false) rfl (newR_pre c3)
  · rw [show (newE room == 0) = false by rw [beq_eq_false_iff_ne]; exact c3]
    have : room < 0 ∨ room > 65536 := Classical.byContradiction fun hh => c3 (by unfold newE; rw [if_neg hh])
    by_cases c4 : room < 0
    · rw [decide_eq_true c4]; rfl
    · rw [decide_eq_false c4, decide_eq_true (by omega : room > 65536)]; rfl
theorem lpre_ok (all : List AV) (hall : IsB all) (l : List Stp) (room : Int) : FnOk Try.prog 12 [.osl all, .osl (prw l), .int .i64 room] (.bool true) :=
  fn_mk [F_same3, F_awk, F_rtake.wide, F_wimay, F_rmay, F_rread, F_rnew, F_rover] [] (by kernel_rfl) mixed (by kernel_rfl) (lpre_from (hasV (F := F_awk) 1 rfl rfl () trivial) (hasV 3 rfl rfl) (hasV 2 rfl rfl) (hasV 5 rfl rfl) (hasV 0 rfl rfl) (hasV 4 rfl rfl) (hasV 7 rfl rfl) (hasV 6 rfl rfl) all hall l room)
/-! ### The shapes -/
abbrev shStp : Sh := .parts [.int .i64, .int .i64, .int .i64, .int .i64, .bool, .bool, .int .i64]
theorem hasStp {l : List AV} (h : Has shStp l) : ∃ s : Stp, l = s.av.cells := by
  obtain ⟨a0, r, rfl, h0, h⟩ := hasCons h
  obtain ⟨a1, r, rfl, h1, h⟩ := hasCons h
  obtain ⟨a2, r, rfl, h2, h⟩ := hasCons h
  obtain ⟨a3, r, rfl, h3, h⟩ := hasCons h
  obtain ⟨a4, r, rfl, h4, h⟩ := hasCons h
  obtain ⟨a5, r, rfl, h5, h⟩ := hasCons h
  obtain ⟨a6, r, rfl, h6, h⟩ := hasCons h
  obtain rfl := hasNil h
  obtain ⟨n0, rfl, _⟩ := hasI64 h0
  obtain ⟨n1, rfl, _⟩ := hasI64 h1
  obtain ⟨n2, rfl, _⟩ := hasI64 h2
  obtain ⟨n3, rfl, _⟩ := hasI64 h3
  obtain ⟨b4, rfl⟩ := hasBool h4
  obtain ⟨b5, rfl⟩ := hasBool h5
  obtain ⟨n6, rfl, _⟩ := hasI64 h6
  exact ⟨⟨n0, n1, n2, n3, b4, b5, n6⟩, rfl⟩
theorem hasStps {l : List AV} (h : Has (.slice shStp true) l) : ∃ q : List Stp, l = [.osl (prw q)] := by
  obtain ⟨xs, rfl, hl, hx⟩ := hasSl h
  have key : ∀ (ys : List AV), (∀ x ∈ ys, x = mk true x.cells ∧ Has shStp x.cells) → ∃ q : List Stp, ys = prw q := by
    intro ys
    induction ys with
    | nil => exact fun _ => ⟨[], rfl⟩
    | cons y ys ih =>
      intro hy
      obtain ⟨q, rfl⟩ := ih fun x hx => hy x (List.mem_cons_of_mem _ hx)
      obtain ⟨e, hh⟩ := hy y (List.mem_cons_self ..)
      obtain ⟨s, hs⟩ := hasStp hh
      exact ⟨s :: q, by rw [hs] at e; rw [e]; rfl⟩
  obtain ⟨q, rfl⟩ := key xs hx
  exact ⟨q, rfl⟩
theorem sh_stps : shOf Try.prog 8 77 = some (.slice shStp true) := by kernel_rfl
theorem sh_byts : shOf Try.prog 8 22 = some (.slice (.int .u8) false) := by kernel_rfl

end Vai.L21
