/- Receivers: what is taken twice. -/
import Derived.Test.YtjienkojedlfjaaN21b
namespace Vai.L21
open Go Go.Proofs Vai Vai.L04 Vai.L06
set_option maxRecDepth 100000
set_option linter.unusedVariables false
set_option linter.unusedSimpArgs false
section
variable {R : Type} {V : EV} {M : EM} {G : Nat → CS → Option R} {K : Res → Option R}
noncomputable abbrev Dltold : EV → EM → Dn := dnV Try.prog 8 [34, 35, 36, 37, 38, 39, 40] [] [(506, [2, 3, 7]), (61, [2, 3]), (125, [2, 3]), (254, [2, 3, 8, 9]), (510, [2, 3, 8, 9, 10, 11, 12]), (2046, [2, 3, 8, 9, 10, 11, 13, 14, 15]), (4094, [2, 3, 8, 9, 10, 11, 15, 16]), (8190, [2, 8, 9, 10, 11, 15, 16, 17])]
theorem ltold_0 (a0 : AV) (a1 : AV) : (Dltold V M).stepK G K 0 ⟨[wR ((a0)), wS ((a1))], []⟩ =
    Option.bind (V 34 []) (fun x0 => gd (fitA [.one .bool] x0) (Option.bind (V 35 [wR ((a0))]) (fun x1 => gd (fitA [.one .bool] x1) ((bif !AV.getb x0 then K (AV.bool (AV.getb x0), []) else (bif !AV.getb x1 then K (AV.bool (AV.getb x0), []) else (bif decide ((↑(List.length (cl a1 14)) : Int) > (400 : Int)) then K (AV.bool (AV.getb x0), []) else (bif decide ((↑(List.length (cl a1 13)) : Int) > (20 : Int)) then K (AV.bool (AV.getb x0), []) else G 61 ({ vs := [p0, p1], bs := [bx (wR ((a0))), bx (wS ((a1)))] }))))))))) := by kernel_rfl
theorem ltold_1 (v0 : AV) (v1 : AV) : (Dltold V M).stepK G K 61 ⟨[p0, p1], [bx (wR ((v0))), bx (wS ((v1)))]⟩ =
    (bif decide (ci v1 1 < (0 : Int)) then K (AV.bool true, []) else (bif decide (ci v1 1 > (3 : Int)) then K (AV.bool true, []) else (bif decide (ci v0 0 > (2000000000 : Int)) then K (AV.bool true, []) else G 125 ({ vs := [p0, p1], bs := [bx (wR ((v0))), bx (wS ((v1)))] })))) := by kernel_rfl
theorem ltold_2 (v0 : AV) (v1 : AV) : (Dltold V M).stepK G K 125 ⟨[p0, p1], [bx (wR ((v0))), bx (wS ((v1)))]⟩ =
    G 506 ({ vs := [p0, p1, AV.int .i64 (0 : Int)], bs := [bx (wR ((v0))), bx (wS ((v1)))] }) := by kernel_rfl
theorem ltold_3 (n0 : Int) (v1 : AV) (v2 : AV) : (Dltold V M).stepK G K 506 ⟨[p0, p1, (.int .i64 n0)], [bx (wR ((v1))), bx (wS ((v2)))]⟩ =
    (bif decide (ci v2 1 = (0 : Int)) then (bif decide (n0 < (↑(List.length (cl v1 5)) : Int)) then (bif decide (ci v2 1 = (0 : Int)) then gd (decide ((0 : Int) ≤ n0)) (Option.bind ((cl v1 5)[Int.toNat n0]?) (fun x19 => gd (Vw.fit (.agg [.int .i64, .int .i64]) x19) ((bif decide (ci x19 1 > (2000000000 : Int)) then K (AV.bool true, []) else G 506 ({ vs := [p0, p1, AV.int .i64 (IntKind.wrap .i64 (n0 + (1 : Int)))], bs := [bx (wR ((v1))), bx (wS ((v2)))] }))))) else (bif decide (ci v2 1 = (1 : Int)) then gd (decide ((0 : Int) ≤ n0)) (Option.bind ((cl v1 11)[Int.toNat n0]?) (fun x18 => gd (Vw.fit (.agg [.int .i64, .int .i64]) x18) ((bif decide (ci x18 1 > (2000000000 : Int)) then K (AV.bool true, []) else G 506 ({ vs := [p0, p1, AV.int .i64 (IntKind.wrap .i64 (n0 + (1 : Int)))], bs := [bx (wR ((v1))), bx (wS ((v2)))] }))))) else (bif decide (ci v2 1 = (2 : Int)) then gd (decide ((0 : Int) ≤ n0)) (Option.bind ((cl v1 17)[Int.toNat n0]?) (fun x17 => gd (Vw.fit (.agg [.int .i64, .int .i64]) x17) ((bif decide (ci x17 1 > (2000000000 : Int)) then K (AV.bool true, []) else G 506 ({ vs := [p0, p1, AV.int .i64 (IntKind.wrap .i64 (n0 + (1 : Int)))], bs := [bx (wR ((v1))), bx (wS ((v2)))] }))))) else gd (decide (ci v2 1 = (3 : Int))) (gd (decide ((0 : Int) ≤ n0)) (Option.bind ((cl v1 23)[Int.toNat n0]?) (fun x16 => gd (Vw.fit (.agg [.int .i64, .int .i64]) x16) ((bif decide (ci x16 1 > (2000000000 : Int)) then K (AV.bool true, []) else G 506 ({ vs := [p0, p1, AV.int .i64 (IntKind.wrap .i64 (n0 + (1 : Int)))], bs := [bx (wR ((v1))), bx (wS ((v2)))] }))))))))) else Option.bind (V 36 [wR ((v1)), AV.int .i64 (ci v2 1), AV.int .u32 (ci v2 11)]) (fun x15 => gd (fitA [.agg kS, .one (.int .i64)] x15) (G 254 ({ vs := [p0, p1, p2, AV.int .i64 (ti x15 1)], bs := [bx (wR ((v1))), bx (wS ((v2))), bx (wS (((List.getD (AV.gett x15) 0 .undef))))] })))) else (bif decide (ci v2 1 = (1 : Int)) then (bif decide (n0 < (↑(List.length (cl v1 11)) : Int)) then (bif decide (ci v2 1 = (0 : Int)) then gd (decide ((0 : Int) ≤ n0)) (Option.bind ((cl v1 5)[Int.toNat n0]?) (fun x14 => gd (Vw.fit (.agg [.int .i64, .int .i64]) x14) ((bif decide (ci x14 1 > (2000000000 : Int)) then K (AV.bool true, []) else G 506 ({ vs := [p0, p1, AV.int .i64 (IntKind.wrap .i64 (n0 + (1 : Int)))], bs := [bx (wR ((v1))), bx (wS ((v2)))] }))))) else (bif decide (ci v2 1 = (1 : Int)) then gd (decide ((0 : Int) ≤ n0)) (Option.bind ((cl v1 11)[Int.toNat n0]?) (fun x13 => gd (Vw.fit (.agg [.int .i64, .int .i64]) x13) ((bif decide (ci x13 1 > (2000000000 : Int)) then K (AV.bool true, []) else G 506 ({ vs := [p0, p1, AV.int .i64 (IntKind.wrap .i64 (n0 + (1 : Int)))], bs := [bx (wR ((v1))), bx (wS ((v2)))] }))))) else (bif decide (ci v2 1 = (2 : Int)) then gd (decide ((0 : Int) ≤ n0)) (Option.bind ((cl v1 17)[Int.toNat n0]?) (fun x12 => gd (Vw.fit (.agg [.int .i64, .int .i64]) x12) ((bif decide (ci x12 1 > (2000000000 : Int)) then K (AV.bool true, []) else G 506 ({ vs := [p0, p1, AV.int .i64 (IntKind.wrap .i64 (n0 + (1 : Int)))], bs := [bx (wR ((v1))), bx (wS ((v2)))] }))))) else gd (decide (ci v2 1 = (3 : Int))) (gd (decide ((0 : Int) ≤ n0)) (Option.bind ((cl v1 23)[Int.toNat n0]?) (fun x11 => gd (Vw.fit (.agg [.int .i64, .int .i64]) x11) ((bif decide (ci x11 1 > (2000000000 : Int)) then K (AV.bool true, []) else G 506 ({ vs := [p0, p1, AV.int .i64 (IntKind.wrap .i64 (n0 + (1 : Int)))], bs := [bx (wR ((v1))), bx (wS ((v2)))] }))))))))) else Option.bind (V 36 [wR ((v1)), AV.int .i64 (ci v2 1), AV.int .u32 (ci v2 11)]) (fun x10 => gd (fitA [.agg kS, .one (.int .i64)] x10) (G 254 ({ vs := [p0, p1, p2, AV.int .i64 (ti x10 1)], bs := [bx (wR ((v1))), bx (wS ((v2))), bx (wS (((List.getD (AV.gett x10) 0 .undef))))] })))) else (bif decide (ci v2 1 = (2 : Int)) then (bif decide (n0 < (↑(List.length (cl v1 17)) : Int)) then (bif decide (ci v2 1 = (0 : Int)) then gd (decide ((0 : Int) ≤ n0)) (Option.bind ((cl v1 5)[Int.toNat n0]?) (fun x9 => gd (Vw.fit (.agg [.int .i64, .int .i64]) x9) ((bif decide (ci x9 1 > (2000000000 : Int)) then K (AV.bool true, []) else G 506 ({ vs := [p0, p1, AV.int .i64 (IntKind.wrap .i64 (n0 + (1 : Int)))], bs := [bx (wR ((v1))), bx (wS ((v2)))] }))))) else (bif decide (ci v2 1 = (1 : Int)) then gd (decide ((0 : Int) ≤ n0)) (Option.bind ((cl v1 11)[Int.toNat n0]?) (fun x8 => gd (Vw.fit (.agg [.int .i64, .int .i64]) x8) ((bif decide (ci x8 1 > (2000000000 : Int)) then K (AV.bool true, []) else G 506 ({ vs := [p0, p1, AV.int .i64 (IntKind.wrap .i64 (n0 + (1 : Int)))], bs := [bx (wR ((v1))), bx (wS ((v2)))] }))))) else (bif decide (ci v2 1 = (2 : Int)) then gd (decide ((0 : Int) ≤ n0)) (Option.bind ((cl v1 17)[Int.toNat n0]?) (fun x7 => gd (Vw.fit (.agg [.int .i64, .int .i64]) x7) ((bif decide (ci x7 1 > (2000000000 : Int)) then K (AV.bool true, []) else G 506 ({ vs := [p0, p1, AV.int .i64 (IntKind.wrap .i64 (n0 + (1 : Int)))], bs := [bx (wR ((v1))), bx (wS ((v2)))] }))))) else gd (decide (ci v2 1 = (3 : Int))) (gd (decide ((0 : Int) ≤ n0)) (Option.bind ((cl v1 23)[Int.toNat n0]?) (fun x6 => gd (Vw.fit (.agg [.int .i64, .int .i64]) x6) ((bif decide (ci x6 1 > (2000000000 : Int)) then K (AV.bool true, []) else G 506 ({ vs := [p0, p1, AV.int .i64 (IntKind.wrap .i64 (n0 + (1 : Int)))], bs := [bx (wR ((v1))), bx (wS ((v2)))] }))))))))) else Option.bind (V 36 [wR ((v1)), AV.int .i64 (ci v2 1), AV.int .u32 (ci v2 11)]) (fun x5 => gd (fitA [.agg kS, .one (.int .i64)] x5) (G 254 ({ vs := [p0, p1, p2, AV.int .i64 (ti x5 1)], bs := [bx (wR ((v1))), bx (wS ((v2))), bx (wS (((List.getD (AV.gett x5) 0 .undef))))] })))) else gd (decide (ci v2 1 = (3 : Int))) ((bif decide (n0 < (↑(List.length (cl v1 23)) : Int)) then (bif decide (ci v2 1 = (0 : Int)) then gd (decide ((0 : Int) ≤ n0)) (Option.bind ((cl v1 5)[Int.toNat n0]?) (fun x4 => gd (Vw.fit (.agg [.int .i64, .int .i64]) x4) ((bif decide (ci x4 1 > (2000000000 : Int)) then K (AV.bool true, []) else G 506 ({ vs := [p0, p1, AV.int .i64 (IntKind.wrap .i64 (n0 + (1 : Int)))], bs := [bx (wR ((v1))), bx (wS ((v2)))] }))))) else (bif decide (ci v2 1 = (1 : Int)) then gd (decide ((0 : Int) ≤ n0)) (Option.bind ((cl v1 11)[Int.toNat n0]?) (fun x3 => gd (Vw.fit (.agg [.int .i64, .int .i64]) x3) ((bif decide (ci x3 1 > (2000000000 : Int)) then K (AV.bool true, []) else G 506 ({ vs := [p0, p1, AV.int .i64 (IntKind.wrap .i64 (n0 + (1 : Int)))], bs := [bx (wR ((v1))), bx (wS ((v2)))] }))))) else (bif decide (ci v2 1 = (2 : Int)) then gd (decide ((0 : Int) ≤ n0)) (Option.bind ((cl v1 17)[Int.toNat n0]?) (fun x2 => gd (Vw.fit (.agg [.int .i64, .int .i64]) x2) ((bif decide (ci x2 1 > (2000000000 : Int)) then K (AV.bool true, []) else G 506 ({ vs := [p0, p1, AV.int .i64 (IntKind.wrap .i64 (n0 + (1 : Int)))], bs := [bx (wR ((v1))), bx (wS ((v2)))] }))))) else gd (decide (ci v2 1 = (3 : Int))) (gd (decide ((0 : Int) ≤ n0)) (Option.bind ((cl v1 23)[Int.toNat n0]?) (fun x1 => gd (Vw.fit (.agg [.int .i64, .int .i64]) x1) ((bif decide (ci x1 1 > (2000000000 : Int)) then K (AV.bool true, []) else G 506 ({ vs := [p0, p1, AV.int .i64 (IntKind.wrap .i64 (n0 + (1 : Int)))], bs := [bx (wR ((v1))), bx (wS ((v2)))] }))))))))) else Option.bind (V 36 [wR ((v1)), AV.int .i64 (ci v2 1), AV.int .u32 (ci v2 11)]) (fun x0 => gd (fitA [.agg kS, .one (.int .i64)] x0) (G 254 ({ vs := [p0, p1, p2, AV.int .i64 (ti x0 1)], bs := [bx (wR ((v1))), bx (wS ((v2))), bx (wS (((List.getD (AV.gett x0) 0 .undef))))] })))))))) := by kernel_rfl
theorem ltold_4 (n0 : Int) (v1 : AV) (v2 : AV) (v3 : AV) : (Dltold V M).stepK G K 254 ⟨[p0, p1, p2, (.int .i64 n0)], [bx (wR ((v1))), bx (wS ((v2))), bx (wS ((v3)))]⟩ =
    Option.bind (V 37 [wR ((v1)), wS ((v2)), AV.bool false]) (fun x0 => gd (fitA [.agg kR, .agg kS, .one (.int .i64)] x0) (G 510 ({ vs := [p0, p1, p2, AV.int .i64 n0, p3, p4, AV.int .i64 (ti x0 2)], bs := [bx (wR ((v1))), bx (wS ((v2))), bx (wS ((v3))), bx (wR (((List.getD (AV.gett x0) 0 .undef)))), bx (wS (((List.getD (AV.gett x0) 1 .undef))))] }))) := by kernel_rfl
theorem ltold_5 (n0 : Int) (n1 : Int) (v2 : AV) (v3 : AV) (v4 : AV) (v5 : AV) (v6 : AV) : (Dltold V M).stepK G K 510 ⟨[p0, p1, p2, (.int .i64 n0), p3, p4, (.int .i64 n1)], [bx (wR ((v2))), bx (wS ((v3))), bx (wS ((v4))), bx (wR ((v5))), bx (wS ((v6)))]⟩ =
    (bif !n1 == (0 : Int) then (bif ci v6 0 == (0 : Int) then K (AV.bool ((↑(List.length (cl v5 1)) : Int) == (0 : Int)), []) else K (AV.bool false, [])) else Option.bind (V 37 [wR ((v5)), wS ((v3)), AV.bool false]) (fun x0 => gd (fitA [.agg kR, .agg kS, .one (.int .i64)] x0) (G 2046 ({ vs := [p0, p1, p2, AV.int .i64 n0, p3, p4, p5, p6, AV.int .i64 (ti x0 2)], bs := [bx (wR ((v2))), bx (wS ((v3))), bx (wS ((v4))), bx (wR ((v5))), bx (wS ((v6))), bx (wR (((List.getD (AV.gett x0) 0 .undef)))), bx (wS (((List.getD (AV.gett x0) 1 .undef))))] })))) := by kernel_rfl
theorem ltold_6 (n0 : Int) (n1 : Int) (v2 : AV) (v3 : AV) (v4 : AV) (v5 : AV) (v6 : AV) (v7 : AV) (v8 : AV) : (Dltold V M).stepK G K 2046 ⟨[p0, p1, p2, (.int .i64 n0), p3, p4, p5, p6, (.int .i64 n1)], [bx (wR ((v2))), bx (wS ((v3))), bx (wS ((v4))), bx (wR ((v5))), bx (wS ((v6))), bx (wR ((v7))), bx (wS ((v8)))]⟩ =
    Option.bind (V 38 [wR ((v5)), wR ((v7))]) (fun x0 => gd (fitA [.one .bool] x0) ((bif AV.getb x0 then Option.bind (V 39 [wS ((v6)), wS ((v8))]) (fun x1 => gd (fitA [.one .bool] x1) (G 4094 ({ vs := [p0, p1, p2, AV.int .i64 n0, p3, p4, AV.int .i64 n1, AV.bool (AV.getb x1)], bs := [bx (wR ((v2))), bx (wS ((v3))), bx (wS ((v4))), bx (wR ((v5))), bx (wS ((v6)))] }))) else G 4094 ({ vs := [p0, p1, p2, AV.int .i64 n0, p3, p4, AV.int .i64 n1, AV.bool false], bs := [bx (wR ((v2))), bx (wS ((v3))), bx (wS ((v4))), bx (wR ((v5))), bx (wS ((v6)))] })))) := by kernel_rfl
theorem ltold_7 (n0 : Int) (n1 : Int) (b2 : Bool) (v3 : AV) (v4 : AV) (v5 : AV) (v6 : AV) (v7 : AV) : (Dltold V M).stepK G K 4094 ⟨[p0, p1, p2, (.int .i64 n0), p3, p4, (.int .i64 n1), (.bool b2)], [bx (wR ((v3))), bx (wS ((v4))), bx (wS ((v5))), bx (wR ((v6))), bx (wS ((v7)))]⟩ =
    Option.bind (V 40 [wS ((v7))]) (fun x0 => gd (fitA [.one .bool] x0) ((bif AV.getb x0 then (bif ci v7 0 == (3 : Int) then (bif ci v7 12 == ci v4 11 then (bif cb v7 3 then (bif ci v7 9 == ci v5 9 then G 8190 ({ vs := [p0, p1, AV.int .i64 n0, p2, p3, AV.int .i64 n1, AV.bool b2, AV.bool (ci v7 10 == ci v5 10)], bs := [bx (wR ((v3))), bx (wS ((v5))), bx (wR ((v6))), bx (wS ((v7)))] }) else G 8190 ({ vs := [p0, p1, AV.int .i64 n0, p2, p3, AV.int .i64 n1, AV.bool b2, AV.bool false], bs := [bx (wR ((v3))), bx (wS ((v5))), bx (wR ((v6))), bx (wS ((v7)))] })) else G 8190 ({ vs := [p0, p1, AV.int .i64 n0, p2, p3, AV.int .i64 n1, AV.bool b2, AV.bool false], bs := [bx (wR ((v3))), bx (wS ((v5))), bx (wR ((v6))), bx (wS ((v7)))] })) else G 8190 ({ vs := [p0, p1, AV.int .i64 n0, p2, p3, AV.int .i64 n1, AV.bool b2, AV.bool false], bs := [bx (wR ((v3))), bx (wS ((v5))), bx (wR ((v6))), bx (wS ((v7)))] })) else G 8190 ({ vs := [p0, p1, AV.int .i64 n0, p2, p3, AV.int .i64 n1, AV.bool b2, AV.bool false], bs := [bx (wR ((v3))), bx (wS ((v5))), bx (wR ((v6))), bx (wS ((v7)))] })) else G 8190 ({ vs := [p0, p1, AV.int .i64 n0, p2, p3, AV.int .i64 n1, AV.bool b2, AV.bool false], bs := [bx (wR ((v3))), bx (wS ((v5))), bx (wR ((v6))), bx (wS ((v7)))] })))) := by kernel_rfl
theorem ltold_8 (n0 : Int) (n1 : Int) (b2 : Bool) (b3 : Bool) (v4 : AV) (v5 : AV) (v6 : AV) (v7 : AV) : (Dltold V M).stepK G K 8190 ⟨[p0, p1, (.int .i64 n0), p2, p3, (.int .i64 n1), (.bool b2), (.bool b3)], [bx (wR ((v4))), bx (wS ((v5))), bx (wR ((v6))), bx (wS ((v7)))]⟩ =
    (bif n0 == (0 : Int) then (bif n1 == (0 : Int) then (bif b2 then (bif b3 then (bif IntKind.wrap .i64 (ci v6 0 + ci v6 3) == IntKind.wrap .i64 (ci v4 0 + ci v4 3) then (bif decide (IntKind.wrap .i64 (ci v6 0 + ci v6 3) > (4000000000 : Int)) then K (AV.bool true, []) else K (AV.bool (decide (ci v7 7 ≥ ci v5 7)), [])) else K (AV.bool false, [])) else K (AV.bool false, [])) else K (AV.bool false, [])) else K (AV.bool false, [])) else K (AV.bool false, [])) := by kernel_rfl
end
/-! ### What is taken twice -/
theorem put_twice {w : Wv} (hb0 : IsB w.b) {n : Int} {bs : List AV} (hbs : IsB bs) (hl : bs.length ≤ 140737488355) (k : putK w n bs = 0) : putK (putW w n bs) n bs = 0 ∧ putW (putW w n bs) n bs = putW w n bs := by
  obtain ⟨hm, p0', p1', pe, ⟨c, e⟩ | ⟨c, f, d, e⟩⟩ := putW_zero hb0 hbs hl k
  · rw [e]; exact ⟨k, e⟩
  · have lh := low_high (w := w) (n := n) (k := bs.length) (by omega) (by omega) hl
    have hp := mayOf hm
    rw [e]
    have eh : highW (⟨w.base, putB w.base n (lowW w n) (highW w n bs.length) w.b bs w.l, addR w.l ⟨lowW w n, highW w n bs.length⟩, w.cap, w.end_⟩ : Wv) n bs.length = highW w n bs.length := rfl
    have el : lowW (⟨w.base, putB w.base n (lowW w n) (highW w n bs.length) w.b bs w.l, addR w.l ⟨lowW w n, highW w n bs.length⟩, w.cap, w.end_⟩ : Wv) n = lowW w n := rfl
    unfold putW putK
    rw [eh, el]
    generalize lowW w n = low at *
    generalize highW w n bs.length = high at *
    have hedge := hp.edge
    have hb0' := hp.b0
    have hs : 0 ≤ (⟨low, high⟩ : Spn).a ∧ (⟨low, high⟩ : Spn).a < (⟨low, high⟩ : Spn).b ∧ (⟨low, high⟩ : Spn).b ≤ 4611686018427387904 := by simp only; omega
    have hu := put_may hp f lh.1 (by rcases pe with h | h <;> omega)
    have mU := mayW_plain.2 hu
    have eL : addL (addR w.l ⟨low, high⟩) ⟨low, high⟩ = addR w.l ⟨low, high⟩ := can_eq (addL_can f.can hs) f.can fun m => by
      rw [addL_mem f.can hs, f.me]
      exact ⟨fun h => h.elim id .inr, .inl⟩
    have mG : mayP (addR w.l ⟨low, high⟩) = true := may_iff.2 ⟨f.gl, f.can⟩
    have eE : addE (addR w.l ⟨low, high⟩) ⟨low, high⟩ = 0 := by
      unfold addE
      rw [if_pos ⟨mG, one_iff.2 hs⟩, eL, if_neg (by have := f.gl; omega)]
    have eR : addR (addR w.l ⟨low, high⟩) ⟨low, high⟩ = addR w.l ⟨low, high⟩ := by rw [(addE_0 eE).1, eL]
    have f2 := put_facts hu f.hB hbs (by omega) p0' lh.1 lh.2.1 c lh.2.2.1 lh.2.2.2.1 eE
    have eB : putB w.base n low high (putB w.base n low high w.b bs w.l) bs (addR w.l ⟨low, high⟩) = putB w.base n low high w.b bs w.l := by
      refine isb_ext f2.hB f.hB ?_ fun i hi => ?_
      · have h1 := f2.lB; have h2 := f.lB; rw [eR] at h1; omega
      · have h1 := f2.lB; have h2 := f.lB; rw [eR] at h1
        rw [f2.by_ i hi]
        by_cases c1 : mem (addR w.l ⟨low, high⟩) (w.base + i)
        · rw [if_pos c1]
        · rw [if_neg c1, if_neg fun h => c1 ((f.me _).2 (.inr h))]
          exact (hu.bz i (by omega) c1).symm
    have k2 : (if mayW w.base (putB w.base n low high w.b bs w.l) (addR w.l ⟨low, high⟩) w.cap w.end_ = false ∨ n < 0 ∨ n > 2305843009213693952 then (1 : Int) else if w.end_ ≠ -1 ∧ n + bs.length > w.end_ then 5 else if low ≥ high then 0 else addE (addR w.l ⟨low, high⟩) ⟨low, high⟩) = 0 := by
      rw [mU, if_neg (by rintro (h | h | h) <;> first | omega | cases h), if_neg (by omega), if_neg (by omega), eE]
    refine ⟨k2, ?_⟩
    refine (if_neg (fun h => h k2)).trans ?_
    rw [if_neg (by omega)]
    simp only [eR, eB]
theorem shut_twice {w : Wv} {n : Int} (k : shutE w n = 0) : shutE (shutW w n) n = 0 ∧ shutW (shutW w n) n = shutW w n := by
  obtain ⟨h1, h2, h3, h4, h5, h6⟩ := shutW_may k
  have e : shutE (shutW w n) n = 0 := by
    unfold shutE
    rw [if_pos ⟨h6, h3, h4⟩, h2, if_neg]
    rintro (h | h)
    · exact h.2 rfl
    · have : n < uptoP w.base w.l := h
      omega
  refine ⟨e, ?_⟩
  have u : ∀ v : Wv, shutE v n = 0 → shutW v n = { v with end_ := n } := fun v hv => by unfold shutW; rw [if_pos hv]
  rw [u _ e, h2]
theorem rp_twice {w : Wv} (hb0 : IsB w.b) {x : Sg} (hb : IsB x.b) (hl : x.b.length ≤ 1460) {n : Int} (k : rpE w x n = 0) : rpE (rpW w x n) x n = 0 ∧ rpW (rpW w x n) x n = rpW w x n := by
  have hn := rp_next hb0 hb hl k
  unfold rpE at k
  cases hf : x.fin with
  | true =>
    rw [if_pos hf] at k
    have e : rpW w x n = shutW w n := by unfold rpW; rw [if_pos hf]
    rw [e]
    unfold rpE rpW
    rw [if_pos hf, if_pos hf]
    exact shut_twice k
  | false =>
    have hf' : ¬ x.fin = true := by rw [hf]; decide
    rw [if_neg hf'] at k
    by_cases c : n + x.b.length > edgeW w
    · rw [if_pos c] at k; cases k
    · rw [if_neg c] at k
      have e : rpW w x n = putW w n x.b := by unfold rpW; rw [if_neg hf', if_neg c]
      have he : edgeW (putW w n x.b) = edgeW w := by
        rw [← e]
        have h1 := hn.may
        have h2 : w.may = true := (putW_zero hb0 hb (by omega) k).1
        unfold edgeW
        rw [if_pos h1, if_pos h2, hn.base, hn.cap]
      rw [e]
      unfold rpE rpW
      rw [if_neg hf', if_neg hf', he, if_neg c, if_neg c]
      exact put_twice hb0 hb (by omega) k
theorem gap_le {l : List Spn} {B : Int} (h0 : 0 ≤ B) (h : ∀ s ∈ l, s.b ≤ B) : gapP l 0 ≤ B := by
  unfold gapP
  split
  · rename_i hm
    rw [if_neg (by decide)]
    obtain ⟨c1, c2, c3⟩ := gap_spec (may_iff.1 hm).2 0
    by_cases e : l.foldl gapF 0 = 0
    · omega
    · obtain ⟨s, hs, k1, k2⟩ := c3 (l.foldl gapF 0 - 1) (by omega) (by omega)
      have := h s hs
      omega
  · exact h0
/-- What is known of a gap. -/
theorem gap_is {l : List Spn} (hm : mayP l = true) : 0 ≤ gapP l 0 ∧ ¬ mem l (gapP l 0) ∧ ∀ n, 0 ≤ n → n < gapP l 0 → mem l n := by
  unfold gapP
  rw [if_pos hm, if_neg (by decide)]
  exact gap_spec (may_iff.1 hm).2 0
theorem gap_add {l : List Spn} {s : Spn} {B : Int} (e : addE l s = 0) (h0 : 0 ≤ B) (h : ∀ x ∈ l, x.b ≤ B) (hs : s.b ≤ s.a + 1460) : gapP (addR l s) 0 ≤ B + 1460 := by
  obtain ⟨m1, _, m2, m3⟩ := addE_may e
  have hc := (may_iff.1 m2).2
  have ho := one_iff.1 m3
  have eR := (addE_0 e).1
  have me : ∀ n, mem (addR l s) n ↔ mem l n ∨ inS s n := fun n => by rw [eR]; exact addL_mem hc ho n
  obtain ⟨g1, g2, g3⟩ := gap_is m2
  obtain ⟨k1, k2, k3⟩ := gap_is m1
  have gl := gap_le h0 h
  refine Classical.byContradiction fun hh => ?_
  have hin : inS s (gapP l 0) := by
    rcases (me _).1 (k3 (gapP l 0) g1 (by omega)) with hx | hx
    · exact absurd hx g2
    · exact hx
  rcases (me _).1 (k3 (gapP (addR l s) 0 - 1) (by omega) (by omega)) with ⟨y, hy, y1, y2⟩ | hx
  · have := h y hy; omega
  · have h1 := hin.1; have h2 := hx.2; omega
theorem add_twice {l : List Spn} {s : Spn} (e : addE l s = 0) : addE (addR l s) s = 0 ∧ addR (addR l s) s = addR l s := by
  obtain ⟨m1, m0, m2, m3⟩ := addE_may e
  have hc := (may_iff.1 m2).2
  have ho := one_iff.1 m3
  have eR := (addE_0 e).1
  have c1 := (may_iff.1 m1).2
  have eL : addL (addR l s) s = addR l s := can_eq (addL_can c1 ho) c1 fun n => by
    rw [addL_mem c1 ho, eR, addL_mem hc ho]
    exact ⟨fun h => h.elim id .inr, .inl⟩
  have eE : addE (addR l s) s = 0 := by
    unfold addE
    rw [if_pos ⟨m1, m3⟩, eL, if_neg (by omega)]
  exact ⟨eE, by rw [(addE_0 eE).1, eL]⟩
theorem tAt_low {r : Rc} {x : Sg} (hx : x.Ok) (hm : r.w.may = true) (hb : r.w.base ≤ 2000000000) : tAt r x = x.dsn := by
  obtain ⟨f1, f2, f3, f4, f5, f6, f7, f8⟩ := far_rng hm
  have hc := (mayOf hm).c1
  exact unwP_low (by omega) (by omega) hx.d0 hx.d1
theorem take_twice {r : Rc} (h : r.Sm) {x : Sg} (hx : x.Ok) (hs : 0 ≤ x.sub ∧ x.sub ≤ 3) (hb : r.w.base ≤ 2000000000) (hg : ∀ s ∈ (r.at x.sub).got, s.b ≤ 2000000000) (e : takeE r x false = 0) :
    takeE (takeT r x false) x false = 0 ∧ takeT (takeT r x false) x false = takeT r x false := by
  obtain ⟨c1, c2, c3, _⟩ := take_0 e
  obtain ⟨d1, d2, d3, d4⟩ := pre_0 c1
  have hl : x.b.length ≤ 1460 := by have := Sg.may_iff.1 d2; omega
  have hN : tN x ≤ 1460 := by unfold tN; split <;> omega
  have hm := takeT_may h hx e
  have hw := Rc.may_w d1
  have hnx := rp_next h.w.b hx.b hl c2
  have hat : (takeT r x false).at x.sub = ⟨addR (r.at x.sub).got (tSp r x), tM r x false⟩ := Rc.at_set r _ _ _
  have hw' : (takeT r x false).w = rpW r.w x (tAt r x) := rfl
  have e1 : tAt r x = x.dsn := tAt_low hx hw hb
  have e2 : tAt (takeT r x false) x = tAt r x := by
    rw [e1]
    exact tAt_low hx (by rw [hw']; exact hnx.may) (by rw [hw', hnx.base]; exact hb)
  have gr := gap_rng (Bool.and_eq_true_iff.1 (Rc.may_at d1 x.sub)).1 (f := 0) (by omega) (by omega)
  have s1 : tSeq r x = x.seq := unwP_low gr.1 (by have := gap_le (by decide : (0 : Int) ≤ 2000000000) hg; omega) hx.q0 hx.q1
  have s2 : tSeq (takeT r x false) x = x.seq := by
    unfold tSeq
    rw [hat]
    have g2 := gap_add c3 (by decide : (0 : Int) ≤ 2000000000) hg (by show (tSp r x).b ≤ (tSp r x).a + 1460; unfold tSp; simp only; omega)
    have g3 := gap_is (addE_may c3).1
    exact unwP_low (near := gapP (addR (r.at x.sub).got (tSp r x)) 0) g3.1 (by omega) hx.q0 hx.q1
  have e3 : tSp (takeT r x false) x = tSp r x := by unfold tSp; rw [s1, s2]
  obtain ⟨p1, p2⟩ := rp_twice h.w.b hx.b hl c2
  obtain ⟨a1, a2⟩ := add_twice c3
  have m1 : ∀ t : Rc, tM t x false = (t.at x.sub).m := fun t => by unfold tM; rw [if_neg (by decide)]
  refine ⟨?_, ?_⟩
  · unfold takeE
    have hp : preE (takeT r x false) x = 0 := by unfold preE; rw [if_neg (by rw [hm]; decide), if_neg (by rw [d2, d4]; simp [d3])]
    rw [hp, e2, hw', p1, hat, e3, a1, if_neg (by decide), if_neg (by decide), if_neg (by decide), if_neg (by simp)]
  · have u : ∀ t : Rc, takeT t x false = { t.set x.sub ⟨addR (t.at x.sub).got (tSp t x), tM t x false⟩ with w := rpW t.w x (tAt t x) } := fun _ => rfl
    rw [u (takeT r x false), hat, e3, e2, hw', p2, m1 (takeT r x false), hat]
    simp only [a2]
    rw [u r]
    exact Rc.set_set r _ _ _ _ _
theorem toldS_may {r : Rc} {sub echo : Int} (h : toldE r sub = 0) (hm : (r.at sub).m.may = true) (hw : r.w.may = true) (hs : 0 ≤ sub ∧ sub ≤ 3) : (toldS r sub echo).may = true := by
  unfold toldS
  rw [if_pos h, Sg.may_iff]
  have hk := sackF_len (gapP (r.at sub).got 0) (r.at sub).got [] (by decide)
  have hmm := Mk.may_iff.1 hm
  have e8 : (r.at sub).m.p.tmod 8 = (r.at sub).m.p % 8 := Int.tmod_eq_emod_of_nonneg (by omega)
  have e9 : (r.at sub).m.b.tmod 16777216 = (r.at sub).m.b % 16777216 := Int.tmod_eq_emod_of_nonneg (by omega)
  have h8 : 0 ≤ aceP (r.at sub).m ∧ aceP (r.at sub).m ≤ 7 := by unfold aceP; rw [if_pos hm, e8]; omega
  have h9 : ceP (r.at sub).m < 16777216 := by unfold ceP; rw [if_pos hm, e9, IntKind.wrap_u32]; omega
  have h10 : 0 ≤ winP r.w ∧ winP r.w ≤ 65535 := by unfold winP; split <;> split <;> omega
  refine ⟨by show (0 : Int) ≤ 3; decide, by show (3 : Int) ≤ 4; decide, hs.1, hs.2, h10.1, h10.2, h8.1, h8.2, h9, hk, Nat.zero_le _⟩
/-! ### ReceiverTold -/
theorem lt_end {V : EV} {M : EM} (r : Rc) (sm : r.Sm) (x : Sg) (ok : x.Ok) (hs : 0 ≤ x.sub ∧ x.sub ≤ 3) (hb : r.w.base ≤ 2000000000) (hg : ∀ s ∈ (r.at x.sub).got, s.b ≤ 2000000000) (hl : x.b.length ≤ 400)
    (h4 : HasV V F_rtake) (h5 : HasV V F_r21same) (h6 : HasV V F_r7same) (h7 : HasV V F_wimay) :
    (Dltold V M).From 254 ⟨[p0, p1, p2, .int .i64 (toldE r x.sub)], [bx r.av, bx x.av, bx (toldS r x.sub x.at_).av]⟩ = some (.bool true, []) := by
  have e4 : ∀ t : Rc, t.Sm → V 37 [t.av, x.av, .bool false] = some (.tup [(takeR t x false).av, (takeS t x false).av, .int .i64 (takeE t x false)]) := fun t ht => h4 (t, x, false) ⟨ht, ok⟩
  have e5 : ∀ t : Rc, t.Sm → V 38 [t.av, t.av] = some (.bool true) := fun t ht => h5 t ht
  have e6 : ∀ t : Sg, t.Ok → V 39 [t.av, t.av] = some (.bool true) := fun t ht => h6 t ht
  have e7 : ∀ t : Sg, V 40 [t.av] = some (.bool t.may) := fun t => h7 t trivial
  refine From.of ((ltold_4 (toldE r x.sub) r.av x.av (toldS r x.sub x.at_).av).trans ?_)
  simp only [V21, e4 r sm]
  refine From.of ((ltold_5 (toldE r x.sub) (takeE r x false) r.av x.av (toldS r x.sub x.at_).av (takeR r x false).av (takeS r x false).av).trans ?_)
  have sm2 := takeR_sm sm ok false
  by_cases c : takeE r x false = 0
  · rw [show (takeE r x false == 0) = true by rw [beq_iff_eq]; exact c]
    obtain ⟨t1, t2⟩ := take_twice sm ok hs hb hg c
    have eR : takeR r x false = takeT r x false := by unfold takeR; rw [if_pos c]
    have eS : takeS r x false = toldS (takeT r x false) x.sub x.at_ := by unfold takeS; rw [if_pos c]
    have eR2 : takeR (takeT r x false) x false = takeT r x false := by unfold takeR; rw [if_pos t1, t2]
    have eS2 : takeS (takeT r x false) x false = toldS (takeT r x false) x.sub x.at_ := by unfold takeS; rw [if_pos t1, t2]
    rw [eR] at sm2 ⊢
    rw [eS]
    simp only [V21, e4 _ sm2, t1, eR2, eS2]
    obtain ⟨c1, c2, c3, _⟩ := take_0 c
    obtain ⟨d1, d2, d3, d4⟩ := pre_0 c1
    have hm2 := takeT_may sm ok c
    have hw := Rc.may_w d1
    have hnx := rp_next sm.w.b ok.b (by omega) c2
    have z0 : toldE r x.sub = 0 := by unfold toldE; rw [if_pos ⟨d1, hs.1, hs.2⟩]
    have z1 : toldE (takeT r x false) x.sub = 0 := by unfold toldE; rw [if_pos ⟨hm2, hs.1, hs.2⟩]
    have hat : (takeT r x false).at x.sub = ⟨addR (r.at x.sub).got (tSp r x), (r.at x.sub).m⟩ := by
      have : (takeT r x false).at x.sub = ⟨addR (r.at x.sub).got (tSp r x), tM r x false⟩ := Rc.at_set r _ _ _
      rw [this]; unfold tM; rw [if_neg (by decide)]
    have hmm2 : ((takeT r x false).at x.sub).m.may = true := (Bool.and_eq_true_iff.1 (Rc.may_at hm2 x.sub)).2
    have may : (toldS (takeT r x false) x.sub x.at_).may = true := toldS_may z1 hmm2 (Rc.may_w hm2) hs
    have w0 : toldS r x.sub x.at_ = ⟨3, x.sub, false, true, 0, 0, lowP (gapP (r.at x.sub).got 0), lowP (farP r.w), winP r.w, aceP (r.at x.sub).m, ceP (r.at x.sub).m, 0, x.at_, sackP (r.at x.sub).got (gapP (r.at x.sub).got 0), []⟩ := by unfold toldS; rw [if_pos z0]
    have w1 : toldS (takeT r x false) x.sub x.at_ = ⟨3, x.sub, false, true, 0, 0, lowP (gapP ((takeT r x false).at x.sub).got 0), lowP (farP (takeT r x false).w), winP (takeT r x false).w, aceP (r.at x.sub).m, ceP (r.at x.sub).m, 0, x.at_, sackP ((takeT r x false).at x.sub).got (gapP ((takeT r x false).at x.sub).got 0), []⟩ := by unfold toldS; rw [if_pos z1, hat]
    have ts1 := toldS_ok (takeT r x false) x.sub x.at_
    refine From.of ((ltold_6 (toldE r x.sub) 0 r.av x.av (toldS r x.sub x.at_).av (takeT r x false).av (toldS (takeT r x false) x.sub x.at_).av (takeT r x false).av (toldS (takeT r x false) x.sub x.at_).av).trans ?_)
    simp only [V21, e5 _ sm2, e6 _ ts1]
    refine From.of ((ltold_7 (toldE r x.sub) 0 true r.av x.av (toldS r x.sub x.at_).av (takeT r x false).av (toldS (takeT r x false) x.sub x.at_).av).trans ?_)
    simp only [V21, e7, may]
    rw [show ((toldS (takeT r x false) x.sub x.at_).kind == 3) = true by rw [w1]; rfl, show ((toldS (takeT r x false) x.sub x.at_).echo == x.at_) = true by rw [w1, beq_iff_eq], show (toldS (takeT r x false) x.sub x.at_).ecn = true by rw [w1],
      show ((toldS (takeT r x false) x.sub x.at_).ace == (toldS r x.sub x.at_).ace) = true by rw [w1, w0, beq_iff_eq], show ((toldS (takeT r x false) x.sub x.at_).ce == (toldS r x.sub x.at_).ce) = true by rw [w1, w0, beq_iff_eq]]
    simp only [V21]
    refine From.of ((ltold_8 (toldE r x.sub) 0 true true r.av (toldS r x.sub x.at_).av (takeT r x false).av (toldS (takeT r x false) x.sub x.at_).av).trans ?_)
    have hb1 := (mayOf hw).b0
    have hc0 := (mayOf hw).c0
    have hc1 := (mayOf hw).c1
    have q1 : (takeT r x false).w.base = r.w.base := hnx.base
    have q2 : (takeT r x false).w.cap = r.w.cap := hnx.cap
    simp only [V21, z0, q1, q2]
    rw [w64 (n := r.w.base + r.w.cap) (by omega) (by omega)]
    by_cases c9 : r.w.base + r.w.cap > 4000000000
    · rw [decide_eq_true c9]; rfl
    · rw [decide_eq_false c9, cond_false]
      obtain ⟨f1, f2, f3, f4, f5, f6, f7, f8⟩ := far_rng hw
      obtain ⟨g1, g2, g3, g4, g5, g6, g7, g8⟩ := far_rng (Rc.may_w hm2)
      rw [q1, q2] at g5
      rw [q1] at g1
      have mono : farP r.w ≤ farP (takeT r x false).w := far_mono hw hnx
      have l1 : (toldS r x.sub x.at_).dgot = farP r.w := by rw [w0]; exact lowP_of (by omega) (by omega)
      have l2 : (toldS (takeT r x false) x.sub x.at_).dgot = farP (takeT r x false).w := by rw [w1]; exact lowP_of (by omega) (by omega)
      rw [l1, l2, decide_eq_true (by omega)]
  · rw [show (takeE r x false == 0) = false by rw [beq_eq_false_iff_ne]; exact c]
    have eR : takeR r x false = Rc.none := by unfold takeR; rw [if_neg c]
    have eS : takeS r x false = Sg.none := by unfold takeS; rw [if_neg c]
    rw [eR, eS]; rfl
theorem lt_loop {V : EV} {M : EM} (r : Rc) (sm : r.Sm) (x : Sg) (ok : x.Ok) (hs : 0 ≤ x.sub ∧ x.sub ≤ 3) (hb : r.w.base ≤ 2000000000) (hl : x.b.length ≤ 400)
    (h3 : HasV V F_rtold) (h4 : HasV V F_rtake) (h5 : HasV V F_r21same) (h6 : HasV V F_r7same) (h7 : HasV V F_wimay) : ∀ (m : List Spn) (i : Nat), (r.at x.sub).got.drop i = m → (∀ s ∈ (r.at x.sub).got.take i, s.b ≤ 2000000000) →
    (Dltold V M).From 506 ⟨[p0, p1, .int .i64 i], [bx r.av, bx x.av]⟩ = some (.bool true, [])
  | [], i, hd, hp => by
    refine From.of ((ltold_3 i r.av x.av).trans ?_)
    have hi := drop_end hd
    have hg : ∀ s ∈ (r.at x.sub).got, s.b ≤ 2000000000 := by rw [List.take_of_length_le hi] at hp; exact hp
    have e3 : V 36 [r.av, .int .i64 x.sub, .int .u32 x.at_] = some (.tup [(toldS r x.sub x.at_).av, .int .i64 (toldE r x.sub)]) := h3 (r, x.sub, x.at_) sm
    have fin := lt_end (M := M) r sm x ok hs hb hg hl h4 h5 h6 h7
    rcases sub4 hs with hk | hk | hk | hk
    all_goals
      simp only [hk, at0, at1, at2, at3] at hi
      simp only [V21, hk, D00, D10, D11, D20, D21, D22, D30, D31, D32, D33, prows_len]
      rw [decide_eq_false (by omega)]
      rw [hk] at e3 fin
      simp only [V21, e3]
      exact fin
  | s :: m, i, hd, hp => by
    refine From.of ((ltold_3 i r.av x.av).trans ?_)
    obtain ⟨g1, g2, g3⟩ := drop_get hd
    have hll := sm.at x.sub
    have next : s.b ≤ 2000000000 → (Dltold V M).From 506 ⟨[p0, p1, .int .i64 (i + 1 : Nat)], [bx r.av, bx x.av]⟩ = some (.bool true, []) := fun hsb => lt_loop r sm x ok hs hb hl h3 h4 h5 h6 h7 m (i + 1) g3 (fun y hy => by
      rw [List.take_succ_eq_append_getElem g2] at hy
      rcases List.mem_append.1 hy with h | h
      · exact hp y h
      · rw [List.mem_singleton] at h
        rw [List.getElem?_eq_getElem g2] at g1
        rw [h, Option.some.inj g1]; exact hsb)
    have hw1 : IntKind.wrap .i64 ((i : Int) + 1) = ((i + 1 : Nat) : Int) := w64 (n := (i : Int) + 1) (by omega) (by omega)
    rcases sub4 hs with hk | hk | hk | hk
    all_goals
      simp only [hk, at0, at1, at2, at3] at g1 g2
      simp only [V21, hk, D00, D10, D11, D20, D21, D22, D30, D31, D32, D33, prows_len]
      rw [decide_eq_true (by omega)]
      simp only [V21]
      rw [gd_of (decide_eq_true (by omega)), pr_at g1]
      simp only [V21, fSp, sp1, hw1]
      by_cases c : s.b > 2000000000
      · rw [decide_eq_true c]; rfl
      · rw [decide_eq_false c]; exact next (by omega)
theorem ltold_from {V : EV} {M : EM} (r : Rc) (hr : IsB r.w.b) (x : Sg) (hx : x.In) (h0 : V 34 [] = some (.bool true)) (h2 : HasV V F_r21few) (h3 : HasV V F_rtold) (h4 : HasV V F_rtake) (h5 : HasV V F_r21same) (h6 : HasV V F_r7same) (h7 : HasV V F_wimay) :
    (Dltold V M).From 0 ⟨[r.av, x.av], []⟩ = some (.bool true, []) := by
  refine From.of ((ltold_0 r.av x.av).trans ?_)
  have e2 : V 35 [r.av] = some (.bool (fewR r)) := h2 r trivial
  simp only [V21, h0, e2, qrows_len]
  cases hf : fewR r with
  | false => rfl
  | true =>
  by_cases c1 : (x.b.length : Int) > 400
  · rw [decide_eq_true c1]; rfl
  rw [decide_eq_false c1]
  by_cases c2 : (x.sacks.length : Int) > 20
  · rw [decide_eq_true c2]; rfl
  rw [decide_eq_false c2]
  have sm := few_sm hr hf
  have ok := hx.ok (by omega) (by omega)
  simp only [Bool.not_true, cond_false]
  refine From.of ((ltold_1 r.av x.av).trans ?_)
  simp only [V21]
  by_cases c3 : x.sub < 0
  · rw [decide_eq_true c3]; rfl
  rw [decide_eq_false c3]
  by_cases c4 : x.sub > 3
  · rw [decide_eq_true c4]; rfl
  rw [decide_eq_false c4]
  by_cases c5 : r.w.base > 2000000000
  · rw [decide_eq_true c5]; rfl
  rw [decide_eq_false c5]
  simp only [cond_false]
  refine From.of ((ltold_2 r.av x.av).trans ?_)
  exact lt_loop r sm x ok ⟨by omega, by omega⟩ (by omega) (by omega) h3 h4 h5 h6 h7 (r.at x.sub).got 0 rfl (fun s hs => by cases hs)
theorem ltold_ok (r : Rc) (hr : IsB r.w.b) (x : Sg) (hx : x.In) : FnOk Try.prog 8 [r.av, x.av] (.bool true) :=
  fn_mk [F_awk, F_r21few, F_rtold, F_rtake, F_r21same, F_r7same, F_wimay] [] (by kernel_rfl) mixed (by kernel_rfl) (ltold_from r hr x hx (hasV (F := F_awk) 0 rfl rfl () trivial) (hasV 1 rfl rfl) (hasV 2 rfl rfl) (hasV 3 rfl rfl) (hasV 4 rfl rfl) (hasV 5 rfl rfl) (hasV 6 rfl rfl))

end Vai.L21
