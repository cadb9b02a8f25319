/- Receivers: how far all has come. -/
import Derived.Test.YtjienkojedlfjaaN21b
namespace Vai.L21
open Go Go.Proofs Vai Vai.L04 Vai.L06
set_option maxRecDepth 100000
set_option linter.unusedVariables false
set_option linter.unusedSimpArgs false
section
variable {R : Type} {V : EV} {M : EM} {G : Nat → CS → Option R} {K : Res → Option R}
noncomputable abbrev Dlfar : EV → EM → Dn := dnV Try.prog 10 [34, 35, 36, 37, 41, 42] [] [(61, [1, 2, 3]), (126, [1, 2, 3, 9, 10, 11, 12, 13]), (510, [2, 3, 9, 10, 12, 14, 15]), (2046, [9, 10, 12, 14, 15, 19]), (4094, [9, 10, 14, 15, 19, 20])]
theorem lfar_0 (a0 : AV) (a1 : Int) (a2 : Int) : (Dlfar V M).stepK G K 0 ⟨[wR ((a0)), .int .i64 a1, .int .i64 a2], []⟩ =
    Option.bind (V 34 []) (fun x0 => gd (fitA [.one .bool] x0) (Option.bind (V 35 [wR ((a0))]) (fun x1 => gd (fitA [.one .bool] x1) ((bif !AV.getb x0 then K (AV.bool (AV.getb x0), []) else (bif !AV.getb x1 then K (AV.bool (AV.getb x0), []) else Option.bind (V 41 [wR ((a0))]) (fun x2 => gd (fitA [.one .bool] x2) ((bif !AV.getb x2 then K (AV.bool (AV.getb x0), []) else (bif decide (a2 < (0 : Int)) then K (AV.bool (AV.getb x0), []) else (bif decide (a2 > (3 : Int)) then K (AV.bool (AV.getb x0), []) else (bif decide (ci a0 0 > (1000000000 : Int)) then K (AV.bool (AV.getb x0), []) else (bif decide (ci a0 4 > (1000000000 : Int)) then K (AV.bool (AV.getb x0), []) else G 61 ({ vs := [AV.int .i64 a1, AV.int .i64 a2, p0], bs := [bx (wR ((a0)))] })))))))))))))) := by kernel_rfl
theorem lfar_1 (n0 : Int) (n1 : Int) (v2 : AV) : (Dlfar V M).stepK G K 61 ⟨[(.int .i64 n0), (.int .i64 n1), p0], [bx (wR ((v2)))]⟩ =
    Option.bind (V 36 [wR ((v2)), AV.int .i64 n1, AV.int .u32 (9 : Int)]) (fun x0 => gd (fitA [.agg kS, .one (.int .i64)] x0) (Option.bind (V 42 [wR ((v2)), AV.int .i64 n0]) (fun x1 => gd (fitA [.agg kR, .one .sl, .one (.int .i64)] x1) (G 126 ({ vs := [AV.int .i64 n0, AV.int .i64 n1, p0, p1, AV.int .i64 (ti x0 1), p2, AV.osl (tl x1 1), AV.int .i64 (ti x1 2)], bs := [bx (wR ((v2))), bx (wS (((List.getD (AV.gett x0) 0 .undef)))), bx (wR (((List.getD (AV.gett x1) 0 .undef))))] }))))) := by kernel_rfl
theorem lfar_2 (n0 : Int) (n1 : Int) (n2 : Int) (l3 : List AV) (n4 : Int) (v5 : AV) (v6 : AV) (v7 : AV) : (Dlfar V M).stepK G K 126 ⟨[(.int .i64 n0), (.int .i64 n1), p0, p1, (.int .i64 n2), p2, (.osl l3), (.int .i64 n4)], [bx (wR ((v5))), bx (wS ((v6))), bx (wR ((v7)))]⟩ =
    (bif !n4 == (0 : Int) then (bif decide (n0 < (0 : Int)) then K (AV.bool (n2 == (0 : Int)), []) else K (AV.bool false, [])) else Option.bind (V 36 [wR ((v7)), AV.int .i64 n1, AV.int .u32 (9 : Int)]) (fun x0 => gd (fitA [.agg kS, .one (.int .i64)] x0) (G 510 ({ vs := [AV.int .i64 n1, p0, p1, AV.int .i64 n2, AV.osl l3, p2, AV.int .i64 (ti x0 1)], bs := [bx (wR ((v5))), bx (wS ((v6))), bx (wS (((List.getD (AV.gett x0) 0 .undef))))] })))) := by kernel_rfl
theorem lfar_3 (n0 : Int) (n1 : Int) (l2 : List AV) (n3 : Int) (v4 : AV) (v5 : AV) (v6 : AV) : (Dlfar V M).stepK G K 510 ⟨[(.int .i64 n0), p0, p1, (.int .i64 n1), (.osl l2), p2, (.int .i64 n3)], [bx (wR ((v4))), bx (wS ((v5))), bx (wS ((v6)))]⟩ =
    Option.bind (V 37 [wR ((v4)), AV.agg [AV.int .i64 (2 : Int), AV.int .i64 n0, AV.bool false, AV.bool false, AV.int .u32 (0 : Int), AV.int .u32 (IntKind.wrap .u32 (IntKind.wrap .i64 (ci v4 0 + ci v4 3))), AV.int .u32 (0 : Int), AV.int .u32 (0 : Int), AV.int .i64 (0 : Int), AV.int .i64 (0 : Int), AV.int .u32 (0 : Int), AV.int .u32 (0 : Int), AV.int .u32 (0 : Int), AV.nl, AV.osl [AV.int .u8 (1 : Int)]], AV.bool false]) (fun x0 => gd (fitA [.agg kR, .agg kS, .one (.int .i64)] x0) (G 2046 ({ vs := [p0, AV.int .i64 n1, AV.osl l2, p1, AV.int .i64 n3, AV.int .i64 (ti x0 2)], bs := [bx (wS ((v5))), bx (wS ((v6)))] }))) := by kernel_rfl
theorem lfar_4 (n0 : Int) (l1 : List AV) (n2 : Int) (n3 : Int) (v4 : AV) (v5 : AV) : (Dlfar V M).stepK G K 2046 ⟨[p0, (.int .i64 n0), (.osl l1), p1, (.int .i64 n2), (.int .i64 n3)], [bx (wS ((v4))), bx (wS ((v5)))]⟩ =
    (bif ci v5 8 == IntKind.wrap .i64 (ci v4 8 + (↑(List.length l1) : Int)) then G 4094 ({ vs := [p0, AV.int .i64 n0, p1, AV.int .i64 n2, AV.int .i64 n3, AV.bool true], bs := [bx (wS ((v4))), bx (wS ((v5)))] }) else (bif ci v5 8 == (65535 : Int) then G 4094 ({ vs := [p0, AV.int .i64 n0, p1, AV.int .i64 n2, AV.int .i64 n3, AV.bool true], bs := [bx (wS ((v4))), bx (wS ((v5)))] }) else G 4094 ({ vs := [p0, AV.int .i64 n0, p1, AV.int .i64 n2, AV.int .i64 n3, AV.bool (ci v4 8 == (0 : Int))], bs := [bx (wS ((v4))), bx (wS ((v5)))] }))) := by kernel_rfl
theorem lfar_5 (n0 : Int) (n1 : Int) (n2 : Int) (b3 : Bool) (v4 : AV) (v5 : AV) : (Dlfar V M).stepK G K 4094 ⟨[p0, (.int .i64 n0), p1, (.int .i64 n1), (.int .i64 n2), (.bool b3)], [bx (wS ((v4))), bx (wS ((v5)))]⟩ =
    (bif n0 == (0 : Int) then (bif n1 == (0 : Int) then (bif n2 == (4 : Int) then (bif ci v5 6 == ci v4 6 then (bif ci v5 7 == ci v4 7 then (bif b3 then (bif decide (ci v5 8 ≥ ci v4 8) then K (AV.bool (ci v4 12 == (9 : Int)), []) else K (AV.bool false, [])) else K (AV.bool false, [])) else K (AV.bool false, [])) else K (AV.bool false, [])) else K (AV.bool false, [])) else K (AV.bool false, [])) else K (AV.bool false, [])) := by kernel_rfl

end
/-! ### ReceiverFar -/
theorem read_far {w : Wv} {n : Int} (h : w.may = true) (hn : 0 ≤ n) : readyP (readW w n) = readyP w - readK w n ∧ farP (readW w n) = farP w := by
  obtain ⟨r1, r2, r3, r4, r5, r6, r7, r8⟩ := readW_may h hn
  obtain ⟨k1, k2, k3, k4, k5, k6⟩ := readK_le h hn
  obtain ⟨g1, g2, g3, g4, g5⟩ := ready_le h
  obtain ⟨q1, q2, q3, q4, q5⟩ := ready_le r1
  rw [r4] at q1 q2 q3 q4 q5
  have eg : gapP (readW w n).l (w.base + readK w n) = gapP w.l w.base := by
    refine Int.le_antisymm (Classical.byContradiction fun hh => g5 ?_) (Classical.byContradiction fun hh => q5 ?_)
    · exact ((r6 _).1 (q4 (gapP w.l w.base) (by omega) (by omega))).1
    · exact (r6 _).2 ⟨g4 _ (by omega) (by omega), by omega⟩
  have e1 : readyP (readW w n) = readyP w - readK w n := by rw [q3, eg, g3]; omega
  refine ⟨e1, ?_⟩
  unfold farP
  rw [e1, r4, r2, show w.base + readK w n + (readyP w - readK w n) = w.base + readyP w by omega]
/-- What is told, plainly. -/
theorem winP_is (w : Wv) : (edgeW w - farP w < 0 ∧ winP w = 0) ∨ (0 ≤ edgeW w - farP w ∧ edgeW w - farP w ≤ 65535 ∧ winP w = edgeW w - farP w) ∨ (65535 < edgeW w - farP w ∧ winP w = 65535) := by
  unfold winP
  split <;> split <;> omega
def fx (sub n : Int) : Sg := ⟨2, sub, false, false, 0, n, 0, 0, 0, 0, 0, 0, 0, [], [.int .u8 1]⟩
theorem fx_ok {sub n : Int} (h : 0 ≤ n ∧ n < 4294967296) : (fx sub n).Ok := ⟨fun x hx => by rw [List.mem_singleton.1 hx]; exact ⟨1, rfl⟩, by show (1 : Nat) ≤ 90000; decide, Nat.zero_le _, Int.le_refl 0, by show (0 : Int) < 4294967296; decide, h.1, h.2⟩
theorem lfar_from {V : EV} {M : EM} (r : Rc) (hr : IsB r.w.b) (n sub : Int) (h0 : V 34 [] = some (.bool true)) (h2 : HasV V F_r21few) (h3 : HasV V F_rtold) (h4 : HasV V F_rtake.wide) (h5 : HasV V F_rmay) (h6 : HasV V F_rread) :
    (Dlfar V M).From 0 ⟨[r.av, .int .i64 n, .int .i64 sub], []⟩ = some (.bool true, []) := by
  refine From.of ((lfar_0 r.av n sub).trans ?_)
  have e2 : V 35 [r.av] = some (.bool (fewR r)) := h2 r trivial
  cases hf : fewR r with
  | false =>
    simp only [V21, h0, e2, hf]
  | true =>
  have sm := few_sm hr hf
  have e5 : V 41 [r.av] = some (.bool r.may) := h5 r sm
  simp only [V21, h0, e2, hf, e5]
  cases hm : r.may with
  | false => rfl
  | true =>
  by_cases c3 : sub < 0
  · rw [decide_eq_true c3]; rfl
  rw [decide_eq_false c3]
  by_cases c4 : sub > 3
  · rw [decide_eq_true c4]; rfl
  rw [decide_eq_false c4]
  by_cases c5 : r.w.base > 1000000000
  · rw [decide_eq_true c5]; rfl
  rw [decide_eq_false c5]
  by_cases c6 : r.w.end_ > 1000000000
  · rw [decide_eq_true c6]; rfl
  rw [decide_eq_false c6]
  simp only [Bool.not_true, cond_false]
  have hw := Rc.may_w hm
  have hs : 0 ≤ sub ∧ sub ≤ 3 := by omega
  have e3 : ∀ t : Rc, t.Sm → V 36 [t.av, .int .i64 sub, .int .u32 9] = some (.tup [(toldS t sub 9).av, .int .i64 (toldE t sub)]) := fun t ht => h3 (t, sub, 9) ht
  have e6 : V 42 [r.av, .int .i64 n] = some (.tup [(readR r n).av, .osl (readRB r n), .int .i64 (readRE r n)]) := h6 (r, n) sm
  refine From.of ((lfar_1 n sub r.av).trans ?_)
  simp only [V21, e3 r sm, e6]
  refine From.of ((lfar_2 n sub (toldE r sub) (readRB r n) (readRE r n) r.av (toldS r sub 9).av (readR r n).av).trans ?_)
  have z0 : toldE r sub = 0 := by unfold toldE; rw [if_pos ⟨hm, hs.1, hs.2⟩]
  by_cases c7 : n < 0
  · have : readRE r n = 1 := by unfold readRE readE; rw [if_pos hm, if_neg (by omega)]
    rw [this, decide_eq_true c7, z0]; rfl
  have hn : 0 ≤ n := by omega
  have q0 : readE r.w n = 0 := by unfold readE; rw [if_pos ⟨hw, hn⟩]
  have q1 : readRE r n = 0 := by unfold readRE; rw [if_pos hm]; exact q0
  have q2 : readR r n = { r with w := readW r.w n } := by unfold readR; rw [if_pos q1]
  have q3 : readRB r n = readB r.w n := by unfold readRB; rw [if_pos q1]
  obtain ⟨k1, k2, k3, k4, k5, k6⟩ := readK_le hw hn
  obtain ⟨r1, r2, r3, r4, r5, r6, r7, r8⟩ := readW_may hw hn
  have q4 : (readB r.w n).length = readK r.w n := by unfold readB; rw [if_pos ⟨hw, hn⟩, List.length_take]; omega
  have hmt : (readR r n).may = true := by
    rw [q2]
    unfold Rc.may at hm ⊢
    rw [Bool.and_eq_true] at hm ⊢
    exact ⟨r1, hm.2⟩
  have z1 : toldE (readR r n) sub = 0 := by unfold toldE; rw [if_pos ⟨hmt, hs.1, hs.2⟩]
  obtain ⟨f1, f2⟩ := read_far hw hn
  obtain ⟨g1, g2, g3, g4, g5, g6, g7, g8⟩ := far_rng hw
  have hc0 := (mayOf hw).c0; have hc1 := (mayOf hw).c1
  have ew : edgeW r.w = r.w.base + r.w.cap := by unfold edgeW edgeP; rw [if_pos hw, if_neg (by omega)]
  have ew2 : edgeW (readW r.w n) = edgeW r.w + readK r.w n := by
    rw [ew]; unfold edgeW edgeP
    have hb := sm.w.bl
    rw [if_pos r1, r3, r4, if_neg (by omega)]; omega
  rw [q1]
  simp only [V21, e3 _ (readR_sm sm n)]
  refine From.of ((lfar_3 sub (toldE r sub) (readRB r n) (toldE (readR r n) sub) r.av (toldS r sub 9).av (toldS (readR r n) sub 9).av).trans ?_)
  have w1 : IntKind.wrap .u32 (IntKind.wrap .i64 (r.w.base + r.w.cap)) = r.w.base + r.w.cap := by rw [w64 (by omega) (by omega), IntKind.wrap_u32]; omega
  have ok := fx_ok (sub := sub) (n := r.w.base + r.w.cap) ⟨by omega, by omega⟩
  have e4 : V 37 [r.av, AV.agg [AV.int .i64 (2 : Int), AV.int .i64 sub, AV.bool false, AV.bool false, AV.int .u32 (0 : Int), AV.int .u32 (r.w.base + r.w.cap), AV.int .u32 (0 : Int), AV.int .u32 (0 : Int), AV.int .i64 (0 : Int), AV.int .i64 (0 : Int), AV.int .u32 (0 : Int), AV.int .u32 (0 : Int), AV.int .u32 (0 : Int), AV.nl, AV.osl [AV.int .u8 (1 : Int)]], AV.bool false] = some (.tup [(takeR r (fx sub (r.w.base + r.w.cap)) false).av, (takeS r (fx sub (r.w.base + r.w.cap)) false).av, .int .i64 (takeE r (fx sub (r.w.base + r.w.cap)) false)]) := h4.wide (r, fx sub (r.w.base + r.w.cap), false) ⟨sm, ok⟩ _ (by rfl)
  have t4 : takeE r (fx sub (r.w.base + r.w.cap)) false = 4 := by
    have hp : preE r (fx sub (r.w.base + r.w.cap)) = 0 := by
      unfold preE
      rw [if_neg (by rw [hm]; decide), if_neg]
      rintro (h | h | h)
      · rw [show (fx sub (r.w.base + r.w.cap)).may = true from Sg.may_iff.2 ⟨by show (0 : Int) ≤ 2; decide, by show (2 : Int) ≤ 4; decide, hs.1, hs.2, Int.le_refl 0, by show (0 : Int) ≤ 65535; decide, Int.le_refl 0, by show (0 : Int) ≤ 7; decide, by show (0 : Int) < 16777216; decide, Nat.zero_le _, by show (1 : Nat) ≤ 1460; decide⟩] at h
        cases h
      · exact h rfl
      · exact h rfl
    have ha : tAt r (fx sub (r.w.base + r.w.cap)) = r.w.base + r.w.cap := unwP_low (by omega) (by omega) (by show 0 ≤ r.w.base + r.w.cap; omega) (by show r.w.base + r.w.cap < 4294967296; omega)
    have hp2 : rpE r.w (fx sub (r.w.base + r.w.cap)) (tAt r (fx sub (r.w.base + r.w.cap))) = 4 := by
      unfold rpE
      rw [if_neg (by show ¬ (false = true); decide), if_pos (by rw [ha, ew]; show r.w.base + r.w.cap + ((1 : Nat) : Int) > _; omega)]
    unfold takeE
    rw [if_neg (fun h => h hp), if_pos (by rw [hp2]; decide), hp2]
  simp only [V21, w1, e4, t4]
  refine From.of ((lfar_4 (toldE r sub) (readRB r n) (toldE (readR r n) sub) 4 (toldS r sub 9).av (toldS (readR r n) sub 9).av).trans ?_)
  have hat : (readR r n).at sub = r.at sub := by rw [q2]; rfl
  have ww : (readR r n).w = readW r.w n := by rw [q2]
  have w0 : toldS r sub 9 = ⟨3, sub, false, true, 0, 0, lowP (gapP (r.at sub).got 0), lowP (farP r.w), winP r.w, aceP (r.at sub).m, ceP (r.at sub).m, 0, 9, sackP (r.at sub).got (gapP (r.at sub).got 0), []⟩ := by unfold toldS; rw [if_pos z0]
  have w2 : toldS (readR r n) sub 9 = ⟨3, sub, false, true, 0, 0, lowP (gapP (r.at sub).got 0), lowP (farP r.w), winP (readW r.w n), aceP (r.at sub).m, ceP (r.at sub).m, 0, 9, sackP (r.at sub).got (gapP (r.at sub).got 0), []⟩ := by unfold toldS; rw [if_pos z1, hat, ww, f2]
  have c1 := winP_is r.w
  have c2 := winP_is (readW r.w n)
  rw [f2, ew2] at c2
  have fin : ∀ b : Bool, b = true → (Dlfar V M).From 4094 ⟨[p0, .int .i64 (toldE r sub), p1, .int .i64 (toldE (readR r n) sub), .int .i64 4, .bool b], [bx (toldS r sub 9).av, bx (toldS (readR r n) sub 9).av]⟩ = some (.bool true, []) := fun b hb => by
    refine From.of ((lfar_5 (toldE r sub) (toldE (readR r n) sub) 4 b (toldS r sub 9).av (toldS (readR r n) sub 9).av).trans ?_)
    rw [z0, z1, hb, w0, w2]
    simp only [V21]
    rw [decide_eq_true (by omega), cond_true]
  simp only [V21]
  rw [w0, w2, q3, q4] at *
  simp only [V21] at *
  rw [w64 (n := winP r.w + readK r.w n) (by omega) (by omega)]
  by_cases d1 : winP (readW r.w n) = winP r.w + readK r.w n
  · rw [show (winP (readW r.w n) == winP r.w + readK r.w n) = true by rw [beq_iff_eq]; exact d1]
    exact fin true rfl
  · rw [show (winP (readW r.w n) == winP r.w + readK r.w n) = false by rw [beq_eq_false_iff_ne]; exact d1]
    by_cases d2 : winP (readW r.w n) = 65535
    · rw [show (winP (readW r.w n) == 65535) = true by rw [beq_iff_eq]; exact d2]
      exact fin true rfl
    · rw [show (winP (readW r.w n) == 65535) = false by rw [beq_eq_false_iff_ne]; exact d2]
      exact fin (winP r.w == 0) (by rw [beq_iff_eq]; omega)
theorem lfar_ok (r : Rc) (hr : IsB r.w.b) (n sub : Int) : FnOk Try.prog 10 [r.av, .int .i64 n, .int .i64 sub] (.bool true) :=
  fn_mk [F_awk, F_r21few, F_rtold, F_rtake.wide, F_rmay, F_rread] [] (by kernel_rfl) mixed (by kernel_rfl) (lfar_from r hr n sub (hasV (F := F_awk) 0 rfl rfl () trivial) (hasV 1 rfl rfl) (hasV 2 rfl rfl) (hasV 3 rfl rfl) (hasV 4 rfl rfl) (hasV 5 rfl rfl))

end Vai.L21
