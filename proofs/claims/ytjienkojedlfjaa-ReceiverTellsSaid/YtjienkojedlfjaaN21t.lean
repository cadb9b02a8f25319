import Derived.Test.YtjienkojedlfjaaN21e
namespace Vai.L21
open Go Go.Proofs Vai Vai.L04 Vai.L06
set_option maxRecDepth 100000
set_option linter.unusedVariables false
set_option linter.unusedSimpArgs false
section
variable {R : Type} {V : EV} {M : EM} {G : Nat → CS → Option R} {K : Res → Option R}
noncomputable abbrev Dltells : EV → EM → Dn := dnV Try.prog 11 [24, 34, 35, 36, 37, 38, 39, 41, 42, 43, 44, 45, 46, 47, 48, 49, 50] [] [(61, [2, 3, 4, 5]), (126, [2, 3, 4, 5, 11, 12, 13, 14]), (510, [3, 4, 5, 11, 18]), (1022, [3, 4, 5, 11, 18, 19, 20]), (4094, [3, 4, 11, 18, 23]), (16382, [3, 4, 11, 18, 23, 24, 25, 26, 27, 28, 29]), (65534, [3, 4, 11, 18, 23, 30, 31, 32]), (262142, [4, 11, 18, 23, 30, 35]), (524286, [4, 11, 18, 23, 30, 35, 36])]
theorem ltells_0 (a0 : AV) (a1 : AV) (a2 : Bool) (a3 : Int) : (Dltells V M).stepK G K 0 ⟨[wR ((a0)), wS ((a1)), .bool a2, .int .i64 a3], []⟩ =
    Option.bind (V 34 []) (fun x0 => gd (fitA [.one .bool] x0) (Option.bind (V 35 [wR ((a0))]) (fun x1 => gd (fitA [.one .bool] x1) ((bif !AV.getb x0 then K (AV.bool (AV.getb x0), []) else (bif !AV.getb x1 then K (AV.bool (AV.getb x0), []) else (bif decide ((↑(List.length (cl a1 14)) : Int) > (400 : Int)) then K (AV.bool (AV.getb x0), []) else (bif decide ((↑(List.length (cl a1 13)) : Int) > (20 : Int)) then K (AV.bool (AV.getb x0), []) else G 61 ({ vs := [AV.bool a2, AV.int .i64 a3, p0, p1], bs := [bx (wR ((a0))), bx (wS ((a1)))] }))))))))) := by kernel_rfl
theorem ltells_1 (b0 : Bool) (n1 : Int) (v2 : AV) (v3 : AV) : (Dltells V M).stepK G K 61 ⟨[(.bool b0), (.int .i64 n1), p0, p1], [bx (wR ((v2))), bx (wS ((v3)))]⟩ =
    Option.bind (V 43 [wR ((v2))]) (fun x0 => gd (fitA [.agg kR] x0) (Option.bind (V 37 [wR ((v2)), wS ((v3)), AV.bool b0]) (fun x1 => gd (fitA [.agg kR, .agg kS, .one (.int .i64)] x1) (G 126 ({ vs := [AV.bool b0, AV.int .i64 n1, p0, p1, p2, p3, p4, AV.int .i64 (ti x1 2)], bs := [bx (wR ((v2))), bx (wS ((v3))), bx (wR ((x0))), bx (wR (((List.getD (AV.gett x1) 0 .undef)))), bx (wS (((List.getD (AV.gett x1) 1 .undef))))] }))))) := by kernel_rfl
theorem ltells_2 (b0 : Bool) (n1 : Int) (n2 : Int) (v3 : AV) (v4 : AV) (v5 : AV) (v6 : AV) (v7 : AV) : (Dltells V M).stepK G K 126 ⟨[(.bool b0), (.int .i64 n1), p0, p1, p2, p3, p4, (.int .i64 n2)], [bx (wR ((v3))), bx (wS ((v4))), bx (wR ((v5))), bx (wR ((v6))), bx (wS ((v7)))]⟩ =
    Option.bind (V 44 [wR ((v3)), wS ((v4)), AV.bool b0]) (fun x0 => gd (fitA [.agg kR, .agg kS, .one (.int .i64)] x0) (Option.bind (V 38 [wR ((v6)), wR (((List.getD (AV.gett x0) 0 .undef)))]) (fun x1 => gd (fitA [.one .bool] x1) ((bif AV.getb x1 then Option.bind (V 39 [wS ((v7)), wS (((List.getD (AV.gett x0) 1 .undef)))]) (fun x2 => gd (fitA [.one .bool] x2) ((bif AV.getb x2 then G 510 ({ vs := [AV.int .i64 n1, p0, p1, p2, AV.bool (n2 == ti x0 2)], bs := [bx (wR ((v3))), bx (wS ((v4))), bx (wR ((v5)))] }) else G 510 ({ vs := [AV.int .i64 n1, p0, p1, p2, AV.bool false], bs := [bx (wR ((v3))), bx (wS ((v4))), bx (wR ((v5)))] })))) else G 510 ({ vs := [AV.int .i64 n1, p0, p1, p2, AV.bool false], bs := [bx (wR ((v3))), bx (wS ((v4))), bx (wR ((v5)))] })))))) := by kernel_rfl
theorem ltells_3 (n0 : Int) (b1 : Bool) (v2 : AV) (v3 : AV) (v4 : AV) : (Dltells V M).stepK G K 510 ⟨[(.int .i64 n0), p0, p1, p2, (.bool b1)], [bx (wR ((v2))), bx (wS ((v3))), bx (wR ((v4)))]⟩ =
    Option.bind (V 36 [wR ((v2)), AV.int .i64 (ci v3 1), AV.int .u32 (ci v3 11)]) (fun x0 => gd (fitA [.agg kS, .one (.int .i64)] x0) (G 1022 ({ vs := [AV.int .i64 n0, p0, p1, p2, AV.bool b1, p3, AV.int .i64 (ti x0 1)], bs := [bx (wR ((v2))), bx (wS ((v3))), bx (wR ((v4))), bx (wS (((List.getD (AV.gett x0) 0 .undef))))] }))) := by kernel_rfl
theorem ltells_4 (n0 : Int) (b1 : Bool) (n2 : Int) (v3 : AV) (v4 : AV) (v5 : AV) (v6 : AV) : (Dltells V M).stepK G K 1022 ⟨[(.int .i64 n0), p0, p1, p2, (.bool b1), p3, (.int .i64 n2)], [bx (wR ((v3))), bx (wS ((v4))), bx (wR ((v5))), bx (wS ((v6)))]⟩ =
    Option.bind (V 45 [wR ((v3)), AV.int .i64 (ci v4 1), AV.int .u32 (ci v4 11)]) (fun x0 => gd (fitA [.agg kS, .one (.int .i64)] x0) (Option.bind (V 39 [wS ((v6)), wS (((List.getD (AV.gett x0) 0 .undef)))]) (fun x1 => gd (fitA [.one .bool] x1) ((bif AV.getb x1 then G 4094 ({ vs := [AV.int .i64 n0, p0, p1, AV.bool b1, AV.bool (n2 == ti x0 1)], bs := [bx (wR ((v3))), bx (wR ((v5)))] }) else G 4094 ({ vs := [AV.int .i64 n0, p0, p1, AV.bool b1, AV.bool false], bs := [bx (wR ((v3))), bx (wR ((v5)))] })))))) := by kernel_rfl
theorem ltells_5 (n0 : Int) (b1 : Bool) (b2 : Bool) (v3 : AV) (v4 : AV) : (Dltells V M).stepK G K 4094 ⟨[(.int .i64 n0), p0, p1, (.bool b1), (.bool b2)], [bx (wR ((v3))), bx (wR ((v4)))]⟩ =
    Option.bind (V 42 [wR ((v3)), AV.int .i64 n0]) (fun x0 => gd (fitA [.agg kR, .one .sl, .one (.int .i64)] x0) (Option.bind (V 46 [wR ((v3)), AV.int .i64 n0]) (fun x1 => gd (fitA [.agg kR, .one .sl, .one (.int .i64)] x1) (G 16382 ({ vs := [AV.int .i64 n0, p0, p1, AV.bool b1, AV.bool b2, p2, AV.osl (tl x0 1), AV.int .i64 (ti x0 2), p3, AV.osl (tl x1 1), AV.int .i64 (ti x1 2)], bs := [bx (wR ((v3))), bx (wR ((v4))), bx (wR (((List.getD (AV.gett x0) 0 .undef)))), bx (wR (((List.getD (AV.gett x1) 0 .undef))))] }))))) := by kernel_rfl
theorem ltells_6 (n0 : Int) (b1 : Bool) (b2 : Bool) (l3 : List AV) (n4 : Int) (l5 : List AV) (n6 : Int) (v7 : AV) (v8 : AV) (v9 : AV) (v10 : AV) : (Dltells V M).stepK G K 16382 ⟨[(.int .i64 n0), p0, p1, (.bool b1), (.bool b2), p2, (.osl l3), (.int .i64 n4), p3, (.osl l5), (.int .i64 n6)], [bx (wR ((v7))), bx (wR ((v8))), bx (wR ((v9))), bx (wR ((v10)))]⟩ =
    Option.bind (V 38 [wR ((v9)), wR ((v10))]) (fun x0 => gd (fitA [.one .bool] x0) ((bif AV.getb x0 then Option.bind (V 24 [AV.osl l3, AV.osl l5]) (fun x2 => gd (fitA [.one .bool] x2) ((bif AV.getb x2 then Option.bind (V 47 [AV.int .i64 n0]) (fun x4 => gd (fitA [.agg kR, .one (.int .i64)] x4) (G 65534 ({ vs := [AV.int .i64 n0, p0, p1, AV.bool b1, AV.bool b2, AV.bool (n4 == n6), p2, AV.int .i64 (ti x4 1)], bs := [bx (wR ((v7))), bx (wR ((v8))), bx (wR (((List.getD (AV.gett x4) 0 .undef))))] }))) else Option.bind (V 47 [AV.int .i64 n0]) (fun x3 => gd (fitA [.agg kR, .one (.int .i64)] x3) (G 65534 ({ vs := [AV.int .i64 n0, p0, p1, AV.bool b1, AV.bool b2, AV.bool false, p2, AV.int .i64 (ti x3 1)], bs := [bx (wR ((v7))), bx (wR ((v8))), bx (wR (((List.getD (AV.gett x3) 0 .undef))))] })))))) else Option.bind (V 47 [AV.int .i64 n0]) (fun x1 => gd (fitA [.agg kR, .one (.int .i64)] x1) (G 65534 ({ vs := [AV.int .i64 n0, p0, p1, AV.bool b1, AV.bool b2, AV.bool false, p2, AV.int .i64 (ti x1 1)], bs := [bx (wR ((v7))), bx (wR ((v8))), bx (wR (((List.getD (AV.gett x1) 0 .undef))))] })))))) := by kernel_rfl
theorem ltells_7 (n0 : Int) (b1 : Bool) (b2 : Bool) (b3 : Bool) (n4 : Int) (v5 : AV) (v6 : AV) (v7 : AV) : (Dltells V M).stepK G K 65534 ⟨[(.int .i64 n0), p0, p1, (.bool b1), (.bool b2), (.bool b3), p2, (.int .i64 n4)], [bx (wR ((v5))), bx (wR ((v6))), bx (wR ((v7)))]⟩ =
    Option.bind (V 48 [AV.int .i64 n0]) (fun x0 => gd (fitA [.agg kR, .one (.int .i64)] x0) (Option.bind (V 38 [wR ((v7)), wR (((List.getD (AV.gett x0) 0 .undef)))]) (fun x1 => gd (fitA [.one .bool] x1) ((bif AV.getb x1 then G 262142 ({ vs := [p0, p1, AV.bool b1, AV.bool b2, AV.bool b3, AV.bool (n4 == ti x0 1)], bs := [bx (wR ((v5))), bx (wR ((v6)))] }) else G 262142 ({ vs := [p0, p1, AV.bool b1, AV.bool b2, AV.bool b3, AV.bool false], bs := [bx (wR ((v5))), bx (wR ((v6)))] })))))) := by kernel_rfl
theorem ltells_8 (b0 : Bool) (b1 : Bool) (b2 : Bool) (b3 : Bool) (v4 : AV) (v5 : AV) : (Dltells V M).stepK G K 262142 ⟨[p0, p1, (.bool b0), (.bool b1), (.bool b2), (.bool b3)], [bx (wR ((v4))), bx (wR ((v5)))]⟩ =
    Option.bind (V 49 [wR ((v4))]) (fun x0 => gd (fitA [.one .bool] x0) (Option.bind (V 50 [wR ((v4))]) (fun x1 => gd (fitA [.one .bool] x1) ((bif AV.getb x1 then (bif AV.getb x0 == (ci v4 4 == ci v4 0) then G 524286 ({ vs := [p0, p1, AV.bool b0, AV.bool b1, AV.bool b2, AV.bool b3, AV.bool true], bs := [bx (wR ((v4))), bx (wR ((v5)))] }) else Option.bind (V 50 [wR ((v4))]) (fun x3 => gd (fitA [.one .bool] x3) (G 524286 ({ vs := [p0, p1, AV.bool b0, AV.bool b1, AV.bool b2, AV.bool b3, AV.bool !AV.getb x3], bs := [bx (wR ((v4))), bx (wR ((v5)))] })))) else (bif AV.getb x0 == false then G 524286 ({ vs := [p0, p1, AV.bool b0, AV.bool b1, AV.bool b2, AV.bool b3, AV.bool true], bs := [bx (wR ((v4))), bx (wR ((v5)))] }) else Option.bind (V 50 [wR ((v4))]) (fun x2 => gd (fitA [.one .bool] x2) (G 524286 ({ vs := [p0, p1, AV.bool b0, AV.bool b1, AV.bool b2, AV.bool b3, AV.bool !AV.getb x2], bs := [bx (wR ((v4))), bx (wR ((v5)))] }))))))))) := by kernel_rfl
theorem ltells_9 (b0 : Bool) (b1 : Bool) (b2 : Bool) (b3 : Bool) (b4 : Bool) (v5 : AV) (v6 : AV) : (Dltells V M).stepK G K 524286 ⟨[p0, p1, (.bool b0), (.bool b1), (.bool b2), (.bool b3), (.bool b4)], [bx (wR ((v5))), bx (wR ((v6)))]⟩ =
    (bif b0 then (bif b1 then (bif b2 then (bif b3 then (bif b4 then Option.bind (V 38 [wR ((v5)), wR ((v6))]) (fun x0 => gd (fitA [.one .bool] x0) ((bif AV.getb x0 then Option.bind (V 41 [wR ((v5))]) (fun x1 => gd (fitA [.one .bool] x1) (Option.bind (V 50 [wR ((v5))]) (fun x2 => gd (fitA [.one .bool] x2) (K (AV.bool (AV.getb x1 == AV.getb x2), []))))) else K (AV.bool false, [])))) else K (AV.bool false, [])) else K (AV.bool false, [])) else K (AV.bool false, [])) else K (AV.bool false, [])) else K (AV.bool false, [])) := by kernel_rfl
end
theorem ltells_from {V : EV} {M : EM} (r : Rc) (hr : IsB r.w.b) (x : Sg) (hx : x.In) (mk : Bool) (n : Int) (h0 : V 34 [] = some (.bool true)) (h1 : HasV V F_same3) (h2 : HasV V F_r21few) (h3 : HasV V F_rtold) (h4 : HasV V F_rtake) (h5 : HasV V F_r21same) (h6 : HasV V F_r7same)
    (h7 : HasV V F_rmay) (h8 : HasV V F_rread) (h9 : HasV V F_r21own) (h10 : HasV V F_r21take) (h11 : HasV V F_r21told) (h12 : HasV V F_r21read) (h13 : HasV V F_rnew) (h14 : HasV V F_r21new) (h15 : HasV V F_rover) (h16 : HasV V F_r21may) :
    (Dltells V M).From 0 ⟨[r.av, x.av, .bool mk, .int .i64 n], []⟩ = some (.bool true, []) := by
  refine From.of ((ltells_0 r.av x.av mk n).trans ?_)
  have e2 : V 35 [r.av] = some (.bool (fewR r)) := h2 r trivial
  simp only [V21, h0, e2, qrows_len]
  cases hf : fewR r with
  | false => rfl
  | true =>
  by_cases c1 : (x.b.length : Int) > 400
  · rw [decide_eq_true c1]; rfl
  rw [decide_eq_false c1]
  by_cases c2 : (x.sacks.length : Int) > 20
  · rw [decide_eq_true c2]; rfl
  rw [decide_eq_false c2]
  have sm := few_sm hr hf
  have ok := hx.ok (by omega) (by omega)
  have e4 : V 37 [r.av, x.av, .bool mk] = some (.tup [(takeR r x mk).av, (takeS r x mk).av, .int .i64 (takeE r x mk)]) := h4 (r, x, mk) ⟨sm, ok⟩
  have e9 : V 43 [r.av] = some r.av := h9 r sm
  have e10 : V 44 [r.av, x.av, .bool mk] = some (.tup [(takeR r x mk).av, (takeS r x mk).av, .int .i64 (takeE r x mk)]) := h10 (r, x, mk) ⟨sm, ok⟩
  have e5 : ∀ t : Rc, t.Sm → V 38 [t.av, t.av] = some (.bool true) := fun t ht => h5 t ht
  have e6 : ∀ t : Sg, t.Ok → V 39 [t.av, t.av] = some (.bool true) := fun t ht => h6 t ht
  have e3 : V 36 [r.av, .int .i64 x.sub, .int .u32 x.at_] = some (.tup [(toldS r x.sub x.at_).av, .int .i64 (toldE r x.sub)]) := h3 (r, x.sub, x.at_) sm
  have e11 : V 45 [r.av, .int .i64 x.sub, .int .u32 x.at_] = some (.tup [(toldS r x.sub x.at_).av, .int .i64 (toldE r x.sub)]) := h11 (r, x.sub, x.at_) sm
  have e8 : V 42 [r.av, .int .i64 n] = some (.tup [(readR r n).av, .osl (readRB r n), .int .i64 (readRE r n)]) := h8 (r, n) sm
  have e12 : V 46 [r.av, .int .i64 n] = some (.tup [(readR r n).av, .osl (readRB r n), .int .i64 (readRE r n)]) := h12 (r, n) sm
  have e1 : V 24 [.osl (readRB r n), .osl (readRB r n)] = some (.bool true) := h1 (some (readRB r n)) (fun xs hh => by cases hh; exact readRB_ok sm n)
  have e13 : V 47 [.int .i64 n] = some (.tup [(newR n).av, .int .i64 (newE n)]) := h13 n trivial
  have e14 : V 48 [.int .i64 n] = some (.tup [(newR n).av, .int .i64 (newE n)]) := h14 n trivial
  have e15 : V 49 [r.av] = some (.bool (overW r.w)) := h15 r sm
  have e16 : V 50 [r.av] = some (.bool r.may) := h16 r sm
  have e7 : V 41 [r.av] = some (.bool r.may) := h7 r sm
  simp only [Bool.not_true, cond_false]
  refine From.of ((ltells_1 mk n r.av x.av).trans ?_)
  simp only [V21, e9, e4]
  refine From.of ((ltells_2 mk n (takeE r x mk) r.av x.av r.av (takeR r x mk).av (takeS r x mk).av).trans ?_)
  simp only [V21, e10, e5 _ (takeR_sm sm ok mk), e6 _ (takeS_ok r x mk)]
  refine From.of ((ltells_3 n true r.av x.av r.av).trans ?_)
  simp only [V21, e3]
  refine From.of ((ltells_4 n true (toldE r x.sub) r.av x.av r.av (toldS r x.sub x.at_).av).trans ?_)
  simp only [V21, e11, e6 _ (toldS_ok r x.sub x.at_)]
  refine From.of ((ltells_5 n true true r.av r.av).trans ?_)
  simp only [V21, e8, e12]
  refine From.of ((ltells_6 n true true (readRB r n) (readRE r n) (readRB r n) (readRE r n) r.av r.av (readR r n).av (readR r n).av).trans ?_)
  simp only [V21, e5 _ (readR_sm sm n), e1, e13]
  refine From.of ((ltells_7 n true true true (newE n) r.av r.av (newR n).av).trans ?_)
  simp only [V21, e14, e5 _ (newR_sm n)]
  refine From.of ((ltells_8 true true true true r.av r.av).trans ?_)
  simp only [V21, e15, e16]
  have fin : (Dltells V M).From 524286 ⟨[.ptr 1000000 0 0 0, .ptr 1000001 0 0 0, .bool true, .bool true, .bool true, .bool true, .bool true], [some ⟨[r.av], false, true⟩, some ⟨[r.av], false, true⟩]⟩ = some (.bool true, []) := by
    refine From.of ((ltells_9 true true true true true r.av r.av).trans ?_)
    simp only [V21, e5 r sm, e7, e16]
  cases hm : r.may with
  | true =>
    have ho : overW r.w = (r.w.end_ == r.w.base) := by
      unfold overW
      rw [Rc.may_w hm, Bool.true_and, Bool.eq_iff_iff, beq_iff_eq, beq_iff_eq]
      exact eq_comm
    rw [cond_true, ho, beq_self_eq_true, cond_true]
    exact fin
  | false =>
    rw [cond_false]
    cases overW r.w with
    | false => exact fin
    | true => exact fin
theorem ltells_ok (r : Rc) (hr : IsB r.w.b) (x : Sg) (hx : x.In) (mk : Bool) (n : Int) : FnOk Try.prog 11 [r.av, x.av, .bool mk, .int .i64 n] (.bool true) :=
  fn_mk [F_same3, F_awk, F_r21few, F_rtold, F_rtake, F_r21same, F_r7same, F_rmay, F_rread, F_r21own, F_r21take, F_r21told, F_r21read, F_rnew, F_r21new, F_rover, F_r21may] [] (by kernel_rfl) mixed (by kernel_rfl)
    (ltells_from r hr x hx mk n (hasV (F := F_awk) 1 rfl rfl () trivial) (hasV 0 rfl rfl) (hasV 2 rfl rfl) (hasV 3 rfl rfl) (hasV 4 rfl rfl) (hasV 5 rfl rfl) (hasV 6 rfl rfl) (hasV 7 rfl rfl) (hasV 8 rfl rfl) (hasV 9 rfl rfl) (hasV 10 rfl rfl) (hasV 11 rfl rfl) (hasV 12 rfl rfl) (hasV 13 rfl rfl) (hasV 14 rfl rfl) (hasV 15 rfl rfl) (hasV 16 rfl rfl))
end Vai.L21
