import Derived.Test.YtjienkojedlfjaaN21c
namespace Vai.L21
open Go Go.Proofs Vai Vai.L04 Vai.L06
set_option maxRecDepth 100000
set_option linter.unusedVariables false
set_option linter.unusedSimpArgs false
section
variable {R : Type} {V : EV} {M : EM} {G : Nat → CS → Option R} {K : Res → Option R}
noncomputable abbrev Dr7same : EV → EM → Dn := dnV Try.prog 39 [24] [] [(58, [2, 3, 5])]
theorem r7same_0 (a0 : AV) (a1 : AV) : (Dr7same V M).stepK G K 0 ⟨[wS ((a0)), wS ((a1))], []⟩ =
    (bif !(↑(List.length (cl a0 13)) : Int) == (↑(List.length (cl a1 13)) : Int) then K (AV.bool false, []) else (bif !ci a0 0 == ci a1 0 then K (AV.bool false, []) else (bif !ci a0 1 == ci a1 1 then K (AV.bool false, []) else (bif !cb a0 2 == cb a1 2 then K (AV.bool false, []) else (bif !cb a0 3 == cb a1 3 then K (AV.bool false, []) else (bif !ci a0 4 == ci a1 4 then K (AV.bool false, []) else (bif !ci a0 5 == ci a1 5 then K (AV.bool false, []) else (bif !ci a0 6 == ci a1 6 then K (AV.bool false, []) else (bif !ci a0 7 == ci a1 7 then K (AV.bool false, []) else G 58 ({ vs := [p0, p1, AV.int .i64 (0 : Int)], bs := [bx (wS ((a0))), bx (wS ((a1)))] })))))))))) := by kernel_rfl
theorem r7same_1 (n0 : Int) (v1 : AV) (v2 : AV) : (Dr7same V M).stepK G K 58 ⟨[p0, p1, (.int .i64 n0)], [bx (wS ((v1))), bx (wS ((v2)))]⟩ =
    (bif decide (n0 < (↑(List.length (cl v1 13)) : Int)) then gd (decide ((0 : Int) ≤ n0)) (Option.bind ((cl v1 13)[Int.toNat n0]?) (fun x1 => gd (Vw.fit (.agg [.int .u32, .int .u32]) x1) (gd (decide ((0 : Int) ≤ n0)) (Option.bind ((cl v2 13)[Int.toNat n0]?) (fun x2 => gd (Vw.fit (.agg [.int .u32, .int .u32]) x2) ((bif !(ci x1 0 == ci x2 0 && (ci x1 1 == ci x2 1 && true)) then K (AV.bool false, []) else G 58 ({ vs := [p0, p1, AV.int .i64 (IntKind.wrap .i64 (n0 + (1 : Int)))], bs := [bx (wS ((v1))), bx (wS ((v2)))] })))))))) else Option.bind (V 24 [AV.osl (cl v1 14), AV.osl (cl v2 14)]) (fun x0 => gd (fitA [.one .bool] x0) ((bif AV.getb x0 then (bif ci v1 8 == ci v2 8 then (bif ci v1 9 == ci v2 9 then (bif ci v1 10 == ci v2 10 then (bif ci v1 11 == ci v2 11 then K (AV.bool (ci v1 12 == ci v2 12), []) else K (AV.bool false, [])) else K (AV.bool false, [])) else K (AV.bool false, [])) else K (AV.bool false, [])) else K (AV.bool false, []))))) := by kernel_rfl
noncomputable abbrev Dr21few : EV → EM → Dn := dnV Try.prog 35 [] [] []
theorem r21few_0 (a0 : AV) : (Dr21few V M).stepK G K 0 ⟨[wR ((a0))], []⟩ =
    (bif decide ((↑(List.length (cl a0 1)) : Int) ≤ (300 : Int)) then (bif decide ((↑(List.length (cl a0 2)) : Int) ≤ (100 : Int)) then (bif decide ((↑(List.length (cl a0 5)) : Int) ≤ (100 : Int)) then (bif decide ((↑(List.length (cl a0 11)) : Int) ≤ (100 : Int)) then (bif decide ((↑(List.length (cl a0 17)) : Int) ≤ (100 : Int)) then K (AV.bool (decide ((↑(List.length (cl a0 23)) : Int) ≤ (100 : Int))), []) else K (AV.bool false, [])) else K (AV.bool false, [])) else K (AV.bool false, [])) else K (AV.bool false, [])) else K (AV.bool false, [])) := by kernel_rfl
noncomputable abbrev Dr21same : EV → EM → Dn := dnV Try.prog 38 [16, 56] [] []
theorem r21same_0 (a0 : AV) (a1 : AV) : (Dr21same V M).stepK G K 0 ⟨[wR ((a0)), wR ((a1))], []⟩ =
    Option.bind (V 56 [AV.osl (cl a0 5), AV.osl (cl a1 5)]) (fun x0 => gd (fitA [.one .bool] x0) ((bif !AV.getb x0 then K (AV.bool false, []) else (bif !(ci a0 6 == ci a1 6 && (ci a0 7 == ci a1 7 && (ci a0 8 == ci a1 8 && (ci a0 9 == ci a1 9 && (ci a0 10 == ci a1 10 && true))))) then K (AV.bool false, []) else Option.bind (V 56 [AV.osl (cl a0 11), AV.osl (cl a1 11)]) (fun x1 => gd (fitA [.one .bool] x1) ((bif !AV.getb x1 then K (AV.bool false, []) else (bif !(ci a0 12 == ci a1 12 && (ci a0 13 == ci a1 13 && (ci a0 14 == ci a1 14 && (ci a0 15 == ci a1 15 && (ci a0 16 == ci a1 16 && true))))) then K (AV.bool false, []) else Option.bind (V 56 [AV.osl (cl a0 17), AV.osl (cl a1 17)]) (fun x2 => gd (fitA [.one .bool] x2) ((bif !AV.getb x2 then K (AV.bool false, []) else (bif !(ci a0 18 == ci a1 18 && (ci a0 19 == ci a1 19 && (ci a0 20 == ci a1 20 && (ci a0 21 == ci a1 21 && (ci a0 22 == ci a1 22 && true))))) then K (AV.bool false, []) else Option.bind (V 56 [AV.osl (cl a0 23), AV.osl (cl a1 23)]) (fun x3 => gd (fitA [.one .bool] x3) ((bif !AV.getb x3 then K (AV.bool false, []) else (bif !(ci a0 24 == ci a1 24 && (ci a0 25 == ci a1 25 && (ci a0 26 == ci a1 26 && (ci a0 27 == ci a1 27 && (ci a0 28 == ci a1 28 && true))))) then K (AV.bool false, []) else Option.bind (V 16 [wW ((a0)), wW ((a1))]) (fun x4 => gd (fitA [.one .bool] x4) (K (AV.bool (AV.getb x4), []))))))))))))))))))) := by kernel_rfl
noncomputable abbrev Dawake : EV → EM → Dn := dnV Try.prog 34 [37, 41, 47] [] [(14, [1, 2, 3, 4]), (30, [1, 2, 3, 4, 5, 6])]
theorem awake_0 : (Dawake V M).stepK G K 0 ⟨[], []⟩ =
    Option.bind (V 47 [AV.int .i64 (100 : Int)]) (fun x0 => gd (fitA [.agg kR, .one (.int .i64)] x0) (Option.bind (V 37 [wR (((List.getD (AV.gett x0) 0 .undef))), AV.agg [AV.int .i64 (2 : Int), AV.int .i64 (0 : Int), AV.bool false, AV.bool false, AV.int .u32 (10 : Int), AV.int .u32 (10 : Int), AV.int .u32 (0 : Int), AV.int .u32 (0 : Int), AV.int .i64 (0 : Int), AV.int .i64 (0 : Int), AV.int .u32 (0 : Int), AV.int .u32 (0 : Int), AV.int .u32 (0 : Int), AV.nl, AV.osl [AV.int .u8 (0 : Int), AV.int .u8 (0 : Int), AV.int .u8 (0 : Int), AV.int .u8 (0 : Int), AV.int .u8 (0 : Int)]], AV.bool false]) (fun x1 => gd (fitA [.agg kR, .agg kS, .one (.int .i64)] x1) (G 14 ({ vs := [p0, AV.int .i64 (ti x0 1), p1, AV.int .i64 (ti x1 2)], bs := [bx (wR (((List.getD (AV.gett x1) 0 .undef)))), bx (wS (((List.getD (AV.gett x1) 1 .undef))))] }))))) := by kernel_rfl
theorem awake_1 (n0 : Int) (n1 : Int) (v2 : AV) (v3 : AV) : (Dawake V M).stepK G K 14 ⟨[p0, (.int .i64 n0), p1, (.int .i64 n1)], [bx (wR ((v2))), bx (wS ((v3)))]⟩ =
    Option.bind (V 37 [wR ((v2)), AV.agg [AV.int .i64 (2 : Int), AV.int .i64 (0 : Int), AV.bool false, AV.bool false, AV.int .u32 (0 : Int), AV.int .u32 (0 : Int), AV.int .u32 (0 : Int), AV.int .u32 (0 : Int), AV.int .i64 (0 : Int), AV.int .i64 (0 : Int), AV.int .u32 (0 : Int), AV.int .u32 (0 : Int), AV.int .u32 (0 : Int), AV.nl, AV.osl [AV.int .u8 (0 : Int), AV.int .u8 (0 : Int), AV.int .u8 (0 : Int), AV.int .u8 (0 : Int), AV.int .u8 (0 : Int), AV.int .u8 (0 : Int), AV.int .u8 (0 : Int), AV.int .u8 (0 : Int), AV.int .u8 (0 : Int), AV.int .u8 (0 : Int)]], AV.bool true]) (fun x0 => gd (fitA [.agg kR, .agg kS, .one (.int .i64)] x0) (G 30 ({ vs := [p0, AV.int .i64 n0, p1, AV.int .i64 n1, p2, AV.int .i64 (ti x0 2)], bs := [bx (wR (((List.getD (AV.gett x0) 0 .undef)))), bx (wS ((v3))), bx (wS (((List.getD (AV.gett x0) 1 .undef))))] }))) := by kernel_rfl
theorem awake_2 (n0 : Int) (n1 : Int) (n2 : Int) (v3 : AV) (v4 : AV) (v5 : AV) : (Dawake V M).stepK G K 30 ⟨[p0, (.int .i64 n0), p1, (.int .i64 n1), p2, (.int .i64 n2)], [bx (wR ((v3))), bx (wS ((v4))), bx (wS ((v5)))]⟩ =
    (bif n0 == (0 : Int) then (bif n1 == (0 : Int) then (bif n2 == (0 : Int) then (bif ci v4 6 == (0 : Int) then (bif (↑(List.length (cl v4 13)) : Int) == (1 : Int) then (bif ci v4 8 == (100 : Int) then (bif ci v5 6 == (15 : Int) then (bif ci v5 7 == (15 : Int) then (bif ci v5 9 == (1 : Int) then (bif ci v5 8 == (85 : Int) then Option.bind (V 41 [wR ((v3))]) (fun x0 => gd (fitA [.one .bool] x0) (K (AV.bool (AV.getb x0), []))) else K (AV.bool false, [])) else K (AV.bool false, [])) else K (AV.bool false, [])) else K (AV.bool false, [])) else K (AV.bool false, [])) else K (AV.bool false, [])) else K (AV.bool false, [])) else K (AV.bool false, [])) else K (AV.bool false, [])) else K (AV.bool false, [])) := by kernel_rfl
end
theorem at0 (r : Rc) : r.at 0 = r.s0 := id rfl
theorem at1 (r : Rc) : r.at 1 = r.s1 := id rfl
theorem at2 (r : Rc) : r.at 2 = r.s2 := id rfl
theorem at3 (r : Rc) : r.at 3 = r.s3 := id rfl
theorem D00 : decide ((0 : Int) = 0) = true := id rfl
theorem D10 : decide ((1 : Int) = 0) = false := id rfl
theorem D11 : decide ((1 : Int) = 1) = true := id rfl
theorem D20 : decide ((2 : Int) = 0) = false := id rfl
theorem D21 : decide ((2 : Int) = 1) = false := id rfl
theorem D22 : decide ((2 : Int) = 2) = true := id rfl
theorem D30 : decide ((3 : Int) = 0) = false := id rfl
theorem D31 : decide ((3 : Int) = 1) = false := id rfl
theorem D32 : decide ((3 : Int) = 2) = false := id rfl
theorem D33 : decide ((3 : Int) = 3) = true := id rfl
theorem sub4 {n : Int} (h : 0 ≤ n ∧ n ≤ 3) : n = 0 ∨ n = 1 ∨ n = 2 ∨ n = 3 := by omega
theorem pc0 (s : Pr) : ci (Pr.av s) 0 = s.a := id rfl
theorem pc1 (s : Pr) : ci (Pr.av s) 1 = s.b := id rfl
theorem fPr (s : Pr) : Vw.fit (.agg [.int .u32, .int .u32]) (Pr.av s) = true := id rfl
theorem q_at {l : List Pr} {i : Nat} {s : Pr} (h : l[i]? = some s) : (qrows l)[Int.toNat (i : Int)]? = some (Pr.av s) := by rw [Int.toNat_natCast]; unfold qrows; rw [List.getElem?_map, h]; rfl
theorem r7same_loop {V : EV} {M : EM} (x : Sg) (hx : x.Ok) (e : V 24 [.osl x.b, .osl x.b] = some (.bool true)) : ∀ (m : List Pr) (i : Nat), x.sacks.drop i = m →
    (Dr7same V M).From 58 ⟨[.ptr 1000000 0 0 0, .ptr 1000001 0 0 0, .int .i64 i], [some ⟨[x.av], false, true⟩, some ⟨[x.av], false, true⟩]⟩ = some (.bool true, [])
  | [], i, h => by
    refine From.of ((r7same_1 i x.av x.av).trans ?_)
    have := drop_end h
    simp only [V21, qrows_len]
    rw [decide_eq_false (show ¬ ((i : Int) < (x.sacks.length : Int)) by omega)]
    simp only [V21, e]
  | p :: m, i, h => by
    refine From.of ((r7same_1 i x.av x.av).trans ?_)
    obtain ⟨g1, g2, g3⟩ := drop_get h
    have hl := hx.sl
    simp only [V21, qrows_len]
    rw [decide_eq_true (show (i : Int) < (x.sacks.length : Int) by omega), cond_true, gd_of (decide_eq_true (by omega)), q_at g1]
    simp only [V21, fPr, pc0, pc1, w64 (n := (i : Int) + 1) (by omega) (by omega)]
    rw [gd_of (decide_eq_true (by omega))]
    exact r7same_loop x hx e m (i + 1) g3
theorem r7same_from {V : EV} {M : EM} (x : Sg) (hx : x.Ok) (h : HasV V F_same3) : (Dr7same V M).From 0 ⟨[x.av, x.av], []⟩ = some (.bool true, []) := by
  refine From.of ((r7same_0 x.av x.av).trans ?_)
  have e : V 24 [.osl x.b, .osl x.b] = some (.bool true) := h (some x.b) (fun xs hh => by cases hh; exact ⟨hx.b, by have := hx.bl; omega⟩)
  simp only [V21]
  exact r7same_loop x hx e x.sacks 0 rfl
theorem r7same_ok (x : Sg) (hx : x.Ok) : FnOk Try.prog 39 [x.av, x.av] (.bool true) := fn_mk [F_same3] [] (by kernel_rfl) mixed (by kernel_rfl) (r7same_from x hx (hasV 0 rfl rfl))
noncomputable def F_r7same : Fam Try.prog := { f := 39, ι := Sg, pre := Sg.Ok, args := fun x => [x.av, x.av], res := fun _ => .bool true, ok := r7same_ok, inj := fun _ _ _ => rfl }
def fewR (r : Rc) : Bool := decide (r.w.b.length ≤ 300 ∧ r.w.l.length ≤ 100 ∧ r.s0.got.length ≤ 100 ∧ r.s1.got.length ≤ 100 ∧ r.s2.got.length ≤ 100 ∧ r.s3.got.length ≤ 100)
theorem r21few_ok (r : Rc) : FnOk Try.prog 35 [r.av] (.bool (fewR r)) := by
  refine fn_mk [] [] (by kernel_rfl) mixed (by kernel_rfl) (From.of ((r21few_0 r.av).trans ?_))
  simp only [V21, bif_and, prows_len]
  refine some_bool _ ?_
  unfold fewR
  rw [Bool.eq_iff_iff]
  simp only [Bool.and_eq_true, decide_eq_true_eq]
  omega
noncomputable def F_r21few : Fam Try.prog := { f := 35, ι := Rc, pre := fun _ => True, args := fun r => [r.av], res := fun r => .bool (fewR r), ok := fun r _ => r21few_ok r, inj := fun s t h => by rw [rc_inj (List.cons.inj h).1] }
theorem r21same_from {V : EV} {M : EM} (r : Rc) (h : r.Sm) (h1 : HasV V F_r6same) (h2 : HasV V F_r4same) : (Dr21same V M).From 0 ⟨[r.av, r.av], []⟩ = some (.bool true, []) := by
  refine From.of ((r21same_0 r.av r.av).trans ?_)
  have e1 : V 16 [r.w.av, r.w.av] = some (.bool true) := h1 r.w h.w
  have e2 : ∀ l : List Spn, l.length ≤ 90000 → V 56 [.osl (prows l), .osl (prows l)] = some (.bool true) := fun l hl => h2 l (by show l.length ≤ _; omega)
  simp only [V21, e1, e2 _ h.l0, e2 _ h.l1, e2 _ h.l2, e2 _ h.l3]
theorem r21same_ok (r : Rc) (h : r.Sm) : FnOk Try.prog 38 [r.av, r.av] (.bool true) := fn_mk [F_r6same, F_r4same] [] (by kernel_rfl) mixed (by kernel_rfl) (r21same_from r h (hasV 0 rfl rfl) (hasV 1 rfl rfl))
noncomputable def F_r21same : Fam Try.prog := { f := 38, ι := Rc, pre := Rc.Sm, args := fun r => [r.av, r.av], res := fun _ => .bool true, ok := r21same_ok, inj := fun _ _ _ => rfl }
theorem few_sm {r : Rc} (hb : IsB r.w.b) (h : fewR r = true) : r.Sm := by
  unfold fewR at h
  rw [decide_eq_true_eq] at h
  exact ⟨⟨hb, by omega, by omega⟩, by omega, by omega, by omega, by omega⟩
structure Sg.In (x : Sg) : Prop where
  b : IsB x.b
  q0 : 0 ≤ x.seq
  q1 : x.seq < 4294967296
  d0 : 0 ≤ x.dsn
  d1 : x.dsn < 4294967296
theorem Sg.In.ok {x : Sg} (h : x.In) (h1 : x.b.length ≤ 400) (h2 : x.sacks.length ≤ 20) : x.Ok := ⟨h.b, by omega, by omega, h.q0, h.q1, h.d0, h.d1⟩
theorem Sg.none_ok : Sg.none.Ok := ⟨IsB.nil, by decide, by decide, by decide, by decide, by decide, by decide⟩
theorem toldS_ok (r : Rc) (sub echo : Int) : (toldS r sub echo).Ok := by
  unfold toldS
  split
  · exact ⟨IsB.nil, Nat.zero_le _, by have := sackF_len (gapP (r.at sub).got 0) (r.at sub).got [] (by decide); show (sackP _ _).length ≤ _; unfold sackP; omega, Int.le_refl 0, by show (0 : Int) < 4294967296; decide, Int.le_refl 0, by show (0 : Int) < 4294967296; decide⟩
  · exact Sg.none_ok
theorem pre_0 {r : Rc} {x : Sg} (h : preE r x = 0) : r.may = true ∧ x.may = true ∧ x.kind = 2 ∧ x.fin = (x.b.length == 0) := by
  unfold preE at h
  split at h
  · cases h
  · rename_i h1
    split at h
    · cases h
    · rename_i h2
      refine ⟨by cases hm : r.may; exact absurd hm h1; rfl, by cases hm : x.may; exact absurd (.inl hm) h2; rfl, Classical.byContradiction fun hh => h2 (.inr (.inl hh)), Classical.byContradiction fun hh => h2 (.inr (.inr hh))⟩
theorem take_0 {r : Rc} {x : Sg} {mk : Bool} (h : takeE r x mk = 0) : preE r x = 0 ∧ rpE r.w x (tAt r x) = 0 ∧ addE (r.at x.sub).got (tSp r x) = 0 ∧ (mk = true → (tM r x mk).may = true) := by
  have c1 : preE r x = 0 := Classical.byContradiction fun c => by
    unfold takeE at h
    rw [if_pos c] at h
    exact c h
  have c2 : rpE r.w x (tAt r x) = 0 := Classical.byContradiction fun c => by
    unfold takeE at h
    rw [if_neg (by rw [c1]; decide), if_pos c] at h
    exact c h
  have c3 : addE (r.at x.sub).got (tSp r x) = 0 := Classical.byContradiction fun c => by
    unfold takeE at h
    rw [if_neg (by rw [c1]; decide), if_neg (by rw [c2]; decide), if_pos c] at h
    exact c h
  refine ⟨c1, c2, c3, fun hk => ?_⟩
  unfold takeE at h
  rw [if_neg (by rw [c1]; decide), if_neg (by rw [c2]; decide), if_neg (by rw [c3]; decide)] at h
  split at h
  · cases h
  · rename_i c; cases hq : (tM r x mk).may; exact absurd ⟨hk, hq⟩ c; rfl
theorem takeR_sm {r : Rc} (h : r.Sm) {x : Sg} (hx : x.Ok) (mk : Bool) : (takeR r x mk).Sm := by
  unfold takeR
  split
  · rename_i e
    obtain ⟨c1, c2, c3, _⟩ := take_0 e
    obtain ⟨d1, d2, d3, d4⟩ := pre_0 c1
    exact take_sm h hx d1 (by have := Sg.may_iff.1 d2; omega) mk c2 c3
  · exact Rc.none_sm
theorem takeS_ok (r : Rc) (x : Sg) (mk : Bool) : (takeS r x mk).Ok := by
  unfold takeS
  split
  · exact toldS_ok _ _ _
  · exact Sg.none_ok
theorem readR_sm {r : Rc} (h : r.Sm) (n : Int) : (readR r n).Sm := by
  unfold readR
  split
  · exact ⟨readW_sm h.w n, h.l0, h.l1, h.l2, h.l3⟩
  · exact Rc.none_sm
theorem readRB_ok {r : Rc} (h : r.Sm) (n : Int) : IsB (readRB r n) ∧ (readRB r n).length ≤ 9223372036854775806 := by
  unfold readRB
  split
  · exact readB_isb h.w n
  · exact ⟨IsB.nil, by simp⟩
theorem newR_sm (n : Int) : (newR n).Sm := by
  unfold newR
  split
  · exact ⟨newW_sm n, Nat.zero_le _, Nat.zero_le _, Nat.zero_le _, Nat.zero_le _⟩
  · exact Rc.none_sm
def zB (n : Nat) : List AV := List.replicate n (.int .u8 0)
def ax1 : Sg := ⟨2, 0, false, false, 10, 10, 0, 0, 0, 0, 0, 0, 0, [], zB 5⟩
def ax2 : Sg := ⟨2, 0, false, false, 0, 0, 0, 0, 0, 0, 0, 0, 0, [], zB 10⟩
def ar0 : Rc := newR 100
def ar1 : Rc := takeR ar0 ax1 false
def ar2 : Rc := takeR ar1 ax2 true
theorem ax1_ok : ax1.Ok := ⟨IsB.replicate 5 0, by decide, by decide, by decide, by decide, by decide, by decide⟩
theorem ax2_ok : ax2.Ok := ⟨IsB.replicate 10 0, by decide, by decide, by decide, by decide, by decide, by decide⟩
theorem ar0_sm : ar0.Sm := newR_sm 100
theorem ar1_sm : ar1.Sm := takeR_sm ar0_sm ax1_ok false
theorem ar2_sm : ar2.Sm := takeR_sm ar1_sm ax2_ok true
theorem ae0 : newE 100 = 0 := by kernel_rfl
theorem ae1 : takeE ar0 ax1 false = 0 := by kernel_rfl
theorem ae2 : takeE ar1 ax2 true = 0 := by kernel_rfl
theorem as1 : (takeS ar0 ax1 false).got = 0 ∧ (takeS ar0 ax1 false).sacks.length = 1 ∧ (takeS ar0 ax1 false).win = 100 := ⟨by kernel_rfl, by kernel_rfl, by kernel_rfl⟩
theorem as2 : (takeS ar1 ax2 true).got = 15 ∧ (takeS ar1 ax2 true).dgot = 15 ∧ (takeS ar1 ax2 true).ace = 1 ∧ (takeS ar1 ax2 true).win = 85 := ⟨by kernel_rfl, by kernel_rfl, by kernel_rfl, by kernel_rfl⟩
theorem am2 : ar2.may = true := by kernel_rfl
theorem awake_from {V : EV} {M : EM} (h1 : HasV V F_rtake.wide) (h2 : HasV V F_rmay) (h3 : HasV V F_rnew) : (Dawake V M).From 0 ⟨[], []⟩ = some (.bool true, []) := by
  refine From.of (awake_0.trans ?_)
  have e3 : V 47 [.int .i64 100] = some (.tup [ar0.av, .int .i64 (newE 100)]) := h3 (100 : Int) trivial
  have e1 : V 37 [ar0.av, AV.agg [AV.int .i64 (2 : Int), AV.int .i64 (0 : Int), AV.bool false, AV.bool false, AV.int .u32 (10 : Int), AV.int .u32 (10 : Int), AV.int .u32 (0 : Int), AV.int .u32 (0 : Int), AV.int .i64 (0 : Int), AV.int .i64 (0 : Int), AV.int .u32 (0 : Int), AV.int .u32 (0 : Int), AV.int .u32 (0 : Int), AV.nl, AV.osl [AV.int .u8 (0 : Int), AV.int .u8 (0 : Int), AV.int .u8 (0 : Int), AV.int .u8 (0 : Int), AV.int .u8 (0 : Int)]], AV.bool false] = some (.tup [ar1.av, (takeS ar0 ax1 false).av, .int .i64 (takeE ar0 ax1 false)]) := h1.wide (ar0, ax1, false) ⟨ar0_sm, ax1_ok⟩ _ (by rfl)
  have e2 : V 37 [ar1.av, AV.agg [AV.int .i64 (2 : Int), AV.int .i64 (0 : Int), AV.bool false, AV.bool false, AV.int .u32 (0 : Int), AV.int .u32 (0 : Int), AV.int .u32 (0 : Int), AV.int .u32 (0 : Int), AV.int .i64 (0 : Int), AV.int .i64 (0 : Int), AV.int .u32 (0 : Int), AV.int .u32 (0 : Int), AV.int .u32 (0 : Int), AV.nl, AV.osl [AV.int .u8 (0 : Int), AV.int .u8 (0 : Int), AV.int .u8 (0 : Int), AV.int .u8 (0 : Int), AV.int .u8 (0 : Int), AV.int .u8 (0 : Int), AV.int .u8 (0 : Int), AV.int .u8 (0 : Int), AV.int .u8 (0 : Int), AV.int .u8 (0 : Int)]], AV.bool true] = some (.tup [ar2.av, (takeS ar1 ax2 true).av, .int .i64 (takeE ar1 ax2 true)]) := h1.wide (ar1, ax2, true) ⟨ar1_sm, ax2_ok⟩ _ (by rfl)
  have e4 : V 41 [ar2.av] = some (.bool ar2.may) := h2 ar2 ar2_sm
  simp only [V21, e3, e1, ae0, ae1]
  refine From.of ((awake_1 0 0 ar1.av (takeS ar0 ax1 false).av).trans ?_)
  simp only [V21, e2, ae2]
  refine From.of ((awake_2 0 0 0 ar2.av (takeS ar0 ax1 false).av (takeS ar1 ax2 true).av).trans ?_)
  simp only [V21, qrows_len, as1.1, as1.2.1, as1.2.2, as2.1, as2.2.1, as2.2.2.1, as2.2.2.2, e4, am2]
  rfl
theorem awake_ok : FnOk Try.prog 34 [] (.bool true) := fn_mk [F_rtake.wide, F_rmay, F_rnew] [] (by kernel_rfl) mixed (by kernel_rfl) (awake_from (hasV 0 rfl rfl) (hasV 1 rfl rfl) (hasV 2 rfl rfl))
noncomputable def F_awk : Fam Try.prog := { f := 34, ι := Unit, pre := fun _ => True, args := fun _ => [], res := fun _ => .bool true, ok := fun _ _ => awake_ok, inj := fun s t h => rfl }
abbrev shMk : Sh := .parts [.int .i64, .int .i64, .int .i64, .int .i64, .int .i64]
abbrev shIl : Sh := .parts [.slice shSpn true, shMk]
abbrev shRc : Sh := .parts [shWv, .parts [shIl, shIl, shIl, shIl]]
abbrev shPr : Sh := .parts [.int .u32, .int .u32]
abbrev shSg : Sh := .parts [.int .i64, .int .i64, .bool, .bool, .int .u32, .int .u32, .int .u32, .int .u32, .int .i64, .int .i64, .int .u32, .int .u32, .int .u32, .slice shPr true, .slice (.int .u8) false]
theorem hasMk {l : List AV} (h : Has shMk l) : ∃ x : Mk, l = x.av.cells := by
  obtain ⟨a, r, rfl, h0, h⟩ := hasCons h
  obtain ⟨b, r, rfl, h1, h⟩ := hasCons h
  obtain ⟨c, r, rfl, h2, h⟩ := hasCons h
  obtain ⟨d, r, rfl, h3, h⟩ := hasCons h
  obtain ⟨e, r, rfl, h4, h⟩ := hasCons h
  obtain rfl := hasNil h
  obtain ⟨n0, rfl, _⟩ := hasI64 h0
  obtain ⟨n1, rfl, _⟩ := hasI64 h1
  obtain ⟨n2, rfl, _⟩ := hasI64 h2
  obtain ⟨n3, rfl, _⟩ := hasI64 h3
  obtain ⟨n4, rfl, _⟩ := hasI64 h4
  exact ⟨⟨n0, n1, n2, n3, n4⟩, rfl⟩
theorem hasIl {l : List AV} (h : Has shIl l) : ∃ x : Il, l = x.av.cells := by
  obtain ⟨a, r, rfl, h0, h⟩ := hasCons h
  obtain ⟨b, r, rfl, h1, h⟩ := hasCons h
  obtain rfl := hasNil h
  obtain ⟨q, rfl, hq, _⟩ := hasSpns h0
  obtain ⟨m, rfl⟩ := hasMk h1
  exact ⟨⟨q, m⟩, rfl⟩
theorem hasRc {l : List AV} (h : Has shRc l) : ∃ r : Rc, l = r.av.cells ∧ IsB r.w.b := by
  obtain ⟨a, t, rfl, h0, h⟩ := hasCons h
  obtain ⟨b, t, rfl, h1, h⟩ := hasCons h
  obtain rfl := hasNil h
  obtain ⟨base, xs, q, cap, end_, rfl, hb, _, _⟩ := hasWv h0
  obtain ⟨i0, t, rfl, k0, h1⟩ := hasCons h1
  obtain ⟨i1, t, rfl, k1, h1⟩ := hasCons h1
  obtain ⟨i2, t, rfl, k2, h1⟩ := hasCons h1
  obtain ⟨i3, t, rfl, k3, h1⟩ := hasCons h1
  obtain rfl := hasNil h1
  obtain ⟨x0, rfl⟩ := hasIl k0
  obtain ⟨x1, rfl⟩ := hasIl k1
  obtain ⟨x2, rfl⟩ := hasIl k2
  obtain ⟨x3, rfl⟩ := hasIl k3
  exact ⟨⟨⟨base, xs, q, cap, end_⟩, x0, x1, x2, x3⟩, rfl, hb⟩
theorem hasU32 {l : List AV} (h : Has (.int .u32) l) : ∃ n, l = [.int .u32 n] ∧ 0 ≤ n ∧ n < 4294967296 := by
  obtain ⟨n, rfl, hw⟩ := hasInt h
  have hw2 : 0 ≤ n ∧ n ≤ 4294967295 := by
    simp only [Lit.wf, Bool.and_eq_true, decide_eq_true_eq] at hw
    exact hw
  exact ⟨n, rfl, hw2.1, by omega⟩
theorem hasPr {l : List AV} (h : Has shPr l) : ∃ x : Pr, l = x.av.cells := by
  obtain ⟨a, r, rfl, h0, h⟩ := hasCons h
  obtain ⟨b, r, rfl, h1, h⟩ := hasCons h
  obtain rfl := hasNil h
  obtain ⟨n0, rfl, _⟩ := hasU32 h0
  obtain ⟨n1, rfl, _⟩ := hasU32 h1
  exact ⟨⟨n0, n1⟩, rfl⟩
theorem hasPrs {l : List AV} (h : Has (.slice shPr true) l) : ∃ q : List Pr, l = [.osl (qrows q)] := by
  obtain ⟨xs, rfl, hl, hx⟩ := hasSl h
  have key : ∀ (ys : List AV), (∀ x ∈ ys, x = mk true x.cells ∧ Has shPr x.cells) → ∃ q : List Pr, ys = qrows q := by
    intro ys
    induction ys with
    | nil => exact fun _ => ⟨[], rfl⟩
    | cons y ys ih =>
      intro hy
      obtain ⟨q, rfl⟩ := ih fun x hx => hy x (List.mem_cons_of_mem _ hx)
      obtain ⟨e, hh⟩ := hy y (List.mem_cons_self ..)
      obtain ⟨s, hs⟩ := hasPr hh
      exact ⟨s :: q, by rw [hs] at e; rw [e]; rfl⟩
  obtain ⟨q, rfl⟩ := key xs hx
  exact ⟨q, rfl⟩
theorem hasSg {l : List AV} (h : Has shSg l) : ∃ x : Sg, l = x.av.cells ∧ x.In := by
  obtain ⟨a0, r, rfl, h0, h⟩ := hasCons h
  obtain ⟨a1, r, rfl, h1, h⟩ := hasCons h
  obtain ⟨a2, r, rfl, h2, h⟩ := hasCons h
  obtain ⟨a3, r, rfl, h3, h⟩ := hasCons h
  obtain ⟨a4, r, rfl, h4, h⟩ := hasCons h
  obtain ⟨a5, r, rfl, h5, h⟩ := hasCons h
  obtain ⟨a6, r, rfl, h6, h⟩ := hasCons h
  obtain ⟨a7, r, rfl, h7, h⟩ := hasCons h
  obtain ⟨a8, r, rfl, h8, h⟩ := hasCons h
  obtain ⟨a9, r, rfl, h9, h⟩ := hasCons h
  obtain ⟨a10, r, rfl, h10, h⟩ := hasCons h
  obtain ⟨a11, r, rfl, h11, h⟩ := hasCons h
  obtain ⟨a12, r, rfl, h12, h⟩ := hasCons h
  obtain ⟨a13, r, rfl, h13, h⟩ := hasCons h
  obtain ⟨a14, r, rfl, h14, h⟩ := hasCons h
  obtain rfl := hasNil h
  obtain ⟨n0, rfl, _⟩ := hasI64 h0
  obtain ⟨n1, rfl, _⟩ := hasI64 h1
  obtain ⟨b2, rfl⟩ := hasBool h2
  obtain ⟨b3, rfl⟩ := hasBool h3
  obtain ⟨n4, rfl, q0, q1⟩ := hasU32 h4
  obtain ⟨n5, rfl, d0, d1⟩ := hasU32 h5
  obtain ⟨n6, rfl, _⟩ := hasU32 h6
  obtain ⟨n7, rfl, _⟩ := hasU32 h7
  obtain ⟨n8, rfl, _⟩ := hasI64 h8
  obtain ⟨n9, rfl, _⟩ := hasI64 h9
  obtain ⟨n10, rfl, _⟩ := hasU32 h10
  obtain ⟨n11, rfl, _⟩ := hasU32 h11
  obtain ⟨n12, rfl, _⟩ := hasU32 h12
  obtain ⟨qs, rfl⟩ := hasPrs h13
  obtain ⟨xs, rfl, _, hb⟩ := hasBytes h14
  exact ⟨⟨n0, n1, b2, b3, n4, n5, n6, n7, n8, n9, n10, n11, n12, qs, xs⟩, rfl, ⟨hb, q0, q1, d0, d1⟩⟩
theorem sh_rc : shOf Try.prog 8 54 = some shRc := by kernel_rfl
theorem sh_sg : shOf Try.prog 8 58 = some shSg := by kernel_rfl
end Vai.L21
