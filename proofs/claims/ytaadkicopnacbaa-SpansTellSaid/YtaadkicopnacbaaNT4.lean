/- Spans: the document's answer, the law. -/
import Derived.Test.YtaadkicopnacbaaNR4
import Derived.Test.YtaadkicopnacbaaVoF
namespace Vai.L04
open Go Go.Proofs Vai
set_option maxRecDepth 100000
set_option linter.unusedVariables false
set_option linter.unusedSimpArgs false
section
variable {R : Type} {V : EV} {M : EM} {G : Nat → CS → Option R} {K : Res → Option R}
noncomputable abbrev Dhas : EV → EM → Dn := dnV Try.prog 25 [17, 26, 43] [] []
theorem has_0 (a0 : List AV) (a1_0 : Int) (a1_1 : Int) : (Dhas V M).stepK G K 0 ⟨[.osl a0, .agg [.int .i64 a1_0, .int .i64 a1_1]], []⟩ =
    Option.bind (V 26 [AV.osl a0]) (fun x0 => gd (fitA [.one .bool] x0) ((bif !AV.getb x0 then K (AV.bool false, []) else Option.bind (V 43 [AV.agg [AV.int .i64 a1_0, AV.int .i64 a1_1]]) (fun x1 => gd (fitA [.one .bool] x1) ((bif !AV.getb x1 then K (AV.bool false, []) else Option.bind (V 17 [AV.osl a0, AV.int .i64 a1_0]) (fun x2 => gd (fitA [.one (.int .i64)] x2) (K (AV.bool (decide (AV.geti x2 ≥ a1_1)), []))))))))) := by kernel_rfl
noncomputable abbrev Dr4has : EV → EM → Dn := dnV Try.prog 38 [42, 49] [] [(58, [0, 3, 5, 6])]
theorem r4has_0 (a0 : List AV) (a1_0 : Int) (a1_1 : Int) : (Dr4has V M).stepK G K 0 ⟨[.osl a0, .agg [.int .i64 a1_0, .int .i64 a1_1]], []⟩ =
    Option.bind (V 42 [AV.osl a0]) (fun x0 => gd (fitA [.one .bool] x0) (G 58 ({ vs := [AV.osl a0, AV.ptr 1000000 0 0 0, AV.bool (AV.getb x0), AV.int .i64 (0 : Int)], bs := [some { es := [AV.agg [AV.int .i64 a1_0, AV.int .i64 a1_1]], fr := false, pt := true }] }))) := by kernel_rfl
theorem r4has_1 (l0 : List AV) (b1 : Bool) (n2 : Int) (n3 : Int) (n4 : Int) : (Dr4has V M).stepK G K 58 ⟨[(.osl l0), (.ptr 1000000 0 0 0), (.bool b1), (.int .i64 n2)], [some ⟨[(.agg [(.int .i64 n3), (.int .i64 n4)])], false, true⟩]⟩ =
    (bif decide (n2 < (↑(List.length l0) : Int)) then (bif b1 then Option.bind (V 49 [AV.agg [AV.int .i64 n3, AV.int .i64 n4]]) (fun x0 => gd (fitA [.one .bool] x0) ((bif AV.getb x0 then gd (decide ((0 : Int) ≤ n2)) (Option.bind (l0[Int.toNat n2]?) (fun x1 => gd (Vw.fit (.agg [.int .i64, .int .i64]) x1) ((bif decide (ci x1 0 ≤ n3) then gd (decide ((0 : Int) ≤ n2)) (Option.bind (l0[Int.toNat n2]?) (fun x2 => gd (Vw.fit (.agg [.int .i64, .int .i64]) x2) ((bif decide (n4 ≤ ci x2 1) then K (AV.bool true, []) else G 58 ({ vs := [AV.osl l0, AV.ptr 1000000 0 0 0, AV.bool b1, AV.int .i64 (IntKind.wrap .i64 (n2 + (1 : Int)))], bs := [some { es := [AV.agg [AV.int .i64 n3, AV.int .i64 n4]], fr := false, pt := true }] }))))) else G 58 ({ vs := [AV.osl l0, AV.ptr 1000000 0 0 0, AV.bool b1, AV.int .i64 (IntKind.wrap .i64 (n2 + (1 : Int)))], bs := [some { es := [AV.agg [AV.int .i64 n3, AV.int .i64 n4]], fr := false, pt := true }] }))))) else K (AV.bool false, [])))) else K (AV.bool false, [])) else K (AV.bool false, [])) := by kernel_rfl
noncomputable abbrev Dr4size : EV → EM → Dn := dnV Try.prog 40 [42] [] [(122, [0, 3, 4, 5])]
theorem r4size_0 (a0 : List AV) : (Dr4size V M).stepK G K 0 ⟨[.osl a0], []⟩ =
    Option.bind (V 42 [AV.osl a0]) (fun x0 => gd (fitA [.one .bool] x0) (G 122 ({ vs := [AV.osl a0, AV.int .i64 (0 : Int), AV.bool (AV.getb x0), AV.int .i64 (0 : Int)], bs := [] }))) := by kernel_rfl
theorem r4size_1 (l0 : List AV) (n1 : Int) (b2 : Bool) (n3 : Int) : (Dr4size V M).stepK G K 122 ⟨[(.osl l0), (.int .i64 n1), (.bool b2), (.int .i64 n3)], []⟩ =
    (bif decide (n3 < (↑(List.length l0) : Int)) then (bif b2 then gd (decide ((0 : Int) ≤ n3)) (Option.bind (l0[Int.toNat n3]?) (fun x0 => gd (Vw.fit (.agg [.int .i64, .int .i64]) x0) (gd (decide ((0 : Int) ≤ n3)) (Option.bind (l0[Int.toNat n3]?) (fun x1 => gd (Vw.fit (.agg [.int .i64, .int .i64]) x1) (G 122 ({ vs := [AV.osl l0, AV.int .i64 (IntKind.wrap .i64 (IntKind.wrap .i64 (n1 + ci x0 1) - ci x1 0)), AV.bool b2, AV.int .i64 (IntKind.wrap .i64 (n3 + (1 : Int)))], bs := [] }))))))) else K (AV.int .i64 n1, [])) else K (AV.int .i64 n1, [])) := by kernel_rfl
noncomputable abbrev Dr4gap : EV → EM → Dn := dnV Try.prog 41 [42] [] [(250, [0, 1, 6])]
theorem r4gap_0 (a0 : List AV) (a1 : Int) : (Dr4gap V M).stepK G K 0 ⟨[.osl a0, .int .i64 a1], []⟩ =
    Option.bind (V 42 [AV.osl a0]) (fun x0 => gd (fitA [.one .bool] x0) ((bif !AV.getb x0 then K (AV.int .i64 (0 : Int), []) else (bif decide (a1 < (0 : Int)) then G 250 ({ vs := [AV.osl a0, AV.int .i64 (0 : Int), AV.int .i64 (0 : Int)], bs := [] }) else G 250 ({ vs := [AV.osl a0, AV.int .i64 a1, AV.int .i64 (0 : Int)], bs := [] }))))) := by kernel_rfl
theorem r4gap_1 (l0 : List AV) (n1 : Int) (n2 : Int) : (Dr4gap V M).stepK G K 250 ⟨[(.osl l0), (.int .i64 n1), (.int .i64 n2)], []⟩ =
    (bif decide (n2 < (↑(List.length l0) : Int)) then gd (decide ((0 : Int) ≤ n2)) (Option.bind (l0[Int.toNat n2]?) (fun x0 => gd (Vw.fit (.agg [.int .i64, .int .i64]) x0) ((bif decide (ci x0 0 ≤ n1) then gd (decide ((0 : Int) ≤ n2)) (Option.bind (l0[Int.toNat n2]?) (fun x1 => gd (Vw.fit (.agg [.int .i64, .int .i64]) x1) ((bif decide (n1 < ci x1 1) then gd (decide ((0 : Int) ≤ n2)) (Option.bind (l0[Int.toNat n2]?) (fun x2 => gd (Vw.fit (.agg [.int .i64, .int .i64]) x2) (K (AV.int .i64 (ci x2 1), [])))) else G 250 ({ vs := [AV.osl l0, AV.int .i64 n1, AV.int .i64 (IntKind.wrap .i64 (n2 + (1 : Int)))], bs := [] }))))) else G 250 ({ vs := [AV.osl l0, AV.int .i64 n1, AV.int .i64 (IntKind.wrap .i64 (n2 + (1 : Int)))], bs := [] }))))) else K (AV.int .i64 n1, [])) := by kernel_rfl
noncomputable abbrev Dawake4 : EV → EM → Dn := dnV Try.prog 13 [14, 15, 16, 26] [] []
theorem awake4_0  : (Dawake4 V M).stepK G K 0 ⟨[], []⟩ =
    Option.bind (V 14 [AV.osl [AV.agg [AV.int .i64 (1 : Int), AV.int .i64 (3 : Int)], AV.agg [AV.int .i64 (5 : Int), AV.int .i64 (7 : Int)]], AV.agg [AV.int .i64 (3 : Int), AV.int .i64 (5 : Int)]]) (fun x0 => gd (fitA [.one .sl, .one (.int .i64)] x0) (Option.bind (V 15 [AV.osl (tl x0 0), AV.agg [AV.int .i64 (2 : Int), AV.int .i64 (4 : Int)]]) (fun x1 => gd (fitA [.one .sl, .one (.int .i64)] x1) (Option.bind (V 16 [AV.osl (tl x0 0), AV.osl [AV.agg [AV.int .i64 (1 : Int), AV.int .i64 (7 : Int)]]]) (fun x2 => gd (fitA [.one .bool] x2) (Option.bind (V 16 [AV.osl (tl x1 0), AV.osl [AV.agg [AV.int .i64 (1 : Int), AV.int .i64 (2 : Int)], AV.agg [AV.int .i64 (4 : Int), AV.int .i64 (7 : Int)]]]) (fun x3 => gd (fitA [.one .bool] x3) ((bif ti x0 1 == (0 : Int) then (bif ti x1 1 == (0 : Int) then (bif AV.getb x2 then (bif AV.getb x3 then Option.bind (V 26 [AV.osl (tl x1 0)]) (fun x4 => gd (fitA [.one .bool] x4) (K (AV.bool (AV.getb x4), []))) else K (AV.bool false, [])) else K (AV.bool false, [])) else K (AV.bool false, [])) else K (AV.bool false, [])))))))))) := by kernel_rfl
noncomputable abbrev Dltell : EV → EM → Dn := dnV Try.prog 11 [13, 14, 15, 16, 17, 25, 26, 36, 37, 38, 39, 40, 41, 42] [] []
theorem ltell_0 (a0 : List AV) (a1_0 : Int) (a1_1 : Int) (a2 : Int) : (Dltell V M).stepK G K 0 ⟨[.osl a0, .agg [.int .i64 a1_0, .int .i64 a1_1], .int .i64 a2], []⟩ =
    Option.bind (V 13 []) (fun x0 => gd (fitA [.one .bool] x0) ((bif !AV.getb x0 then K (AV.bool (AV.getb x0), []) else (bif decide ((↑(List.length a0) : Int) > (1100 : Int)) then K (AV.bool (AV.getb x0), []) else Option.bind (V 14 [AV.osl a0, AV.agg [AV.int .i64 a1_0, AV.int .i64 a1_1]]) (fun x1 => gd (fitA [.one .sl, .one (.int .i64)] x1) (Option.bind (V 36 [AV.osl a0, AV.agg [AV.int .i64 a1_0, AV.int .i64 a1_1]]) (fun x2 => gd (fitA [.one .sl, .one (.int .i64)] x2) (Option.bind (V 16 [AV.osl (tl x1 0), AV.osl (tl x2 0)]) (fun x3 => gd (fitA [.one .bool] x3) (Option.bind (V 15 [AV.osl a0, AV.agg [AV.int .i64 a1_0, AV.int .i64 a1_1]]) (fun x4 => gd (fitA [.one .sl, .one (.int .i64)] x4) (Option.bind (V 37 [AV.osl a0, AV.agg [AV.int .i64 a1_0, AV.int .i64 a1_1]]) (fun x5 => gd (fitA [.one .sl, .one (.int .i64)] x5) (Option.bind (V 16 [AV.osl (tl x4 0), AV.osl (tl x5 0)]) (fun x6 => gd (fitA [.one .bool] x6) (Option.bind (V 25 [AV.osl a0, AV.agg [AV.int .i64 a1_0, AV.int .i64 a1_1]]) (fun x7 => gd (fitA [.one .bool] x7) (Option.bind (V 38 [AV.osl a0, AV.agg [AV.int .i64 a1_0, AV.int .i64 a1_1]]) (fun x8 => gd (fitA [.one .bool] x8) ((bif AV.getb x7 == AV.getb x8 then Option.bind (V 39 [AV.osl a0]) (fun x9 => gd (fitA [.one (.int .i64)] x9) (Option.bind (V 40 [AV.osl a0]) (fun x10 => gd (fitA [.one (.int .i64)] x10) ((bif AV.getb x3 then (bif ti x1 1 == ti x2 1 then (bif AV.getb x6 then (bif ti x4 1 == ti x5 1 then (bif AV.geti x9 == AV.geti x10 then Option.bind (V 17 [AV.osl a0, AV.int .i64 a2]) (fun x11 => gd (fitA [.one (.int .i64)] x11) (Option.bind (V 41 [AV.osl a0, AV.int .i64 a2]) (fun x12 => gd (fitA [.one (.int .i64)] x12) ((bif AV.geti x11 == AV.geti x12 then Option.bind (V 26 [AV.osl a0]) (fun x13 => gd (fitA [.one .bool] x13) (Option.bind (V 42 [AV.osl a0]) (fun x14 => gd (fitA [.one .bool] x14) (K (AV.bool (AV.getb x13 == AV.getb x14), []))))) else K (AV.bool false, [])))))) else K (AV.bool false, [])) else K (AV.bool false, [])) else K (AV.bool false, [])) else K (AV.bool false, [])) else K (AV.bool false, [])))))) else (bif AV.getb x3 then (bif ti x1 1 == ti x2 1 then (bif AV.getb x6 then (bif ti x4 1 == ti x5 1 then K (AV.bool false, []) else K (AV.bool false, [])) else K (AV.bool false, [])) else K (AV.bool false, [])) else K (AV.bool false, []))))))))))))))))))))))) := by kernel_rfl
end

noncomputable def F_cut4 : Fam Try.prog := { f := 15, ι := List Spn × Spn, pre := fun p => p.1.length ≤ 9223372036854775806, args := fun p => [.osl (prows p.1), p.2.av], res := fun p => .tup [.osl (prows (cutR p.1 p.2)), .int .i64 (cutE p.1 p.2)], ok := fun p h => L04c.cut_fn p.1 p.2 h, inj := fun s t h => by rw [prows_inj (AV.osl.inj (List.cons.inj h).1), av_inj (List.cons.inj (List.cons.inj h).2).1] }
/-! ### The gap and what has it, by looking -/
def gapD : List Spn → Int → Int
  | [], f => f
  | x :: l, f => if x.a ≤ f ∧ f < x.b then x.b else gapD l f
def hasD : List Spn → Spn → Bool
  | [], _ => false
  | x :: l, s => decide (x.a ≤ s.a ∧ s.b ≤ x.b) || hasD l s
theorem gapD_eq : ∀ {l : List Spn}, Can l → ∀ f, l.foldl gapF f = gapD l f
  | [], _, _ => rfl
  | x :: l, hl, f => by
    show l.foldl gapF (gapF f x) = _
    unfold gapD
    have e : gapF f x = if x.a ≤ f ∧ f < x.b then x.b else f := rfl
    rw [e]
    split
    · exact gap_stay l x.b fun y hy => (List.pairwise_cons.1 hl.up).1 y hy
    · exact gapD_eq hl.tail f
theorem hasD_iff : ∀ {l : List Spn}, Can l → ∀ {s : Spn}, s.a < s.b → (hasD l s = true ↔ s.b ≤ gapD l s.a)
  | [], _, s, hs => by unfold hasD gapD; constructor; intro h; cases h; intro h; omega
  | x :: l, hl, s, hs => by
    have ih := hasD_iff hl.tail hs
    unfold hasD gapD
    rw [Bool.or_eq_true, decide_eq_true_eq, ih]
    have hup := (List.pairwise_cons.1 hl.up).1
    by_cases c : x.a ≤ s.a ∧ s.a < x.b
    · rw [if_pos c]
      constructor
      · rintro (h | h)
        · exact h.2
        · have : gapD l s.a = s.a := by rw [← gapD_eq hl.tail]; exact gap_stay l s.a fun y hy => by have := hup y hy; omega
          omega
      · intro h; exact .inl ⟨c.1, h⟩
    · rw [if_neg c]
      constructor
      · rintro (h | h)
        · omega
        · exact h
      · exact .inr
theorem r4gap_loop {V : EV} {M : EM} (l : List Spn) (hl : l.length ≤ 9223372036854775806) (f : Int) : ∀ (m : List Spn) (i : Nat), l.drop i = m → (Dr4gap V M).From 250 ⟨[.osl (prows l), .int .i64 f, .int .i64 i], []⟩ = some (.int .i64 (gapD m f), [])
  | [], i, h => by
    refine From.of ((r4gap_1 _ _ _).trans ?_)
    have := drop_end h
    rw [prows_length, decide_eq_false (show ¬ (i : Int) < (l.length : Int) by omega), cond_false]; rfl
  | s :: m, i, h => by
    obtain ⟨h1, h2, h3⟩ := drop_get h
    have ih := r4gap_loop (V := V) (M := M) l hl f m (i + 1) h3
    have hx : (prows l)[i]? = some (.agg [.int .i64 s.a, .int .i64 s.b]) := by rw [prows_get, h1]; rfl
    refine From.of ((r4gap_1 _ _ _).trans ?_)
    simp only [prows_length, show decide ((i : Int) < (l.length : Int)) = true from decide_eq_true (by omega), show decide ((0 : Int) ≤ (i : Int)) = true from decide_eq_true (by omega), Int.toNat_natCast, hx, ci_agg, w64 (n := (i : Int) + 1) (by omega) (by omega), Option.bind_some, fitA_tup, fitA_one, fitA_nil, fitR_cons, fitR_nil, fit_one, fit_agg, okL_cons, okL_nil, ok1_int, ok1_bool, ok1_sl, decide_true, Bool.and_self, gd_true, ti_tup, tl_tup, tb_tup, gett_tup, getc_agg, List.getD_cons_zero, List.getD_cons_succ, gI, getl_osl, getb_bool, Bool.not_true, Bool.not_false, cond_true, cond_false, beq_self_eq_true]
    unfold gapD
    by_cases c1 : s.a ≤ f
    · rw [decide_eq_true c1, cond_true]
      by_cases c2 : f < s.b
      · rw [decide_eq_true c2, cond_true, if_pos ⟨c1, c2⟩]
      · rw [decide_eq_false c2, cond_false, if_neg fun x => c2 x.2]; exact ih
    · rw [decide_eq_false c1, cond_false, if_neg fun x => c1 x.1]; exact ih
theorem r4gap_ok (l : List Spn) (hl : l.length ≤ 9223372036854775806) (f : Int) : FnOk Try.prog 41 [.osl (prows l), .int .i64 f] (.int .i64 (gapP l f)) := by
  refine fn_mk [F_r4may] [] (by kernel_rfl) mixed (by kernel_rfl) (From.of ((r4gap_0 _ _).trans ?_))
  have e1 : envV [F_r4may] 42 [.osl (prows l)] = some (.bool (mayP l)) := envV_at F_r4may l hl [] _ rfl
  simp only [e1, Option.bind_some, fitA_tup, fitA_one, fitA_nil, fitR_cons, fitR_nil, fit_one, fit_agg, okL_cons, okL_nil, ok1_int, ok1_bool, ok1_sl, decide_true, Bool.and_self, gd_true, ti_tup, tl_tup, tb_tup, gett_tup, getc_agg, List.getD_cons_zero, List.getD_cons_succ, gI, getl_osl, getb_bool, Bool.not_true, Bool.not_false, cond_true, cond_false, beq_self_eq_true]
  unfold gapP
  cases h : mayP l with
  | false => rfl
  | true =>
    rw [Bool.not_true, cond_false, if_pos rfl, gapD_eq (may_iff.1 h).2]
    by_cases c : f < 0
    · rw [decide_eq_true c, cond_true, if_pos c]; exact r4gap_loop l hl 0 l 0 rfl
    · rw [decide_eq_false c, cond_false, if_neg c]; exact r4gap_loop l hl f l 0 rfl
noncomputable def F_r4gap : Fam Try.prog := { f := 41, ι := List Spn × Int, pre := fun p => p.1.length ≤ 9223372036854775806, args := fun p => [.osl (prows p.1), .int .i64 p.2], res := fun p => .int .i64 (gapP p.1 p.2), ok := fun p h => r4gap_ok p.1 h p.2, inj := fun s t h => by rw [prows_inj (AV.osl.inj (List.cons.inj h).1), (AV.int.inj (List.cons.inj (List.cons.inj h).2).1).2] }
theorem r4size_loop {V : EV} {M : EM} (l : List Spn) (hl : l.length ≤ 9223372036854775806) : ∀ (m : List Spn) (i : Nat) (acc : Int), l.drop i = m → Can m → 0 ≤ acc → acc ≤ 4611686018427387904 → (∀ x ∈ m, acc ≤ x.a) → (Dr4size V M).From 122 ⟨[.osl (prows l), .int .i64 acc, .bool true, .int .i64 i], []⟩ = some (.int .i64 (acc + sizeP m), [])
  | [], i, acc, h, _, _, _, _ => by
    refine From.of ((r4size_1 _ _ _ _).trans ?_)
    have := drop_end h
    rw [prows_length, decide_eq_false (show ¬ (i : Int) < (l.length : Int) by omega), cond_false]
    unfold sizeP; rw [Int.add_zero]
  | s :: m, i, acc, h, hc, a0, a1, ha => by
    obtain ⟨h1, h2, h3⟩ := drop_get h
    have ho := hc.one s (List.mem_cons_self ..)
    have hs := ha s (List.mem_cons_self ..)
    have hup := (List.pairwise_cons.1 hc.up).1
    have ih := r4size_loop (V := V) (M := M) l hl m (i + 1) (acc + s.b - s.a) h3 hc.tail (by omega) (by omega) (fun x hx => by have := hup x hx; omega)
    have hx : (prows l)[i]? = some (.agg [.int .i64 s.a, .int .i64 s.b]) := by rw [prows_get, h1]; rfl
    have ew : IntKind.wrap .i64 (IntKind.wrap .i64 (acc + s.b) - s.a) = acc + s.b - s.a := by rw [IntKind.wrap_i64, IntKind.wrap_i64]; omega
    refine From.of ((r4size_1 _ _ _ _).trans ?_)
    simp only [prows_length, show decide ((i : Int) < (l.length : Int)) = true from decide_eq_true (by omega), show decide ((0 : Int) ≤ (i : Int)) = true from decide_eq_true (by omega), Int.toNat_natCast, hx, ci_agg, ew, w64 (n := (i : Int) + 1) (by omega) (by omega), Option.bind_some, fitA_tup, fitA_one, fitA_nil, fitR_cons, fitR_nil, fit_one, fit_agg, okL_cons, okL_nil, ok1_int, ok1_bool, ok1_sl, decide_true, Bool.and_self, gd_true, ti_tup, tl_tup, tb_tup, gett_tup, getc_agg, List.getD_cons_zero, List.getD_cons_succ, gI, getl_osl, getb_bool, Bool.not_true, Bool.not_false, cond_true, cond_false, beq_self_eq_true]
    refine ih.trans ?_
    show _ = some (AV.int .i64 (acc + (s.b - s.a + sizeP m)), [])
    rw [show acc + s.b - s.a + sizeP m = acc + (s.b - s.a + sizeP m) by omega]
theorem r4size_ok (l : List Spn) (hl : l.length ≤ 9223372036854775806) : FnOk Try.prog 40 [.osl (prows l)] (.int .i64 (sizeS l)) := by
  refine fn_mk [F_r4may] [] (by kernel_rfl) mixed (by kernel_rfl) (From.of ((r4size_0 _).trans ?_))
  have e1 : envV [F_r4may] 42 [.osl (prows l)] = some (.bool (mayP l)) := envV_at F_r4may l hl [] _ rfl
  simp only [e1, Option.bind_some, fitA_tup, fitA_one, fitA_nil, fitR_cons, fitR_nil, fit_one, fit_agg, okL_cons, okL_nil, ok1_int, ok1_bool, ok1_sl, decide_true, Bool.and_self, gd_true, ti_tup, tl_tup, tb_tup, gett_tup, getc_agg, List.getD_cons_zero, List.getD_cons_succ, gI, getl_osl, getb_bool, Bool.not_true, Bool.not_false, cond_true, cond_false, beq_self_eq_true]
  unfold sizeS
  cases h : mayP l with
  | false =>
    refine From.of ((r4size_1 _ _ _ _).trans ?_)
    cases decide ((0 : Int) < ((prows l).length : Int)) <;> rfl
  | true =>
    refine (r4size_loop l hl l 0 0 rfl (may_iff.1 h).2 (by omega) (by omega) fun x hx => ((may_iff.1 h).2.one x hx).1).trans ?_
    rw [Int.zero_add, if_pos rfl]
noncomputable def F_r4size : Fam Try.prog := { f := 40, ι := List Spn, pre := fun l => l.length ≤ 9223372036854775806, args := fun l => [.osl (prows l)], res := fun l => .int .i64 (sizeS l), ok := r4size_ok, inj := fun s t h => by rw [prows_inj (AV.osl.inj (List.cons.inj h).1)] }
theorem r4has_loop {V : EV} {M : EM} (s : Spn) (ho : s.one = true) (e : V 49 [s.av] = some (.bool s.one)) (l : List Spn) (hl : l.length ≤ 9223372036854775806) : ∀ (m : List Spn) (i : Nat), l.drop i = m → (Dr4has V M).From 58 ⟨[.osl (prows l), .ptr 1000000 0 0 0, .bool true, .int .i64 i], [some ⟨[s.av], false, true⟩]⟩ = some (.bool (hasD m s), [])
  | [], i, h => by
    refine From.of ((r4has_1 _ _ _ _ _).trans ?_)
    have := drop_end h
    rw [prows_length, decide_eq_false (show ¬ (i : Int) < (l.length : Int) by omega), cond_false]; rfl
  | x :: m, i, h => by
    obtain ⟨h1, h2, h3⟩ := drop_get h
    have ih := r4has_loop (V := V) (M := M) s ho e l hl m (i + 1) h3
    have hx : (prows l)[i]? = some (.agg [.int .i64 x.a, .int .i64 x.b]) := by rw [prows_get, h1]; rfl
    have e' : V 49 [.agg [.int .i64 s.a, .int .i64 s.b]] = some (.bool true) := by rw [← ho]; exact e
    refine From.of ((r4has_1 _ _ _ _ _).trans ?_)
    simp only [prows_length, show decide ((i : Int) < (l.length : Int)) = true from decide_eq_true (by omega), show decide ((0 : Int) ≤ (i : Int)) = true from decide_eq_true (by omega), Int.toNat_natCast, hx, ci_agg, e', w64 (n := (i : Int) + 1) (by omega) (by omega), Option.bind_some, fitA_tup, fitA_one, fitA_nil, fitR_cons, fitR_nil, fit_one, fit_agg, okL_cons, okL_nil, ok1_int, ok1_bool, ok1_sl, decide_true, Bool.and_self, gd_true, ti_tup, tl_tup, tb_tup, gett_tup, getc_agg, List.getD_cons_zero, List.getD_cons_succ, gI, getl_osl, getb_bool, Bool.not_true, Bool.not_false, cond_true, cond_false, beq_self_eq_true]
    unfold hasD
    by_cases c1 : x.a ≤ s.a
    · rw [decide_eq_true c1, cond_true]
      by_cases c2 : s.b ≤ x.b
      · rw [decide_eq_true c2, cond_true, decide_eq_true ⟨c1, c2⟩]; rfl
      · rw [decide_eq_false c2, cond_false, decide_eq_false (fun y => c2 y.2), Bool.false_or]; exact ih
    · rw [decide_eq_false c1, cond_false, decide_eq_false (fun y => c1 y.1), Bool.false_or]; exact ih
theorem r4has_ok (l : List Spn) (hl : l.length ≤ 9223372036854775806) (s : Spn) : FnOk Try.prog 38 [.osl (prows l), s.av] (.bool (hasP l s)) := by
  refine fn_mk [F_r4may, F_r4one] [] (by kernel_rfl) mixed (by kernel_rfl) (From.of ((r4has_0 _ _ _).trans ?_))
  have e1 : envV [F_r4may, F_r4one] 42 [.osl (prows l)] = some (.bool (mayP l)) := envV_at F_r4may l hl [] _ rfl
  have e2 : envV [F_r4may, F_r4one] 49 [s.av] = some (.bool s.one) := envV_at F_r4one s trivial [F_r4may] _ rfl
  have e2' : envV [F_r4may, F_r4one] 49 [.agg [.int .i64 s.a, .int .i64 s.b]] = some (.bool s.one) := e2
  simp only [e1, Option.bind_some, fitA_tup, fitA_one, fitA_nil, fitR_cons, fitR_nil, fit_one, fit_agg, okL_cons, okL_nil, ok1_int, ok1_bool, ok1_sl, decide_true, Bool.and_self, gd_true, ti_tup, tl_tup, tb_tup, gett_tup, getc_agg, List.getD_cons_zero, List.getD_cons_succ, gI, getl_osl, getb_bool, Bool.not_true, Bool.not_false, cond_true, cond_false, beq_self_eq_true]
  unfold hasP
  cases h : mayP l with
  | false =>
    refine From.of ((r4has_1 _ _ _ _ _).trans ?_)
    cases decide ((0 : Int) < ((prows l).length : Int)) <;> rfl
  | true =>
    cases ho : s.one with
    | false =>
      refine From.of ((r4has_1 _ _ _ _ _).trans ?_)
      rw [ho] at e2'
      simp only [e2', Option.bind_some, fitA_tup, fitA_one, fitA_nil, fitR_cons, fitR_nil, fit_one, fit_agg, okL_cons, okL_nil, ok1_int, ok1_bool, ok1_sl, decide_true, Bool.and_self, gd_true, ti_tup, tl_tup, tb_tup, gett_tup, getc_agg, List.getD_cons_zero, List.getD_cons_succ, gI, getl_osl, getb_bool, Bool.not_true, Bool.not_false, cond_true, cond_false, beq_self_eq_true]
      cases decide ((0 : Int) < ((prows l).length : Int)) <;> rfl
    | true =>
      refine (r4has_loop s ho e2 l hl l 0 rfl).trans ?_
      have hs := one_iff.1 ho
      have hg : gapP l s.a = gapD l s.a := by unfold gapP; rw [if_pos h, if_neg (by omega), gapD_eq (may_iff.1 h).2]
      rw [hg, show hasD l s = decide (s.b ≤ gapD l s.a) by rw [Bool.eq_iff_iff, decide_eq_true_eq]; exact hasD_iff (may_iff.1 h).2 hs.2.1]
      rfl
noncomputable def F_r4has : Fam Try.prog := { f := 38, ι := List Spn × Spn, pre := fun p => p.1.length ≤ 9223372036854775806, args := fun p => [.osl (prows p.1), p.2.av], res := fun p => .bool (hasP p.1 p.2), ok := fun p h => r4has_ok p.1 h p.2, inj := fun s t h => by rw [prows_inj (AV.osl.inj (List.cons.inj h).1), av_inj (List.cons.inj (List.cons.inj h).2).1] }
theorem has_ok (l : List Spn) (hl : l.length ≤ 9223372036854775806) (s : Spn) : FnOk Try.prog 25 [.osl (prows l), s.av] (.bool (hasP l s)) := by
  refine fn_mk [F_gap, F_may, F_one] [] (by kernel_rfl) mixed (by kernel_rfl) (From.of ((has_0 _ _ _).trans ?_))
  have e1 : envV [F_gap, F_may, F_one] 26 [.osl (prows l)] = some (.bool (mayP l)) := envV_at F_may l hl [F_gap] _ rfl
  have e2 : envV [F_gap, F_may, F_one] 43 [.agg [.int .i64 s.a, .int .i64 s.b]] = some (.bool s.one) := envV_at F_one s trivial [F_gap, F_may] _ rfl
  have e3 : envV [F_gap, F_may, F_one] 17 [.osl (prows l), .int .i64 s.a] = some (.int .i64 (gapP l s.a)) := envV_at F_gap (l, s.a) hl [] _ rfl
  simp only [e1, Option.bind_some, fitA_tup, fitA_one, fitA_nil, fitR_cons, fitR_nil, fit_one, fit_agg, okL_cons, okL_nil, ok1_int, ok1_bool, ok1_sl, decide_true, Bool.and_self, gd_true, ti_tup, tl_tup, tb_tup, gett_tup, getc_agg, List.getD_cons_zero, List.getD_cons_succ, gI, getl_osl, getb_bool, Bool.not_true, Bool.not_false, cond_true, cond_false, beq_self_eq_true]
  unfold hasP
  cases h : mayP l with
  | false => rfl
  | true =>
    simp only [e2, Option.bind_some, fitA_tup, fitA_one, fitA_nil, fitR_cons, fitR_nil, fit_one, fit_agg, okL_cons, okL_nil, ok1_int, ok1_bool, ok1_sl, decide_true, Bool.and_self, gd_true, ti_tup, tl_tup, tb_tup, gett_tup, getc_agg, List.getD_cons_zero, List.getD_cons_succ, gI, getl_osl, getb_bool, Bool.not_true, Bool.not_false, cond_true, cond_false, beq_self_eq_true]
    cases ho : s.one with
    | false => rfl
    | true => simp only [e3, Option.bind_some, fitA_tup, fitA_one, fitA_nil, fitR_cons, fitR_nil, fit_one, fit_agg, okL_cons, okL_nil, ok1_int, ok1_bool, ok1_sl, decide_true, Bool.and_self, gd_true, ti_tup, tl_tup, tb_tup, gett_tup, getc_agg, List.getD_cons_zero, List.getD_cons_succ, gI, getl_osl, getb_bool, Bool.not_true, Bool.not_false, cond_true, cond_false, beq_self_eq_true]; rfl
noncomputable def F_has : Fam Try.prog := { f := 25, ι := List Spn × Spn, pre := fun p => p.1.length ≤ 9223372036854775806, args := fun p => [.osl (prows p.1), p.2.av], res := fun p => .bool (hasP p.1 p.2), ok := fun p h => has_ok p.1 h p.2, inj := fun s t h => by rw [prows_inj (AV.osl.inj (List.cons.inj h).1), av_inj (List.cons.inj (List.cons.inj h).2).1] }

/-! ### SpansTell -/
theorem awake4_from {V : EV} {M : EM} (e1 : V 14 [.osl (prows [⟨1, 3⟩, ⟨5, 7⟩]), (⟨3, 5⟩ : Spn).av] = some (.tup [.osl (prows [⟨1, 7⟩]), .int .i64 0])) (e2 : V 15 [.osl (prows [⟨1, 7⟩]), (⟨2, 4⟩ : Spn).av] = some (.tup [.osl (prows [⟨1, 2⟩, ⟨4, 7⟩]), .int .i64 0]))
    (e3 : V 16 [.osl (prows [⟨1, 7⟩]), .osl (prows [⟨1, 7⟩])] = some (.bool true)) (e4 : V 16 [.osl (prows [⟨1, 2⟩, ⟨4, 7⟩]), .osl (prows [⟨1, 2⟩, ⟨4, 7⟩])] = some (.bool true)) (e5 : V 26 [.osl (prows [⟨1, 2⟩, ⟨4, 7⟩])] = some (.bool true)) :
    (Dawake4 V M).From 0 ⟨[], []⟩ = some (.bool true, []) := by
  refine From.of (awake4_0.trans ?_)
  have e1' : V 14 [AV.osl [AV.agg [AV.int .i64 1, AV.int .i64 3], AV.agg [AV.int .i64 5, AV.int .i64 7]], AV.agg [AV.int .i64 3, AV.int .i64 5]] = _ := e1
  have e2' : V 15 [.osl (prows [⟨1, 7⟩]), AV.agg [AV.int .i64 2, AV.int .i64 4]] = _ := e2
  have e3' : V 16 [.osl (prows [⟨1, 7⟩]), AV.osl [AV.agg [AV.int .i64 1, AV.int .i64 7]]] = _ := e3
  have e4' : V 16 [.osl (prows [⟨1, 2⟩, ⟨4, 7⟩]), AV.osl [AV.agg [AV.int .i64 1, AV.int .i64 2], AV.agg [AV.int .i64 4, AV.int .i64 7]]] = _ := e4
  simp only [e1', e2', e3', e4', e5, Option.bind_some, fitA_tup, fitA_one, fitA_nil, fitR_cons, fitR_nil, fit_one, fit_agg, okL_cons, okL_nil, ok1_int, ok1_bool, ok1_sl, decide_true, Bool.and_self, gd_true, ti_tup, tl_tup, tb_tup, gett_tup, getc_agg, List.getD_cons_zero, List.getD_cons_succ, gI, getl_osl, getb_bool, Bool.not_true, Bool.not_false, cond_true, cond_false, beq_self_eq_true]
theorem awake4_ok : FnOk Try.prog 13 [] (.bool true) := by
  have q1 := envV_at F_add ([⟨1, 3⟩, ⟨5, 7⟩], ⟨3, 5⟩) (by show List.length _ ≤ _; decide) [] [F_cut4, F_r4same, F_may] rfl
  have q2 := envV_at F_cut4 ([⟨1, 7⟩], ⟨2, 4⟩) (by show List.length _ ≤ _; decide) [F_add] [F_r4same, F_may] rfl
  have a1 : addR [⟨1, 3⟩, ⟨5, 7⟩] ⟨3, 5⟩ = [⟨1, 7⟩] ∧ addE [⟨1, 3⟩, ⟨5, 7⟩] ⟨3, 5⟩ = 0 := ⟨by kernel_rfl, by kernel_rfl⟩
  have a2 : cutR [⟨1, 7⟩] ⟨2, 4⟩ = [⟨1, 2⟩, ⟨4, 7⟩] ∧ cutE [⟨1, 7⟩] ⟨2, 4⟩ = 0 := ⟨by kernel_rfl, by kernel_rfl⟩
  have a3 : mayP [⟨1, 2⟩, ⟨4, 7⟩] = true := by kernel_rfl
  refine fn_mk [F_add, F_cut4, F_r4same, F_may] [] (by kernel_rfl) mixed (by kernel_rfl) (awake4_from (q1.trans ?_) (q2.trans ?_) (envV_at F_r4same [⟨1, 7⟩] (by show List.length _ ≤ _; decide) [F_add, F_cut4] _ rfl) (envV_at F_r4same [⟨1, 2⟩, ⟨4, 7⟩] (by show List.length _ ≤ _; decide) [F_add, F_cut4] _ rfl) ((envV_at F_may [⟨1, 2⟩, ⟨4, 7⟩] (by show List.length _ ≤ _; decide) [F_add, F_cut4, F_r4same] [] rfl).trans ?_))
  · show some (AV.tup [.osl (prows (addR _ _)), .int _ (addE _ _)]) = _
    rw [a1.1, a1.2]
  · show some (AV.tup [.osl (prows (cutR _ _)), .int _ (cutE _ _)]) = _
    rw [a2.1, a2.2]
  · show some (AV.bool (mayP _)) = _
    rw [a3]
noncomputable def F_awake4 : Fam Try.prog := { f := 13, ι := Unit, pre := fun _ => True, args := fun _ => [], res := fun _ => .bool true, ok := fun _ _ => awake4_ok, inj := fun s t h => rfl }
theorem addR_len {l : List Spn} (hl : l.length ≤ 1100) (s : Spn) : (addR l s).length ≤ 2000 := by
  have := addL_len l s
  unfold addR; split
  · omega
  · simp
theorem cutR_len {l : List Spn} (hl : l.length ≤ 1100) (s : Spn) : (cutR l s).length ≤ 2000 := by
  unfold cutR
  by_cases h : cutE l s = 0
  · rw [if_pos h]
    unfold cutE at h
    by_cases h2 : mayP l = true ∧ s.one = true
    · have := cutL_len (may_iff.1 h2.1).2 (one_iff.1 h2.2).2.1; omega
    · rw [if_neg h2] at h; cases h
  · rw [if_neg h]; simp
theorem ltell_from {V : EV} {M : EM} (l : List Spn) (s : Spn) (f : Int) (e0 : V 13 [] = some (.bool true))
    (h : l.length ≤ 1100 → V 14 [.osl (prows l), s.av] = some (.tup [.osl (prows (addR l s)), .int .i64 (addE l s)]) ∧ V 36 [.osl (prows l), s.av] = some (.tup [.osl (prows (addR l s)), .int .i64 (addE l s)]) ∧
      V 15 [.osl (prows l), s.av] = some (.tup [.osl (prows (cutR l s)), .int .i64 (cutE l s)]) ∧ V 37 [.osl (prows l), s.av] = some (.tup [.osl (prows (cutR l s)), .int .i64 (cutE l s)]) ∧
      V 16 [.osl (prows (addR l s)), .osl (prows (addR l s))] = some (.bool true) ∧ V 16 [.osl (prows (cutR l s)), .osl (prows (cutR l s))] = some (.bool true) ∧
      V 25 [.osl (prows l), s.av] = some (.bool (hasP l s)) ∧ V 38 [.osl (prows l), s.av] = some (.bool (hasP l s)) ∧ V 39 [.osl (prows l)] = some (.int .i64 (sizeS l)) ∧ V 40 [.osl (prows l)] = some (.int .i64 (sizeS l)) ∧
      V 17 [.osl (prows l), .int .i64 f] = some (.int .i64 (gapP l f)) ∧ V 41 [.osl (prows l), .int .i64 f] = some (.int .i64 (gapP l f)) ∧ V 26 [.osl (prows l)] = some (.bool (mayP l)) ∧ V 42 [.osl (prows l)] = some (.bool (mayP l))) :
    (Dltell V M).From 0 ⟨[.osl (prows l), s.av, .int .i64 f], []⟩ = some (.bool true, []) := by
  refine From.of ((ltell_0 _ _ _ _).trans ?_)
  simp only [e0, prows_length, Option.bind_some, fitA_tup, fitA_one, fitA_nil, fitR_cons, fitR_nil, fit_one, fit_agg, okL_cons, okL_nil, ok1_int, ok1_bool, ok1_sl, decide_true, Bool.and_self, gd_true, ti_tup, tl_tup, tb_tup, gett_tup, getc_agg, List.getD_cons_zero, List.getD_cons_succ, gI, getl_osl, getb_bool, Bool.not_true, Bool.not_false, cond_true, cond_false, beq_self_eq_true]
  by_cases c : l.length ≤ 1100
  · obtain ⟨h1, h2, h3, h4, h5, h6, h7, h8, h9, h10, h11, h12, h13, h14⟩ := h c
    simp only [decide_eq_false (show ¬ (l.length : Int) > 1100 by omega), show V 14 [.osl (prows l), .agg [.int .i64 s.a, .int .i64 s.b]] = _ from h1, show V 36 [.osl (prows l), .agg [.int .i64 s.a, .int .i64 s.b]] = _ from h2,
      show V 15 [.osl (prows l), .agg [.int .i64 s.a, .int .i64 s.b]] = _ from h3, show V 37 [.osl (prows l), .agg [.int .i64 s.a, .int .i64 s.b]] = _ from h4, h5, h6,
      show V 25 [.osl (prows l), .agg [.int .i64 s.a, .int .i64 s.b]] = _ from h7, show V 38 [.osl (prows l), .agg [.int .i64 s.a, .int .i64 s.b]] = _ from h8, h9, h10, h11, h12, h13, h14, Option.bind_some, fitA_tup, fitA_one, fitA_nil, fitR_cons, fitR_nil, fit_one, fit_agg, okL_cons, okL_nil, ok1_int, ok1_bool, ok1_sl, decide_true, Bool.and_self, gd_true, ti_tup, tl_tup, tb_tup, gett_tup, getc_agg, List.getD_cons_zero, List.getD_cons_succ, gI, getl_osl, getb_bool, Bool.not_true, Bool.not_false, cond_true, cond_false, beq_self_eq_true]
  · rw [decide_eq_true (show (l.length : Int) > 1100 by omega)]; rfl
theorem ltell_ok (l : List Spn) (s : Spn) (f : Int) : FnOk Try.prog 11 [.osl (prows l), s.av, .int .i64 f] (.bool true) :=
  fn_mk [F_awake4, F_add, F_cut4, F_r4same, F_gap, F_has, F_may, F_r4add, F_r4cut, F_r4has, F_size, F_r4size, F_r4gap, F_r4may] [] (by kernel_rfl) mixed (by kernel_rfl) (ltell_from l s f (envV_at F_awake4 () trivial [] _ rfl) fun h =>
    ⟨envV_at F_add (l, s) (by show l.length ≤ _; omega) [F_awake4] _ rfl, envV_at F_r4add (l, s) (by show l.length ≤ _; omega) [F_awake4, F_add, F_cut4, F_r4same, F_gap, F_has, F_may] _ rfl, envV_at F_cut4 (l, s) (by show l.length ≤ _; omega) [F_awake4, F_add] _ rfl,
     envV_at F_r4cut (l, s) (by show l.length ≤ _; omega) [F_awake4, F_add, F_cut4, F_r4same, F_gap, F_has, F_may, F_r4add] _ rfl, envV_at F_r4same (addR l s) (by have := addR_len h s; show (addR l s).length ≤ _; omega) [F_awake4, F_add, F_cut4] _ rfl, envV_at F_r4same (cutR l s) (by have := cutR_len h s; show (cutR l s).length ≤ _; omega) [F_awake4, F_add, F_cut4] _ rfl,
     envV_at F_has (l, s) (by show l.length ≤ _; omega) [F_awake4, F_add, F_cut4, F_r4same, F_gap] _ rfl, envV_at F_r4has (l, s) (by show l.length ≤ _; omega) [F_awake4, F_add, F_cut4, F_r4same, F_gap, F_has, F_may, F_r4add, F_r4cut] _ rfl, envV_at F_size l (by show l.length ≤ _; omega) [F_awake4, F_add, F_cut4, F_r4same, F_gap, F_has, F_may, F_r4add, F_r4cut, F_r4has] _ rfl,
     envV_at F_r4size l (by show l.length ≤ _; omega) [F_awake4, F_add, F_cut4, F_r4same, F_gap, F_has, F_may, F_r4add, F_r4cut, F_r4has, F_size] _ rfl, envV_at F_gap (l, f) (by show l.length ≤ _; omega) [F_awake4, F_add, F_cut4, F_r4same] _ rfl, envV_at F_r4gap (l, f) (by show l.length ≤ _; omega) [F_awake4, F_add, F_cut4, F_r4same, F_gap, F_has, F_may, F_r4add, F_r4cut, F_r4has, F_size, F_r4size] _ rfl,
     envV_at F_may l (by show l.length ≤ _; omega) [F_awake4, F_add, F_cut4, F_r4same, F_gap, F_has] _ rfl, envV_at F_r4may l (by show l.length ≤ _; omega) [F_awake4, F_add, F_cut4, F_r4same, F_gap, F_has, F_may, F_r4add, F_r4cut, F_r4has, F_size, F_r4size, F_r4gap] _ rfl⟩)

end Vai.L04
