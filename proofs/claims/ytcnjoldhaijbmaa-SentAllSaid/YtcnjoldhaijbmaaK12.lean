/- Law 12: SentAll, as the runs tell. -/
import Derived.Test.YtcnjoldhaijbmaaJ12
namespace Vai.L12
open Go Go.Proofs Vai Vai.R2 Vai.L04
set_option maxRecDepth 100000
set_option linter.unusedVariables false
set_option linter.unusedSimpArgs false

theorem heard_nl (l : List Snt) (got : Int) (hl : l.length ≤ 140737488355) : Ans cfg 17 [.osl (rows l), .int .i64 got, .nl] (.tup [.osl (rows (heardL l got [])), .osl (rows (heardT l got [])), .int .i64 (heardE l got [])]) :=
  Ans.nrm (heard_ok l got [] hl (by simp)) rfl rfl
theorem heard_one (l : List Snt) (got a b : Int) (hl : l.length ≤ 140737488355) : Ans cfg 17 [.osl (rows l), .int .i64 got, .osl [.agg [.int .i64 a, .int .i64 b]]] (.tup [.osl (rows (heardL l got [⟨a, b⟩])), .osl (rows (heardT l got [⟨a, b⟩])), .int .i64 (heardE l got [⟨a, b⟩])]) :=
  heard_ok l got [⟨a, b⟩] hl (by simp)
theorem all_b_0 (l : List Snt) (i : Nat) (come : Int) (v5 v6 v7 v8 v9 v10 v11 v13 : AV) (hl : l.length ≤ 520) (h0 : (decide ((↑i : Int) < (↑(List.length (rows l)) : Int))) = true) (h1 : (Snt.came (nth l i)) = true) : Goto cfg (lc Try.prog 6 0) [(0, .osl (rows l)), (5, v5), (6, v6), (7, v7), (8, v8), (9, v9), (10, v10), (11, v11), (13, v13), (14, .int .i64 come), (15, .int .i64 i)] [] [] (E.normal) (fun Gs => [(0, AV.osl (rows l)), (5, v5), (6, v6), (7, v7), (8, v8), (9, v9), (10, v10), (11, v11), (13, v13), (14, AV.int IntKind.i64 come), (15, AV.int IntKind.i64 (IntKind.wrap IntKind.i64 ((↑i : Int) + (1 : Int))))]) (fun Gs => []) [] :=
  Goto.of fun σ h g => code_of 5 [Ch.b true, Ch.e (Snt.av (nth l i)), Ch.b false] [] (L := []) (.cons h0 (.cons (by omega : (0 : Int) ≤ (↑i : Int)) (.cons (@Vai.L12.el_s (l) (i) (by (simp only [decide_eq_true_eq, decide_eq_false_iff_not, Vai.L12.rows_len, Vai.L04.prows_len] at *; omega))) (.cons (nb h1) (.nil))))) (by kernel_rfl) (rfl)
theorem all_b_1 (l : List Snt) (i : Nat) (come : Int) (v5 v6 v7 v8 v9 v10 v11 v13 : AV) (hl : l.length ≤ 520) (h0 : (decide ((↑i : Int) < (↑(List.length (rows l)) : Int))) = true) (h1 : (Snt.came (nth l i)) = false) : Goto cfg (lc Try.prog 6 0) [(0, .osl (rows l)), (5, v5), (6, v6), (7, v7), (8, v8), (9, v9), (10, v10), (11, v11), (13, v13), (14, .int .i64 come), (15, .int .i64 i)] [] [] (E.normal) (fun Gs => [(0, AV.osl (rows l)), (5, v5), (6, v6), (7, v7), (8, v8), (9, v9), (10, v10), (11, v11), (13, v13), (14, AV.int IntKind.i64 (IntKind.wrap IntKind.i64 (come + (1 : Int)))), (15, AV.int IntKind.i64 (IntKind.wrap IntKind.i64 ((↑i : Int) + (1 : Int))))]) (fun Gs => []) [] :=
  Goto.of fun σ h g => code_of 5 [Ch.b true, Ch.e (Snt.av (nth l i)), Ch.b true] [] (L := []) (.cons h0 (.cons (by omega : (0 : Int) ≤ (↑i : Int)) (.cons (@Vai.L12.el_s (l) (i) (by (simp only [decide_eq_true_eq, decide_eq_false_iff_not, Vai.L12.rows_len, Vai.L04.prows_len] at *; omega))) (.cons (nb h1) (.nil))))) (by kernel_rfl) (rfl)
theorem all_b_2 (l : List Snt) (i : Nat) (come : Int) (v5 v6 v7 v8 v9 v10 v11 v13 : AV) (hl : l.length ≤ 520) (h0 : (decide ((↑i : Int) < (↑(List.length (rows l)) : Int))) = false) : Goto cfg (lc Try.prog 6 0) [(0, .osl (rows l)), (5, v5), (6, v6), (7, v7), (8, v8), (9, v9), (10, v10), (11, v11), (13, v13), (14, .int .i64 come), (15, .int .i64 i)] [] [] (E.exit (0 : Nat)) (fun Gs => [(0, AV.osl (rows l)), (5, v5), (6, v6), (7, v7), (8, v8), (9, v9), (10, v10), (11, v11), (13, v13), (14, AV.int IntKind.i64 come), (15, AV.int IntKind.i64 (↑i : Int))]) (fun Gs => []) [] :=
  Goto.of fun σ h g => code_of 5 [Ch.b false] [] (L := []) (.cons h0 (.nil)) (by kernel_rfl) (rfl)
theorem all_b_to (l : List Snt) (i : Nat) (come : Int) (v5 v6 v7 v8 v9 v10 v11 v13 : AV) (hl : l.length ≤ 520) {RES : Prop}
    (p0 : ((↑i : Int) < (↑(List.length (rows l)) : Int)) → (Snt.came (nth l i)) = true → (Goto cfg (lc Try.prog 6 0) [(0, .osl (rows l)), (5, v5), (6, v6), (7, v7), (8, v8), (9, v9), (10, v10), (11, v11), (13, v13), (14, .int .i64 come), (15, .int .i64 i)] [] [] (E.normal) (fun Gs => [(0, AV.osl (rows l)), (5, v5), (6, v6), (7, v7), (8, v8), (9, v9), (10, v10), (11, v11), (13, v13), (14, AV.int IntKind.i64 come), (15, AV.int IntKind.i64 (IntKind.wrap IntKind.i64 ((↑i : Int) + (1 : Int))))]) (fun Gs => []) []) → RES)
    (p1 : ((↑i : Int) < (↑(List.length (rows l)) : Int)) → (Snt.came (nth l i)) = false → (Goto cfg (lc Try.prog 6 0) [(0, .osl (rows l)), (5, v5), (6, v6), (7, v7), (8, v8), (9, v9), (10, v10), (11, v11), (13, v13), (14, .int .i64 come), (15, .int .i64 i)] [] [] (E.normal) (fun Gs => [(0, AV.osl (rows l)), (5, v5), (6, v6), (7, v7), (8, v8), (9, v9), (10, v10), (11, v11), (13, v13), (14, AV.int IntKind.i64 (IntKind.wrap IntKind.i64 (come + (1 : Int)))), (15, AV.int IntKind.i64 (IntKind.wrap IntKind.i64 ((↑i : Int) + (1 : Int))))]) (fun Gs => []) []) → RES)
    (p2 : ¬ ((↑i : Int) < (↑(List.length (rows l)) : Int)) → (Goto cfg (lc Try.prog 6 0) [(0, .osl (rows l)), (5, v5), (6, v6), (7, v7), (8, v8), (9, v9), (10, v10), (11, v11), (13, v13), (14, .int .i64 come), (15, .int .i64 i)] [] [] (E.exit (0 : Nat)) (fun Gs => [(0, AV.osl (rows l)), (5, v5), (6, v6), (7, v7), (8, v8), (9, v9), (10, v10), (11, v11), (13, v13), (14, AV.int IntKind.i64 come), (15, AV.int IntKind.i64 (↑i : Int))]) (fun Gs => []) []) → RES) : RES :=
  (Vai.bcases (decide ((↑i : Int) < (↑(List.length (rows l)) : Int))) (fun h0 => (Vai.bcases (Snt.came (nth l i)) (fun h1 => (Vai.regoto (all_b_0 l i come v5 v6 v7 v8 v9 v10 v11 v13 hl h0 h1) (p0 (of_decide_eq_true h0) h1))) (fun h1 => (Vai.regoto (all_b_1 l i come v5 v6 v7 v8 v9 v10 v11 v13 hl h0 h1) (p1 (of_decide_eq_true h0) h1))))) (fun h0 => (Vai.regoto (all_b_2 l i come v5 v6 v7 v8 v9 v10 v11 v13 hl h0) (p2 (of_decide_eq_false h0)))))

theorem allT_0 (l t o : List Snt) (come : Int) (hl : l.length ≤ 520) (ho : o.length ≤ 520) (h0 : ((↑(List.length (rows t)) : Int) == come) = true) (h1 : ((↑(List.length (rows o)) : Int) == (↑(List.length (rows l)) : Int)) = true) : FromL cfg 6 11 [(0, .osl (rows l)), (5, .osl []), (6, .osl (rows t)), (7, .int .i64 0), (8, .osl (rows l)), (9, .osl []), (10, .int .i64 0), (11, .osl (rows o)), (13, .int .i64 0), (14, .int .i64 come)] [] [] (AV.bool (flightS o == (0 : Int))) :=
  FromL.of fun σ h g => from_of 5 [Ch.k, Ch.k, Ch.k, Ch.k, Ch.r (AV.bool true), Ch.b true, Ch.k, Ch.k, Ch.b true, Ch.r (AV.int IntKind.i64 (flightS o))] (.cons (@Vai.L12.same_ok (l) (by omega)) (.cons h0 (.cons h1 (.cons (@Vai.L12.flight_ok (o) (by omega)) (.nil))))) (by kernel_rfl)
theorem allT_1 (l t o : List Snt) (come : Int) (hl : l.length ≤ 520) (ho : o.length ≤ 520) (h0 : ((↑(List.length (rows t)) : Int) == come) = true) (h1 : ((↑(List.length (rows o)) : Int) == (↑(List.length (rows l)) : Int)) = false) : FromL cfg 6 11 [(0, .osl (rows l)), (5, .osl []), (6, .osl (rows t)), (7, .int .i64 0), (8, .osl (rows l)), (9, .osl []), (10, .int .i64 0), (11, .osl (rows o)), (13, .int .i64 0), (14, .int .i64 come)] [] [] (AV.bool false) :=
  FromL.of fun σ h g => from_of 5 [Ch.k, Ch.k, Ch.k, Ch.k, Ch.r (AV.bool true), Ch.b true, Ch.k, Ch.k, Ch.b false] (.cons (@Vai.L12.same_ok (l) (by omega)) (.cons h0 (.cons h1 (.nil)))) (by kernel_rfl)
theorem allT_2 (l t o : List Snt) (come : Int) (hl : l.length ≤ 520) (ho : o.length ≤ 520) (h0 : ((↑(List.length (rows t)) : Int) == come) = false) : FromL cfg 6 11 [(0, .osl (rows l)), (5, .osl []), (6, .osl (rows t)), (7, .int .i64 0), (8, .osl (rows l)), (9, .osl []), (10, .int .i64 0), (11, .osl (rows o)), (13, .int .i64 0), (14, .int .i64 come)] [] [] (AV.bool false) :=
  FromL.of fun σ h g => from_of 5 [Ch.k, Ch.k, Ch.k, Ch.k, Ch.r (AV.bool true), Ch.b false, Ch.k, Ch.k, Ch.k] (.cons (@Vai.L12.same_ok (l) (by omega)) (.cons h0 (.nil))) (by kernel_rfl)
theorem allT_to (l t o : List Snt) (come : Int) (hl : l.length ≤ 520) (ho : o.length ≤ 520) {RES : AV}
    (p0 : ((↑(List.length (rows t)) : Int) = come) → ((↑(List.length (rows o)) : Int) = (↑(List.length (rows l)) : Int)) → (AV.bool (flightS o == (0 : Int))) = RES)
    (p1 : ((↑(List.length (rows t)) : Int) = come) → ¬ ((↑(List.length (rows o)) : Int) = (↑(List.length (rows l)) : Int)) → (AV.bool false) = RES)
    (p2 : ¬ ((↑(List.length (rows t)) : Int) = come) → (AV.bool false) = RES) : FromL cfg 6 11 [(0, .osl (rows l)), (5, .osl []), (6, .osl (rows t)), (7, .int .i64 0), (8, .osl (rows l)), (9, .osl []), (10, .int .i64 0), (11, .osl (rows o)), (13, .int .i64 0), (14, .int .i64 come)] [] [] RES :=
  (Vai.bcases ((↑(List.length (rows t)) : Int) == come) (fun h0 => (Vai.bcases ((↑(List.length (rows o)) : Int) == (↑(List.length (rows l)) : Int)) (fun h1 => ((allT_0 l t o come hl ho h0 h1).to  (p0 (eq_of_beq h0) (eq_of_beq h1)))) (fun h1 => ((allT_1 l t o come hl ho h0 h1).to  (p1 (eq_of_beq h0) (ne_of_beq_false h1)))))) (fun h0 => ((allT_2 l t o come hl ho h0).to  (p2 (ne_of_beq_false h0)))))


def notCame (l : List Snt) : List Snt := l.filter fun x => !x.came
theorem notCame_succ {l : List Snt} {i : Nat} (hi : i < l.length) : ((notCame (l.take (i + 1))).length : Int) = (notCame (l.take i)).length + (if (nth l i).came = true then 0 else 1) := by
  unfold notCame
  rw [take_snoc hi, List.filter_append]
  cases h : (nth l i).came with
  | true => rw [List.filter_cons_of_neg (by simp [h])]; simp
  | false => rw [List.filter_cons_of_pos (by simp [h])]; simp
theorem all_loop (l : List Snt) (v5 v6 v7 v8 v9 v10 v11 v13 : AV) (hl : l.length ≤ 520)
    (ht : FromL cfg 6 11 [(0, .osl (rows l)), (5, v5), (6, v6), (7, v7), (8, v8), (9, v9), (10, v10), (11, v11), (13, v13), (14, .int .i64 ((notCame l).length : Nat))] [] [] (.bool true)) :
    FromL cfg 6 10 [(0, .osl (rows l)), (5, v5), (6, v6), (7, v7), (8, v8), (9, v9), (10, v10), (11, v11), (13, v13), (14, .int .i64 0), (15, .int .i64 0)] [] [] (.bool true) := by
  refine FromL.rounds (α := Nat) (c := lc Try.prog 6 0) (id := 0) (fun i => [(0, .osl (rows l)), (5, v5), (6, v6), (7, v7), (8, v8), (9, v9), (10, v10), (11, v11), (13, v13), (14, .int .i64 ((notCame (l.take i)).length : Nat)), (15, .int .i64 i)]) (fun _ => []) (fun i => i ≤ l.length) (fun i => l.length - i) (by kernel_rfl) (fun i hi => ?_) 0 (by omega)
  have ew : i < l.length → IntKind.wrap IntKind.i64 ((i : Int) + 1) = (i : Int) + 1 := fun h => by rw [IntKind.wrap_i64]; omega
  have hb : (notCame (l.take i)).length ≤ i := by
    unfold notCame
    have := List.length_filter_le (fun x : Snt => !x.came) (l.take i)
    rw [List.length_take] at this; omega
  have ec : i < l.length → IntKind.wrap IntKind.i64 (((notCame (l.take i)).length : Int) + 1) = ((notCame (l.take i)).length : Int) + 1 := fun h => by rw [IntKind.wrap_i64]; omega
  refine all_b_to l i ((notCame (l.take i)).length : Nat) v5 v6 v7 v8 v9 v10 v11 v13 hl (fun h h1 g => ?_) (fun h h1 g => ?_) (fun h g => ?_)
  all_goals rw [rows_len] at h
  · refine .next (fun _ => i + 1) (fun _ => ⟨by omega, by omega⟩) (g.eqs (fun _ => ?_) fun _ => rfl)
    have e := notCame_succ (l := l) (i := i) (by omega)
    rw [h1] at e
    simp [look, ew (by omega), e]
  · refine .next (fun _ => i + 1) (fun _ => ⟨by omega, by omega⟩) (g.eqs (fun _ => ?_) fun _ => rfl)
    have e := notCame_succ (l := l) (i := i) (by omega)
    rw [h1] at e
    simp [look, ew (by omega), ec (by omega), e]
  · have e : l.take i = l := List.take_of_length_le (by omega)
    refine .stop _ _ _ g fun _ => ht.more ?_ rfl
    rw [e]; rfl
theorem all_from (l : List Snt) (hl : l.length ≤ 520) (hm : mayS l = true) (hn : ((rows l).length : Int) ≠ 0) :
    FromL cfg 6 10 [(0, .osl (rows l)), (5, .osl (rows (heardL l (spB l) []))), (6, .osl (rows (heardT l (spB l) []))), (7, .int .i64 (heardE l (spB l) [])), (8, .osl (rows (heardL l (spA l) []))), (9, .osl (rows (heardT l (spA l) []))), (10, .int .i64 (heardE l (spA l) [])), (11, .osl (rows (heardL l (spA l) [⟨spA l, spB l⟩]))), (13, .int .i64 (heardE l (spA l) [⟨spA l, spB l⟩])), (14, .int .i64 0), (15, .int .i64 0)] [] [] (.bool true) := by
  have hne : l ≠ [] := fun h => hn (by rw [h]; rfl)
  obtain ⟨a1, a2, a3, a4, a5, a6, a7, a8, a9⟩ := all_law hm hne
  have e1 : heardL l (spB l) [] = [] := by unfold heardL; rw [if_pos a1, a2]
  have e2 : heardT l (spB l) [] = notCame l := by unfold heardT; rw [if_pos a1, a3]; rfl
  have e3 : heardL l (spA l) [] = l := by unfold heardL; rw [if_pos a4, a6]
  have e4 : heardT l (spA l) [] = [] := by unfold heardT; rw [if_pos a4, a5]
  have e5 : heardL l (spA l) [⟨spA l, spB l⟩] = stayL (spA l) [⟨spA l, spB l⟩] l := if_pos a7
  rw [e1, e2, e3, e4, e5, a1, a4, a7]
  refine all_loop l _ _ _ _ _ _ _ _ hl (allT_to l (notCame l) (stayL (spA l) [⟨spA l, spB l⟩] l) ((notCame l).length : Nat) hl (by omega) (fun _ _ => ?_) (fun _ h => ?_) (fun h => ?_))
  · rw [a9]; rfl
  · rw [rows_len, rows_len, a8] at h; exact absurd rfl h
  · rw [rows_len] at h; exact absurd rfl h
theorem sentAll_0 (l : List Snt) (hl : l.length ≤ 9223372036854775807) (h0 : (decide ((↑(List.length (rows l)) : Int) > (520 : Int))) = true) : Ans cfg 6 [.osl (rows l)] (AV.bool true) :=
  ans_ofL 5 [Ch.r (AV.bool true), Ch.k, Ch.b true, Ch.k, Ch.k] (.cons (@Vai.L12.awake12_ok ) (.cons h0 (.nil))) (by kernel_rfl) (by kernel_rfl)
theorem sentAll_1 (l : List Snt) (hl : l.length ≤ 9223372036854775807) (h0 : (decide ((↑(List.length (rows l)) : Int) > (520 : Int))) = false) (h1 : ((↑(List.length (rows l)) : Int) == (0 : Int)) = true) : Ans cfg 6 [.osl (rows l)] (AV.bool true) :=
  ans_ofL 5 [Ch.r (AV.bool true), Ch.k, Ch.b false, Ch.b true, Ch.k] (.cons (@Vai.L12.awake12_ok ) (.cons h0 (.cons h1 (.nil)))) (by kernel_rfl) (by kernel_rfl)
theorem sentAll_2 (l : List Snt) (hl : l.length ≤ 9223372036854775807) (h0 : (decide ((↑(List.length (rows l)) : Int) > (520 : Int))) = false) (h1 : ((↑(List.length (rows l)) : Int) == (0 : Int)) = false) (h2 : (mayS l) = true) : Ans cfg 6 [.osl (rows l)] (AV.bool true) :=
  ans_ofL 5 [Ch.r (AV.bool true), Ch.k, Ch.b false, Ch.b false, Ch.r (AV.bool (mayS l)), Ch.b false, Ch.r (AV.agg [AV.int IntKind.i64 (spA l), AV.int IntKind.i64 (spB l)]), Ch.n, Ch.n, Ch.r (AV.tup [AV.osl (rows (heardL l (spB l) [])), AV.osl (rows (heardT l (spB l) [])), AV.int IntKind.i64 (heardE l (spB l) [])]), Ch.n, Ch.r (AV.tup [AV.osl (rows (heardL l (spA l) [])), AV.osl (rows (heardT l (spA l) [])), AV.int IntKind.i64 (heardE l (spA l) [])]), Ch.n, Ch.n, Ch.r (AV.tup [AV.osl (rows (heardL l (spA l) [{ a := spA l, b := spB l }])), AV.osl (rows (heardT l (spA l) [{ a := spA l, b := spB l }])), AV.int IntKind.i64 (heardE l (spA l) [{ a := spA l, b := spB l }])]), Ch.x (10 : Nat) [((0 : Nat), AV.osl (rows l)), ((5 : Nat), AV.osl (rows (heardL l (spB l) []))), ((6 : Nat), AV.osl (rows (heardT l (spB l) []))), ((7 : Nat), AV.int IntKind.i64 (heardE l (spB l) [])), ((8 : Nat), AV.osl (rows (heardL l (spA l) []))), ((9 : Nat), AV.osl (rows (heardT l (spA l) []))), ((10 : Nat), AV.int IntKind.i64 (heardE l (spA l) [])), ((11 : Nat), AV.osl (rows (heardL l (spA l) [{ a := spA l, b := spB l }]))), ((13 : Nat), AV.int IntKind.i64 (heardE l (spA l) [{ a := spA l, b := spB l }])), ((14 : Nat), AV.int IntKind.i64 (0 : Int)), ((15 : Nat), AV.int IntKind.i64 (0 : Int))] [] [] (AV.bool true)] (.cons (@Vai.L12.awake12_ok ) (.cons h0 (.cons h1 (.cons (@Vai.L12.mayS_ok (l) (by (simp only [decide_eq_true_eq, decide_eq_false_iff_not, Vai.L12.rows_len, Vai.L04.prows_len] at *; omega))) (.cons (nb h2) (.cons (@Vai.L12.span_ok (l) (by (simp only [decide_eq_true_eq, decide_eq_false_iff_not, Vai.L12.rows_len, Vai.L04.prows_len] at *; omega))) (.cons (@Vai.L12.heard_nl (l) (spB l) (by (simp only [decide_eq_true_eq, decide_eq_false_iff_not, Vai.L12.rows_len, Vai.L04.prows_len] at *; omega))) (.cons (@Vai.L12.heard_nl (l) (spA l) (by (simp only [decide_eq_true_eq, decide_eq_false_iff_not, Vai.L12.rows_len, Vai.L04.prows_len] at *; omega))) (.cons (by decide : (1 : Nat) ≤ (1 : Nat)) (.cons (by (refine all1 ?_ <;> rfl) : (List.all [AV.agg [AV.int IntKind.i64 (spA l), AV.int IntKind.i64 (spB l)]] fun x => AV.free x && decide (List.length (AV.cells x) = (2 : Nat))) = true) (.cons (@Vai.L12.heard_one (l) (spA l) (spA l) (spB l) (by (simp only [decide_eq_true_eq, decide_eq_false_iff_not, Vai.L12.rows_len, Vai.L04.prows_len] at *; omega))) (.cons (Eq.refl (α := List AV) [AV.osl (rows l), AV.osl (rows (heardL l (spB l) [])), AV.osl (rows (heardT l (spB l) [])), AV.int IntKind.i64 (heardE l (spB l) []), AV.osl (rows (heardL l (spA l) [])), AV.osl (rows (heardT l (spA l) [])), AV.int IntKind.i64 (heardE l (spA l) []), AV.osl (rows (heardL l (spA l) [{ a := spA l, b := spB l }])), AV.int IntKind.i64 (heardE l (spA l) [{ a := spA l, b := spB l }]), AV.int IntKind.i64 (0 : Int), AV.int IntKind.i64 (0 : Int)]) (.cons (Eq.refl (α := List (Option Blk)) []) (.cons (Eq.refl (α := List Nat) []) (.cons (@Vai.L12.all_from (l) (by (simp only [decide_eq_true_eq, decide_eq_false_iff_not, Vai.L12.rows_len, Vai.L04.prows_len] at *; omega)) (by assumption) (by ((try simp only [decide_eq_true_eq, decide_eq_false_iff_not, IntKind.wrap_i64, List.length_append, List.length_take, List.length_drop, List.length_replicate, List.length_cons, List.length_nil, List.length_map, List.length_set, Int.toNat_natCast, Bool.and_eq_true, Bool.or_eq_true, Bool.not_eq_true', Bool.not_eq_false', List.nil_append, List.append_nil, beq_iff_eq, beq_eq_false_iff_ne, ne_eq, Vai.L12.rows_len, Vai.L04.prows_len] at *) <;> omega))) (.nil)))))))))))))))) (by kernel_rfl) (by kernel_rfl)
theorem sentAll_3 (l : List Snt) (hl : l.length ≤ 9223372036854775807) (h0 : (decide ((↑(List.length (rows l)) : Int) > (520 : Int))) = false) (h1 : ((↑(List.length (rows l)) : Int) == (0 : Int)) = false) (h2 : (mayS l) = false) : Ans cfg 6 [.osl (rows l)] (AV.bool true) :=
  ans_ofL 5 [Ch.r (AV.bool true), Ch.k, Ch.b false, Ch.b false, Ch.r (AV.bool (mayS l)), Ch.b true] (.cons (@Vai.L12.awake12_ok ) (.cons h0 (.cons h1 (.cons (@Vai.L12.mayS_ok (l) (by (simp only [decide_eq_true_eq, decide_eq_false_iff_not, Vai.L12.rows_len, Vai.L04.prows_len] at *; omega))) (.cons (nb h2) (.nil)))))) (by kernel_rfl) (by kernel_rfl)
theorem sentAll_to (l : List Snt) (hl : l.length ≤ 9223372036854775807) {RES : AV}
    (p0 : ((↑(List.length (rows l)) : Int) > (520 : Int)) → (AV.bool true) = RES)
    (p1 : ¬ ((↑(List.length (rows l)) : Int) > (520 : Int)) → ((↑(List.length (rows l)) : Int) = (0 : Int)) → (AV.bool true) = RES)
    (p2 : ¬ ((↑(List.length (rows l)) : Int) > (520 : Int)) → ¬ ((↑(List.length (rows l)) : Int) = (0 : Int)) → (mayS l) = true → (AV.bool true) = RES)
    (p3 : ¬ ((↑(List.length (rows l)) : Int) > (520 : Int)) → ¬ ((↑(List.length (rows l)) : Int) = (0 : Int)) → (mayS l) = false → (AV.bool true) = RES) : Ans cfg 6 [.osl (rows l)] RES :=
  (Vai.bcases (decide ((↑(List.length (rows l)) : Int) > (520 : Int))) (fun h0 => ((sentAll_0 l hl h0).to rfl (p0 (of_decide_eq_true h0)))) (fun h0 => (Vai.bcases ((↑(List.length (rows l)) : Int) == (0 : Int)) (fun h1 => ((sentAll_1 l hl h0 h1).to rfl (p1 (of_decide_eq_false h0) (eq_of_beq h1)))) (fun h1 => (Vai.bcases (mayS l) (fun h2 => ((sentAll_2 l hl h0 h1 h2).to rfl (p2 (of_decide_eq_false h0) (ne_of_beq_false h1) h2))) (fun h2 => ((sentAll_3 l hl h0 h1 h2).to rfl (p3 (of_decide_eq_false h0) (ne_of_beq_false h1) h2))))))))


theorem sentAll_all (l : List Snt) (hl : l.length ≤ 9223372036854775807) : Ans cfg 6 [.osl (rows l)] (.bool true) :=
  sentAll_to l hl (fun _ => rfl) (fun _ _ => rfl) (fun _ _ _ => rfl) (fun _ _ _ => rfl)
end Vai.L12
