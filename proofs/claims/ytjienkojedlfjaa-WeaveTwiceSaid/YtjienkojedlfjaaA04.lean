/- Spans: May, Gap, Has, Size, each by its runs. -/
import Derived.Test.YtjienkojedlfjaaS04
import Derived.Test.YtjienkojedlfjaaB
namespace Vai.L04
open Go Go.Proofs Vai Vai.R3
set_option maxRecDepth 100000
set_option linter.unusedVariables false
set_option linter.unusedSimpArgs false

theorem pone_0 (a b : Int) (h0 : (decide (a ≥ (0 : Int))) = true) (h1 : (decide (a < b)) = true) : Ans cfg 90 [.agg [.int .i64 a, .int .i64 b]] (AV.bool (decide (b ≤ (4611686018427387904 : Int)))) :=
  ans_of 5 [Ch.n, Ch.b true, Ch.n, Ch.n, Ch.b true, Ch.n] (.cons h0 (.cons h1 (.nil))) (by kernel_rfl)
theorem pone_1 (a b : Int) (h0 : (decide (a ≥ (0 : Int))) = true) (h1 : (decide (a < b)) = false) : Ans cfg 90 [.agg [.int .i64 a, .int .i64 b]] (AV.bool false) :=
  ans_of 5 [Ch.n, Ch.b true, Ch.n, Ch.n, Ch.b false] (.cons h0 (.cons h1 (.nil))) (by kernel_rfl)
theorem pone_2 (a b : Int) (h0 : (decide (a ≥ (0 : Int))) = false) : Ans cfg 90 [.agg [.int .i64 a, .int .i64 b]] (AV.bool false) :=
  ans_of 5 [Ch.n, Ch.b false, Ch.k] (.cons h0 (.nil)) (by kernel_rfl)
theorem pone_to (a b : Int) {RES : AV}
    (p0 : (a ≥ (0 : Int)) → (a < b) → (AV.bool (decide (b ≤ (4611686018427387904 : Int)))) = RES)
    (p1 : (a ≥ (0 : Int)) → ¬ (a < b) → (AV.bool false) = RES)
    (p2 : ¬ (a ≥ (0 : Int)) → (AV.bool false) = RES) : Ans cfg 90 [.agg [.int .i64 a, .int .i64 b]] RES :=
  (Vai.bcases (decide (a ≥ (0 : Int))) (fun h0 => (Vai.bcases (decide (a < b)) (fun h1 => ((pone_0 a b h0 h1).to rfl (p0 (of_decide_eq_true h0) (of_decide_eq_true h1)))) (fun h1 => ((pone_1 a b h0 h1).to rfl (p1 (of_decide_eq_true h0) (of_decide_eq_false h1)))))) (fun h0 => ((pone_2 a b h0).to rfl (p2 (of_decide_eq_false h0)))))


abbrev oneP (a b : Int) : Bool := Spn.one ⟨a, b⟩
theorem pone_ok (a b : Int) : Ans cfg 90 [.agg [.int .i64 a, .int .i64 b]] (.bool (oneP a b)) := by
  refine pone_to a b ?_ ?_ ?_
  all_goals intros
  all_goals
    congr 1
    symm
    unfold oneP Spn.one
    try simp only [decide_eq_true_eq, decide_eq_false_iff_not, decide_eq_decide] at *
    try omega
theorem pmay_b_0 (l : List Spn) (i : Nat) (last : Int) (hl : l.length ≤ 9223372036854775807) (h0 : (decide ((↑i : Int) < (↑(List.length l) : Int))) = true) (h1 : (oneP (Spn.a (pth l i)) (Spn.b (pth l i))) = true) (h2 : (decide (Spn.a (pth l i) ≤ last)) = true) : Goto cfg (lc Try.prog 57 0) [(0, .osl (prows l)), (3, .int .i64 last), (6, .osl (prows l)), (7, .int .i64 l.length), (8, .int .i64 i)] [] [] (E.ret) (fun Gs => [(0, AV.osl (prows l)), (2, AV.bool false), (3, AV.int IntKind.i64 last), (6, AV.osl (prows l)), (7, AV.int IntKind.i64 (↑(List.length l) : Int)), (8, AV.int IntKind.i64 (↑i : Int))]) (fun Gs => []) [] :=
  Goto.of fun σ h g => code_of 5 [Ch.b true, Ch.e (Spn.av (pth l i)), Ch.m { es := [AV.agg [AV.int IntKind.i64 (0 : Int), AV.int IntKind.i64 (0 : Int)]], fr := false }, Ch.n, Ch.m { es := [AV.agg [AV.int IntKind.i64 (Spn.a (pth l i)), AV.int IntKind.i64 (Spn.b (pth l i))]], fr := false }, Ch.n, Ch.r (AV.bool (oneP (Spn.a (pth l i)) (Spn.b (pth l i)))), Ch.b false, Ch.m { es := [AV.agg [AV.int IntKind.i64 (Spn.a (pth l i)), AV.int IntKind.i64 (Spn.b (pth l i))]], fr := false }, Ch.n, Ch.b true] [] (L := []) (.cons h0 (.cons (by omega : (0 : Int) ≤ (↑i : Int)) (.cons (@Vai.L04.el_p (l) (i) (by (simp only [decide_eq_true_eq, decide_eq_false_iff_not, Vai.L04.prows_len] at *; omega))) (.cons (by simp : (if (5 : Nat) = (5 : Nat) ∧ g (5 : Nat) = g (5 : Nat) then some { es := [AV.agg [AV.int IntKind.i64 (0 : Int), AV.int IntKind.i64 (0 : Int)]], fr := false } else h (5 : Nat) (g (5 : Nat))) = some ({ es := [AV.agg [AV.int IntKind.i64 (0 : Int), AV.int IntKind.i64 (0 : Int)]], fr := false })) (.cons (by simp : (if (5 : Nat) = (5 : Nat) ∧ g (5 : Nat) = g (5 : Nat) then some { es := [AV.agg [AV.int IntKind.i64 (Spn.a (pth l i)), AV.int IntKind.i64 (Spn.b (pth l i))]], fr := false } else if (5 : Nat) = (5 : Nat) ∧ g (5 : Nat) = g (5 : Nat) then some { es := [AV.agg [AV.int IntKind.i64 (0 : Int), AV.int IntKind.i64 (0 : Int)]], fr := false } else h (5 : Nat) (g (5 : Nat))) = some ({ es := [AV.agg [AV.int IntKind.i64 (Spn.a (pth l i)), AV.int IntKind.i64 (Spn.b (pth l i))]], fr := false })) (.cons (@Vai.L04.pone_ok (Spn.a (pth l i)) (Spn.b (pth l i))) (.cons (nb h1) (.cons (by simp : (match if (5 : Nat) = (5 : Nat) ∧ g (5 : Nat) = g (5 : Nat) then some { es := [AV.agg [AV.int IntKind.i64 (Spn.a (pth l i)), AV.int IntKind.i64 (Spn.b (pth l i))]], fr := false } else if (5 : Nat) = (5 : Nat) ∧ g (5 : Nat) = g (5 : Nat) then some { es := [AV.agg [AV.int IntKind.i64 (0 : Int), AV.int IntKind.i64 (0 : Int)]], fr := false } else h (5 : Nat) (g (5 : Nat)) with | some x => some x | none => none) = some ({ es := [AV.agg [AV.int IntKind.i64 (Spn.a (pth l i)), AV.int IntKind.i64 (Spn.b (pth l i))]], fr := false })) (.cons h2 (.nil)))))))))) (by kernel_rfl) (rfl)
theorem pmay_b_1 (l : List Spn) (i : Nat) (last : Int) (hl : l.length ≤ 9223372036854775807) (h0 : (decide ((↑i : Int) < (↑(List.length l) : Int))) = true) (h1 : (oneP (Spn.a (pth l i)) (Spn.b (pth l i))) = true) (h2 : (decide (Spn.a (pth l i) ≤ last)) = false) : Goto cfg (lc Try.prog 57 0) [(0, .osl (prows l)), (3, .int .i64 last), (6, .osl (prows l)), (7, .int .i64 l.length), (8, .int .i64 i)] [] [] (E.normal) (fun Gs => [(0, AV.osl (prows l)), (3, AV.int IntKind.i64 (Spn.b (pth l i))), (6, AV.osl (prows l)), (7, AV.int IntKind.i64 (↑(List.length l) : Int)), (8, AV.int IntKind.i64 (IntKind.wrap IntKind.i64 ((↑i : Int) + (1 : Int))))]) (fun Gs => []) [] :=
  Goto.of fun σ h g => code_of 5 [Ch.b true, Ch.e (Spn.av (pth l i)), Ch.m { es := [AV.agg [AV.int IntKind.i64 (0 : Int), AV.int IntKind.i64 (0 : Int)]], fr := false }, Ch.n, Ch.m { es := [AV.agg [AV.int IntKind.i64 (Spn.a (pth l i)), AV.int IntKind.i64 (Spn.b (pth l i))]], fr := false }, Ch.n, Ch.r (AV.bool (oneP (Spn.a (pth l i)) (Spn.b (pth l i)))), Ch.b false, Ch.m { es := [AV.agg [AV.int IntKind.i64 (Spn.a (pth l i)), AV.int IntKind.i64 (Spn.b (pth l i))]], fr := false }, Ch.n, Ch.b false, Ch.m { es := [AV.agg [AV.int IntKind.i64 (Spn.a (pth l i)), AV.int IntKind.i64 (Spn.b (pth l i))]], fr := false }, Ch.n] [] (L := []) (.cons h0 (.cons (by omega : (0 : Int) ≤ (↑i : Int)) (.cons (@Vai.L04.el_p (l) (i) (by (simp only [decide_eq_true_eq, decide_eq_false_iff_not, Vai.L04.prows_len] at *; omega))) (.cons (by simp : (if (5 : Nat) = (5 : Nat) ∧ g (5 : Nat) = g (5 : Nat) then some { es := [AV.agg [AV.int IntKind.i64 (0 : Int), AV.int IntKind.i64 (0 : Int)]], fr := false } else h (5 : Nat) (g (5 : Nat))) = some ({ es := [AV.agg [AV.int IntKind.i64 (0 : Int), AV.int IntKind.i64 (0 : Int)]], fr := false })) (.cons (by simp : (if (5 : Nat) = (5 : Nat) ∧ g (5 : Nat) = g (5 : Nat) then some { es := [AV.agg [AV.int IntKind.i64 (Spn.a (pth l i)), AV.int IntKind.i64 (Spn.b (pth l i))]], fr := false } else if (5 : Nat) = (5 : Nat) ∧ g (5 : Nat) = g (5 : Nat) then some { es := [AV.agg [AV.int IntKind.i64 (0 : Int), AV.int IntKind.i64 (0 : Int)]], fr := false } else h (5 : Nat) (g (5 : Nat))) = some ({ es := [AV.agg [AV.int IntKind.i64 (Spn.a (pth l i)), AV.int IntKind.i64 (Spn.b (pth l i))]], fr := false })) (.cons (@Vai.L04.pone_ok (Spn.a (pth l i)) (Spn.b (pth l i))) (.cons (nb h1) (.cons (by simp : (match if (5 : Nat) = (5 : Nat) ∧ g (5 : Nat) = g (5 : Nat) then some { es := [AV.agg [AV.int IntKind.i64 (Spn.a (pth l i)), AV.int IntKind.i64 (Spn.b (pth l i))]], fr := false } else if (5 : Nat) = (5 : Nat) ∧ g (5 : Nat) = g (5 : Nat) then some { es := [AV.agg [AV.int IntKind.i64 (0 : Int), AV.int IntKind.i64 (0 : Int)]], fr := false } else h (5 : Nat) (g (5 : Nat)) with | some x => some x | none => none) = some ({ es := [AV.agg [AV.int IntKind.i64 (Spn.a (pth l i)), AV.int IntKind.i64 (Spn.b (pth l i))]], fr := false })) (.cons h2 (.cons (by simp : (match if (5 : Nat) = (5 : Nat) ∧ g (5 : Nat) = g (5 : Nat) then some { es := [AV.agg [AV.int IntKind.i64 (Spn.a (pth l i)), AV.int IntKind.i64 (Spn.b (pth l i))]], fr := false } else if (5 : Nat) = (5 : Nat) ∧ g (5 : Nat) = g (5 : Nat) then some { es := [AV.agg [AV.int IntKind.i64 (0 : Int), AV.int IntKind.i64 (0 : Int)]], fr := false } else h (5 : Nat) (g (5 : Nat)) with | some x => some x | none => none) = some ({ es := [AV.agg [AV.int IntKind.i64 (Spn.a (pth l i)), AV.int IntKind.i64 (Spn.b (pth l i))]], fr := false })) (.nil))))))))))) (by kernel_rfl) (rfl)
theorem pmay_b_2 (l : List Spn) (i : Nat) (last : Int) (hl : l.length ≤ 9223372036854775807) (h0 : (decide ((↑i : Int) < (↑(List.length l) : Int))) = true) (h1 : (oneP (Spn.a (pth l i)) (Spn.b (pth l i))) = false) : Goto cfg (lc Try.prog 57 0) [(0, .osl (prows l)), (3, .int .i64 last), (6, .osl (prows l)), (7, .int .i64 l.length), (8, .int .i64 i)] [] [] (E.ret) (fun Gs => [(0, AV.osl (prows l)), (2, AV.bool false), (3, AV.int IntKind.i64 last), (6, AV.osl (prows l)), (7, AV.int IntKind.i64 (↑(List.length l) : Int)), (8, AV.int IntKind.i64 (↑i : Int))]) (fun Gs => []) [] :=
  Goto.of fun σ h g => code_of 5 [Ch.b true, Ch.e (Spn.av (pth l i)), Ch.m { es := [AV.agg [AV.int IntKind.i64 (0 : Int), AV.int IntKind.i64 (0 : Int)]], fr := false }, Ch.n, Ch.m { es := [AV.agg [AV.int IntKind.i64 (Spn.a (pth l i)), AV.int IntKind.i64 (Spn.b (pth l i))]], fr := false }, Ch.n, Ch.r (AV.bool (oneP (Spn.a (pth l i)) (Spn.b (pth l i)))), Ch.b true, Ch.k] [] (L := []) (.cons h0 (.cons (by omega : (0 : Int) ≤ (↑i : Int)) (.cons (@Vai.L04.el_p (l) (i) (by (simp only [decide_eq_true_eq, decide_eq_false_iff_not, Vai.L04.prows_len] at *; omega))) (.cons (by simp : (if (5 : Nat) = (5 : Nat) ∧ g (5 : Nat) = g (5 : Nat) then some { es := [AV.agg [AV.int IntKind.i64 (0 : Int), AV.int IntKind.i64 (0 : Int)]], fr := false } else h (5 : Nat) (g (5 : Nat))) = some ({ es := [AV.agg [AV.int IntKind.i64 (0 : Int), AV.int IntKind.i64 (0 : Int)]], fr := false })) (.cons (by simp : (if (5 : Nat) = (5 : Nat) ∧ g (5 : Nat) = g (5 : Nat) then some { es := [AV.agg [AV.int IntKind.i64 (Spn.a (pth l i)), AV.int IntKind.i64 (Spn.b (pth l i))]], fr := false } else if (5 : Nat) = (5 : Nat) ∧ g (5 : Nat) = g (5 : Nat) then some { es := [AV.agg [AV.int IntKind.i64 (0 : Int), AV.int IntKind.i64 (0 : Int)]], fr := false } else h (5 : Nat) (g (5 : Nat))) = some ({ es := [AV.agg [AV.int IntKind.i64 (Spn.a (pth l i)), AV.int IntKind.i64 (Spn.b (pth l i))]], fr := false })) (.cons (@Vai.L04.pone_ok (Spn.a (pth l i)) (Spn.b (pth l i))) (.cons (nb h1) (.nil)))))))) (by kernel_rfl) (rfl)
theorem pmay_b_3 (l : List Spn) (i : Nat) (last : Int) (hl : l.length ≤ 9223372036854775807) (h0 : (decide ((↑i : Int) < (↑(List.length l) : Int))) = false) : Goto cfg (lc Try.prog 57 0) [(0, .osl (prows l)), (3, .int .i64 last), (6, .osl (prows l)), (7, .int .i64 l.length), (8, .int .i64 i)] [] [] (E.exit (0 : Nat)) (fun Gs => [(0, AV.osl (prows l)), (3, AV.int IntKind.i64 last), (6, AV.osl (prows l)), (7, AV.int IntKind.i64 (↑(List.length l) : Int)), (8, AV.int IntKind.i64 (↑i : Int))]) (fun Gs => []) [] :=
  Goto.of fun σ h g => code_of 5 [Ch.b false] [] (L := []) (.cons h0 (.nil)) (by kernel_rfl) (rfl)
theorem pmay_b_to (l : List Spn) (i : Nat) (last : Int) (hl : l.length ≤ 9223372036854775807) {RES : Prop}
    (p0 : ((↑i : Int) < (↑(List.length l) : Int)) → (oneP (Spn.a (pth l i)) (Spn.b (pth l i))) = true → (Spn.a (pth l i) ≤ last) → (Goto cfg (lc Try.prog 57 0) [(0, .osl (prows l)), (3, .int .i64 last), (6, .osl (prows l)), (7, .int .i64 l.length), (8, .int .i64 i)] [] [] (E.ret) (fun Gs => [(0, AV.osl (prows l)), (2, AV.bool false), (3, AV.int IntKind.i64 last), (6, AV.osl (prows l)), (7, AV.int IntKind.i64 (↑(List.length l) : Int)), (8, AV.int IntKind.i64 (↑i : Int))]) (fun Gs => []) []) → RES)
    (p1 : ((↑i : Int) < (↑(List.length l) : Int)) → (oneP (Spn.a (pth l i)) (Spn.b (pth l i))) = true → ¬ (Spn.a (pth l i) ≤ last) → (Goto cfg (lc Try.prog 57 0) [(0, .osl (prows l)), (3, .int .i64 last), (6, .osl (prows l)), (7, .int .i64 l.length), (8, .int .i64 i)] [] [] (E.normal) (fun Gs => [(0, AV.osl (prows l)), (3, AV.int IntKind.i64 (Spn.b (pth l i))), (6, AV.osl (prows l)), (7, AV.int IntKind.i64 (↑(List.length l) : Int)), (8, AV.int IntKind.i64 (IntKind.wrap IntKind.i64 ((↑i : Int) + (1 : Int))))]) (fun Gs => []) []) → RES)
    (p2 : ((↑i : Int) < (↑(List.length l) : Int)) → (oneP (Spn.a (pth l i)) (Spn.b (pth l i))) = false → (Goto cfg (lc Try.prog 57 0) [(0, .osl (prows l)), (3, .int .i64 last), (6, .osl (prows l)), (7, .int .i64 l.length), (8, .int .i64 i)] [] [] (E.ret) (fun Gs => [(0, AV.osl (prows l)), (2, AV.bool false), (3, AV.int IntKind.i64 last), (6, AV.osl (prows l)), (7, AV.int IntKind.i64 (↑(List.length l) : Int)), (8, AV.int IntKind.i64 (↑i : Int))]) (fun Gs => []) []) → RES)
    (p3 : ¬ ((↑i : Int) < (↑(List.length l) : Int)) → (Goto cfg (lc Try.prog 57 0) [(0, .osl (prows l)), (3, .int .i64 last), (6, .osl (prows l)), (7, .int .i64 l.length), (8, .int .i64 i)] [] [] (E.exit (0 : Nat)) (fun Gs => [(0, AV.osl (prows l)), (3, AV.int IntKind.i64 last), (6, AV.osl (prows l)), (7, AV.int IntKind.i64 (↑(List.length l) : Int)), (8, AV.int IntKind.i64 (↑i : Int))]) (fun Gs => []) []) → RES) : RES :=
  (Vai.bcases (decide ((↑i : Int) < (↑(List.length l) : Int))) (fun h0 => (Vai.bcases (oneP (Spn.a (pth l i)) (Spn.b (pth l i))) (fun h1 => (Vai.bcases (decide (Spn.a (pth l i) ≤ last)) (fun h2 => (Vai.regoto (pmay_b_0 l i last hl h0 h1 h2) (p0 (of_decide_eq_true h0) h1 (of_decide_eq_true h2)))) (fun h2 => (Vai.regoto (pmay_b_1 l i last hl h0 h1 h2) (p1 (of_decide_eq_true h0) h1 (of_decide_eq_false h2)))))) (fun h1 => (Vai.regoto (pmay_b_2 l i last hl h0 h1) (p2 (of_decide_eq_true h0) h1))))) (fun h0 => (Vai.regoto (pmay_b_3 l i last hl h0) (p3 (of_decide_eq_false h0)))))

theorem pmayT_0 (l : List Spn) (hl : l.length ≤ 9223372036854775807) : FromL cfg 57 4 [(0, .osl (prows l))] [] [] (AV.bool (decide ((↑(List.length l) : Int) ≤ (1000 : Int)))) :=
  (FromL.of fun σ h g => from_of (r := AV.bool (decide ((↑(List.length (prows l)) : Int) ≤ (1000 : Int)))) 5 [] (.nil) (by kernel_rfl)).to  (by simp only [List.take_length, Nat.zero_add, Nat.add_zero, List.drop_zero, List.nil_append, List.append_nil, List.length_append, List.length_take, List.length_drop, Nat.min_self, Nat.sub_zero, Int.sub_zero, Int.zero_add, Int.add_zero, Vai.L04.prows_len])
theorem pmayT_to (l : List Spn) (hl : l.length ≤ 9223372036854775807) {RES : AV}
    (p0 : (AV.bool (decide ((↑(List.length l) : Int) ≤ (1000 : Int)))) = RES) : FromL cfg 57 4 [(0, .osl (prows l))] [] [] RES :=
  ((pmayT_0 l hl).to  (p0))

theorem pgap_b_0 (l : List Spn) (i : Nat) (fr : Int) (hl : l.length ≤ 9223372036854775807) (h0 : (decide ((↑i : Int) < (↑(List.length l) : Int))) = true) (h1 : (decide (Spn.a (pth l i) ≤ fr)) = true) (h2 : (decide (fr < Spn.b (pth l i))) = true) : Goto cfg (lc Try.prog 59 0) [(1, .int .i64 fr), (12, .osl (prows l)), (13, .int .i64 l.length), (14, .int .i64 i)] [] [] (E.normal) (fun Gs => [(1, AV.int IntKind.i64 (Spn.b (pth l i))), (12, AV.osl (prows l)), (13, AV.int IntKind.i64 (↑(List.length l) : Int)), (14, AV.int IntKind.i64 (IntKind.wrap IntKind.i64 ((↑i : Int) + (1 : Int))))]) (fun Gs => []) [] :=
  Goto.of fun σ h g => code_of 5 [Ch.b true, Ch.e (Spn.av (pth l i)), Ch.m { es := [AV.agg [AV.int IntKind.i64 (0 : Int), AV.int IntKind.i64 (0 : Int)]], fr := false }, Ch.n, Ch.m { es := [AV.agg [AV.int IntKind.i64 (Spn.a (pth l i)), AV.int IntKind.i64 (Spn.b (pth l i))]], fr := false }, Ch.n, Ch.b true, Ch.m { es := [AV.agg [AV.int IntKind.i64 (Spn.a (pth l i)), AV.int IntKind.i64 (Spn.b (pth l i))]], fr := false }, Ch.n, Ch.b true, Ch.m { es := [AV.agg [AV.int IntKind.i64 (Spn.a (pth l i)), AV.int IntKind.i64 (Spn.b (pth l i))]], fr := false }, Ch.n] [] (L := []) (.cons h0 (.cons (by omega : (0 : Int) ≤ (↑i : Int)) (.cons (@Vai.L04.el_p (l) (i) (by (simp only [decide_eq_true_eq, decide_eq_false_iff_not, Vai.L04.prows_len] at *; omega))) (.cons (by simp : (if (6 : Nat) = (6 : Nat) ∧ g (6 : Nat) = g (6 : Nat) then some { es := [AV.agg [AV.int IntKind.i64 (0 : Int), AV.int IntKind.i64 (0 : Int)]], fr := false } else h (6 : Nat) (g (6 : Nat))) = some ({ es := [AV.agg [AV.int IntKind.i64 (0 : Int), AV.int IntKind.i64 (0 : Int)]], fr := false })) (.cons (by simp : (if (6 : Nat) = (6 : Nat) ∧ g (6 : Nat) = g (6 : Nat) then some { es := [AV.agg [AV.int IntKind.i64 (Spn.a (pth l i)), AV.int IntKind.i64 (Spn.b (pth l i))]], fr := false } else if (6 : Nat) = (6 : Nat) ∧ g (6 : Nat) = g (6 : Nat) then some { es := [AV.agg [AV.int IntKind.i64 (0 : Int), AV.int IntKind.i64 (0 : Int)]], fr := false } else h (6 : Nat) (g (6 : Nat))) = some ({ es := [AV.agg [AV.int IntKind.i64 (Spn.a (pth l i)), AV.int IntKind.i64 (Spn.b (pth l i))]], fr := false })) (.cons h1 (.cons (by simp : (if (6 : Nat) = (6 : Nat) ∧ g (6 : Nat) = g (6 : Nat) then some { es := [AV.agg [AV.int IntKind.i64 (Spn.a (pth l i)), AV.int IntKind.i64 (Spn.b (pth l i))]], fr := false } else if (6 : Nat) = (6 : Nat) ∧ g (6 : Nat) = g (6 : Nat) then some { es := [AV.agg [AV.int IntKind.i64 (0 : Int), AV.int IntKind.i64 (0 : Int)]], fr := false } else h (6 : Nat) (g (6 : Nat))) = some ({ es := [AV.agg [AV.int IntKind.i64 (Spn.a (pth l i)), AV.int IntKind.i64 (Spn.b (pth l i))]], fr := false })) (.cons h2 (.cons (by simp : (if (6 : Nat) = (6 : Nat) ∧ g (6 : Nat) = g (6 : Nat) then some { es := [AV.agg [AV.int IntKind.i64 (Spn.a (pth l i)), AV.int IntKind.i64 (Spn.b (pth l i))]], fr := false } else if (6 : Nat) = (6 : Nat) ∧ g (6 : Nat) = g (6 : Nat) then some { es := [AV.agg [AV.int IntKind.i64 (0 : Int), AV.int IntKind.i64 (0 : Int)]], fr := false } else h (6 : Nat) (g (6 : Nat))) = some ({ es := [AV.agg [AV.int IntKind.i64 (Spn.a (pth l i)), AV.int IntKind.i64 (Spn.b (pth l i))]], fr := false })) (.nil)))))))))) (by kernel_rfl) (rfl)
theorem pgap_b_1 (l : List Spn) (i : Nat) (fr : Int) (hl : l.length ≤ 9223372036854775807) (h0 : (decide ((↑i : Int) < (↑(List.length l) : Int))) = true) (h1 : (decide (Spn.a (pth l i) ≤ fr)) = true) (h2 : (decide (fr < Spn.b (pth l i))) = false) : Goto cfg (lc Try.prog 59 0) [(1, .int .i64 fr), (12, .osl (prows l)), (13, .int .i64 l.length), (14, .int .i64 i)] [] [] (E.normal) (fun Gs => [(1, AV.int IntKind.i64 fr), (12, AV.osl (prows l)), (13, AV.int IntKind.i64 (↑(List.length l) : Int)), (14, AV.int IntKind.i64 (IntKind.wrap IntKind.i64 ((↑i : Int) + (1 : Int))))]) (fun Gs => []) [] :=
  Goto.of fun σ h g => code_of 5 [Ch.b true, Ch.e (Spn.av (pth l i)), Ch.m { es := [AV.agg [AV.int IntKind.i64 (0 : Int), AV.int IntKind.i64 (0 : Int)]], fr := false }, Ch.n, Ch.m { es := [AV.agg [AV.int IntKind.i64 (Spn.a (pth l i)), AV.int IntKind.i64 (Spn.b (pth l i))]], fr := false }, Ch.n, Ch.b true, Ch.m { es := [AV.agg [AV.int IntKind.i64 (Spn.a (pth l i)), AV.int IntKind.i64 (Spn.b (pth l i))]], fr := false }, Ch.n, Ch.b false] [] (L := []) (.cons h0 (.cons (by omega : (0 : Int) ≤ (↑i : Int)) (.cons (@Vai.L04.el_p (l) (i) (by (simp only [decide_eq_true_eq, decide_eq_false_iff_not, Vai.L04.prows_len] at *; omega))) (.cons (by simp : (if (6 : Nat) = (6 : Nat) ∧ g (6 : Nat) = g (6 : Nat) then some { es := [AV.agg [AV.int IntKind.i64 (0 : Int), AV.int IntKind.i64 (0 : Int)]], fr := false } else h (6 : Nat) (g (6 : Nat))) = some ({ es := [AV.agg [AV.int IntKind.i64 (0 : Int), AV.int IntKind.i64 (0 : Int)]], fr := false })) (.cons (by simp : (if (6 : Nat) = (6 : Nat) ∧ g (6 : Nat) = g (6 : Nat) then some { es := [AV.agg [AV.int IntKind.i64 (Spn.a (pth l i)), AV.int IntKind.i64 (Spn.b (pth l i))]], fr := false } else if (6 : Nat) = (6 : Nat) ∧ g (6 : Nat) = g (6 : Nat) then some { es := [AV.agg [AV.int IntKind.i64 (0 : Int), AV.int IntKind.i64 (0 : Int)]], fr := false } else h (6 : Nat) (g (6 : Nat))) = some ({ es := [AV.agg [AV.int IntKind.i64 (Spn.a (pth l i)), AV.int IntKind.i64 (Spn.b (pth l i))]], fr := false })) (.cons h1 (.cons (by simp : (if (6 : Nat) = (6 : Nat) ∧ g (6 : Nat) = g (6 : Nat) then some { es := [AV.agg [AV.int IntKind.i64 (Spn.a (pth l i)), AV.int IntKind.i64 (Spn.b (pth l i))]], fr := false } else if (6 : Nat) = (6 : Nat) ∧ g (6 : Nat) = g (6 : Nat) then some { es := [AV.agg [AV.int IntKind.i64 (0 : Int), AV.int IntKind.i64 (0 : Int)]], fr := false } else h (6 : Nat) (g (6 : Nat))) = some ({ es := [AV.agg [AV.int IntKind.i64 (Spn.a (pth l i)), AV.int IntKind.i64 (Spn.b (pth l i))]], fr := false })) (.cons h2 (.nil))))))))) (by kernel_rfl) (rfl)
theorem pgap_b_2 (l : List Spn) (i : Nat) (fr : Int) (hl : l.length ≤ 9223372036854775807) (h0 : (decide ((↑i : Int) < (↑(List.length l) : Int))) = true) (h1 : (decide (Spn.a (pth l i) ≤ fr)) = false) : Goto cfg (lc Try.prog 59 0) [(1, .int .i64 fr), (12, .osl (prows l)), (13, .int .i64 l.length), (14, .int .i64 i)] [] [] (E.normal) (fun Gs => [(1, AV.int IntKind.i64 fr), (12, AV.osl (prows l)), (13, AV.int IntKind.i64 (↑(List.length l) : Int)), (14, AV.int IntKind.i64 (IntKind.wrap IntKind.i64 ((↑i : Int) + (1 : Int))))]) (fun Gs => []) [] :=
  Goto.of fun σ h g => code_of 5 [Ch.b true, Ch.e (Spn.av (pth l i)), Ch.m { es := [AV.agg [AV.int IntKind.i64 (0 : Int), AV.int IntKind.i64 (0 : Int)]], fr := false }, Ch.n, Ch.m { es := [AV.agg [AV.int IntKind.i64 (Spn.a (pth l i)), AV.int IntKind.i64 (Spn.b (pth l i))]], fr := false }, Ch.n, Ch.b false, Ch.k] [] (L := []) (.cons h0 (.cons (by omega : (0 : Int) ≤ (↑i : Int)) (.cons (@Vai.L04.el_p (l) (i) (by (simp only [decide_eq_true_eq, decide_eq_false_iff_not, Vai.L04.prows_len] at *; omega))) (.cons (by simp : (if (6 : Nat) = (6 : Nat) ∧ g (6 : Nat) = g (6 : Nat) then some { es := [AV.agg [AV.int IntKind.i64 (0 : Int), AV.int IntKind.i64 (0 : Int)]], fr := false } else h (6 : Nat) (g (6 : Nat))) = some ({ es := [AV.agg [AV.int IntKind.i64 (0 : Int), AV.int IntKind.i64 (0 : Int)]], fr := false })) (.cons (by simp : (if (6 : Nat) = (6 : Nat) ∧ g (6 : Nat) = g (6 : Nat) then some { es := [AV.agg [AV.int IntKind.i64 (Spn.a (pth l i)), AV.int IntKind.i64 (Spn.b (pth l i))]], fr := false } else if (6 : Nat) = (6 : Nat) ∧ g (6 : Nat) = g (6 : Nat) then some { es := [AV.agg [AV.int IntKind.i64 (0 : Int), AV.int IntKind.i64 (0 : Int)]], fr := false } else h (6 : Nat) (g (6 : Nat))) = some ({ es := [AV.agg [AV.int IntKind.i64 (Spn.a (pth l i)), AV.int IntKind.i64 (Spn.b (pth l i))]], fr := false })) (.cons h1 (.nil))))))) (by kernel_rfl) (rfl)
theorem pgap_b_3 (l : List Spn) (i : Nat) (fr : Int) (hl : l.length ≤ 9223372036854775807) (h0 : (decide ((↑i : Int) < (↑(List.length l) : Int))) = false) : Goto cfg (lc Try.prog 59 0) [(1, .int .i64 fr), (12, .osl (prows l)), (13, .int .i64 l.length), (14, .int .i64 i)] [] [] (E.exit (0 : Nat)) (fun Gs => [(1, AV.int IntKind.i64 fr), (12, AV.osl (prows l)), (13, AV.int IntKind.i64 (↑(List.length l) : Int)), (14, AV.int IntKind.i64 (↑i : Int))]) (fun Gs => []) [] :=
  Goto.of fun σ h g => code_of 5 [Ch.b false] [] (L := []) (.cons h0 (.nil)) (by kernel_rfl) (rfl)
theorem pgap_b_to (l : List Spn) (i : Nat) (fr : Int) (hl : l.length ≤ 9223372036854775807) {RES : Prop}
    (p0 : ((↑i : Int) < (↑(List.length l) : Int)) → (Spn.a (pth l i) ≤ fr) → (fr < Spn.b (pth l i)) → (Goto cfg (lc Try.prog 59 0) [(1, .int .i64 fr), (12, .osl (prows l)), (13, .int .i64 l.length), (14, .int .i64 i)] [] [] (E.normal) (fun Gs => [(1, AV.int IntKind.i64 (Spn.b (pth l i))), (12, AV.osl (prows l)), (13, AV.int IntKind.i64 (↑(List.length l) : Int)), (14, AV.int IntKind.i64 (IntKind.wrap IntKind.i64 ((↑i : Int) + (1 : Int))))]) (fun Gs => []) []) → RES)
    (p1 : ((↑i : Int) < (↑(List.length l) : Int)) → (Spn.a (pth l i) ≤ fr) → ¬ (fr < Spn.b (pth l i)) → (Goto cfg (lc Try.prog 59 0) [(1, .int .i64 fr), (12, .osl (prows l)), (13, .int .i64 l.length), (14, .int .i64 i)] [] [] (E.normal) (fun Gs => [(1, AV.int IntKind.i64 fr), (12, AV.osl (prows l)), (13, AV.int IntKind.i64 (↑(List.length l) : Int)), (14, AV.int IntKind.i64 (IntKind.wrap IntKind.i64 ((↑i : Int) + (1 : Int))))]) (fun Gs => []) []) → RES)
    (p2 : ((↑i : Int) < (↑(List.length l) : Int)) → ¬ (Spn.a (pth l i) ≤ fr) → (Goto cfg (lc Try.prog 59 0) [(1, .int .i64 fr), (12, .osl (prows l)), (13, .int .i64 l.length), (14, .int .i64 i)] [] [] (E.normal) (fun Gs => [(1, AV.int IntKind.i64 fr), (12, AV.osl (prows l)), (13, AV.int IntKind.i64 (↑(List.length l) : Int)), (14, AV.int IntKind.i64 (IntKind.wrap IntKind.i64 ((↑i : Int) + (1 : Int))))]) (fun Gs => []) []) → RES)
    (p3 : ¬ ((↑i : Int) < (↑(List.length l) : Int)) → (Goto cfg (lc Try.prog 59 0) [(1, .int .i64 fr), (12, .osl (prows l)), (13, .int .i64 l.length), (14, .int .i64 i)] [] [] (E.exit (0 : Nat)) (fun Gs => [(1, AV.int IntKind.i64 fr), (12, AV.osl (prows l)), (13, AV.int IntKind.i64 (↑(List.length l) : Int)), (14, AV.int IntKind.i64 (↑i : Int))]) (fun Gs => []) []) → RES) : RES :=
  (Vai.bcases (decide ((↑i : Int) < (↑(List.length l) : Int))) (fun h0 => (Vai.bcases (decide (Spn.a (pth l i) ≤ fr)) (fun h1 => (Vai.bcases (decide (fr < Spn.b (pth l i))) (fun h2 => (Vai.regoto (pgap_b_0 l i fr hl h0 h1 h2) (p0 (of_decide_eq_true h0) (of_decide_eq_true h1) (of_decide_eq_true h2)))) (fun h2 => (Vai.regoto (pgap_b_1 l i fr hl h0 h1 h2) (p1 (of_decide_eq_true h0) (of_decide_eq_true h1) (of_decide_eq_false h2)))))) (fun h1 => (Vai.regoto (pgap_b_2 l i fr hl h0 h1) (p2 (of_decide_eq_true h0) (of_decide_eq_false h1)))))) (fun h0 => (Vai.regoto (pgap_b_3 l i fr hl h0) (p3 (of_decide_eq_false h0)))))

theorem pgapT_0 (fr : Int) : FromL cfg 59 6 [(1, .int .i64 fr)] [] [] (AV.int IntKind.i64 fr) :=
  FromL.of fun σ h g => from_of 5 [] (.nil) (by kernel_rfl)
theorem pgapT_to (fr : Int) {RES : AV}
    (p0 : (AV.int IntKind.i64 fr) = RES) : FromL cfg 59 6 [(1, .int .i64 fr)] [] [] RES :=
  ((pgapT_0 fr).to  (p0))


theorem pmay_from (l : List Spn) (hl : l.length ≤ 9223372036854775806) : FromL cfg 57 3 [(0, .osl (prows l)), (3, .int .i64 (-1)), (6, .osl (prows l)), (7, .int .i64 (prows l).length), (8, .int .i64 0)] [] [] (.bool (mayP l)) := by
  rw [prows_len]
  refine FromL.rounds (α := Nat × Int) (c := lc Try.prog 57 0) (id := 0) (fun s => [(0, .osl (prows l)), (3, .int .i64 s.2), (6, .osl (prows l)), (7, .int .i64 l.length), (8, .int .i64 s.1)]) (fun _ => []) (fun s => s.1 ≤ l.length ∧ Rz (-1) l = Rz s.2 (l.drop s.1)) (fun s => l.length - s.1) (by kernel_rfl) (fun s hs => ?_) (0, -1) ⟨by simp, rfl⟩
  obtain ⟨i, last⟩ := s
  obtain ⟨hi, hr⟩ := hs
  simp only at hi hr ⊢
  have ew : i < l.length → IntKind.wrap IntKind.i64 ((i : Int) + 1) = (i : Int) + 1 := fun h => by rw [IntKind.wrap_i64]; omega
  have no : ∀ {s : Bool}, s = false → Rz (-1) l = s → AV.bool false = AV.bool (mayP l) := fun h e => by unfold mayP; rw [e, h, Bool.and_false]
  refine pmay_b_to l i last (by omega) (fun h0 h1 h2 g => ?_) (fun h0 h1 h2 g => ?_) (fun h0 h1 g => ?_) (fun h0 g => ?_)
  · refine .ret _ _ _ g fun Gs σ h g => ?_
    rw [pdrop (by omega)] at hr
    have e : Rz last (pth l i :: l.drop (i + 1)) = false := by
      unfold Rz; rw [decide_eq_false (by omega)]; simp
    rw [← no e hr]; rfl
  · rw [pdrop (by omega)] at hr
    have e : Rz last (pth l i :: l.drop (i + 1)) = Rz (pth l i).b (l.drop (i + 1)) := by
      conv => lhs; unfold Rz
      rw [decide_eq_true (show last < (pth l i).a by omega), show (pth l i).one = true from h1]; simp
    refine .next (fun _ => (i + 1, (pth l i).b)) (fun _ => ⟨⟨by simp only; omega, hr.trans e⟩, by simp only; omega⟩) (g.eqs (fun _ => ?_) fun _ => rfl)
    simp [look, ew (by omega)]
  · refine .ret _ _ _ g fun Gs σ h g => ?_
    rw [pdrop (by omega)] at hr
    have e : Rz last (pth l i :: l.drop (i + 1)) = false := by
      unfold Rz; rw [show (pth l i).one = false from h1]; simp
    rw [← no e hr]; rfl
  · have e : i = l.length := by omega
    rw [e, List.drop_length] at hr
    refine .stop _ _ _ g fun _ => ?_
    refine FromL.more (pmayT_to l (by omega) ?_) rfl rfl
    unfold mayP; rw [hr]
    unfold Rz
    rw [Bool.and_true]
    congr 1
    rw [decide_eq_decide]; omega
theorem pgap_from (l : List Spn) (fr : Int) (hl : l.length ≤ 9223372036854775806) : FromL cfg 59 5 [(1, .int .i64 fr), (12, .osl (prows l)), (13, .int .i64 (prows l).length), (14, .int .i64 0)] [] [] (.int .i64 (l.foldl gapF fr)) := by
  rw [prows_len]
  refine FromL.rounds (α := Nat × Int) (c := lc Try.prog 59 0) (id := 0) (fun s => [(1, .int .i64 s.2), (12, .osl (prows l)), (13, .int .i64 l.length), (14, .int .i64 s.1)]) (fun _ => []) (fun s => s.1 ≤ l.length ∧ l.foldl gapF fr = (l.drop s.1).foldl gapF s.2) (fun s => l.length - s.1) (by kernel_rfl) (fun s hs => ?_) (0, fr) ⟨by simp, rfl⟩
  obtain ⟨i, f⟩ := s
  obtain ⟨hi, hr⟩ := hs
  simp only at hi hr ⊢
  have ew : i < l.length → IntKind.wrap IntKind.i64 ((i : Int) + 1) = (i : Int) + 1 := fun h => by rw [IntKind.wrap_i64]; omega
  have same : i < l.length → ¬ ((pth l i).a ≤ f ∧ f < (pth l i).b) → l.foldl gapF fr = (l.drop (i + 1)).foldl gapF f := fun h hn => by
    rw [hr, pdrop h, List.foldl_cons]
    congr 1
    exact if_neg hn
  refine pgap_b_to l i f (by omega) (fun h0 h1 h2 g => ?_) (fun h0 h1 h2 g => ?_) (fun h0 h1 g => ?_) (fun h0 g => ?_)
  · refine .next (fun _ => (i + 1, (pth l i).b)) (fun _ => ⟨⟨by simp only; omega, ?_⟩, by simp only; omega⟩) (g.eqs (fun _ => ?_) fun _ => rfl)
    · rw [hr, pdrop (by omega), List.foldl_cons]
      simp only
      congr 1
      exact if_pos ⟨h1, h2⟩
    · simp [look, ew (by omega)]
  · refine .next (fun _ => (i + 1, f)) (fun _ => ⟨⟨by simp only; omega, same (by omega) (by omega)⟩, by simp only; omega⟩) (g.eqs (fun _ => ?_) fun _ => rfl)
    simp [look, ew (by omega)]
  · refine .next (fun _ => (i + 1, f)) (fun _ => ⟨⟨by simp only; omega, same (by omega) (by omega)⟩, by simp only; omega⟩) (g.eqs (fun _ => ?_) fun _ => rfl)
    simp [look, ew (by omega)]
  · have e : i = l.length := by omega
    rw [e, List.drop_length] at hr
    refine .stop _ _ _ g fun _ => ?_
    refine FromL.more (pgapT_to f ?_) rfl rfl
    rw [hr]; rfl
theorem Rz.size : ∀ {last : Int} {l : List Spn}, Rz last l = true → last ≤ 4611686018427387904 → 0 ≤ sizeP l ∧ sizeP l + last ≤ 4611686018427387904
  | last, [], _, h => by unfold sizeP; omega
  | last, s :: l, h, hl => by
    unfold Rz at h
    simp only [Bool.and_eq_true, decide_eq_true_eq, Spn.one] at h
    have := Rz.size h.2 (by omega)
    unfold sizeP; omega
theorem Rz.take : ∀ {last : Int} {l : List Spn}, Rz last l = true → ∀ i, Rz last (l.take i) = true
  | last, [], h, i => by rw [List.take_nil]; rfl
  | last, s :: l, h, 0 => rfl
  | last, s :: l, h, i + 1 => by
    unfold Rz at h
    simp only [Bool.and_eq_true] at h
    rw [List.take_succ_cons]
    unfold Rz
    simp only [Bool.and_eq_true]
    exact ⟨h.1, Rz.take h.2 i⟩
theorem sizeP_app : ∀ (l m : List Spn), sizeP (l ++ m) = sizeP l + sizeP m
  | [], m => by simp [sizeP]
  | s :: l, m => by simp only [List.cons_append, sizeP, sizeP_app l m]; omega
theorem pmay_0 (l : List Spn) (hl : l.length ≤ 9223372036854775806) : Ans cfg 57 [.osl (prows l)] (AV.bool (mayP l)) :=
  ans_ofL 5 [Ch.x (3 : Nat) [((0 : Nat), AV.osl (prows l)), ((3 : Nat), AV.int IntKind.i64 (-1 : Int)), ((6 : Nat), AV.osl (prows l)), ((7 : Nat), AV.int IntKind.i64 (↑(List.length (prows l)) : Int)), ((8 : Nat), AV.int IntKind.i64 (0 : Int))] [] [] (AV.bool (mayP l))] (.cons (Eq.refl (α := List AV) [AV.osl (prows l), AV.int IntKind.i64 (-1 : Int), AV.osl (prows l), AV.int IntKind.i64 (↑(List.length (prows l)) : Int), AV.int IntKind.i64 (0 : Int)]) (.cons (Eq.refl (α := List (Option Blk)) []) (.cons (Eq.refl (α := List Nat) []) (.cons (@Vai.L04.pmay_from (l) (by assumption)) (.nil))))) (by kernel_rfl) (by kernel_rfl)
theorem pmay_to (l : List Spn) (hl : l.length ≤ 9223372036854775806) {RES : AV}
    (p0 : (AV.bool (mayP l)) = RES) : Ans cfg 57 [.osl (prows l)] RES :=
  ((pmay_0 l hl).to rfl (p0))


theorem pmay_ok (l : List Spn) (hl : l.length ≤ 9223372036854775806) : Ans cfg 57 [.osl (prows l)] (.bool (mayP l)) := pmay_0 l hl
theorem pgap_0 (l : List Spn) (fr : Int) (hl : l.length ≤ 9223372036854775806) (h0 : (mayP l) = true) : Ans cfg 59 [.osl (prows l), .int .i64 fr] (AV.int IntKind.i64 (List.foldl gapF (if (0 : Int) > fr then (0 : Int) else fr) l)) :=
  ans_ofL 5 [Ch.r (AV.bool (mayP l)), Ch.b false, Ch.x (5 : Nat) [((1 : Nat), AV.int IntKind.i64 (if (0 : Int) > fr then (0 : Int) else fr)), ((12 : Nat), AV.osl (prows l)), ((13 : Nat), AV.int IntKind.i64 (↑(List.length (prows l)) : Int)), ((14 : Nat), AV.int IntKind.i64 (0 : Int))] [] [] (AV.int IntKind.i64 (List.foldl gapF (if (0 : Int) > fr then (0 : Int) else fr) l))] (.cons (@Vai.L04.pmay_ok (l) (by assumption)) (.cons (nb h0) (.cons (Eq.refl (α := List AV) [AV.int IntKind.i64 (if (0 : Int) > fr then (0 : Int) else fr), AV.osl (prows l), AV.int IntKind.i64 (↑(List.length (prows l)) : Int), AV.int IntKind.i64 (0 : Int)]) (.cons (Eq.refl (α := List (Option Blk)) []) (.cons (Eq.refl (α := List Nat) []) (.cons (@Vai.L04.pgap_from (l) (if (0 : Int) > fr then (0 : Int) else fr) (by assumption)) (.nil))))))) (by kernel_rfl) (by kernel_rfl)
theorem pgap_1 (l : List Spn) (fr : Int) (hl : l.length ≤ 9223372036854775806) (h0 : (mayP l) = false) : Ans cfg 59 [.osl (prows l), .int .i64 fr] (AV.int IntKind.i64 (0 : Int)) :=
  ans_ofL 5 [Ch.r (AV.bool (mayP l)), Ch.b true] (.cons (@Vai.L04.pmay_ok (l) (by assumption)) (.cons (nb h0) (.nil))) (by kernel_rfl) (by kernel_rfl)
theorem pgap_to (l : List Spn) (fr : Int) (hl : l.length ≤ 9223372036854775806) {RES : AV}
    (p0 : (mayP l) = true → (AV.int IntKind.i64 (List.foldl gapF (if (0 : Int) > fr then (0 : Int) else fr) l)) = RES)
    (p1 : (mayP l) = false → (AV.int IntKind.i64 (0 : Int)) = RES) : Ans cfg 59 [.osl (prows l), .int .i64 fr] RES :=
  (Vai.bcases (mayP l) (fun h0 => ((pgap_0 l fr hl h0).to rfl (p0 h0))) (fun h0 => ((pgap_1 l fr hl h0).to rfl (p1 h0))))


theorem pgap_ok (l : List Spn) (fr : Int) (hl : l.length ≤ 9223372036854775806) : Ans cfg 59 [.osl (prows l), .int .i64 fr] (.int .i64 (gapP l fr)) := by
  refine pgap_to l fr hl (fun h => ?_) (fun h => ?_)
  · unfold gapP; rw [if_pos h]
  · unfold gapP; rw [h]; rfl
end Vai.L04
