/- Laws 12 and 13: the document's functions, each by its runs. -/
import Derived.Test.YtcnjoldhaijbmaaP13
namespace Vai.L12
open Go Go.Proofs Vai Vai.R2 Vai.L13
set_option maxRecDepth 100000
set_option linter.unusedVariables false
set_option linter.unusedSimpArgs false

theorem in61_0 (n : Int) (h0 : (decide (n ≥ (0 : Int))) = true) : Ans cfg 61 [.int .i64 n] (AV.bool (decide (n ≤ (1152921504606846976 : Int)))) :=
  ans_of 5 [Ch.b true] (.cons h0 (.nil)) (by kernel_rfl)
theorem in61_1 (n : Int) (h0 : (decide (n ≥ (0 : Int))) = false) : Ans cfg 61 [.int .i64 n] (AV.bool false) :=
  ans_of 5 [Ch.b false] (.cons h0 (.nil)) (by kernel_rfl)
theorem in61 (n : Int) : Ans cfg 61 [.int .i64 n] (bif decide (n ≥ (0 : Int)) then (AV.bool (decide (n ≤ (1152921504606846976 : Int)))) else (AV.bool false)) :=
  (Ans.cases (fun h0 => (in61_0 n h0)) (fun h0 => (in61_1 n h0)))


theorem in61_ok (n : Int) : Ans cfg 61 [.int .i64 n] (.bool (decide (0 ≤ n ∧ n ≤ 1152921504606846976))) := by
  refine (in61 n).to rfl ?_
  simp only [bif_bool]
  try congr 1
  simp only [cond_eq_ite, decide_eq_true_eq, IntKind.wrap_i64]
  repeat' split
  all_goals first | (rw [decide_eq_decide]; omega) | (symm; rw [decide_eq_false_iff_not]; omega) | (symm; rw [decide_eq_true_eq]; omega)

theorem rone52_0 (seq len dsn at_ tries : Int) (came lost : Bool) (total last : Int) (h0 : (decide ((0 : Int) ≤ seq ∧ seq ≤ (1152921504606846976 : Int))) = true) (h1 : (decide ((0 : Int) ≤ dsn ∧ dsn ≤ (1152921504606846976 : Int))) = true) (h2 : (decide ((0 : Int) ≤ at_ ∧ at_ ≤ (1152921504606846976 : Int))) = true) (h3 : (decide ((0 : Int) ≤ total ∧ total ≤ (1152921504606846976 : Int))) = true) (h4 : (decide ((0 : Int) ≤ last ∧ last ≤ (1152921504606846976 : Int))) = true) (h5 : (came) = true) (h6 : (lost) = true) : Ans cfg 52 [.agg [.int .i64 seq, .int .i64 len, .int .i64 dsn, .int .i64 at_, .int .i64 tries, .bool came, .bool lost, .int .i64 total, .int .i64 last]] (AV.bool false) :=
  ans_of 5 [Ch.n, Ch.r (AV.bool (decide ((0 : Int) ≤ seq ∧ seq ≤ (1152921504606846976 : Int)))), Ch.b false, Ch.n, Ch.r (AV.bool (decide ((0 : Int) ≤ dsn ∧ dsn ≤ (1152921504606846976 : Int)))), Ch.b false, Ch.n, Ch.r (AV.bool (decide ((0 : Int) ≤ at_ ∧ at_ ≤ (1152921504606846976 : Int)))), Ch.b false, Ch.n, Ch.r (AV.bool (decide ((0 : Int) ≤ total ∧ total ≤ (1152921504606846976 : Int)))), Ch.b false, Ch.n, Ch.r (AV.bool (decide ((0 : Int) ≤ last ∧ last ≤ (1152921504606846976 : Int)))), Ch.b false, Ch.n, Ch.b true, Ch.n, Ch.b true] (.cons (@Vai.L12.in61_ok (seq)) (.cons (nb h0) (.cons (@Vai.L12.in61_ok (dsn)) (.cons (nb h1) (.cons (@Vai.L12.in61_ok (at_)) (.cons (nb h2) (.cons (@Vai.L12.in61_ok (total)) (.cons (nb h3) (.cons (@Vai.L12.in61_ok (last)) (.cons (nb h4) (.cons h5 (.cons h6 (.nil))))))))))))) (by kernel_rfl)
theorem rone52_1 (seq len dsn at_ tries : Int) (came lost : Bool) (total last : Int) (h0 : (decide ((0 : Int) ≤ seq ∧ seq ≤ (1152921504606846976 : Int))) = true) (h1 : (decide ((0 : Int) ≤ dsn ∧ dsn ≤ (1152921504606846976 : Int))) = true) (h2 : (decide ((0 : Int) ≤ at_ ∧ at_ ≤ (1152921504606846976 : Int))) = true) (h3 : (decide ((0 : Int) ≤ total ∧ total ≤ (1152921504606846976 : Int))) = true) (h4 : (decide ((0 : Int) ≤ last ∧ last ≤ (1152921504606846976 : Int))) = true) (h5 : (came) = true) (h6 : (lost) = false) (h7 : (decide (len ≥ (1 : Int))) = true) (h8 : (decide (len ≤ (1460 : Int))) = true) (h9 : (decide (tries ≥ (1 : Int))) = true) : Ans cfg 52 [.agg [.int .i64 seq, .int .i64 len, .int .i64 dsn, .int .i64 at_, .int .i64 tries, .bool came, .bool lost, .int .i64 total, .int .i64 last]] (AV.bool (decide (tries ≤ (1000 : Int)))) :=
  ans_of 5 [Ch.n, Ch.r (AV.bool (decide ((0 : Int) ≤ seq ∧ seq ≤ (1152921504606846976 : Int)))), Ch.b false, Ch.n, Ch.r (AV.bool (decide ((0 : Int) ≤ dsn ∧ dsn ≤ (1152921504606846976 : Int)))), Ch.b false, Ch.n, Ch.r (AV.bool (decide ((0 : Int) ≤ at_ ∧ at_ ≤ (1152921504606846976 : Int)))), Ch.b false, Ch.n, Ch.r (AV.bool (decide ((0 : Int) ≤ total ∧ total ≤ (1152921504606846976 : Int)))), Ch.b false, Ch.n, Ch.r (AV.bool (decide ((0 : Int) ≤ last ∧ last ≤ (1152921504606846976 : Int)))), Ch.b false, Ch.n, Ch.b true, Ch.n, Ch.b false, Ch.n, Ch.b true, Ch.n, Ch.b true, Ch.n, Ch.b true, Ch.n] (.cons (@Vai.L12.in61_ok (seq)) (.cons (nb h0) (.cons (@Vai.L12.in61_ok (dsn)) (.cons (nb h1) (.cons (@Vai.L12.in61_ok (at_)) (.cons (nb h2) (.cons (@Vai.L12.in61_ok (total)) (.cons (nb h3) (.cons (@Vai.L12.in61_ok (last)) (.cons (nb h4) (.cons h5 (.cons h6 (.cons h7 (.cons h8 (.cons h9 (.nil)))))))))))))))) (by kernel_rfl)
theorem rone52_2 (seq len dsn at_ tries : Int) (came lost : Bool) (total last : Int) (h0 : (decide ((0 : Int) ≤ seq ∧ seq ≤ (1152921504606846976 : Int))) = true) (h1 : (decide ((0 : Int) ≤ dsn ∧ dsn ≤ (1152921504606846976 : Int))) = true) (h2 : (decide ((0 : Int) ≤ at_ ∧ at_ ≤ (1152921504606846976 : Int))) = true) (h3 : (decide ((0 : Int) ≤ total ∧ total ≤ (1152921504606846976 : Int))) = true) (h4 : (decide ((0 : Int) ≤ last ∧ last ≤ (1152921504606846976 : Int))) = true) (h5 : (came) = true) (h6 : (lost) = false) (h7 : (decide (len ≥ (1 : Int))) = true) (h8 : (decide (len ≤ (1460 : Int))) = true) (h9 : (decide (tries ≥ (1 : Int))) = false) : Ans cfg 52 [.agg [.int .i64 seq, .int .i64 len, .int .i64 dsn, .int .i64 at_, .int .i64 tries, .bool came, .bool lost, .int .i64 total, .int .i64 last]] (AV.bool false) :=
  ans_of 5 [Ch.n, Ch.r (AV.bool (decide ((0 : Int) ≤ seq ∧ seq ≤ (1152921504606846976 : Int)))), Ch.b false, Ch.n, Ch.r (AV.bool (decide ((0 : Int) ≤ dsn ∧ dsn ≤ (1152921504606846976 : Int)))), Ch.b false, Ch.n, Ch.r (AV.bool (decide ((0 : Int) ≤ at_ ∧ at_ ≤ (1152921504606846976 : Int)))), Ch.b false, Ch.n, Ch.r (AV.bool (decide ((0 : Int) ≤ total ∧ total ≤ (1152921504606846976 : Int)))), Ch.b false, Ch.n, Ch.r (AV.bool (decide ((0 : Int) ≤ last ∧ last ≤ (1152921504606846976 : Int)))), Ch.b false, Ch.n, Ch.b true, Ch.n, Ch.b false, Ch.n, Ch.b true, Ch.n, Ch.b true, Ch.n, Ch.b false] (.cons (@Vai.L12.in61_ok (seq)) (.cons (nb h0) (.cons (@Vai.L12.in61_ok (dsn)) (.cons (nb h1) (.cons (@Vai.L12.in61_ok (at_)) (.cons (nb h2) (.cons (@Vai.L12.in61_ok (total)) (.cons (nb h3) (.cons (@Vai.L12.in61_ok (last)) (.cons (nb h4) (.cons h5 (.cons h6 (.cons h7 (.cons h8 (.cons h9 (.nil)))))))))))))))) (by kernel_rfl)
theorem rone52_3 (seq len dsn at_ tries : Int) (came lost : Bool) (total last : Int) (h0 : (decide ((0 : Int) ≤ seq ∧ seq ≤ (1152921504606846976 : Int))) = true) (h1 : (decide ((0 : Int) ≤ dsn ∧ dsn ≤ (1152921504606846976 : Int))) = true) (h2 : (decide ((0 : Int) ≤ at_ ∧ at_ ≤ (1152921504606846976 : Int))) = true) (h3 : (decide ((0 : Int) ≤ total ∧ total ≤ (1152921504606846976 : Int))) = true) (h4 : (decide ((0 : Int) ≤ last ∧ last ≤ (1152921504606846976 : Int))) = true) (h5 : (came) = true) (h6 : (lost) = false) (h7 : (decide (len ≥ (1 : Int))) = true) (h8 : (decide (len ≤ (1460 : Int))) = false) : Ans cfg 52 [.agg [.int .i64 seq, .int .i64 len, .int .i64 dsn, .int .i64 at_, .int .i64 tries, .bool came, .bool lost, .int .i64 total, .int .i64 last]] (AV.bool false) :=
  ans_of 5 [Ch.n, Ch.r (AV.bool (decide ((0 : Int) ≤ seq ∧ seq ≤ (1152921504606846976 : Int)))), Ch.b false, Ch.n, Ch.r (AV.bool (decide ((0 : Int) ≤ dsn ∧ dsn ≤ (1152921504606846976 : Int)))), Ch.b false, Ch.n, Ch.r (AV.bool (decide ((0 : Int) ≤ at_ ∧ at_ ≤ (1152921504606846976 : Int)))), Ch.b false, Ch.n, Ch.r (AV.bool (decide ((0 : Int) ≤ total ∧ total ≤ (1152921504606846976 : Int)))), Ch.b false, Ch.n, Ch.r (AV.bool (decide ((0 : Int) ≤ last ∧ last ≤ (1152921504606846976 : Int)))), Ch.b false, Ch.n, Ch.b true, Ch.n, Ch.b false, Ch.n, Ch.b true, Ch.n, Ch.b false, Ch.k] (.cons (@Vai.L12.in61_ok (seq)) (.cons (nb h0) (.cons (@Vai.L12.in61_ok (dsn)) (.cons (nb h1) (.cons (@Vai.L12.in61_ok (at_)) (.cons (nb h2) (.cons (@Vai.L12.in61_ok (total)) (.cons (nb h3) (.cons (@Vai.L12.in61_ok (last)) (.cons (nb h4) (.cons h5 (.cons h6 (.cons h7 (.cons h8 (.nil))))))))))))))) (by kernel_rfl)
theorem rone52_4 (seq len dsn at_ tries : Int) (came lost : Bool) (total last : Int) (h0 : (decide ((0 : Int) ≤ seq ∧ seq ≤ (1152921504606846976 : Int))) = true) (h1 : (decide ((0 : Int) ≤ dsn ∧ dsn ≤ (1152921504606846976 : Int))) = true) (h2 : (decide ((0 : Int) ≤ at_ ∧ at_ ≤ (1152921504606846976 : Int))) = true) (h3 : (decide ((0 : Int) ≤ total ∧ total ≤ (1152921504606846976 : Int))) = true) (h4 : (decide ((0 : Int) ≤ last ∧ last ≤ (1152921504606846976 : Int))) = true) (h5 : (came) = true) (h6 : (lost) = false) (h7 : (decide (len ≥ (1 : Int))) = false) : Ans cfg 52 [.agg [.int .i64 seq, .int .i64 len, .int .i64 dsn, .int .i64 at_, .int .i64 tries, .bool came, .bool lost, .int .i64 total, .int .i64 last]] (AV.bool false) :=
  ans_of 5 [Ch.n, Ch.r (AV.bool (decide ((0 : Int) ≤ seq ∧ seq ≤ (1152921504606846976 : Int)))), Ch.b false, Ch.n, Ch.r (AV.bool (decide ((0 : Int) ≤ dsn ∧ dsn ≤ (1152921504606846976 : Int)))), Ch.b false, Ch.n, Ch.r (AV.bool (decide ((0 : Int) ≤ at_ ∧ at_ ≤ (1152921504606846976 : Int)))), Ch.b false, Ch.n, Ch.r (AV.bool (decide ((0 : Int) ≤ total ∧ total ≤ (1152921504606846976 : Int)))), Ch.b false, Ch.n, Ch.r (AV.bool (decide ((0 : Int) ≤ last ∧ last ≤ (1152921504606846976 : Int)))), Ch.b false, Ch.n, Ch.b true, Ch.n, Ch.b false, Ch.n, Ch.b false, Ch.k, Ch.k] (.cons (@Vai.L12.in61_ok (seq)) (.cons (nb h0) (.cons (@Vai.L12.in61_ok (dsn)) (.cons (nb h1) (.cons (@Vai.L12.in61_ok (at_)) (.cons (nb h2) (.cons (@Vai.L12.in61_ok (total)) (.cons (nb h3) (.cons (@Vai.L12.in61_ok (last)) (.cons (nb h4) (.cons h5 (.cons h6 (.cons h7 (.nil)))))))))))))) (by kernel_rfl)
theorem rone52_5 (seq len dsn at_ tries : Int) (came lost : Bool) (total last : Int) (h0 : (decide ((0 : Int) ≤ seq ∧ seq ≤ (1152921504606846976 : Int))) = true) (h1 : (decide ((0 : Int) ≤ dsn ∧ dsn ≤ (1152921504606846976 : Int))) = true) (h2 : (decide ((0 : Int) ≤ at_ ∧ at_ ≤ (1152921504606846976 : Int))) = true) (h3 : (decide ((0 : Int) ≤ total ∧ total ≤ (1152921504606846976 : Int))) = true) (h4 : (decide ((0 : Int) ≤ last ∧ last ≤ (1152921504606846976 : Int))) = true) (h5 : (came) = false) (h7 : (decide (len ≥ (1 : Int))) = true) (h8 : (decide (len ≤ (1460 : Int))) = true) (h9 : (decide (tries ≥ (1 : Int))) = true) : Ans cfg 52 [.agg [.int .i64 seq, .int .i64 len, .int .i64 dsn, .int .i64 at_, .int .i64 tries, .bool came, .bool lost, .int .i64 total, .int .i64 last]] (AV.bool (decide (tries ≤ (1000 : Int)))) :=
  ans_of 5 [Ch.n, Ch.r (AV.bool (decide ((0 : Int) ≤ seq ∧ seq ≤ (1152921504606846976 : Int)))), Ch.b false, Ch.n, Ch.r (AV.bool (decide ((0 : Int) ≤ dsn ∧ dsn ≤ (1152921504606846976 : Int)))), Ch.b false, Ch.n, Ch.r (AV.bool (decide ((0 : Int) ≤ at_ ∧ at_ ≤ (1152921504606846976 : Int)))), Ch.b false, Ch.n, Ch.r (AV.bool (decide ((0 : Int) ≤ total ∧ total ≤ (1152921504606846976 : Int)))), Ch.b false, Ch.n, Ch.r (AV.bool (decide ((0 : Int) ≤ last ∧ last ≤ (1152921504606846976 : Int)))), Ch.b false, Ch.n, Ch.b false, Ch.k, Ch.n, Ch.b true, Ch.n, Ch.b true, Ch.n, Ch.b true, Ch.n] (.cons (@Vai.L12.in61_ok (seq)) (.cons (nb h0) (.cons (@Vai.L12.in61_ok (dsn)) (.cons (nb h1) (.cons (@Vai.L12.in61_ok (at_)) (.cons (nb h2) (.cons (@Vai.L12.in61_ok (total)) (.cons (nb h3) (.cons (@Vai.L12.in61_ok (last)) (.cons (nb h4) (.cons h5 (.cons h7 (.cons h8 (.cons h9 (.nil))))))))))))))) (by kernel_rfl)
theorem rone52_6 (seq len dsn at_ tries : Int) (came lost : Bool) (total last : Int) (h0 : (decide ((0 : Int) ≤ seq ∧ seq ≤ (1152921504606846976 : Int))) = true) (h1 : (decide ((0 : Int) ≤ dsn ∧ dsn ≤ (1152921504606846976 : Int))) = true) (h2 : (decide ((0 : Int) ≤ at_ ∧ at_ ≤ (1152921504606846976 : Int))) = true) (h3 : (decide ((0 : Int) ≤ total ∧ total ≤ (1152921504606846976 : Int))) = true) (h4 : (decide ((0 : Int) ≤ last ∧ last ≤ (1152921504606846976 : Int))) = true) (h5 : (came) = false) (h7 : (decide (len ≥ (1 : Int))) = true) (h8 : (decide (len ≤ (1460 : Int))) = true) (h9 : (decide (tries ≥ (1 : Int))) = false) : Ans cfg 52 [.agg [.int .i64 seq, .int .i64 len, .int .i64 dsn, .int .i64 at_, .int .i64 tries, .bool came, .bool lost, .int .i64 total, .int .i64 last]] (AV.bool false) :=
  ans_of 5 [Ch.n, Ch.r (AV.bool (decide ((0 : Int) ≤ seq ∧ seq ≤ (1152921504606846976 : Int)))), Ch.b false, Ch.n, Ch.r (AV.bool (decide ((0 : Int) ≤ dsn ∧ dsn ≤ (1152921504606846976 : Int)))), Ch.b false, Ch.n, Ch.r (AV.bool (decide ((0 : Int) ≤ at_ ∧ at_ ≤ (1152921504606846976 : Int)))), Ch.b false, Ch.n, Ch.r (AV.bool (decide ((0 : Int) ≤ total ∧ total ≤ (1152921504606846976 : Int)))), Ch.b false, Ch.n, Ch.r (AV.bool (decide ((0 : Int) ≤ last ∧ last ≤ (1152921504606846976 : Int)))), Ch.b false, Ch.n, Ch.b false, Ch.k, Ch.n, Ch.b true, Ch.n, Ch.b true, Ch.n, Ch.b false] (.cons (@Vai.L12.in61_ok (seq)) (.cons (nb h0) (.cons (@Vai.L12.in61_ok (dsn)) (.cons (nb h1) (.cons (@Vai.L12.in61_ok (at_)) (.cons (nb h2) (.cons (@Vai.L12.in61_ok (total)) (.cons (nb h3) (.cons (@Vai.L12.in61_ok (last)) (.cons (nb h4) (.cons h5 (.cons h7 (.cons h8 (.cons h9 (.nil))))))))))))))) (by kernel_rfl)
theorem rone52_7 (seq len dsn at_ tries : Int) (came lost : Bool) (total last : Int) (h0 : (decide ((0 : Int) ≤ seq ∧ seq ≤ (1152921504606846976 : Int))) = true) (h1 : (decide ((0 : Int) ≤ dsn ∧ dsn ≤ (1152921504606846976 : Int))) = true) (h2 : (decide ((0 : Int) ≤ at_ ∧ at_ ≤ (1152921504606846976 : Int))) = true) (h3 : (decide ((0 : Int) ≤ total ∧ total ≤ (1152921504606846976 : Int))) = true) (h4 : (decide ((0 : Int) ≤ last ∧ last ≤ (1152921504606846976 : Int))) = true) (h5 : (came) = false) (h7 : (decide (len ≥ (1 : Int))) = true) (h8 : (decide (len ≤ (1460 : Int))) = false) : Ans cfg 52 [.agg [.int .i64 seq, .int .i64 len, .int .i64 dsn, .int .i64 at_, .int .i64 tries, .bool came, .bool lost, .int .i64 total, .int .i64 last]] (AV.bool false) :=
  ans_of 5 [Ch.n, Ch.r (AV.bool (decide ((0 : Int) ≤ seq ∧ seq ≤ (1152921504606846976 : Int)))), Ch.b false, Ch.n, Ch.r (AV.bool (decide ((0 : Int) ≤ dsn ∧ dsn ≤ (1152921504606846976 : Int)))), Ch.b false, Ch.n, Ch.r (AV.bool (decide ((0 : Int) ≤ at_ ∧ at_ ≤ (1152921504606846976 : Int)))), Ch.b false, Ch.n, Ch.r (AV.bool (decide ((0 : Int) ≤ total ∧ total ≤ (1152921504606846976 : Int)))), Ch.b false, Ch.n, Ch.r (AV.bool (decide ((0 : Int) ≤ last ∧ last ≤ (1152921504606846976 : Int)))), Ch.b false, Ch.n, Ch.b false, Ch.k, Ch.n, Ch.b true, Ch.n, Ch.b false, Ch.k] (.cons (@Vai.L12.in61_ok (seq)) (.cons (nb h0) (.cons (@Vai.L12.in61_ok (dsn)) (.cons (nb h1) (.cons (@Vai.L12.in61_ok (at_)) (.cons (nb h2) (.cons (@Vai.L12.in61_ok (total)) (.cons (nb h3) (.cons (@Vai.L12.in61_ok (last)) (.cons (nb h4) (.cons h5 (.cons h7 (.cons h8 (.nil)))))))))))))) (by kernel_rfl)
theorem rone52_8 (seq len dsn at_ tries : Int) (came lost : Bool) (total last : Int) (h0 : (decide ((0 : Int) ≤ seq ∧ seq ≤ (1152921504606846976 : Int))) = true) (h1 : (decide ((0 : Int) ≤ dsn ∧ dsn ≤ (1152921504606846976 : Int))) = true) (h2 : (decide ((0 : Int) ≤ at_ ∧ at_ ≤ (1152921504606846976 : Int))) = true) (h3 : (decide ((0 : Int) ≤ total ∧ total ≤ (1152921504606846976 : Int))) = true) (h4 : (decide ((0 : Int) ≤ last ∧ last ≤ (1152921504606846976 : Int))) = true) (h5 : (came) = false) (h7 : (decide (len ≥ (1 : Int))) = false) : Ans cfg 52 [.agg [.int .i64 seq, .int .i64 len, .int .i64 dsn, .int .i64 at_, .int .i64 tries, .bool came, .bool lost, .int .i64 total, .int .i64 last]] (AV.bool false) :=
  ans_of 5 [Ch.n, Ch.r (AV.bool (decide ((0 : Int) ≤ seq ∧ seq ≤ (1152921504606846976 : Int)))), Ch.b false, Ch.n, Ch.r (AV.bool (decide ((0 : Int) ≤ dsn ∧ dsn ≤ (1152921504606846976 : Int)))), Ch.b false, Ch.n, Ch.r (AV.bool (decide ((0 : Int) ≤ at_ ∧ at_ ≤ (1152921504606846976 : Int)))), Ch.b false, Ch.n, Ch.r (AV.bool (decide ((0 : Int) ≤ total ∧ total ≤ (1152921504606846976 : Int)))), Ch.b false, Ch.n, Ch.r (AV.bool (decide ((0 : Int) ≤ last ∧ last ≤ (1152921504606846976 : Int)))), Ch.b false, Ch.n, Ch.b false, Ch.k, Ch.n, Ch.b false, Ch.k, Ch.k] (.cons (@Vai.L12.in61_ok (seq)) (.cons (nb h0) (.cons (@Vai.L12.in61_ok (dsn)) (.cons (nb h1) (.cons (@Vai.L12.in61_ok (at_)) (.cons (nb h2) (.cons (@Vai.L12.in61_ok (total)) (.cons (nb h3) (.cons (@Vai.L12.in61_ok (last)) (.cons (nb h4) (.cons h5 (.cons h7 (.nil))))))))))))) (by kernel_rfl)
theorem rone52_9 (seq len dsn at_ tries : Int) (came lost : Bool) (total last : Int) (h0 : (decide ((0 : Int) ≤ seq ∧ seq ≤ (1152921504606846976 : Int))) = true) (h1 : (decide ((0 : Int) ≤ dsn ∧ dsn ≤ (1152921504606846976 : Int))) = true) (h2 : (decide ((0 : Int) ≤ at_ ∧ at_ ≤ (1152921504606846976 : Int))) = true) (h3 : (decide ((0 : Int) ≤ total ∧ total ≤ (1152921504606846976 : Int))) = true) (h4 : (decide ((0 : Int) ≤ last ∧ last ≤ (1152921504606846976 : Int))) = false) : Ans cfg 52 [.agg [.int .i64 seq, .int .i64 len, .int .i64 dsn, .int .i64 at_, .int .i64 tries, .bool came, .bool lost, .int .i64 total, .int .i64 last]] (AV.bool false) :=
  ans_of 5 [Ch.n, Ch.r (AV.bool (decide ((0 : Int) ≤ seq ∧ seq ≤ (1152921504606846976 : Int)))), Ch.b false, Ch.n, Ch.r (AV.bool (decide ((0 : Int) ≤ dsn ∧ dsn ≤ (1152921504606846976 : Int)))), Ch.b false, Ch.n, Ch.r (AV.bool (decide ((0 : Int) ≤ at_ ∧ at_ ≤ (1152921504606846976 : Int)))), Ch.b false, Ch.n, Ch.r (AV.bool (decide ((0 : Int) ≤ total ∧ total ≤ (1152921504606846976 : Int)))), Ch.b false, Ch.n, Ch.r (AV.bool (decide ((0 : Int) ≤ last ∧ last ≤ (1152921504606846976 : Int)))), Ch.b true, Ch.k] (.cons (@Vai.L12.in61_ok (seq)) (.cons (nb h0) (.cons (@Vai.L12.in61_ok (dsn)) (.cons (nb h1) (.cons (@Vai.L12.in61_ok (at_)) (.cons (nb h2) (.cons (@Vai.L12.in61_ok (total)) (.cons (nb h3) (.cons (@Vai.L12.in61_ok (last)) (.cons (nb h4) (.nil))))))))))) (by kernel_rfl)
theorem rone52_10 (seq len dsn at_ tries : Int) (came lost : Bool) (total last : Int) (h0 : (decide ((0 : Int) ≤ seq ∧ seq ≤ (1152921504606846976 : Int))) = true) (h1 : (decide ((0 : Int) ≤ dsn ∧ dsn ≤ (1152921504606846976 : Int))) = true) (h2 : (decide ((0 : Int) ≤ at_ ∧ at_ ≤ (1152921504606846976 : Int))) = true) (h3 : (decide ((0 : Int) ≤ total ∧ total ≤ (1152921504606846976 : Int))) = false) : Ans cfg 52 [.agg [.int .i64 seq, .int .i64 len, .int .i64 dsn, .int .i64 at_, .int .i64 tries, .bool came, .bool lost, .int .i64 total, .int .i64 last]] (AV.bool false) :=
  ans_of 5 [Ch.n, Ch.r (AV.bool (decide ((0 : Int) ≤ seq ∧ seq ≤ (1152921504606846976 : Int)))), Ch.b false, Ch.n, Ch.r (AV.bool (decide ((0 : Int) ≤ dsn ∧ dsn ≤ (1152921504606846976 : Int)))), Ch.b false, Ch.n, Ch.r (AV.bool (decide ((0 : Int) ≤ at_ ∧ at_ ≤ (1152921504606846976 : Int)))), Ch.b false, Ch.n, Ch.r (AV.bool (decide ((0 : Int) ≤ total ∧ total ≤ (1152921504606846976 : Int)))), Ch.b true, Ch.k, Ch.k] (.cons (@Vai.L12.in61_ok (seq)) (.cons (nb h0) (.cons (@Vai.L12.in61_ok (dsn)) (.cons (nb h1) (.cons (@Vai.L12.in61_ok (at_)) (.cons (nb h2) (.cons (@Vai.L12.in61_ok (total)) (.cons (nb h3) (.nil))))))))) (by kernel_rfl)
theorem rone52_11 (seq len dsn at_ tries : Int) (came lost : Bool) (total last : Int) (h0 : (decide ((0 : Int) ≤ seq ∧ seq ≤ (1152921504606846976 : Int))) = true) (h1 : (decide ((0 : Int) ≤ dsn ∧ dsn ≤ (1152921504606846976 : Int))) = true) (h2 : (decide ((0 : Int) ≤ at_ ∧ at_ ≤ (1152921504606846976 : Int))) = false) : Ans cfg 52 [.agg [.int .i64 seq, .int .i64 len, .int .i64 dsn, .int .i64 at_, .int .i64 tries, .bool came, .bool lost, .int .i64 total, .int .i64 last]] (AV.bool false) :=
  ans_of 5 [Ch.n, Ch.r (AV.bool (decide ((0 : Int) ≤ seq ∧ seq ≤ (1152921504606846976 : Int)))), Ch.b false, Ch.n, Ch.r (AV.bool (decide ((0 : Int) ≤ dsn ∧ dsn ≤ (1152921504606846976 : Int)))), Ch.b false, Ch.n, Ch.r (AV.bool (decide ((0 : Int) ≤ at_ ∧ at_ ≤ (1152921504606846976 : Int)))), Ch.b true, Ch.k, Ch.k, Ch.k] (.cons (@Vai.L12.in61_ok (seq)) (.cons (nb h0) (.cons (@Vai.L12.in61_ok (dsn)) (.cons (nb h1) (.cons (@Vai.L12.in61_ok (at_)) (.cons (nb h2) (.nil))))))) (by kernel_rfl)
theorem rone52_12 (seq len dsn at_ tries : Int) (came lost : Bool) (total last : Int) (h0 : (decide ((0 : Int) ≤ seq ∧ seq ≤ (1152921504606846976 : Int))) = true) (h1 : (decide ((0 : Int) ≤ dsn ∧ dsn ≤ (1152921504606846976 : Int))) = false) : Ans cfg 52 [.agg [.int .i64 seq, .int .i64 len, .int .i64 dsn, .int .i64 at_, .int .i64 tries, .bool came, .bool lost, .int .i64 total, .int .i64 last]] (AV.bool false) :=
  ans_of 5 [Ch.n, Ch.r (AV.bool (decide ((0 : Int) ≤ seq ∧ seq ≤ (1152921504606846976 : Int)))), Ch.b false, Ch.n, Ch.r (AV.bool (decide ((0 : Int) ≤ dsn ∧ dsn ≤ (1152921504606846976 : Int)))), Ch.b true, Ch.k, Ch.k, Ch.k, Ch.k] (.cons (@Vai.L12.in61_ok (seq)) (.cons (nb h0) (.cons (@Vai.L12.in61_ok (dsn)) (.cons (nb h1) (.nil))))) (by kernel_rfl)
theorem rone52_13 (seq len dsn at_ tries : Int) (came lost : Bool) (total last : Int) (h0 : (decide ((0 : Int) ≤ seq ∧ seq ≤ (1152921504606846976 : Int))) = false) : Ans cfg 52 [.agg [.int .i64 seq, .int .i64 len, .int .i64 dsn, .int .i64 at_, .int .i64 tries, .bool came, .bool lost, .int .i64 total, .int .i64 last]] (AV.bool false) :=
  ans_of 5 [Ch.n, Ch.r (AV.bool (decide ((0 : Int) ≤ seq ∧ seq ≤ (1152921504606846976 : Int)))), Ch.b true, Ch.k, Ch.k, Ch.k, Ch.k, Ch.k] (.cons (@Vai.L12.in61_ok (seq)) (.cons (nb h0) (.nil))) (by kernel_rfl)
theorem rone52 (seq len dsn at_ tries : Int) (came lost : Bool) (total last : Int) : Ans cfg 52 [.agg [.int .i64 seq, .int .i64 len, .int .i64 dsn, .int .i64 at_, .int .i64 tries, .bool came, .bool lost, .int .i64 total, .int .i64 last]] (bif decide ((0 : Int) ≤ seq ∧ seq ≤ (1152921504606846976 : Int)) then (bif decide ((0 : Int) ≤ dsn ∧ dsn ≤ (1152921504606846976 : Int)) then (bif decide ((0 : Int) ≤ at_ ∧ at_ ≤ (1152921504606846976 : Int)) then (bif decide ((0 : Int) ≤ total ∧ total ≤ (1152921504606846976 : Int)) then (bif decide ((0 : Int) ≤ last ∧ last ≤ (1152921504606846976 : Int)) then (bif came then (bif lost then (AV.bool false) else (bif decide (len ≥ (1 : Int)) then (bif decide (len ≤ (1460 : Int)) then (bif decide (tries ≥ (1 : Int)) then (AV.bool (decide (tries ≤ (1000 : Int)))) else (AV.bool false)) else (AV.bool false)) else (AV.bool false))) else (bif decide (len ≥ (1 : Int)) then (bif decide (len ≤ (1460 : Int)) then (bif decide (tries ≥ (1 : Int)) then (AV.bool (decide (tries ≤ (1000 : Int)))) else (AV.bool false)) else (AV.bool false)) else (AV.bool false))) else (AV.bool false)) else (AV.bool false)) else (AV.bool false)) else (AV.bool false)) else (AV.bool false)) :=
  (Ans.cases (fun h0 => (Ans.cases (fun h1 => (Ans.cases (fun h2 => (Ans.cases (fun h3 => (Ans.cases (fun h4 => (Ans.cases (fun h5 => (Ans.cases (fun h6 => (rone52_0 seq len dsn at_ tries came lost total last h0 h1 h2 h3 h4 h5 h6)) (fun h6 => (Ans.cases (fun h7 => (Ans.cases (fun h8 => (Ans.cases (fun h9 => (rone52_1 seq len dsn at_ tries came lost total last h0 h1 h2 h3 h4 h5 h6 h7 h8 h9)) (fun h9 => (rone52_2 seq len dsn at_ tries came lost total last h0 h1 h2 h3 h4 h5 h6 h7 h8 h9)))) (fun h8 => (rone52_3 seq len dsn at_ tries came lost total last h0 h1 h2 h3 h4 h5 h6 h7 h8)))) (fun h7 => (rone52_4 seq len dsn at_ tries came lost total last h0 h1 h2 h3 h4 h5 h6 h7)))))) (fun h5 => (Ans.cases (fun h7 => (Ans.cases (fun h8 => (Ans.cases (fun h9 => (rone52_5 seq len dsn at_ tries came lost total last h0 h1 h2 h3 h4 h5 h7 h8 h9)) (fun h9 => (rone52_6 seq len dsn at_ tries came lost total last h0 h1 h2 h3 h4 h5 h7 h8 h9)))) (fun h8 => (rone52_7 seq len dsn at_ tries came lost total last h0 h1 h2 h3 h4 h5 h7 h8)))) (fun h7 => (rone52_8 seq len dsn at_ tries came lost total last h0 h1 h2 h3 h4 h5 h7)))))) (fun h4 => (rone52_9 seq len dsn at_ tries came lost total last h0 h1 h2 h3 h4)))) (fun h3 => (rone52_10 seq len dsn at_ tries came lost total last h0 h1 h2 h3)))) (fun h2 => (rone52_11 seq len dsn at_ tries came lost total last h0 h1 h2)))) (fun h1 => (rone52_12 seq len dsn at_ tries came lost total last h0 h1)))) (fun h0 => (rone52_13 seq len dsn at_ tries came lost total last h0)))


theorem rone_ok (seq len dsn at_ tries : Int) (came lost : Bool) (total last : Int) : Ans cfg 52 [.agg [.int .i64 seq, .int .i64 len, .int .i64 dsn, .int .i64 at_, .int .i64 tries, .bool came, .bool lost, .int .i64 total, .int .i64 last]] (.bool (oneB seq len dsn at_ tries came lost total last)) := by
  refine (rone52 seq len dsn at_ tries came lost total last).to rfl ?_
  have no : ∀ (P : Prop) [Decidable P] (b : Bool), ¬ P → AV.bool false = AV.bool (decide P && b) := fun P _ b h => by rw [decide_eq_false h, Bool.false_and]
  unfold oneB
  by_cases h0 : 0 ≤ seq ∧ seq ≤ 1152921504606846976
  case neg => rw [decide_eq_false h0]; exact no _ _ (by omega)
  rw [decide_eq_true h0, cond_true]
  by_cases h1 : 0 ≤ dsn ∧ dsn ≤ 1152921504606846976
  case neg => rw [decide_eq_false h1]; exact no _ _ (by omega)
  rw [decide_eq_true h1, cond_true]
  by_cases h2 : 0 ≤ at_ ∧ at_ ≤ 1152921504606846976
  case neg => rw [decide_eq_false h2]; exact no _ _ (by omega)
  rw [decide_eq_true h2, cond_true]
  by_cases h3 : 0 ≤ total ∧ total ≤ 1152921504606846976
  case neg => rw [decide_eq_false h3]; exact no _ _ (by omega)
  rw [decide_eq_true h3, cond_true]
  by_cases h4 : 0 ≤ last ∧ last ≤ 1152921504606846976
  case neg => rw [decide_eq_false h4]; exact no _ _ (by omega)
  rw [decide_eq_true h4, cond_true]
  have rest : ∀ (b : Bool), (bif decide (len ≥ 1) then (bif decide (len ≤ 1460) then (bif decide (tries ≥ 1) then AV.bool (decide (tries ≤ 1000)) else AV.bool false) else AV.bool false) else AV.bool false) = AV.bool (decide (0 ≤ seq ∧ seq ≤ 1152921504606846976 ∧ 0 ≤ dsn ∧ dsn ≤ 1152921504606846976 ∧ 0 ≤ at_ ∧ at_ ≤ 1152921504606846976 ∧ 0 ≤ total ∧ total ≤ 1152921504606846976 ∧ 0 ≤ last ∧ last ≤ 1152921504606846976 ∧ 1 ≤ len ∧ len ≤ 1460 ∧ 1 ≤ tries ∧ tries ≤ 1000) && true) := fun b => by
    by_cases h5 : len ≥ 1
    case neg => rw [decide_eq_false h5]; exact no _ _ (by omega)
    rw [decide_eq_true h5, cond_true]
    by_cases h6 : len ≤ 1460
    case neg => rw [decide_eq_false h6]; exact no _ _ (by omega)
    rw [decide_eq_true h6, cond_true]
    by_cases h7 : tries ≥ 1
    case neg => rw [decide_eq_false h7]; exact no _ _ (by omega)
    rw [decide_eq_true h7, cond_true, Bool.and_true]
    congr 1
    rw [decide_eq_decide]
    omega
  cases came with
  | true =>
    cases lost with
    | true => rw [cond_true, cond_true]; simp
    | false => exact rest true
  | false =>
    cases lost with
    | true => exact rest true
    | false => exact rest true
theorem rchain_b_0 (l : List Snt) (i : Nat) (hl : l.length ≤ 9223372036854775807) (h0 : (decide ((↑i : Int) < (↑(List.length (rows l)) : Int))) = true) (h1 : (oneB (Snt.seq (nth l i)) (Snt.len (nth l i)) (Snt.dsn (nth l i)) (Snt.at_ (nth l i)) (Snt.tries (nth l i)) (Snt.came (nth l i)) (Snt.lost (nth l i)) (Snt.total (nth l i)) (Snt.last (nth l i))) = true) (h2 : (decide ((↑i : Int) > (0 : Int))) = true) (h3 : (Snt.seq (nth l i) == IntKind.wrap IntKind.i64 (Snt.seq (nth l (i - (1 : Nat))) + Snt.len (nth l (i - (1 : Nat))))) = true) : Goto cfg (lc Try.prog 58 0) [(0, .osl (rows l)), (3, .int .i64 i)] [] [] (E.normal) (fun Gs => [(0, AV.osl (rows l)), (3, AV.int IntKind.i64 (IntKind.wrap IntKind.i64 ((↑i : Int) + (1 : Int))))]) (fun Gs => []) [] :=
  Goto.of fun σ h g => code_of 5 [Ch.b true, Ch.e (Snt.av (nth l i)), Ch.r (AV.bool (oneB (Snt.seq (nth l i)) (Snt.len (nth l i)) (Snt.dsn (nth l i)) (Snt.at_ (nth l i)) (Snt.tries (nth l i)) (Snt.came (nth l i)) (Snt.lost (nth l i)) (Snt.total (nth l i)) (Snt.last (nth l i)))), Ch.b false, Ch.b true, Ch.e (Snt.av (nth l i)), Ch.e (Snt.av (nth l (i - (1 : Nat)))), Ch.e (Snt.av (nth l (i - (1 : Nat)))), Ch.b false] [] (L := []) (.cons h0 (.cons (by omega : (0 : Int) ≤ (↑i : Int)) (.cons (@Vai.L12.el_s (l) (i) (by (simp only [decide_eq_true_eq, decide_eq_false_iff_not, Vai.L12.rows_len] at *; omega))) (.cons (@Vai.L12.rone_ok (Snt.seq (nth l i)) (Snt.len (nth l i)) (Snt.dsn (nth l i)) (Snt.at_ (nth l i)) (Snt.tries (nth l i)) (Snt.came (nth l i)) (Snt.lost (nth l i)) (Snt.total (nth l i)) (Snt.last (nth l i))) (.cons (nb h1) (.cons h2 (.cons (by omega : (0 : Int) ≤ (↑i : Int)) (.cons (@Vai.L12.el_s (l) (i) (by (simp only [decide_eq_true_eq, decide_eq_false_iff_not, Vai.L12.rows_len] at *; omega))) (.cons (by ((try simp only [decide_eq_true_eq, decide_eq_false_iff_not, IntKind.wrap_i64, List.length_append, List.length_take, List.length_drop, List.length_replicate, List.length_cons, List.length_nil, List.length_map, List.length_set, Int.toNat_natCast, Bool.and_eq_true, Bool.or_eq_true, Bool.not_eq_true', Bool.not_eq_false', List.nil_append, List.append_nil, beq_iff_eq, beq_eq_false_iff_ne, ne_eq, Vai.L12.rows_len] at *) <;> omega) : (0 : Int) ≤ IntKind.wrap IntKind.i64 ((↑i : Int) - (1 : Int))) (.cons (@Vai.L12.el_sp (l) (i) (by (simp only [decide_eq_true_eq, decide_eq_false_iff_not, Vai.L12.rows_len] at *; omega)) (by (simp only [decide_eq_true_eq, decide_eq_false_iff_not, Vai.L12.rows_len] at *; omega)) (by assumption)) (.cons (by ((try simp only [decide_eq_true_eq, decide_eq_false_iff_not, IntKind.wrap_i64, List.length_append, List.length_take, List.length_drop, List.length_replicate, List.length_cons, List.length_nil, List.length_map, List.length_set, Int.toNat_natCast, Bool.and_eq_true, Bool.or_eq_true, Bool.not_eq_true', Bool.not_eq_false', List.nil_append, List.append_nil, beq_iff_eq, beq_eq_false_iff_ne, ne_eq, Vai.L12.rows_len] at *) <;> omega) : (0 : Int) ≤ IntKind.wrap IntKind.i64 ((↑i : Int) - (1 : Int))) (.cons (@Vai.L12.el_sp (l) (i) (by (simp only [decide_eq_true_eq, decide_eq_false_iff_not, Vai.L12.rows_len] at *; omega)) (by (simp only [decide_eq_true_eq, decide_eq_false_iff_not, Vai.L12.rows_len] at *; omega)) (by assumption)) (.cons (nb h3) (.nil)))))))))))))) (by kernel_rfl) (rfl)
theorem rchain_b_1 (l : List Snt) (i : Nat) (hl : l.length ≤ 9223372036854775807) (h0 : (decide ((↑i : Int) < (↑(List.length (rows l)) : Int))) = true) (h1 : (oneB (Snt.seq (nth l i)) (Snt.len (nth l i)) (Snt.dsn (nth l i)) (Snt.at_ (nth l i)) (Snt.tries (nth l i)) (Snt.came (nth l i)) (Snt.lost (nth l i)) (Snt.total (nth l i)) (Snt.last (nth l i))) = true) (h2 : (decide ((↑i : Int) > (0 : Int))) = true) (h3 : (Snt.seq (nth l i) == IntKind.wrap IntKind.i64 (Snt.seq (nth l (i - (1 : Nat))) + Snt.len (nth l (i - (1 : Nat))))) = false) : Goto cfg (lc Try.prog 58 0) [(0, .osl (rows l)), (3, .int .i64 i)] [] [] (E.ret) (fun Gs => [(0, AV.osl (rows l)), (2, AV.bool false), (3, AV.int IntKind.i64 (↑i : Int))]) (fun Gs => []) [] :=
  Goto.of fun σ h g => code_of 5 [Ch.b true, Ch.e (Snt.av (nth l i)), Ch.r (AV.bool (oneB (Snt.seq (nth l i)) (Snt.len (nth l i)) (Snt.dsn (nth l i)) (Snt.at_ (nth l i)) (Snt.tries (nth l i)) (Snt.came (nth l i)) (Snt.lost (nth l i)) (Snt.total (nth l i)) (Snt.last (nth l i)))), Ch.b false, Ch.b true, Ch.e (Snt.av (nth l i)), Ch.e (Snt.av (nth l (i - (1 : Nat)))), Ch.e (Snt.av (nth l (i - (1 : Nat)))), Ch.b true] [] (L := []) (.cons h0 (.cons (by omega : (0 : Int) ≤ (↑i : Int)) (.cons (@Vai.L12.el_s (l) (i) (by (simp only [decide_eq_true_eq, decide_eq_false_iff_not, Vai.L12.rows_len] at *; omega))) (.cons (@Vai.L12.rone_ok (Snt.seq (nth l i)) (Snt.len (nth l i)) (Snt.dsn (nth l i)) (Snt.at_ (nth l i)) (Snt.tries (nth l i)) (Snt.came (nth l i)) (Snt.lost (nth l i)) (Snt.total (nth l i)) (Snt.last (nth l i))) (.cons (nb h1) (.cons h2 (.cons (by omega : (0 : Int) ≤ (↑i : Int)) (.cons (@Vai.L12.el_s (l) (i) (by (simp only [decide_eq_true_eq, decide_eq_false_iff_not, Vai.L12.rows_len] at *; omega))) (.cons (by ((try simp only [decide_eq_true_eq, decide_eq_false_iff_not, IntKind.wrap_i64, List.length_append, List.length_take, List.length_drop, List.length_replicate, List.length_cons, List.length_nil, List.length_map, List.length_set, Int.toNat_natCast, Bool.and_eq_true, Bool.or_eq_true, Bool.not_eq_true', Bool.not_eq_false', List.nil_append, List.append_nil, beq_iff_eq, beq_eq_false_iff_ne, ne_eq, Vai.L12.rows_len] at *) <;> omega) : (0 : Int) ≤ IntKind.wrap IntKind.i64 ((↑i : Int) - (1 : Int))) (.cons (@Vai.L12.el_sp (l) (i) (by (simp only [decide_eq_true_eq, decide_eq_false_iff_not, Vai.L12.rows_len] at *; omega)) (by (simp only [decide_eq_true_eq, decide_eq_false_iff_not, Vai.L12.rows_len] at *; omega)) (by assumption)) (.cons (by ((try simp only [decide_eq_true_eq, decide_eq_false_iff_not, IntKind.wrap_i64, List.length_append, List.length_take, List.length_drop, List.length_replicate, List.length_cons, List.length_nil, List.length_map, List.length_set, Int.toNat_natCast, Bool.and_eq_true, Bool.or_eq_true, Bool.not_eq_true', Bool.not_eq_false', List.nil_append, List.append_nil, beq_iff_eq, beq_eq_false_iff_ne, ne_eq, Vai.L12.rows_len] at *) <;> omega) : (0 : Int) ≤ IntKind.wrap IntKind.i64 ((↑i : Int) - (1 : Int))) (.cons (@Vai.L12.el_sp (l) (i) (by (simp only [decide_eq_true_eq, decide_eq_false_iff_not, Vai.L12.rows_len] at *; omega)) (by (simp only [decide_eq_true_eq, decide_eq_false_iff_not, Vai.L12.rows_len] at *; omega)) (by assumption)) (.cons (nb h3) (.nil)))))))))))))) (by kernel_rfl) (rfl)
theorem rchain_b_2 (l : List Snt) (i : Nat) (hl : l.length ≤ 9223372036854775807) (h0 : (decide ((↑i : Int) < (↑(List.length (rows l)) : Int))) = true) (h1 : (oneB (Snt.seq (nth l i)) (Snt.len (nth l i)) (Snt.dsn (nth l i)) (Snt.at_ (nth l i)) (Snt.tries (nth l i)) (Snt.came (nth l i)) (Snt.lost (nth l i)) (Snt.total (nth l i)) (Snt.last (nth l i))) = true) (h2 : (decide ((↑i : Int) > (0 : Int))) = false) : Goto cfg (lc Try.prog 58 0) [(0, .osl (rows l)), (3, .int .i64 i)] [] [] (E.normal) (fun Gs => [(0, AV.osl (rows l)), (3, AV.int IntKind.i64 (IntKind.wrap IntKind.i64 ((↑i : Int) + (1 : Int))))]) (fun Gs => []) [] :=
  Goto.of fun σ h g => code_of 5 [Ch.b true, Ch.e (Snt.av (nth l i)), Ch.r (AV.bool (oneB (Snt.seq (nth l i)) (Snt.len (nth l i)) (Snt.dsn (nth l i)) (Snt.at_ (nth l i)) (Snt.tries (nth l i)) (Snt.came (nth l i)) (Snt.lost (nth l i)) (Snt.total (nth l i)) (Snt.last (nth l i)))), Ch.b false, Ch.b false, Ch.k] [] (L := []) (.cons h0 (.cons (by omega : (0 : Int) ≤ (↑i : Int)) (.cons (@Vai.L12.el_s (l) (i) (by (simp only [decide_eq_true_eq, decide_eq_false_iff_not, Vai.L12.rows_len] at *; omega))) (.cons (@Vai.L12.rone_ok (Snt.seq (nth l i)) (Snt.len (nth l i)) (Snt.dsn (nth l i)) (Snt.at_ (nth l i)) (Snt.tries (nth l i)) (Snt.came (nth l i)) (Snt.lost (nth l i)) (Snt.total (nth l i)) (Snt.last (nth l i))) (.cons (nb h1) (.cons h2 (.nil))))))) (by kernel_rfl) (rfl)
theorem rchain_b_3 (l : List Snt) (i : Nat) (hl : l.length ≤ 9223372036854775807) (h0 : (decide ((↑i : Int) < (↑(List.length (rows l)) : Int))) = true) (h1 : (oneB (Snt.seq (nth l i)) (Snt.len (nth l i)) (Snt.dsn (nth l i)) (Snt.at_ (nth l i)) (Snt.tries (nth l i)) (Snt.came (nth l i)) (Snt.lost (nth l i)) (Snt.total (nth l i)) (Snt.last (nth l i))) = false) : Goto cfg (lc Try.prog 58 0) [(0, .osl (rows l)), (3, .int .i64 i)] [] [] (E.ret) (fun Gs => [(0, AV.osl (rows l)), (2, AV.bool false), (3, AV.int IntKind.i64 (↑i : Int))]) (fun Gs => []) [] :=
  Goto.of fun σ h g => code_of 5 [Ch.b true, Ch.e (Snt.av (nth l i)), Ch.r (AV.bool (oneB (Snt.seq (nth l i)) (Snt.len (nth l i)) (Snt.dsn (nth l i)) (Snt.at_ (nth l i)) (Snt.tries (nth l i)) (Snt.came (nth l i)) (Snt.lost (nth l i)) (Snt.total (nth l i)) (Snt.last (nth l i)))), Ch.b true, Ch.k] [] (L := []) (.cons h0 (.cons (by omega : (0 : Int) ≤ (↑i : Int)) (.cons (@Vai.L12.el_s (l) (i) (by (simp only [decide_eq_true_eq, decide_eq_false_iff_not, Vai.L12.rows_len] at *; omega))) (.cons (@Vai.L12.rone_ok (Snt.seq (nth l i)) (Snt.len (nth l i)) (Snt.dsn (nth l i)) (Snt.at_ (nth l i)) (Snt.tries (nth l i)) (Snt.came (nth l i)) (Snt.lost (nth l i)) (Snt.total (nth l i)) (Snt.last (nth l i))) (.cons (nb h1) (.nil)))))) (by kernel_rfl) (rfl)
theorem rchain_b_4 (l : List Snt) (i : Nat) (hl : l.length ≤ 9223372036854775807) (h0 : (decide ((↑i : Int) < (↑(List.length (rows l)) : Int))) = false) : Goto cfg (lc Try.prog 58 0) [(0, .osl (rows l)), (3, .int .i64 i)] [] [] (E.exit (0 : Nat)) (fun Gs => [(0, AV.osl (rows l)), (3, AV.int IntKind.i64 (↑i : Int))]) (fun Gs => []) [] :=
  Goto.of fun σ h g => code_of 5 [Ch.b false] [] (L := []) (.cons h0 (.nil)) (by kernel_rfl) (rfl)


theorem rchain_yes (l : List Snt) (hl : l.length ≤ 9223372036854775806) (h : ∀ i, i < l.length → okAt l i) : ∀ (m i : Nat), i + m = l.length →
    LoopTo cfg (lc Try.prog 58 0) [(0, .osl (rows l)), (3, .int .i64 i)] [] [] (.exit 0) (fun _ => []) (fun _ => []) []
  | 0, i, hi => by
    have h1 := rchain_b_4 l i (by omega) (by rw [rows_len]; simp only [decide_eq_false_iff_not]; omega)
    exact LoopTo.stop (by simp) (h1.pick _ fun _ => rfl)
  | m + 1, i, hi => by
    obtain ⟨ho, hc⟩ := h i (by omega)
    have k0 : decide ((i : Int) < (rows l).length) = true := by rw [rows_len]; simp only [decide_eq_true_eq]; omega
    have next := rchain_yes l hl h m (i + 1) (by omega)
    by_cases hz : 0 < i
    · have h1 := rchain_b_0 l i (by omega) k0 ho (by simp only [decide_eq_true_eq]; omega) (by rw [beq_iff_eq]; exact hc hz)
      rw [w_succ (by omega)] at h1
      exact LoopTo.step (h1.pick (fun _ => [(0, .osl (rows l)), (3, .int .i64 ((i + 1 : Nat) : Int))]) fun _ => rfl) fun _ => next
    · have h1 := rchain_b_2 l i (by omega) k0 ho (by simp only [decide_eq_false_iff_not]; omega)
      rw [w_succ (by omega)] at h1
      exact LoopTo.step (h1.pick (fun _ => [(0, .osl (rows l)), (3, .int .i64 ((i + 1 : Nat) : Int))]) fun _ => rfl) fun _ => next

theorem rchain_no (l : List Snt) (hl : l.length ≤ 9223372036854775806) : ∀ (m i : Nat), i + m = l.length → (∃ j, i ≤ j ∧ j < l.length ∧ ¬ okAt l j) →
    LoopTo cfg (lc Try.prog 58 0) [(0, .osl (rows l)), (3, .int .i64 i)] [] [] .ret (fun _ => [(2, .bool false)]) (fun _ => []) []
  | 0, i, hi, hj => by obtain ⟨j, h1, h2, _⟩ := hj; omega
  | m + 1, i, hi, hj => by
    have k0 : decide ((i : Int) < (rows l).length) = true := by rw [rows_len]; simp only [decide_eq_true_eq]; omega
    by_cases hok : okAt l i
    · have hj' : ∃ j, i + 1 ≤ j ∧ j < l.length ∧ ¬ okAt l j := by
        obtain ⟨j, h1, h2, h3⟩ := hj
        refine ⟨j, ?_, h2, h3⟩
        rcases Nat.lt_or_ge i j with h4 | h4
        · omega
        · obtain rfl : i = j := by omega
          exact absurd hok h3
      have next := rchain_no l hl m (i + 1) (by omega) hj'
      obtain ⟨ho, hc⟩ := hok
      by_cases hz : 0 < i
      · have h1 := rchain_b_0 l i (by omega) k0 ho (by simp only [decide_eq_true_eq]; omega) (by rw [beq_iff_eq]; exact hc hz)
        rw [w_succ (by omega)] at h1
        exact LoopTo.step (h1.pick (fun _ => [(0, .osl (rows l)), (3, .int .i64 ((i + 1 : Nat) : Int))]) fun _ => rfl) fun _ => next
      · have h1 := rchain_b_2 l i (by omega) k0 ho (by simp only [decide_eq_false_iff_not]; omega)
        rw [w_succ (by omega)] at h1
        exact LoopTo.step (h1.pick (fun _ => [(0, .osl (rows l)), (3, .int .i64 ((i + 1 : Nat) : Int))]) fun _ => rfl) fun _ => next
    · cases ho : (nth l i).one with
      | false => exact LoopTo.stop (by simp) ((rchain_b_3 l i (by omega) k0 ho).pick _ fun _ => rfl)
      | true =>
        by_cases hz : 0 < i
        · have h1 := rchain_b_1 l i (by omega) k0 ho (by simp only [decide_eq_true_eq]; omega) (by
            rw [beq_eq_false_iff_ne]; exact fun hc => hok ⟨ho, fun _ => hc⟩)
          exact LoopTo.stop (by simp) (h1.pick _ fun _ => rfl)
        · exact absurd ⟨ho, fun h => absurd h hz⟩ hok

theorem rchain_yes0 (l : List Snt) (hl : l.length ≤ 9223372036854775806) (h : chainB l = true) : LoopTo cfg (lc Try.prog 58 0) [(0, .osl (rows l)), (3, .int .i64 0)] [] [] (.exit 0) (fun _ => []) (fun _ => []) [] := by
  exact rchain_yes l hl (chainB_iff.1 h) l.length 0 (by omega)
theorem rchain_no0 (l : List Snt) (hl : l.length ≤ 9223372036854775806) (h : chainB l = false) : LoopTo cfg (lc Try.prog 58 0) [(0, .osl (rows l)), (3, .int .i64 0)] [] [] .ret (fun _ => [(2, .bool false)]) (fun _ => []) [] := by
  exact rchain_no l hl l.length 0 (by omega) (chainB_no h)
theorem rchainY_0 (l : List Snt) (hl : l.length ≤ 9223372036854775806) (h : chainB l = true) : Ans cfg 58 [.osl (rows l)] (AV.bool true) :=
  ans_of 5 [Ch.l [((0 : Nat), AV.osl (rows l)), ((3 : Nat), AV.int IntKind.i64 (0 : Int))] [] [] (E.exit (0 : Nat)) (fun x => []) (fun x => []) []] (.cons (Eq.refl (α := List AV) [AV.osl (rows l), AV.int IntKind.i64 (0 : Int)]) (.cons (Eq.refl (α := List (Option Blk)) []) (.cons (Eq.refl (α := List Nat) []) (.cons (@Vai.L12.rchain_yes0 (l) (by assumption) (by assumption)) (.nil))))) (by kernel_rfl)

theorem rchainN_0 (l : List Snt) (hl : l.length ≤ 9223372036854775806) (h : chainB l = false) : Ans cfg 58 [.osl (rows l)] (AV.bool false) :=
  ans_of 5 [Ch.l [((0 : Nat), AV.osl (rows l)), ((3 : Nat), AV.int IntKind.i64 (0 : Int))] [] [] E.ret (fun x => [((2 : Nat), AV.bool false)]) (fun x => []) []] (.cons (Eq.refl (α := List AV) [AV.osl (rows l), AV.int IntKind.i64 (0 : Int)]) (.cons (Eq.refl (α := List (Option Blk)) []) (.cons (Eq.refl (α := List Nat) []) (.cons (@Vai.L12.rchain_no0 (l) (by assumption) (by assumption)) (.nil))))) (by kernel_rfl)


theorem rchain_ok (l : List Snt) (hl : l.length ≤ 9223372036854775806) : Ans cfg 58 [.osl (rows l)] (.bool (chainB l)) := by
  cases h : chainB l with
  | true => exact rchainY_0 l hl h
  | false => exact rchainN_0 l hl h
theorem rmay36_0 (l : List Snt) (hl : l.length ≤ 9223372036854775806) (h0 : (decide ((↑(List.length (rows l)) : Int) ≤ (500 : Int))) = true) : Ans cfg 36 [.osl (rows l)] (AV.bool (chainB l)) :=
  ans_of 5 [Ch.b true, Ch.r (AV.bool (chainB l))] (.cons h0 (.cons (@Vai.L12.rchain_ok (l) (by assumption)) (.nil))) (by kernel_rfl)
theorem rmay36_1 (l : List Snt) (hl : l.length ≤ 9223372036854775806) (h0 : (decide ((↑(List.length (rows l)) : Int) ≤ (500 : Int))) = false) : Ans cfg 36 [.osl (rows l)] (AV.bool false) :=
  ans_of 5 [Ch.b false] (.cons h0 (.nil)) (by kernel_rfl)
theorem rmay36 (l : List Snt) (hl : l.length ≤ 9223372036854775806) : Ans cfg 36 [.osl (rows l)] (bif decide ((↑(List.length (rows l)) : Int) ≤ (500 : Int)) then (AV.bool (chainB l)) else (AV.bool false)) :=
  (Ans.cases (fun h0 => (rmay36_0 l hl h0)) (fun h0 => (rmay36_1 l hl h0)))

theorem rahead55_0 (a b c d : Int) (h0 : (decide (a < c)) = true) : Ans cfg 55 [.int .i64 a, .int .i64 b, .int .i64 c, .int .i64 d] (AV.bool true) :=
  ans_of 5 [Ch.b true] (.cons h0 (.nil)) (by kernel_rfl)
theorem rahead55_1 (a b c d : Int) (h0 : (decide (a < c)) = false) (h1 : (a == c) = true) : Ans cfg 55 [.int .i64 a, .int .i64 b, .int .i64 c, .int .i64 d] (AV.bool (decide (b < d))) :=
  ans_of 5 [Ch.b false, Ch.b true] (.cons h0 (.cons h1 (.nil))) (by kernel_rfl)
theorem rahead55_2 (a b c d : Int) (h0 : (decide (a < c)) = false) (h1 : (a == c) = false) : Ans cfg 55 [.int .i64 a, .int .i64 b, .int .i64 c, .int .i64 d] (AV.bool false) :=
  ans_of 5 [Ch.b false, Ch.b false] (.cons h0 (.cons h1 (.nil))) (by kernel_rfl)
theorem rahead55 (a b c d : Int) : Ans cfg 55 [.int .i64 a, .int .i64 b, .int .i64 c, .int .i64 d] (bif decide (a < c) then (AV.bool true) else (bif a == c then (AV.bool (decide (b < d))) else (AV.bool false))) :=
  (Ans.cases (fun h0 => (rahead55_0 a b c d h0)) (fun h0 => (Ans.cases (fun h1 => (rahead55_1 a b c d h0 h1)) (fun h1 => (rahead55_2 a b c d h0 h1)))))

theorem in53_0 (n : Int) (h0 : (decide (n ≥ (0 : Int))) = true) : Ans cfg 53 [.int .i64 n] (AV.bool (decide (n ≤ (1152921504606846976 : Int)))) :=
  ans_of 5 [Ch.b true] (.cons h0 (.nil)) (by kernel_rfl)
theorem in53_1 (n : Int) (h0 : (decide (n ≥ (0 : Int))) = false) : Ans cfg 53 [.int .i64 n] (AV.bool false) :=
  ans_of 5 [Ch.b false] (.cons h0 (.nil)) (by kernel_rfl)
theorem in53 (n : Int) : Ans cfg 53 [.int .i64 n] (bif decide (n ≥ (0 : Int)) then (AV.bool (decide (n ≤ (1152921504606846976 : Int)))) else (AV.bool false)) :=
  (Ans.cases (fun h0 => (in53_0 n h0)) (fun h0 => (in53_1 n h0)))

theorem brief54_0 (n : Int) (h0 : (decide (n ≥ (0 : Int))) = true) : Ans cfg 54 [.int .i64 n] (AV.bool (decide (n ≤ (1099511627776 : Int)))) :=
  ans_of 5 [Ch.b true] (.cons h0 (.nil)) (by kernel_rfl)
theorem brief54_1 (n : Int) (h0 : (decide (n ≥ (0 : Int))) = false) : Ans cfg 54 [.int .i64 n] (AV.bool false) :=
  ans_of 5 [Ch.b false] (.cons h0 (.nil)) (by kernel_rfl)
theorem brief54 (n : Int) : Ans cfg 54 [.int .i64 n] (bif decide (n ≥ (0 : Int)) then (AV.bool (decide (n ≤ (1099511627776 : Int)))) else (AV.bool false)) :=
  (Ans.cases (fun h0 => (brief54_0 n h0)) (fun h0 => (brief54_1 n h0)))


theorem rahead_ok (a b c d : Int) : Ans cfg 55 [.int .i64 a, .int .i64 b, .int .i64 c, .int .i64 d] (.bool (aheadB a b c d)) := by
  refine (rahead55 a b c d).to rfl ?_
  simp only [bif_bool, aheadB]
  try congr 1
  simp only [cond_eq_ite, decide_eq_true_eq, beq_iff_eq, IntKind.wrap_i64]
  repeat' split
  all_goals first | (rw [decide_eq_decide]; omega) | (symm; rw [decide_eq_false_iff_not]; omega) | (symm; rw [decide_eq_true_eq]; omega)


theorem in53_ok (n : Int) : Ans cfg 53 [.int .i64 n] (.bool (decide (0 ≤ n ∧ n ≤ 1152921504606846976))) := by
  refine (in53 n).to rfl ?_
  simp only [bif_bool]
  try congr 1
  simp only [cond_eq_ite, decide_eq_true_eq, IntKind.wrap_i64]
  repeat' split
  all_goals first | (rw [decide_eq_decide]; omega) | (symm; rw [decide_eq_false_iff_not]; omega) | (symm; rw [decide_eq_true_eq]; omega)


theorem brief54_ok (n : Int) : Ans cfg 54 [.int .i64 n] (.bool (decide (0 ≤ n ∧ n ≤ 1099511627776))) := by
  refine (brief54 n).to rfl ?_
  simp only [bif_bool]
  try congr 1
  simp only [cond_eq_ite, decide_eq_true_eq, IntKind.wrap_i64]
  repeat' split
  all_goals first | (rw [decide_eq_decide]; omega) | (symm; rw [decide_eq_false_iff_not]; omega) | (symm; rw [decide_eq_true_eq]; omega)

theorem rmayS_ok (l : List Snt) (hl : l.length ≤ 9223372036854775806) : Ans cfg 36 [.osl (rows l)] (.bool (mayS l)) := by
  refine (rmay36 l hl).to rfl ?_
  unfold mayS
  rw [rows_len]
  by_cases h : l.length ≤ 500
  · rw [decide_eq_true (show ((l.length : Nat) : Int) ≤ 500 by omega), decide_eq_true h, Bool.true_and]; rfl
  · rw [decide_eq_false (show ¬ ((l.length : Nat) : Int) ≤ 500 by omega), decide_eq_false h, Bool.false_and]; rfl
end Vai.L12
