import Derived.Test.YtjienkojedlfjaaVoE
import Derived.Test.YtjienkojedlfjaaNP
namespace Vai.L04c
open Go Go.RowKit Go.Proofs Vai Vai.L04 Vai.R3c
set_option maxRecDepth 100000
set_option linter.unusedVariables false
set_option linter.unusedSimpArgs false
theorem ctP_to (l : List Spn) (s : Spn) (hl : l.length ≤ 9223372036854775806) (h1 : mayP l = true) (h2 : oneP s.a s.b = true) {RES : Prop}
    (p0 : (Goto cfg (piece (codeOf 60) 0 5) [(0, .osl (prows l)), (1, .agg [.int .i64 s.a, .int .i64 s.b])] [] [(2, 0), (3, 0), (6, 0), (24, 0)] (E.normal) (fun Gs => [(6, AV.ptr (6 : Nat) (0 : Nat) (0 : Nat) (0 : Nat)), (18, AV.fn (102 : Nat) [] [AV.ptr (2 : Nat) (0 : Nat) (0 : Nat) (0 : Nat), AV.ptr (3 : Nat) (1 : Nat) (0 : Nat) (0 : Nat)])]) (fun Gs => [((2, (0 : Nat)), { es := [AV.osl (prows l)], fr := false }), ((3, (1 : Nat)), { es := [AV.agg [AV.int IntKind.i64 (Spn.a s), AV.int IntKind.i64 (Spn.b s)]], fr := false }), ((6, (0 : Nat)), { es := [AV.nl], fr := false })]) [(24, (0 : Nat))]) → RES) : RES :=
  (p0 (Goto.of fun σ h g => code_of 5 [Ch.r (AV.bool (mayP l)), Ch.b false, Ch.n, Ch.r (AV.bool (oneP (Spn.a s) (Spn.b s))), Ch.b false, Ch.n] [] (L := [some { es := [AV.osl (prows l)], fr := false }, some { es := [AV.agg [AV.int IntKind.i64 (Spn.a s), AV.int IntKind.i64 (Spn.b s)]], fr := false }, some { es := [AV.nl], fr := false }]) (.cons (@Vai.L04c.pmay_ok (l) (by assumption)) (.cons (by ((try simp only [decide_eq_true_eq, decide_eq_false_iff_not, IntKind.wrap_i64, List.length_append, List.length_take, List.length_drop, List.length_replicate, List.length_cons, List.length_nil, List.length_map, List.length_set, Int.toNat_natCast, Bool.and_eq_true, Bool.or_eq_true, Bool.not_eq_true', Bool.not_eq_false', List.nil_append, List.append_nil, beq_iff_eq, beq_eq_false_iff_ne, ne_eq, Vai.L04.prows_len] at *) <;> omega) : (!mayP l) = false) (.cons (@Vai.L04c.pone_ok (Spn.a s) (Spn.b s)) (.cons (by ((try simp only [decide_eq_true_eq, decide_eq_false_iff_not, IntKind.wrap_i64, List.length_append, List.length_take, List.length_drop, List.length_replicate, List.length_cons, List.length_nil, List.length_map, List.length_set, Int.toNat_natCast, Bool.and_eq_true, Bool.or_eq_true, Bool.not_eq_true', Bool.not_eq_false', List.nil_append, List.append_nil, beq_iff_eq, beq_eq_false_iff_ne, ne_eq, Vai.L04.prows_len] at *) <;> omega) : (!oneP (Spn.a s) (Spn.b s)) = false) (.nil))))) (by kernel_rfl) (rfl)))
theorem ctN_to (u v : Int) (b : Bool) (M : Nat) {RES : Prop}
    (p0 : (Goto cfg (.seq (rngA CR) (rngB CR)) [(6, .ptr 6 0 0 0), (19, .agg [.int .i64 u, .int .i64 v]), (20, .bool b)] [((6, 0), ⟨[.nl], false⟩)] [(24, M)] (E.normal) (fun Gs => [(6, AV.ptr (6 : Nat) (0 : Nat) (0 : Nat) (0 : Nat))]) (fun Gs => [((6, (0 : Nat)), { es := [AV.sl (2 : Nat) (24 : Nat) M (0 : Nat) (1 : Nat)], fr := false }), ((24, M), { es := [AV.agg [AV.int IntKind.i64 u, AV.int IntKind.i64 v]], fr := false })]) [(24, M + (1 : Nat))]) → RES) : RES :=
  (p0 (Goto.of fun σ h g => code_of 5 [Ch.m { es := [AV.agg [AV.int IntKind.i64 (0 : Int), AV.int IntKind.i64 (0 : Int)]], fr := false }, Ch.n, Ch.n, Ch.m { es := [AV.agg [AV.int IntKind.i64 u, AV.int IntKind.i64 v]], fr := false }, Ch.n, Ch.m { es := [AV.agg [AV.int IntKind.i64 u, AV.int IntKind.i64 v]], fr := false }, Ch.n] [] (L := [some { es := [AV.sl (2 : Nat) (24 : Nat) M (0 : Nat) (1 : Nat)], fr := false }, if (24 : Nat) = (6 : Nat) ∧ M = (0 : Nat) then some { es := [AV.sl (2 : Nat) (24 : Nat) M (0 : Nat) (1 : Nat)], fr := false } else if (24 : Nat) = (24 : Nat) ∧ M = M then some { es := [AV.agg [AV.int IntKind.i64 u, AV.int IntKind.i64 v]], fr := false } else if (24 : Nat) = (23 : Nat) ∧ M = g (23 : Nat) then some { es := [AV.agg [AV.int IntKind.i64 u, AV.int IntKind.i64 v]], fr := false } else if (24 : Nat) = (7 : Nat) ∧ M = g (7 : Nat) then some { es := [AV.agg [AV.int IntKind.i64 u, AV.int IntKind.i64 v]], fr := false } else if (24 : Nat) = (7 : Nat) ∧ M = g (7 : Nat) then some { es := [AV.agg [AV.int IntKind.i64 (0 : Int), AV.int IntKind.i64 (0 : Int)]], fr := false } else if (24 : Nat) = (6 : Nat) ∧ M = (0 : Nat) then some { es := [AV.nl], fr := false } else h (24 : Nat) M]) (.cons (by simp : (if (7 : Nat) = (7 : Nat) ∧ g (7 : Nat) = g (7 : Nat) then some { es := [AV.agg [AV.int IntKind.i64 (0 : Int), AV.int IntKind.i64 (0 : Int)]], fr := false } else if (7 : Nat) = (6 : Nat) ∧ g (7 : Nat) = (0 : Nat) then some { es := [AV.nl], fr := false } else h (7 : Nat) (g (7 : Nat))) = some ({ es := [AV.agg [AV.int IntKind.i64 (0 : Int), AV.int IntKind.i64 (0 : Int)]], fr := false })) (.cons (by simp : (if (7 : Nat) = (7 : Nat) ∧ g (7 : Nat) = g (7 : Nat) then some { es := [AV.agg [AV.int IntKind.i64 u, AV.int IntKind.i64 v]], fr := false } else if (7 : Nat) = (7 : Nat) ∧ g (7 : Nat) = g (7 : Nat) then some { es := [AV.agg [AV.int IntKind.i64 (0 : Int), AV.int IntKind.i64 (0 : Int)]], fr := false } else if (7 : Nat) = (6 : Nat) ∧ g (7 : Nat) = (0 : Nat) then some { es := [AV.nl], fr := false } else h (7 : Nat) (g (7 : Nat))) = some ({ es := [AV.agg [AV.int IntKind.i64 u, AV.int IntKind.i64 v]], fr := false })) (.cons (by simp : (if (23 : Nat) = (23 : Nat) ∧ g (23 : Nat) = g (23 : Nat) then some { es := [AV.agg [AV.int IntKind.i64 u, AV.int IntKind.i64 v]], fr := false } else if (23 : Nat) = (7 : Nat) ∧ g (23 : Nat) = g (7 : Nat) then some { es := [AV.agg [AV.int IntKind.i64 u, AV.int IntKind.i64 v]], fr := false } else if (23 : Nat) = (7 : Nat) ∧ g (23 : Nat) = g (7 : Nat) then some { es := [AV.agg [AV.int IntKind.i64 (0 : Int), AV.int IntKind.i64 (0 : Int)]], fr := false } else if (23 : Nat) = (6 : Nat) ∧ g (23 : Nat) = (0 : Nat) then some { es := [AV.nl], fr := false } else h (23 : Nat) (g (23 : Nat))) = some ({ es := [AV.agg [AV.int IntKind.i64 u, AV.int IntKind.i64 v]], fr := false })) (.cons (by decide : (1 : Nat) ≤ (1 : Nat)) (.cons (by (refine all1 ?_ <;> rfl) : (List.all [AV.agg [AV.int IntKind.i64 u, AV.int IntKind.i64 v]] fun x => AV.ok x && decide (List.length (AV.cells x) = (2 : Nat))) = true) (.cons (by decide : (16 : Nat) ≤ (140737488355328 : Nat) ∧ (1 : Nat) ≤ (140737488355328 : Nat)) (.nil))))))) (by kernel_rfl) (by simp)))
theorem ctS_to (u v : Int) (b : Bool) (xs : List Spn) (H M : Nat) (hx : xs.length ≤ 1001) {RES : Prop}
    (p0 : (Goto cfg (.seq (rngA CR) (rngB CR)) [(6, .ptr 6 0 0 0), (19, .agg [.int .i64 u, .int .i64 v]), (20, .bool b)] [((6, 0), ⟨[.sl 2 24 H 0 xs.length], false⟩), ((24, H), ⟨prows xs, false⟩)] [(24, M)] (E.normal) (fun Gs => [(6, AV.ptr (6 : Nat) (0 : Nat) (0 : Nat) (0 : Nat))]) (fun Gs => [((6, (0 : Nat)), { es := [AV.sl (2 : Nat) (24 : Nat) M (0 : Nat) (List.length (List.take (List.length xs) (prows xs)) + (1 : Nat))], fr := false }), ((24, M), { es := List.take (List.length xs) (prows xs) ++ [AV.agg [AV.int IntKind.i64 u, AV.int IntKind.i64 v]], fr := false })]) [(24, M + (1 : Nat))]) → RES) : RES :=
  (p0 (Goto.of fun σ h g => code_of 5 [Ch.m { es := [AV.agg [AV.int IntKind.i64 (0 : Int), AV.int IntKind.i64 (0 : Int)]], fr := false }, Ch.n, Ch.n, Ch.m { es := [AV.agg [AV.int IntKind.i64 u, AV.int IntKind.i64 v]], fr := false }, Ch.n, Ch.m { es := [AV.agg [AV.int IntKind.i64 u, AV.int IntKind.i64 v]], fr := false }, Ch.m { es := prows xs, fr := false }, Ch.n] [] (L := [some { es := [AV.sl (2 : Nat) (24 : Nat) M (0 : Nat) (List.length (List.take (List.length xs) (prows xs)) + (1 : Nat))], fr := false }, if (24 : Nat) = (6 : Nat) ∧ M = (0 : Nat) then some { es := [AV.sl (2 : Nat) (24 : Nat) M (0 : Nat) (List.length (List.take (List.length xs) (prows xs)) + (1 : Nat))], fr := false } else if (24 : Nat) = (24 : Nat) ∧ M = M then some { es := List.take (List.length xs) (prows xs) ++ [AV.agg [AV.int IntKind.i64 u, AV.int IntKind.i64 v]], fr := false } else if (24 : Nat) = (24 : Nat) ∧ M = H then none else if (24 : Nat) = (23 : Nat) ∧ M = g (23 : Nat) then some { es := [AV.agg [AV.int IntKind.i64 u, AV.int IntKind.i64 v]], fr := false } else if (24 : Nat) = (7 : Nat) ∧ M = g (7 : Nat) then some { es := [AV.agg [AV.int IntKind.i64 u, AV.int IntKind.i64 v]], fr := false } else if (24 : Nat) = (7 : Nat) ∧ M = g (7 : Nat) then some { es := [AV.agg [AV.int IntKind.i64 (0 : Int), AV.int IntKind.i64 (0 : Int)]], fr := false } else if (24 : Nat) = (6 : Nat) ∧ M = (0 : Nat) then some { es := [AV.sl (2 : Nat) (24 : Nat) H (0 : Nat) (List.length xs)], fr := false } else if (24 : Nat) = (24 : Nat) ∧ M = H then some { es := prows xs, fr := false } else h (24 : Nat) M]) (.cons (by simp : (if (7 : Nat) = (7 : Nat) ∧ g (7 : Nat) = g (7 : Nat) then some { es := [AV.agg [AV.int IntKind.i64 (0 : Int), AV.int IntKind.i64 (0 : Int)]], fr := false } else if (7 : Nat) = (6 : Nat) ∧ g (7 : Nat) = (0 : Nat) then some { es := [AV.sl (2 : Nat) (24 : Nat) H (0 : Nat) (List.length xs)], fr := false } else if (7 : Nat) = (24 : Nat) ∧ g (7 : Nat) = H then some { es := prows xs, fr := false } else h (7 : Nat) (g (7 : Nat))) = some ({ es := [AV.agg [AV.int IntKind.i64 (0 : Int), AV.int IntKind.i64 (0 : Int)]], fr := false })) (.cons (by simp : (if (7 : Nat) = (7 : Nat) ∧ g (7 : Nat) = g (7 : Nat) then some { es := [AV.agg [AV.int IntKind.i64 u, AV.int IntKind.i64 v]], fr := false } else if (7 : Nat) = (7 : Nat) ∧ g (7 : Nat) = g (7 : Nat) then some { es := [AV.agg [AV.int IntKind.i64 (0 : Int), AV.int IntKind.i64 (0 : Int)]], fr := false } else if (7 : Nat) = (6 : Nat) ∧ g (7 : Nat) = (0 : Nat) then some { es := [AV.sl (2 : Nat) (24 : Nat) H (0 : Nat) (List.length xs)], fr := false } else if (7 : Nat) = (24 : Nat) ∧ g (7 : Nat) = H then some { es := prows xs, fr := false } else h (7 : Nat) (g (7 : Nat))) = some ({ es := [AV.agg [AV.int IntKind.i64 u, AV.int IntKind.i64 v]], fr := false })) (.cons (by simp : (if (23 : Nat) = (23 : Nat) ∧ g (23 : Nat) = g (23 : Nat) then some { es := [AV.agg [AV.int IntKind.i64 u, AV.int IntKind.i64 v]], fr := false } else if (23 : Nat) = (7 : Nat) ∧ g (23 : Nat) = g (7 : Nat) then some { es := [AV.agg [AV.int IntKind.i64 u, AV.int IntKind.i64 v]], fr := false } else if (23 : Nat) = (7 : Nat) ∧ g (23 : Nat) = g (7 : Nat) then some { es := [AV.agg [AV.int IntKind.i64 (0 : Int), AV.int IntKind.i64 (0 : Int)]], fr := false } else if (23 : Nat) = (6 : Nat) ∧ g (23 : Nat) = (0 : Nat) then some { es := [AV.sl (2 : Nat) (24 : Nat) H (0 : Nat) (List.length xs)], fr := false } else if (23 : Nat) = (24 : Nat) ∧ g (23 : Nat) = H then some { es := prows xs, fr := false } else h (23 : Nat) (g (23 : Nat))) = some ({ es := [AV.agg [AV.int IntKind.i64 u, AV.int IntKind.i64 v]], fr := false })) (.cons (by decide : (1 : Nat) ≤ (1 : Nat)) (.cons (by simp : (if (24 : Nat) = (23 : Nat) ∧ H = g (23 : Nat) then some { es := [AV.agg [AV.int IntKind.i64 u, AV.int IntKind.i64 v]], fr := false } else if (24 : Nat) = (7 : Nat) ∧ H = g (7 : Nat) then some { es := [AV.agg [AV.int IntKind.i64 u, AV.int IntKind.i64 v]], fr := false } else if (24 : Nat) = (7 : Nat) ∧ H = g (7 : Nat) then some { es := [AV.agg [AV.int IntKind.i64 (0 : Int), AV.int IntKind.i64 (0 : Int)]], fr := false } else if (24 : Nat) = (6 : Nat) ∧ H = (0 : Nat) then some { es := [AV.sl (2 : Nat) (24 : Nat) H (0 : Nat) (List.length xs)], fr := false } else if (24 : Nat) = (24 : Nat) ∧ H = H then some { es := prows xs, fr := false } else h (24 : Nat) H) = some ({ es := prows xs, fr := false })) (.cons (by (simp only [decide_eq_true_eq, decide_eq_false_iff_not, Vai.L04.prows_len] at *; omega) : List.length xs ≤ List.length (prows xs)) (.cons (by (refine all1 ?_ <;> rfl) : (List.all [AV.agg [AV.int IntKind.i64 u, AV.int IntKind.i64 v]] fun x => AV.ok x && decide (List.length (AV.cells x) = (2 : Nat))) = true) (.cons (by ((try simp only [decide_eq_true_eq, decide_eq_false_iff_not, IntKind.wrap_i64, List.length_append, List.length_take, List.length_drop, List.length_replicate, List.length_cons, List.length_nil, List.length_map, List.length_set, Int.toNat_natCast, Bool.and_eq_true, Bool.or_eq_true, Bool.not_eq_true', Bool.not_eq_false', List.nil_append, List.append_nil, beq_iff_eq, beq_eq_false_iff_ne, ne_eq, Vai.L04.prows_len] at *) <;> omega) : (List.length (List.take (List.length xs) (prows xs)) + (1 : Nat)) * (16 : Nat) ≤ (140737488355328 : Nat) ∧ List.length (List.take (List.length xs) (prows xs)) + (1 : Nat) ≤ (140737488355328 : Nat)) (.nil))))))))) (by kernel_rfl) (by simp)))
theorem ctTN_0 (n : Nat) : FromL cfg 60 6 [(6, .ptr 6 0 0 0)] [((6, 0), ⟨[.nl], false⟩)] [] (AV.tup [AV.osl [], AV.int IntKind.i64 (0 : Int)]) :=
  FromL.of fun σ h g => from_of 5 [Ch.n, Ch.k] (.nil) (by kernel_rfl)
theorem ctTN_to (n : Nat) {RES : AV}
    (p0 : (AV.tup [AV.osl [], AV.int IntKind.i64 (0 : Int)]) = RES) : FromL cfg 60 6 [(6, .ptr 6 0 0 0)] [((6, 0), ⟨[.nl], false⟩)] [] RES :=
  ((ctTN_0 n).to  (p0))
theorem ctTS_0 (xs : List Spn) (H : Nat) (hx : xs.length ≤ 1001) (h0 : (decide ((↑(List.length xs) : Int) > (1000 : Int))) = true) : FromL cfg 60 6 [(6, .ptr 6 0 0 0)] [((6, 0), ⟨[.sl 2 24 H 0 xs.length], false⟩), ((24, H), ⟨prows xs, false⟩)] [] (AV.tup [AV.osl [], AV.int IntKind.i64 (4 : Int)]) :=
  FromL.of fun σ h g => from_of 5 [Ch.n, Ch.b true] (.cons h0 (.nil)) (by kernel_rfl)
theorem ctTS_1 (xs : List Spn) (H : Nat) (hx : xs.length ≤ 1001) (h0 : (decide ((↑(List.length xs) : Int) > (1000 : Int))) = false) : FromL cfg 60 6 [(6, .ptr 6 0 0 0)] [((6, 0), ⟨[.sl 2 24 H 0 xs.length], false⟩), ((24, H), ⟨prows xs, false⟩)] [] (AV.tup [AV.osl (List.take (List.length xs) (prows xs)), AV.int IntKind.i64 (0 : Int)]) :=
  FromL.of fun σ h g => from_of 5 [Ch.n, Ch.b false, Ch.m { es := prows xs, fr := false }] (.cons h0 (.cons (by simp : (if (24 : Nat) = (6 : Nat) ∧ H = (0 : Nat) then some { es := [AV.sl (2 : Nat) (24 : Nat) H (0 : Nat) (List.length xs)], fr := false } else if (24 : Nat) = (24 : Nat) ∧ H = H then some { es := prows xs, fr := false } else h (24 : Nat) H) = some ({ es := prows xs, fr := false })) (.cons (by (simp only [decide_eq_true_eq, decide_eq_false_iff_not, Vai.L04.prows_len] at *; omega) : (0 : Nat) + List.length xs ≤ List.length (prows xs)) (.cons (by ((try simp only [Nat.zero_add, Vai.L04.prows_len, Vai.L04.take_prows, Vai.L04.prows_snoc, Vai.L04.take_prows_snoc]) <;> first | exact prows_free _ | exact prows_ok _ | exact prows_one _) : (List.all (List.take (List.length xs) (prows xs)) fun x => AV.free x && decide (List.length (AV.cells x) = (2 : Nat))) = true) (.nil))))) (by kernel_rfl)
theorem ctTS_to (xs : List Spn) (H : Nat) (hx : xs.length ≤ 1001) {RES : AV}
    (p0 : ((↑(List.length xs) : Int) > (1000 : Int)) → (AV.tup [AV.osl [], AV.int IntKind.i64 (4 : Int)]) = RES)
    (p1 : ¬ ((↑(List.length xs) : Int) > (1000 : Int)) → (AV.tup [AV.osl (List.take (List.length xs) (prows xs)), AV.int IntKind.i64 (0 : Int)]) = RES) : FromL cfg 60 6 [(6, .ptr 6 0 0 0)] [((6, 0), ⟨[.sl 2 24 H 0 xs.length], false⟩), ((24, H), ⟨prows xs, false⟩)] [] RES :=
  (Vai.bcases (decide ((↑(List.length xs) : Int) > (1000 : Int))) (fun h0 => ((ctTS_0 xs H hx h0).to  (p0 (of_decide_eq_true h0)))) (fun h0 => ((ctTS_1 xs H hx h0).to  (p1 (of_decide_eq_false h0)))))
theorem ctE_0 (l : List Spn) (s : Spn) (hl : l.length ≤ 9223372036854775806) (hm : (mayP l && oneP s.a s.b) = false) (h0 : (mayP l) = true) (h1 : (oneP (Spn.a s) (Spn.b s)) = false) : Ans cfg 60 [.osl (prows l), .agg [.int .i64 s.a, .int .i64 s.b]] (AV.tup [AV.osl [], AV.int IntKind.i64 (1 : Int)]) :=
  ans_of 5 [Ch.r (AV.bool (mayP l)), Ch.b false, Ch.n, Ch.r (AV.bool (oneP (Spn.a s) (Spn.b s))), Ch.b true] (.cons (@Vai.L04c.pmay_ok (l) (by assumption)) (.cons (nb h0) (.cons (@Vai.L04c.pone_ok (Spn.a s) (Spn.b s)) (.cons (nb h1) (.nil))))) (by kernel_rfl)
theorem ctE_1 (l : List Spn) (s : Spn) (hl : l.length ≤ 9223372036854775806) (hm : (mayP l && oneP s.a s.b) = false) (h0 : (mayP l) = false) : Ans cfg 60 [.osl (prows l), .agg [.int .i64 s.a, .int .i64 s.b]] (AV.tup [AV.osl [], AV.int IntKind.i64 (1 : Int)]) :=
  ans_of 5 [Ch.r (AV.bool (mayP l)), Ch.b true, Ch.k] (.cons (@Vai.L04c.pmay_ok (l) (by assumption)) (.cons (nb h0) (.nil))) (by kernel_rfl)
theorem ctE_to (l : List Spn) (s : Spn) (hl : l.length ≤ 9223372036854775806) (hm : (mayP l && oneP s.a s.b) = false) {RES : AV}
    (n1 : (mayP l) = true → (oneP (Spn.a s) (Spn.b s)) = false)
    (p0 : (mayP l) = true → (oneP (Spn.a s) (Spn.b s)) = false → (AV.tup [AV.osl [], AV.int IntKind.i64 (1 : Int)]) = RES)
    (p1 : (mayP l) = false → (AV.tup [AV.osl [], AV.int IntKind.i64 (1 : Int)]) = RES) : Ans cfg 60 [.osl (prows l), .agg [.int .i64 s.a, .int .i64 s.b]] RES :=
  (Vai.bcases (mayP l) (fun h0 => ((fun h1 => ((ctE_0 l s hl hm h0 h1).to rfl (p0 h0 h1))) (n1 h0))) (fun h0 => ((ctE_1 l s hl hm h0).to rfl (p1 h0))))
theorem ctf_fn : Try.prog.funcs[60]? = some (fnOf 60) := by kernel_rfl
theorem ctf_body : (fnOf 60).body = some (codeOf 60) := by kernel_rfl
theorem ctf_flat : flatS (codeOf 60) = ((flat (codeOf 60)).drop 0).take 5 ++ .block 0 (.rangeFunc (.tmp 18) #[19, 20] (rngA CR) (rngB CR)) :: (bodyL Try.prog 60).drop 6 := by kernel_rfl
theorem ctf_sa : codeStat cfg (fnOf 60).ntmps (rngA CR) = true := by kernel_rfl
theorem ctf_sb : codeStat cfg (fnOf 60).ntmps (rngB CR) = true := by kernel_rfl
theorem ctf_fa : flatC (rngA CR) = true := by kernel_rfl
theorem ctf_fb : flatC (rngB CR) = true := by kernel_rfl
theorem ctf_ps : ∀ p ∈ (#[19, 20] : Array Tmp).toList, p < (fnOf 60).ntmps := by
  have h : ((#[19, 20] : Array Tmp).toList.all fun p => decide (p < (fnOf 60).ntmps)) = true := by kernel_rfl
  intro p hp
  exact of_decide_eq_true (List.all_eq_true.1 h p hp)
theorem itf_enter (args : Array Value) (w : World) : (callFunc 102 args).run Try.prog w = .ok (.enter 102 args) w :=
  callFunc_enter itf_fn itf_body (by kernel_rfl) args w
def cutT (s x : Spn) : List (Spn × Bool) := (if x.a < lft s x then [(⟨x.a, lft s x⟩, true)] else []) ++ (if rgt s x < x.b then [(⟨rgt s x, x.b⟩, false)] else [])
def encT (p : Spn × Bool) : List AV := [.agg [.int .i64 p.1.a, .int .i64 p.1.b], .bool p.2]
theorem outs_T (l : List Spn) (s : Spn) : outsP l s = (l.flatMap (cutT s)).map encT := by
  unfold outsP
  rw [List.map_flatMap]
  congr 1
  funext x
  unfold cutO cutT
  rw [List.map_append]
  congr 1 <;> split <;> rfl
theorem cut_T (l : List Spn) (s : Spn) : cutL l s = (l.flatMap (cutT s)).map (·.1) := by
  unfold cutL
  rw [List.map_flatMap]
  congr 1
  funext x
  unfold cutF cutT
  rw [List.map_append]
  congr 1 <;> split <;> rfl
theorem outs_len (l : List Spn) (s : Spn) : (outsP l s).length = (cutL l s).length := by rw [outs_T, cut_T, List.length_map, List.length_map]
theorem outs_get {l : List Spn} {s : Spn} {i : Nat} {x : List AV} (h : (outsP l s)[i]? = some x) : ∃ b, i < (cutL l s).length ∧ x = [.agg [.int .i64 (pth (cutL l s) i).a, .int .i64 (pth (cutL l s) i).b], .bool b] := by
  have hi : i < (cutL l s).length := by rw [← outs_len]; exact (List.getElem?_eq_some_iff.1 h).1
  rw [outs_T, List.getElem?_map, Option.map_eq_some_iff] at h
  obtain ⟨p, hp, rfl⟩ := h
  refine ⟨p.2, hi, ?_⟩
  have e : pth (cutL l s) i = p.1 := by
    rw [← pth_get hi]
    have : (cutL l s)[i]? = some p.1 := by rw [cut_T, List.getElem?_map, hp]; rfl
    rw [List.getElem?_eq_getElem hi] at this
    exact Option.some.inj this
  rw [e]; rfl
def outV (H : Option Nat) (n : Nat) : AV := match H with
  | none => .nl
  | some g => .sl 2 24 g 0 n
def outM (H : Option Nat) (xs : List Spn) : List ((Nat × Nat) × Blk) := ((6, 0), ⟨[outV H xs.length], false⟩) :: match H with
  | none => []
  | some g => [((24, g), ⟨prows xs, false⟩)]
theorem ct_round {xs : List Spn} {u v : Int} {b : Bool} {H : Option Nat} {M : Nat} (hH : H = none → xs = []) (hx : xs.length ≤ 1001) :
    Goto cfg (.seq (rngA CR) (rngB CR)) [(6, .ptr 6 0 0 0), (19, .agg [.int .i64 u, .int .i64 v]), (20, .bool b)] (outM H xs) [(24, M)] .normal (fun _ => [(6, .ptr 6 0 0 0)]) (fun _ => outM (some M) (xs ++ [⟨u, v⟩])) [(24, M + 1)] := by
  cases H with
  | none =>
    obtain rfl := hH rfl
    exact ctN_to u v b M fun g => g
  | some H =>
    refine ctS_to u v b xs H M hx fun g => g.eqs (fun _ => rfl) fun _ => ?_
    simp [outM, outV, lookM, take_prows, prows_len, prows_snoc]
theorem ct_tail {xs : List Spn} {H : Option Nat} (hH : H = none → xs = []) (hx : xs.length ≤ 1001) :
    FromL cfg 60 6 [(6, .ptr 6 0 0 0)] (outM H xs) [] (if xs.length > 1000 then .tup [.osl [], .int .i64 4] else .tup [.osl (prows xs), .int .i64 0]) := by
  cases H with
  | none =>
    obtain rfl := hH rfl
    exact ctTN_to 0 rfl
  | some H =>
    refine ctTS_to xs H hx (fun h => ?_) (fun h => ?_)
    · rw [if_pos (by omega)]
    · rw [if_neg (by omega), take_prows]
theorem cut_fn (l : List Spn) (s : Spn) (hl : l.length ≤ 9223372036854775806) : FnOk Try.prog 60 [.osl (prows l), .agg [.int .i64 s.a, .int .i64 s.b]] (.tup [.osl (prows (cutR l s)), .int .i64 (cutE l s)]) := by
  by_cases hm : (mayP l && oneP s.a s.b) = true
  · rw [Bool.and_eq_true] at hm
    obtain ⟨h1, h2⟩ := hm
    have h2' : s.one = true := h2
    have hc := may_iff.1 h1
    have ho := one_iff.1 h2'
    have hcl := cutL_len hc.2 ho.2.1
    refine ctP_to l s hl h1 h2 (fun hg => ?_)
    obtain ⟨s1, Gs, ha, k0, hev⟩ := hg { sl := fun i => ([.osl (prows l), .agg [.int .i64 s.a, .int .i64 s.b]] : List AV).getD i .undef, hp := fun _ _ => none, gn := fun _ => 0 } ⟨rfl, rfl, rfl⟩
    have hsl := ha.sl
    have hhp := ha.hp
    have hgn := ha.gn
    simp only [List.map_cons, List.map_nil, List.cons.injEq] at hsl hhp hgn
    obtain ⟨q6, q18, _⟩ := hsl
    obtain ⟨b2, b3, b6, _⟩ := hhp
    obtain ⟨n24, _⟩ := hgn
    have hrn := rnds_ev (C := cfg) (A := rngA CR) (B := rngB CR) (ps := [19, 20]) (sl := s1.sl) (outs := outsP l s)
      (fun i s' => ∃ H M, (H = none → (cutL l s).take i = []) ∧ At [] (outM H ((cutL l s).take i)) [(24, M)] s') (by
        rintro i x s' hx ⟨H, M, hH, hat⟩
        obtain ⟨b, hi, rfl⟩ := outs_get hx
        refine ⟨rfl, ?_⟩
        have hgo := ct_round (u := (pth (cutL l s) i).a) (v := (pth (cutL l s) i).b) (b := b) (M := M) hH (by rw [List.length_take]; omega)
        obtain ⟨s2, Gs2, ha2, hev2⟩ := hgo { s' with sl := putL s1.sl [19, 20] [.agg [.int .i64 (pth (cutL l s) i).a, .int .i64 (pth (cutL l s) i).b], .bool b] } ⟨by simp [putL, q6], hat.hp, hat.gn⟩
        refine ⟨s2, ⟨some M, M + 1, (fun h => by cases h), ⟨rfl, ?_, ha2.gn⟩⟩, hev2⟩
        have := ha2.hp
        rw [ptake hi]
        exact this) (outsP l s).length 0 (s1.frz [(2, 0), (3, 1)]) (by omega) ⟨none, 0, fun _ => rfl, ⟨rfl, by simp [outM, outV, St.frz, b6], by simpa [St.frz] using n24⟩⟩
    obtain ⟨s2, ⟨H, M, hH, hat2⟩, j0, hj⟩ := hrn
    rw [outs_len, List.take_length] at hH hat2
    have ht := ct_tail hH (by omega) { s2 with sl := s1.sl } ⟨by simp [q6], hat2.hp, rfl⟩
    obtain ⟨k1, hk1⟩ := ht
    have e1 : exec cfg (k0 + k1 + 1) (piece (codeOf 60) 0 5) _ = some (.normal, s1) := hev (k0 + k1 + 1) (by omega)
    have e1' : execL cfg (exec cfg (k0 + k1)) (((flat (codeOf 60)).drop 0).take 5) _ = some (.normal, s1) := (exec_seqs cfg (k0 + k1) _ _).symm.trans e1
    have e3 := hk1 (k0 + k1) (by omega)
    have ej := hj j0 (Nat.le_refl _)
    rw [List.drop_zero] at ej
    have key := range_fnV (C := cfg) prog_ok ext_ok R3c.mixed ctf_fn ctf_body rfl ctf_flat ctf_sa ctf_sb ctf_fa ctf_fb ctf_ps e1' (st2 := { s2 with sl := s1.sl }) (e := .normal) (g := .tmp 18) q18
      (pr := [(.rptr [.osl (prows l)], (2, 0)), (.rptr [.int .i64 s.a, .int .i64 s.b], (3, 1))]) (by simp [cptV, b2, b3, AV.cells, AV.free]) (parts_itr l s hl) itf_enter ej e3
    have hE : cutE l s = if (cutL l s).length > 1000 then 4 else 0 := if_pos ⟨h1, h2'⟩
    unfold cutR
    rw [hE]
    by_cases h : (cutL l s).length > 1000
    · rw [if_pos h] at key ⊢
      exact key
    · rw [if_neg h] at key ⊢
      exact key
  · have hm' : (mayP l && oneP s.a s.b) = false := by simpa using hm
    have hE : cutE l s = 1 := if_neg fun k => by
      rw [Bool.and_eq_false_iff] at hm'
      have k2 : oneP s.a s.b = true := k.2
      rw [k.1, k2] at hm'
      simp at hm'
    have ha := ctE_to l s hl hm' (RES := .tup [.osl (prows (cutR l s)), .int .i64 (cutE l s)]) (fun h => by rw [h] at hm'; simpa using hm') (fun _ _ => by unfold cutR; rw [hE]; rfl) (fun _ => by unfold cutR; rw [hE]; rfl)
    obtain ⟨k0, hk⟩ := ha
    exact fnV_ok (exec_ok prog_ok ext_ok R3c.mixed k0) prog_ok ext_ok (hk k0 (Nat.le_refl _))
end Vai.L04c
