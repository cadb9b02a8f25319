/- Spans: Size, each by its runs. -/
import Derived.Test.YtjienkojedlfjaaA04
namespace Vai.L04
open Go Go.Proofs Vai Vai.R3
set_option maxRecDepth 100000
set_option linter.unusedVariables false
set_option linter.unusedSimpArgs false

theorem psize_b_0 (l : List Spn) (i : Nat) (n : Int) (hl : l.length ≤ 9223372036854775807) (h0 : (decide ((↑i : Int) < (↑(List.length l) : Int))) = true) : Goto cfg (lc Try.prog 55 0) [(3, .int .i64 n), (9, .osl (prows l)), (10, .int .i64 l.length), (11, .int .i64 i)] [] [] (E.normal) (fun Gs => [(3, AV.int IntKind.i64 (IntKind.wrap IntKind.i64 (n + IntKind.wrap IntKind.i64 (Spn.b (pth l i) - Spn.a (pth l i))))), (9, AV.osl (prows l)), (10, AV.int IntKind.i64 (↑(List.length l) : Int)), (11, AV.int IntKind.i64 (IntKind.wrap IntKind.i64 ((↑i : Int) + (1 : Int))))]) (fun Gs => []) [] :=
  Goto.of fun σ h g => code_of 5 [Ch.b true, Ch.e (Spn.av (pth l i)), Ch.m { es := [AV.agg [AV.int IntKind.i64 (0 : Int), AV.int IntKind.i64 (0 : Int)]], fr := false }, Ch.n, Ch.m { es := [AV.agg [AV.int IntKind.i64 (Spn.a (pth l i)), AV.int IntKind.i64 (Spn.b (pth l i))]], fr := false }, Ch.n, Ch.m { es := [AV.agg [AV.int IntKind.i64 (Spn.a (pth l i)), AV.int IntKind.i64 (Spn.b (pth l i))]], fr := false }, Ch.n] [] (L := []) (.cons h0 (.cons (by omega : (0 : Int) ≤ (↑i : Int)) (.cons (@Vai.L04.el_p (l) (i) (by (simp only [decide_eq_true_eq, decide_eq_false_iff_not, Vai.L04.prows_len] at *; omega))) (.cons (by simp : (if (5 : Nat) = (5 : Nat) ∧ g (5 : Nat) = g (5 : Nat) then some { es := [AV.agg [AV.int IntKind.i64 (0 : Int), AV.int IntKind.i64 (0 : Int)]], fr := false } else h (5 : Nat) (g (5 : Nat))) = some ({ es := [AV.agg [AV.int IntKind.i64 (0 : Int), AV.int IntKind.i64 (0 : Int)]], fr := false })) (.cons (by simp : (if (5 : Nat) = (5 : Nat) ∧ g (5 : Nat) = g (5 : Nat) then some { es := [AV.agg [AV.int IntKind.i64 (Spn.a (pth l i)), AV.int IntKind.i64 (Spn.b (pth l i))]], fr := false } else if (5 : Nat) = (5 : Nat) ∧ g (5 : Nat) = g (5 : Nat) then some { es := [AV.agg [AV.int IntKind.i64 (0 : Int), AV.int IntKind.i64 (0 : Int)]], fr := false } else h (5 : Nat) (g (5 : Nat))) = some ({ es := [AV.agg [AV.int IntKind.i64 (Spn.a (pth l i)), AV.int IntKind.i64 (Spn.b (pth l i))]], fr := false })) (.cons (by simp : (if (5 : Nat) = (5 : Nat) ∧ g (5 : Nat) = g (5 : Nat) then some { es := [AV.agg [AV.int IntKind.i64 (Spn.a (pth l i)), AV.int IntKind.i64 (Spn.b (pth l i))]], fr := false } else if (5 : Nat) = (5 : Nat) ∧ g (5 : Nat) = g (5 : Nat) then some { es := [AV.agg [AV.int IntKind.i64 (0 : Int), AV.int IntKind.i64 (0 : Int)]], fr := false } else h (5 : Nat) (g (5 : Nat))) = some ({ es := [AV.agg [AV.int IntKind.i64 (Spn.a (pth l i)), AV.int IntKind.i64 (Spn.b (pth l i))]], fr := false })) (.nil))))))) (by kernel_rfl) (rfl)
theorem psize_b_1 (l : List Spn) (i : Nat) (n : Int) (hl : l.length ≤ 9223372036854775807) (h0 : (decide ((↑i : Int) < (↑(List.length l) : Int))) = false) : Goto cfg (lc Try.prog 55 0) [(3, .int .i64 n), (9, .osl (prows l)), (10, .int .i64 l.length), (11, .int .i64 i)] [] [] (E.exit (0 : Nat)) (fun Gs => [(3, AV.int IntKind.i64 n), (9, AV.osl (prows l)), (10, AV.int IntKind.i64 (↑(List.length l) : Int)), (11, AV.int IntKind.i64 (↑i : Int))]) (fun Gs => []) [] :=
  Goto.of fun σ h g => code_of 5 [Ch.b false] [] (L := []) (.cons h0 (.nil)) (by kernel_rfl) (rfl)
theorem psize_b_to (l : List Spn) (i : Nat) (n : Int) (hl : l.length ≤ 9223372036854775807) {RES : Prop}
    (p0 : ((↑i : Int) < (↑(List.length l) : Int)) → (Goto cfg (lc Try.prog 55 0) [(3, .int .i64 n), (9, .osl (prows l)), (10, .int .i64 l.length), (11, .int .i64 i)] [] [] (E.normal) (fun Gs => [(3, AV.int IntKind.i64 (IntKind.wrap IntKind.i64 (n + IntKind.wrap IntKind.i64 (Spn.b (pth l i) - Spn.a (pth l i))))), (9, AV.osl (prows l)), (10, AV.int IntKind.i64 (↑(List.length l) : Int)), (11, AV.int IntKind.i64 (IntKind.wrap IntKind.i64 ((↑i : Int) + (1 : Int))))]) (fun Gs => []) []) → RES)
    (p1 : ¬ ((↑i : Int) < (↑(List.length l) : Int)) → (Goto cfg (lc Try.prog 55 0) [(3, .int .i64 n), (9, .osl (prows l)), (10, .int .i64 l.length), (11, .int .i64 i)] [] [] (E.exit (0 : Nat)) (fun Gs => [(3, AV.int IntKind.i64 n), (9, AV.osl (prows l)), (10, AV.int IntKind.i64 (↑(List.length l) : Int)), (11, AV.int IntKind.i64 (↑i : Int))]) (fun Gs => []) []) → RES) : RES :=
  (Vai.bcases (decide ((↑i : Int) < (↑(List.length l) : Int))) (fun h0 => (Vai.regoto (psize_b_0 l i n hl h0) (p0 (of_decide_eq_true h0)))) (fun h0 => (Vai.regoto (psize_b_1 l i n hl h0) (p1 (of_decide_eq_false h0)))))

theorem psizeT_0 (n : Int) : FromL cfg 55 6 [(3, .int .i64 n)] [] [] (AV.int IntKind.i64 n) :=
  FromL.of fun σ h g => from_of 5 [] (.nil) (by kernel_rfl)
theorem psizeT_to (n : Int) {RES : AV}
    (p0 : (AV.int IntKind.i64 n) = RES) : FromL cfg 55 6 [(3, .int .i64 n)] [] [] RES :=
  ((psizeT_0 n).to  (p0))


theorem psize_from (l : List Spn) (hl : l.length ≤ 9223372036854775806) (hm : mayP l = true) : FromL cfg 55 5 [(3, .int .i64 0), (9, .osl (prows l)), (10, .int .i64 (prows l).length), (11, .int .i64 0)] [] [] (.int .i64 (sizeP l)) := by
  rw [prows_len]
  unfold mayP at hm
  rw [Bool.and_eq_true] at hm
  refine FromL.rounds (α := Nat) (c := lc Try.prog 55 0) (id := 0) (fun i => [(3, .int .i64 (sizeP (l.take i))), (9, .osl (prows l)), (10, .int .i64 l.length), (11, .int .i64 i)]) (fun _ => []) (fun i => i ≤ l.length) (fun i => l.length - i) (by kernel_rfl) (fun i hi => ?_) 0 (by omega)
  have ew : i < l.length → IntKind.wrap IntKind.i64 ((i : Int) + 1) = (i : Int) + 1 := fun h => by rw [IntKind.wrap_i64]; omega
  refine psize_b_to l i (sizeP (l.take i)) (by omega) (fun h0 g => ?_) (fun h0 g => ?_)
  · refine .next (fun _ => i + 1) (fun _ => ⟨by omega, by omega⟩) (g.eqs (fun _ => ?_) fun _ => rfl)
    have b1 := Rz.size (Rz.take hm.2 i) (by omega)
    have b2 := Rz.size (Rz.take hm.2 (i + 1)) (by omega)
    have e : sizeP (l.take (i + 1)) = IntKind.wrap IntKind.i64 (sizeP (l.take i) + IntKind.wrap IntKind.i64 ((pth l i).b - (pth l i).a)) := by
      rw [ptake (by omega), sizeP_app] at b2 ⊢
      simp only [sizeP] at b2 ⊢
      rw [IntKind.wrap_i64, IntKind.wrap_i64]; omega
    simp [look, ew (by omega), e]
  · have e : i = l.length := by omega
    refine .stop _ _ _ g fun _ => ?_
    refine FromL.more (psizeT_to (sizeP (l.take i)) ?_) rfl rfl
    rw [e, List.take_length]
theorem psize_0 (l : List Spn) (hl : l.length ≤ 9223372036854775806) (h0 : (mayP l) = true) : Ans cfg 55 [.osl (prows l)] (AV.int IntKind.i64 (sizeP l)) :=
  ans_ofL 5 [Ch.r (AV.bool (mayP l)), Ch.b false, Ch.x (5 : Nat) [((3 : Nat), AV.int IntKind.i64 (0 : Int)), ((9 : Nat), AV.osl (prows l)), ((10 : Nat), AV.int IntKind.i64 (↑(List.length (prows l)) : Int)), ((11 : Nat), AV.int IntKind.i64 (0 : Int))] [] [] (AV.int IntKind.i64 (sizeP l))] (.cons (@Vai.L04.pmay_ok (l) (by assumption)) (.cons (nb h0) (.cons (Eq.refl (α := List AV) [AV.int IntKind.i64 (0 : Int), AV.osl (prows l), AV.int IntKind.i64 (↑(List.length (prows l)) : Int), AV.int IntKind.i64 (0 : Int)]) (.cons (Eq.refl (α := List (Option Blk)) []) (.cons (Eq.refl (α := List Nat) []) (.cons (@Vai.L04.psize_from (l) (by assumption) (by assumption)) (.nil))))))) (by kernel_rfl) (by kernel_rfl)
theorem psize_1 (l : List Spn) (hl : l.length ≤ 9223372036854775806) (h0 : (mayP l) = false) : Ans cfg 55 [.osl (prows l)] (AV.int IntKind.i64 (0 : Int)) :=
  ans_ofL 5 [Ch.r (AV.bool (mayP l)), Ch.b true] (.cons (@Vai.L04.pmay_ok (l) (by assumption)) (.cons (nb h0) (.nil))) (by kernel_rfl) (by kernel_rfl)
theorem psize_to (l : List Spn) (hl : l.length ≤ 9223372036854775806) {RES : AV}
    (p0 : (mayP l) = true → (AV.int IntKind.i64 (sizeP l)) = RES)
    (p1 : (mayP l) = false → (AV.int IntKind.i64 (0 : Int)) = RES) : Ans cfg 55 [.osl (prows l)] RES :=
  (Vai.bcases (mayP l) (fun h0 => ((psize_0 l hl h0).to rfl (p0 h0))) (fun h0 => ((psize_1 l hl h0).to rfl (p1 h0))))


theorem psize_ok (l : List Spn) (hl : l.length ≤ 9223372036854775806) : Ans cfg 55 [.osl (prows l)] (.int .i64 (sizeS l)) := by
  refine psize_to l hl (fun h => ?_) (fun h => ?_)
  · unfold sizeS; rw [if_pos h]
  · unfold sizeS; rw [h]; rfl
end Vai.L04
