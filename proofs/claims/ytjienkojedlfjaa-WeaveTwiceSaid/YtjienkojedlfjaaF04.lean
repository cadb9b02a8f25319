/- Chapter 4: the document's Same, the example. -/
import Derived.Test.YtjienkojedlfjaaE04
import Derived.Test.YtjienkojedlfjaaZ04
import Derived.Test.YtjienkojedlfjaaP04
namespace Vai.L04
open Go Go.Proofs Vai Vai.R3
set_option maxRecDepth 100000
set_option linter.unusedVariables false
set_option linter.unusedSimpArgs false

theorem psam_b_0 (l m : List Spn) (i : Nat) (hl : l.length ≤ 9223372036854775807) (hm : m.length = l.length) (h0 : (decide ((↑i : Int) < (↑(List.length (prows l)) : Int))) = true) (h1 : (Spn.a (pth l i) == Spn.a (pth m i) && (Spn.b (pth l i) == Spn.b (pth m i) && true)) = true) : Goto cfg (lc Try.prog 56 0) [(0, .osl (prows l)), (1, .osl (prows m)), (5, .int .i64 i)] [] [] (E.normal) (fun Gs => [(0, AV.osl (prows l)), (1, AV.osl (prows m)), (5, AV.int IntKind.i64 (IntKind.wrap IntKind.i64 ((↑i : Int) + (1 : Int))))]) (fun Gs => []) [] :=
  Goto.of fun σ h g => code_of 5 [Ch.b true, Ch.e (Spn.av (pth l i)), Ch.e (Spn.av (pth m i)), Ch.b false] [] (L := []) (.cons h0 (.cons (by omega : (0 : Int) ≤ (↑i : Int)) (.cons (@Vai.L04.el_p (l) (i) (by (simp only [decide_eq_true_eq, decide_eq_false_iff_not, Vai.L04.prows_len] at *; omega))) (.cons (by omega : (0 : Int) ≤ (↑i : Int)) (.cons (@Vai.L04.el_p (m) (i) (by (simp only [decide_eq_true_eq, decide_eq_false_iff_not, Vai.L04.prows_len] at *; omega))) (.cons (nb h1) (.nil))))))) (by kernel_rfl) (rfl)
theorem psam_b_1 (l m : List Spn) (i : Nat) (hl : l.length ≤ 9223372036854775807) (hm : m.length = l.length) (h0 : (decide ((↑i : Int) < (↑(List.length (prows l)) : Int))) = true) (h1 : (Spn.a (pth l i) == Spn.a (pth m i) && (Spn.b (pth l i) == Spn.b (pth m i) && true)) = false) : Goto cfg (lc Try.prog 56 0) [(0, .osl (prows l)), (1, .osl (prows m)), (5, .int .i64 i)] [] [] (E.ret) (fun Gs => [(0, AV.osl (prows l)), (1, AV.osl (prows m)), (4, AV.bool false), (5, AV.int IntKind.i64 (↑i : Int))]) (fun Gs => []) [] :=
  Goto.of fun σ h g => code_of 5 [Ch.b true, Ch.e (Spn.av (pth l i)), Ch.e (Spn.av (pth m i)), Ch.b true] [] (L := []) (.cons h0 (.cons (by omega : (0 : Int) ≤ (↑i : Int)) (.cons (@Vai.L04.el_p (l) (i) (by (simp only [decide_eq_true_eq, decide_eq_false_iff_not, Vai.L04.prows_len] at *; omega))) (.cons (by omega : (0 : Int) ≤ (↑i : Int)) (.cons (@Vai.L04.el_p (m) (i) (by (simp only [decide_eq_true_eq, decide_eq_false_iff_not, Vai.L04.prows_len] at *; omega))) (.cons (nb h1) (.nil))))))) (by kernel_rfl) (rfl)
theorem psam_b_2 (l m : List Spn) (i : Nat) (hl : l.length ≤ 9223372036854775807) (hm : m.length = l.length) (h0 : (decide ((↑i : Int) < (↑(List.length (prows l)) : Int))) = false) : Goto cfg (lc Try.prog 56 0) [(0, .osl (prows l)), (1, .osl (prows m)), (5, .int .i64 i)] [] [] (E.exit (0 : Nat)) (fun Gs => [(0, AV.osl (prows l)), (1, AV.osl (prows m)), (5, AV.int IntKind.i64 (↑i : Int))]) (fun Gs => []) [] :=
  Goto.of fun σ h g => code_of 5 [Ch.b false] [] (L := []) (.cons h0 (.nil)) (by kernel_rfl) (rfl)
theorem psam_b_to (l m : List Spn) (i : Nat) (hl : l.length ≤ 9223372036854775807) (hm : m.length = l.length) {RES : Prop}
    (p0 : ((↑i : Int) < (↑(List.length (prows l)) : Int)) → (Spn.a (pth l i) == Spn.a (pth m i) && (Spn.b (pth l i) == Spn.b (pth m i) && true)) = true → (Goto cfg (lc Try.prog 56 0) [(0, .osl (prows l)), (1, .osl (prows m)), (5, .int .i64 i)] [] [] (E.normal) (fun Gs => [(0, AV.osl (prows l)), (1, AV.osl (prows m)), (5, AV.int IntKind.i64 (IntKind.wrap IntKind.i64 ((↑i : Int) + (1 : Int))))]) (fun Gs => []) []) → RES)
    (p1 : ((↑i : Int) < (↑(List.length (prows l)) : Int)) → (Spn.a (pth l i) == Spn.a (pth m i) && (Spn.b (pth l i) == Spn.b (pth m i) && true)) = false → (Goto cfg (lc Try.prog 56 0) [(0, .osl (prows l)), (1, .osl (prows m)), (5, .int .i64 i)] [] [] (E.ret) (fun Gs => [(0, AV.osl (prows l)), (1, AV.osl (prows m)), (4, AV.bool false), (5, AV.int IntKind.i64 (↑i : Int))]) (fun Gs => []) []) → RES)
    (p2 : ¬ ((↑i : Int) < (↑(List.length (prows l)) : Int)) → (Goto cfg (lc Try.prog 56 0) [(0, .osl (prows l)), (1, .osl (prows m)), (5, .int .i64 i)] [] [] (E.exit (0 : Nat)) (fun Gs => [(0, AV.osl (prows l)), (1, AV.osl (prows m)), (5, AV.int IntKind.i64 (↑i : Int))]) (fun Gs => []) []) → RES) : RES :=
  (Vai.bcases (decide ((↑i : Int) < (↑(List.length (prows l)) : Int))) (fun h0 => (Vai.bcases (Spn.a (pth l i) == Spn.a (pth m i) && (Spn.b (pth l i) == Spn.b (pth m i) && true)) (fun h1 => (Vai.regoto (psam_b_0 l m i hl hm h0 h1) (p0 (of_decide_eq_true h0) h1))) (fun h1 => (Vai.regoto (psam_b_1 l m i hl hm h0 h1) (p1 (of_decide_eq_true h0) h1))))) (fun h0 => (Vai.regoto (psam_b_2 l m i hl hm h0) (p2 (of_decide_eq_false h0)))))

theorem psamT_0 (n : Nat) : FromL cfg 56 5 [] [] [] (AV.bool true) :=
  FromL.of fun σ h g => from_of 5 [] (.nil) (by kernel_rfl)
theorem psamT_to (n : Nat) {RES : AV}
    (p0 : (AV.bool true) = RES) : FromL cfg 56 5 [] [] [] RES :=
  ((psamT_0 n).to  (p0))


/-- Are two the same? -/
def sameP (l m : List Spn) : Bool := decide (l = m)
theorem drop_same {l m : List Spn} {i : Nat} (hm : m.length = l.length) (hi : i < l.length) : l.drop i = m.drop i ↔ pth l i = pth m i ∧ l.drop (i + 1) = m.drop (i + 1) := by
  rw [pdrop hi, pdrop (show i < m.length by omega), List.cons.injEq]
theorem spn_eq {s t : Spn} : s = t ↔ s.a = t.a ∧ s.b = t.b := by
  obtain ⟨a, b⟩ := s; obtain ⟨c, d⟩ := t
  simp
theorem psam_from (l m : List Spn) (hl : l.length ≤ 9223372036854775806) (hm : m.length = l.length) : FromL cfg 56 4 [(0, .osl (prows l)), (1, .osl (prows m)), (5, .int .i64 0)] [] [] (.bool (sameP l m)) := by
  refine FromL.rounds (α := Nat) (c := lc Try.prog 56 0) (id := 0) (fun i => [(0, .osl (prows l)), (1, .osl (prows m)), (5, .int .i64 i)]) (fun _ => []) (fun i => i ≤ l.length ∧ (l = m ↔ l.drop i = m.drop i)) (fun i => l.length - i) (by kernel_rfl) (fun i hs => ?_) 0 ⟨by simp, by simp⟩
  obtain ⟨hi, hr⟩ := hs
  refine psam_b_to l m i (by omega) hm (fun h0 h1 g => ?_) (fun h0 h1 g => ?_) (fun h0 g => ?_)
  · rw [prows_len] at h0
    have e : pth l i = pth m i := by rw [spn_eq]; simpa using h1
    refine .next (fun _ => i + 1) (fun _ => ⟨⟨by omega, ?_⟩, by omega⟩) (g.eqs (fun _ => ?_) fun _ => rfl)
    · rw [hr, drop_same hm (by omega)]; exact ⟨fun h => h.2, fun h => ⟨e, h⟩⟩
    · simp [look, w_succ (show i < 9223372036854775807 by omega)]
  · rw [prows_len] at h0
    refine .ret _ _ _ g fun Gs σ h g => ?_
    have e : sameP l m = false := by
      unfold sameP
      rw [decide_eq_false_iff_not, hr, drop_same hm (by omega), spn_eq]
      intro ⟨⟨k1, k2⟩, _⟩
      rw [k1, k2] at h1
      simp at h1
    rw [e]; rfl
  · rw [prows_len] at h0
    have e : i = l.length := by omega
    refine .stop _ _ _ g fun _ => ?_
    refine FromL.more (psamT_to 0 ?_) rfl rfl
    have : sameP l m = true := by
      unfold sameP
      rw [decide_eq_true_eq, hr, e, List.drop_length, ← hm, List.drop_length]
    rw [this]
theorem psam_0 (l m : List Spn) (hl : l.length ≤ 9223372036854775806) (hm : m.length ≤ 9223372036854775806) (h0 : ((↑(List.length (prows l)) : Int) == (↑(List.length (prows m)) : Int)) = true) : Ans cfg 56 [.osl (prows l), .osl (prows m)] (AV.bool (sameP l m)) :=
  ans_ofL 5 [Ch.b false, Ch.x (4 : Nat) [((0 : Nat), AV.osl (prows l)), ((1 : Nat), AV.osl (prows m)), ((5 : Nat), AV.int IntKind.i64 (0 : Int))] [] [] (AV.bool (sameP l m))] (.cons (nb h0) (.cons (Eq.refl (α := List AV) [AV.osl (prows l), AV.osl (prows m), AV.int IntKind.i64 (0 : Int)]) (.cons (Eq.refl (α := List (Option Blk)) []) (.cons (Eq.refl (α := List Nat) []) (.cons (@Vai.L04.psam_from (l) (m) (by assumption) (by ((try simp only [decide_eq_true_eq, decide_eq_false_iff_not, IntKind.wrap_i64, List.length_append, List.length_take, List.length_drop, List.length_replicate, List.length_cons, List.length_nil, List.length_map, List.length_set, Int.toNat_natCast, Bool.and_eq_true, Bool.or_eq_true, Bool.not_eq_true', Bool.not_eq_false', List.nil_append, List.append_nil, beq_iff_eq, beq_eq_false_iff_ne, ne_eq, Vai.L04.prows_len] at *) <;> omega))) (.nil)))))) (by kernel_rfl) (by kernel_rfl)
theorem psam_1 (l m : List Spn) (hl : l.length ≤ 9223372036854775806) (hm : m.length ≤ 9223372036854775806) (h0 : ((↑(List.length (prows l)) : Int) == (↑(List.length (prows m)) : Int)) = false) : Ans cfg 56 [.osl (prows l), .osl (prows m)] (AV.bool false) :=
  ans_ofL 5 [Ch.b true] (.cons (nb h0) (.nil)) (by kernel_rfl) (by kernel_rfl)
theorem psam_to (l m : List Spn) (hl : l.length ≤ 9223372036854775806) (hm : m.length ≤ 9223372036854775806) {RES : AV}
    (p0 : ((↑(List.length (prows l)) : Int) = (↑(List.length (prows m)) : Int)) → (AV.bool (sameP l m)) = RES)
    (p1 : ¬ ((↑(List.length (prows l)) : Int) = (↑(List.length (prows m)) : Int)) → (AV.bool false) = RES) : Ans cfg 56 [.osl (prows l), .osl (prows m)] RES :=
  (Vai.bcases ((↑(List.length (prows l)) : Int) == (↑(List.length (prows m)) : Int)) (fun h0 => ((psam_0 l m hl hm h0).to rfl (p0 (eq_of_beq h0)))) (fun h0 => ((psam_1 l m hl hm h0).to rfl (p1 (ne_of_beq_false h0)))))


theorem psam_ok (l m : List Spn) (hl : l.length ≤ 9223372036854775806) (hm : m.length ≤ 9223372036854775806) : Ans cfg 56 [.osl (prows l), .osl (prows m)] (.bool (sameP l m)) := by
  refine psam_to l m hl hm ?_ ?_
  all_goals intros
  all_goals first
    | rfl
    | (congr 1; symm; unfold sameP; rw [decide_eq_false_iff_not]; intro h; subst h; simp_all)
end Vai.L04
