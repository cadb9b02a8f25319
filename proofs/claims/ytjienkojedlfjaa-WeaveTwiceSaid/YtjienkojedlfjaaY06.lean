/- Chapter 6: the document's Same for bytes and weaves, the example. -/
import Derived.Test.YtjienkojedlfjaaX06
import Derived.Test.YtjienkojedlfjaaF04
namespace Vai.L06
open Go Go.Proofs Vai Vai.R3 Vai.L04
set_option maxRecDepth 100000
set_option linter.unusedVariables false
set_option linter.unusedSimpArgs false

/-- Are two weaves the same? -/
noncomputable def wsamP (v w : Wv) : Bool := @decide (v = w) (Classical.propDecidable _)
theorem wsamP_eq {v w : Wv} : wsamP v w = true ↔ v = w := by unfold wsamP; simp
theorem wsamP_ne {v w : Wv} : wsamP v w = false ↔ ¬ v = w := by unfold wsamP; simp
theorem wv_eq {base cap end_ base2 cap2 end2 : Int} {b b2 : List AV} {l l2 : List Spn} : (⟨base, b, l, cap, end_⟩ : Wv) = ⟨base2, b2, l2, cap2, end2⟩ ↔ base = base2 ∧ b = b2 ∧ l = l2 ∧ cap = cap2 ∧ end_ = end2 := by simp
theorem wsamP_iff {base cap end_ base2 cap2 end2 : Int} {b b2 : List AV} {l l2 : List Spn} : wsamP ⟨base, b, l, cap, end_⟩ ⟨base2, b2, l2, cap2, end2⟩ = true ↔ base = base2 ∧ b = b2 ∧ l = l2 ∧ cap = cap2 ∧ end_ = end2 := by rw [wsamP_eq, wv_eq]
theorem wsamP_no {base cap end_ base2 cap2 end2 : Int} {b b2 : List AV} {l l2 : List Spn} : wsamP ⟨base, b, l, cap, end_⟩ ⟨base2, b2, l2, cap2, end2⟩ = false ↔ ¬ (base = base2 ∧ b = b2 ∧ l = l2 ∧ cap = cap2 ∧ end_ = end2) := by rw [wsamP_ne, wv_eq]
theorem bsm_b_0 (xs ys : List AV) (n : Nat) (hx : IsB xs) (hy : IsB ys) (hl : ys.length = xs.length) (hb : xs.length ≤ 9223372036854775806) (h0 : (decide ((↑n : Int) < (↑(List.length xs) : Int))) = true) (h1 : (byteAt xs n == byteAt ys n) = true) : Goto cfg (lc Try.prog 24 0) [(0, .osl xs), (1, .osl ys), (5, .int .i64 n)] [] [] (E.normal) (fun Gs => [(0, AV.osl xs), (1, AV.osl ys), (5, AV.int IntKind.i64 (IntKind.wrap IntKind.i64 ((↑n : Int) + (1 : Int))))]) (fun Gs => []) [] :=
  Goto.of fun σ h g => code_of 5 [Ch.b true, Ch.e (AV.int IntKind.u8 (byteAt xs n)), Ch.e (AV.int IntKind.u8 (byteAt ys n)), Ch.b false] [] (L := []) (.cons h0 (.cons (by omega : (0 : Int) ≤ (↑n : Int)) (.cons (@Vai.el_b (xs) (n) (by assumption) (by (simp only [decide_eq_true_eq, decide_eq_false_iff_not] at *; omega))) (.cons (by omega : (0 : Int) ≤ (↑n : Int)) (.cons (@Vai.el_b (ys) (n) (by assumption) (by (simp only [decide_eq_true_eq, decide_eq_false_iff_not] at *; omega))) (.cons (nb h1) (.nil))))))) (by kernel_rfl) (rfl)
theorem bsm_b_1 (xs ys : List AV) (n : Nat) (hx : IsB xs) (hy : IsB ys) (hl : ys.length = xs.length) (hb : xs.length ≤ 9223372036854775806) (h0 : (decide ((↑n : Int) < (↑(List.length xs) : Int))) = true) (h1 : (byteAt xs n == byteAt ys n) = false) : Goto cfg (lc Try.prog 24 0) [(0, .osl xs), (1, .osl ys), (5, .int .i64 n)] [] [] (E.ret) (fun Gs => [(0, AV.osl xs), (1, AV.osl ys), (4, AV.bool false), (5, AV.int IntKind.i64 (↑n : Int))]) (fun Gs => []) [] :=
  Goto.of fun σ h g => code_of 5 [Ch.b true, Ch.e (AV.int IntKind.u8 (byteAt xs n)), Ch.e (AV.int IntKind.u8 (byteAt ys n)), Ch.b true] [] (L := []) (.cons h0 (.cons (by omega : (0 : Int) ≤ (↑n : Int)) (.cons (@Vai.el_b (xs) (n) (by assumption) (by (simp only [decide_eq_true_eq, decide_eq_false_iff_not] at *; omega))) (.cons (by omega : (0 : Int) ≤ (↑n : Int)) (.cons (@Vai.el_b (ys) (n) (by assumption) (by (simp only [decide_eq_true_eq, decide_eq_false_iff_not] at *; omega))) (.cons (nb h1) (.nil))))))) (by kernel_rfl) (rfl)
theorem bsm_b_2 (xs ys : List AV) (n : Nat) (hx : IsB xs) (hy : IsB ys) (hl : ys.length = xs.length) (hb : xs.length ≤ 9223372036854775806) (h0 : (decide ((↑n : Int) < (↑(List.length xs) : Int))) = false) : Goto cfg (lc Try.prog 24 0) [(0, .osl xs), (1, .osl ys), (5, .int .i64 n)] [] [] (E.exit (0 : Nat)) (fun Gs => [(0, AV.osl xs), (1, AV.osl ys), (5, AV.int IntKind.i64 (↑n : Int))]) (fun Gs => []) [] :=
  Goto.of fun σ h g => code_of 5 [Ch.b false] [] (L := []) (.cons h0 (.nil)) (by kernel_rfl) (rfl)
theorem bsm_b_to (xs ys : List AV) (n : Nat) (hx : IsB xs) (hy : IsB ys) (hl : ys.length = xs.length) (hb : xs.length ≤ 9223372036854775806) {RES : Prop}
    (p0 : ((↑n : Int) < (↑(List.length xs) : Int)) → (byteAt xs n = byteAt ys n) → (Goto cfg (lc Try.prog 24 0) [(0, .osl xs), (1, .osl ys), (5, .int .i64 n)] [] [] (E.normal) (fun Gs => [(0, AV.osl xs), (1, AV.osl ys), (5, AV.int IntKind.i64 (IntKind.wrap IntKind.i64 ((↑n : Int) + (1 : Int))))]) (fun Gs => []) []) → RES)
    (p1 : ((↑n : Int) < (↑(List.length xs) : Int)) → ¬ (byteAt xs n = byteAt ys n) → (Goto cfg (lc Try.prog 24 0) [(0, .osl xs), (1, .osl ys), (5, .int .i64 n)] [] [] (E.ret) (fun Gs => [(0, AV.osl xs), (1, AV.osl ys), (4, AV.bool false), (5, AV.int IntKind.i64 (↑n : Int))]) (fun Gs => []) []) → RES)
    (p2 : ¬ ((↑n : Int) < (↑(List.length xs) : Int)) → (Goto cfg (lc Try.prog 24 0) [(0, .osl xs), (1, .osl ys), (5, .int .i64 n)] [] [] (E.exit (0 : Nat)) (fun Gs => [(0, AV.osl xs), (1, AV.osl ys), (5, AV.int IntKind.i64 (↑n : Int))]) (fun Gs => []) []) → RES) : RES :=
  (Vai.bcases (decide ((↑n : Int) < (↑(List.length xs) : Int))) (fun h0 => (Vai.bcases (byteAt xs n == byteAt ys n) (fun h1 => (Vai.regoto (bsm_b_0 xs ys n hx hy hl hb h0 h1) (p0 (of_decide_eq_true h0) (eq_of_beq h1)))) (fun h1 => (Vai.regoto (bsm_b_1 xs ys n hx hy hl hb h0 h1) (p1 (of_decide_eq_true h0) (ne_of_beq_false h1)))))) (fun h0 => (Vai.regoto (bsm_b_2 xs ys n hx hy hl hb h0) (p2 (of_decide_eq_false h0)))))

theorem bsmT_0 (n : Nat) : FromL cfg 24 5 [] [] [] (AV.bool true) :=
  FromL.of fun σ h g => from_of 5 [] (.nil) (by kernel_rfl)
theorem bsmT_to (n : Nat) {RES : AV}
    (p0 : (AV.bool true) = RES) : FromL cfg 24 5 [] [] [] RES :=
  ((bsmT_0 n).to  (p0))


theorem bsm_from (xs ys : List AV) (hx : IsB xs) (hy : IsB ys) (hl : ys.length = xs.length) (hb : xs.length ≤ 9223372036854775806) : FromL cfg 24 4 [(0, .osl xs), (1, .osl ys), (5, .int .i64 0)] [] [] (.bool (same xs ys)) := by
  refine FromL.rounds (α := Nat) (c := lc Try.prog 24 0) (id := 0) (fun i => [(0, .osl xs), (1, .osl ys), (5, .int .i64 i)]) (fun _ => []) (fun i => i ≤ xs.length ∧ ∀ j, j < i → byteAt xs j = byteAt ys j) (fun i => xs.length - i) (by kernel_rfl) (fun i hs => ?_) 0 ⟨by simp, fun j h => absurd h (Nat.not_lt_zero _)⟩
  obtain ⟨hi, hr⟩ := hs
  refine bsm_b_to xs ys i hx hy hl hb (fun h0 h1 g => ?_) (fun h0 h1 g => ?_) (fun h0 g => ?_)
  · refine .next (fun _ => i + 1) (fun _ => ⟨⟨by omega, fun j hj => ?_⟩, by omega⟩) (g.eqs (fun _ => ?_) fun _ => rfl)
    · rcases Nat.lt_succ_iff_lt_or_eq.1 hj with h | h
      · exact hr j h
      · rw [h]; exact h1
    · simp [look, w_succ (show i < 9223372036854775807 by omega)]
  · refine .ret _ _ _ g fun Gs σ h g => ?_
    have e : same xs ys = false := same_ne.2 fun e => h1 (by rw [e])
    rw [e]; rfl
  · have e : i = xs.length := by omega
    subst e
    refine .stop _ _ _ g fun _ => ?_
    refine FromL.more (bsmT_to 0 ?_) rfl rfl
    rw [same_iff.2 (byteAt_ext hx hy hl.symm hr)]
theorem bsm_0 (xs ys : List AV) (hx : IsB xs) (hy : IsB ys) (hb : xs.length ≤ 9223372036854775806) (hb2 : ys.length ≤ 9223372036854775806) (h0 : ((↑(List.length xs) : Int) == (↑(List.length ys) : Int)) = true) : Ans cfg 24 [.osl xs, .osl ys] (AV.bool (same xs ys)) :=
  ans_ofL 5 [Ch.b false, Ch.x (4 : Nat) [((0 : Nat), AV.osl xs), ((1 : Nat), AV.osl ys), ((5 : Nat), AV.int IntKind.i64 (0 : Int))] [] [] (AV.bool (same xs ys))] (.cons (nb h0) (.cons (Eq.refl (α := List AV) [AV.osl xs, AV.osl ys, AV.int IntKind.i64 (0 : Int)]) (.cons (Eq.refl (α := List (Option Blk)) []) (.cons (Eq.refl (α := List Nat) []) (.cons (@Vai.L06.bsm_from (xs) (ys) (by assumption) (by assumption) (by ((try simp only [decide_eq_true_eq, decide_eq_false_iff_not, IntKind.wrap_i64, List.length_append, List.length_take, List.length_drop, List.length_replicate, List.length_cons, List.length_nil, List.length_map, List.length_set, Int.toNat_natCast, Bool.and_eq_true, Bool.or_eq_true, Bool.not_eq_true', Bool.not_eq_false', List.nil_append, List.append_nil, beq_iff_eq, beq_eq_false_iff_ne, ne_eq] at *) <;> omega)) (by assumption)) (.nil)))))) (by kernel_rfl) (by kernel_rfl)
theorem bsm_1 (xs ys : List AV) (hx : IsB xs) (hy : IsB ys) (hb : xs.length ≤ 9223372036854775806) (hb2 : ys.length ≤ 9223372036854775806) (h0 : ((↑(List.length xs) : Int) == (↑(List.length ys) : Int)) = false) : Ans cfg 24 [.osl xs, .osl ys] (AV.bool false) :=
  ans_ofL 5 [Ch.b true] (.cons (nb h0) (.nil)) (by kernel_rfl) (by kernel_rfl)
theorem bsm_to (xs ys : List AV) (hx : IsB xs) (hy : IsB ys) (hb : xs.length ≤ 9223372036854775806) (hb2 : ys.length ≤ 9223372036854775806) {RES : AV}
    (p0 : ((↑(List.length xs) : Int) = (↑(List.length ys) : Int)) → (AV.bool (same xs ys)) = RES)
    (p1 : ¬ ((↑(List.length xs) : Int) = (↑(List.length ys) : Int)) → (AV.bool false) = RES) : Ans cfg 24 [.osl xs, .osl ys] RES :=
  (Vai.bcases ((↑(List.length xs) : Int) == (↑(List.length ys) : Int)) (fun h0 => ((bsm_0 xs ys hx hy hb hb2 h0).to rfl (p0 (eq_of_beq h0)))) (fun h0 => ((bsm_1 xs ys hx hy hb hb2 h0).to rfl (p1 (ne_of_beq_false h0)))))


theorem bsam_ok (xs ys : List AV) (hx : IsB xs) (hy : IsB ys) (hb : xs.length ≤ 9223372036854775806) (hb2 : ys.length ≤ 9223372036854775806) : Ans cfg 24 [.osl xs, .osl ys] (.bool (same xs ys)) := by
  refine bsm_to xs ys hx hy hb hb2 ?_ ?_
  all_goals intros
  all_goals first
    | rfl
    | (congr 1; symm; rw [same_ne]; intro h; subst h; simp_all)
theorem wsm_0 (base cap end_ base2 cap2 end2 : Int) (b b2 : List AV) (l l2 : List Spn) (hb : IsB b) (hb2 : IsB b2) (hbl : b.length ≤ 9223372036854775806) (hbl2 : b2.length ≤ 9223372036854775806) (hl : l.length ≤ 9223372036854775806) (hl2 : l2.length ≤ 9223372036854775806) (h0 : (same b b2) = true) (h1 : (sameP l l2) = true) (h2 : (base == base2) = true) (h3 : (cap == cap2) = true) : Ans cfg 16 [.agg [.int .i64 base, .osl b, .osl (prows l), .int .i64 cap, .int .i64 end_], .agg [.int .i64 base2, .osl b2, .osl (prows l2), .int .i64 cap2, .int .i64 end2]] (AV.bool (end_ == end2)) :=
  ans_of 5 [Ch.n, Ch.n, Ch.r (AV.bool (same b b2)), Ch.n, Ch.n, Ch.r (AV.bool (sameP l l2)), Ch.b true, Ch.b true, Ch.n, Ch.n, Ch.b true, Ch.n, Ch.n, Ch.b true, Ch.n, Ch.n] (.cons (@Vai.L06.bsam_ok (b) (b2) (by assumption) (by assumption) (by assumption) (by assumption)) (.cons (@Vai.L04.psam_ok (l) (l2) (by assumption) (by assumption)) (.cons h0 (.cons h1 (.cons h2 (.cons h3 (.nil))))))) (by kernel_rfl)
theorem wsm_1 (base cap end_ base2 cap2 end2 : Int) (b b2 : List AV) (l l2 : List Spn) (hb : IsB b) (hb2 : IsB b2) (hbl : b.length ≤ 9223372036854775806) (hbl2 : b2.length ≤ 9223372036854775806) (hl : l.length ≤ 9223372036854775806) (hl2 : l2.length ≤ 9223372036854775806) (h0 : (same b b2) = true) (h1 : (sameP l l2) = true) (h2 : (base == base2) = true) (h3 : (cap == cap2) = false) : Ans cfg 16 [.agg [.int .i64 base, .osl b, .osl (prows l), .int .i64 cap, .int .i64 end_], .agg [.int .i64 base2, .osl b2, .osl (prows l2), .int .i64 cap2, .int .i64 end2]] (AV.bool false) :=
  ans_of 5 [Ch.n, Ch.n, Ch.r (AV.bool (same b b2)), Ch.n, Ch.n, Ch.r (AV.bool (sameP l l2)), Ch.b true, Ch.b true, Ch.n, Ch.n, Ch.b true, Ch.n, Ch.n, Ch.b false] (.cons (@Vai.L06.bsam_ok (b) (b2) (by assumption) (by assumption) (by assumption) (by assumption)) (.cons (@Vai.L04.psam_ok (l) (l2) (by assumption) (by assumption)) (.cons h0 (.cons h1 (.cons h2 (.cons h3 (.nil))))))) (by kernel_rfl)
theorem wsm_2 (base cap end_ base2 cap2 end2 : Int) (b b2 : List AV) (l l2 : List Spn) (hb : IsB b) (hb2 : IsB b2) (hbl : b.length ≤ 9223372036854775806) (hbl2 : b2.length ≤ 9223372036854775806) (hl : l.length ≤ 9223372036854775806) (hl2 : l2.length ≤ 9223372036854775806) (h0 : (same b b2) = true) (h1 : (sameP l l2) = true) (h2 : (base == base2) = false) : Ans cfg 16 [.agg [.int .i64 base, .osl b, .osl (prows l), .int .i64 cap, .int .i64 end_], .agg [.int .i64 base2, .osl b2, .osl (prows l2), .int .i64 cap2, .int .i64 end2]] (AV.bool false) :=
  ans_of 5 [Ch.n, Ch.n, Ch.r (AV.bool (same b b2)), Ch.n, Ch.n, Ch.r (AV.bool (sameP l l2)), Ch.b true, Ch.b true, Ch.n, Ch.n, Ch.b false, Ch.k] (.cons (@Vai.L06.bsam_ok (b) (b2) (by assumption) (by assumption) (by assumption) (by assumption)) (.cons (@Vai.L04.psam_ok (l) (l2) (by assumption) (by assumption)) (.cons h0 (.cons h1 (.cons h2 (.nil)))))) (by kernel_rfl)
theorem wsm_3 (base cap end_ base2 cap2 end2 : Int) (b b2 : List AV) (l l2 : List Spn) (hb : IsB b) (hb2 : IsB b2) (hbl : b.length ≤ 9223372036854775806) (hbl2 : b2.length ≤ 9223372036854775806) (hl : l.length ≤ 9223372036854775806) (hl2 : l2.length ≤ 9223372036854775806) (h0 : (same b b2) = true) (h1 : (sameP l l2) = false) : Ans cfg 16 [.agg [.int .i64 base, .osl b, .osl (prows l), .int .i64 cap, .int .i64 end_], .agg [.int .i64 base2, .osl b2, .osl (prows l2), .int .i64 cap2, .int .i64 end2]] (AV.bool false) :=
  ans_of 5 [Ch.n, Ch.n, Ch.r (AV.bool (same b b2)), Ch.n, Ch.n, Ch.r (AV.bool (sameP l l2)), Ch.b true, Ch.b false, Ch.k, Ch.k] (.cons (@Vai.L06.bsam_ok (b) (b2) (by assumption) (by assumption) (by assumption) (by assumption)) (.cons (@Vai.L04.psam_ok (l) (l2) (by assumption) (by assumption)) (.cons h0 (.cons h1 (.nil))))) (by kernel_rfl)
theorem wsm_4 (base cap end_ base2 cap2 end2 : Int) (b b2 : List AV) (l l2 : List Spn) (hb : IsB b) (hb2 : IsB b2) (hbl : b.length ≤ 9223372036854775806) (hbl2 : b2.length ≤ 9223372036854775806) (hl : l.length ≤ 9223372036854775806) (hl2 : l2.length ≤ 9223372036854775806) (h0 : (same b b2) = false) : Ans cfg 16 [.agg [.int .i64 base, .osl b, .osl (prows l), .int .i64 cap, .int .i64 end_], .agg [.int .i64 base2, .osl b2, .osl (prows l2), .int .i64 cap2, .int .i64 end2]] (AV.bool false) :=
  ans_of 5 [Ch.n, Ch.n, Ch.r (AV.bool (same b b2)), Ch.n, Ch.n, Ch.r (AV.bool (sameP l l2)), Ch.b false, Ch.k, Ch.k, Ch.k] (.cons (@Vai.L06.bsam_ok (b) (b2) (by assumption) (by assumption) (by assumption) (by assumption)) (.cons (@Vai.L04.psam_ok (l) (l2) (by assumption) (by assumption)) (.cons h0 (.nil)))) (by kernel_rfl)
theorem wsm_to (base cap end_ base2 cap2 end2 : Int) (b b2 : List AV) (l l2 : List Spn) (hb : IsB b) (hb2 : IsB b2) (hbl : b.length ≤ 9223372036854775806) (hbl2 : b2.length ≤ 9223372036854775806) (hl : l.length ≤ 9223372036854775806) (hl2 : l2.length ≤ 9223372036854775806) {RES : AV}
    (p0 : (same b b2) = true → (sameP l l2) = true → (base = base2) → (cap = cap2) → (AV.bool (end_ == end2)) = RES)
    (p1 : (same b b2) = true → (sameP l l2) = true → (base = base2) → ¬ (cap = cap2) → (AV.bool false) = RES)
    (p2 : (same b b2) = true → (sameP l l2) = true → ¬ (base = base2) → (AV.bool false) = RES)
    (p3 : (same b b2) = true → (sameP l l2) = false → (AV.bool false) = RES)
    (p4 : (same b b2) = false → (AV.bool false) = RES) : Ans cfg 16 [.agg [.int .i64 base, .osl b, .osl (prows l), .int .i64 cap, .int .i64 end_], .agg [.int .i64 base2, .osl b2, .osl (prows l2), .int .i64 cap2, .int .i64 end2]] RES :=
  (Vai.bcases (same b b2) (fun h0 => (Vai.bcases (sameP l l2) (fun h1 => (Vai.bcases (base == base2) (fun h2 => (Vai.bcases (cap == cap2) (fun h3 => ((wsm_0 base cap end_ base2 cap2 end2 b b2 l l2 hb hb2 hbl hbl2 hl hl2 h0 h1 h2 h3).to rfl (p0 h0 h1 (eq_of_beq h2) (eq_of_beq h3)))) (fun h3 => ((wsm_1 base cap end_ base2 cap2 end2 b b2 l l2 hb hb2 hbl hbl2 hl hl2 h0 h1 h2 h3).to rfl (p1 h0 h1 (eq_of_beq h2) (ne_of_beq_false h3)))))) (fun h2 => ((wsm_2 base cap end_ base2 cap2 end2 b b2 l l2 hb hb2 hbl hbl2 hl hl2 h0 h1 h2).to rfl (p2 h0 h1 (ne_of_beq_false h2)))))) (fun h1 => ((wsm_3 base cap end_ base2 cap2 end2 b b2 l l2 hb hb2 hbl hbl2 hl hl2 h0 h1).to rfl (p3 h0 h1))))) (fun h0 => ((wsm_4 base cap end_ base2 cap2 end2 b b2 l l2 hb hb2 hbl hbl2 hl hl2 h0).to rfl (p4 h0))))


theorem wsam_ok (base cap end_ base2 cap2 end2 : Int) (b b2 : List AV) (l l2 : List Spn) (hb : IsB b) (hb2 : IsB b2) (hbl : b.length ≤ 9223372036854775806) (hbl2 : b2.length ≤ 9223372036854775806) (hl : l.length ≤ 9223372036854775806) (hl2 : l2.length ≤ 9223372036854775806) :
    Ans cfg 16 [.agg [.int .i64 base, .osl b, .osl (prows l), .int .i64 cap, .int .i64 end_], .agg [.int .i64 base2, .osl b2, .osl (prows l2), .int .i64 cap2, .int .i64 end2]] (.bool (wsamP ⟨base, b, l, cap, end_⟩ ⟨base2, b2, l2, cap2, end2⟩)) := by
  apply wsm_to base cap end_ base2 cap2 end2 b b2 l l2 hb hb2 hbl hbl2 hl hl2
  all_goals intros
  all_goals (congr 1; symm)
  all_goals first
    | (rw [Bool.eq_iff_iff, wsamP_iff]; simp_all [same_iff, sameP]; done)
    | (rw [wsamP_iff]; simp_all [same_iff, sameP]; done)
    | (rw [wsamP_no]; simp_all [same_iff, same_ne, sameP]; done)
theorem wrd_0 (base cap end_ : Int) (b : List AV) (l : List Spn) (hb : IsB b) (hl : l.length ≤ 9223372036854775806) (hbl : b.length ≤ 140737488355) (h0 : (mayW base b l cap end_) = true) : Ans cfg 19 [.agg [.int .i64 base, .osl b, .osl (prows l), .int .i64 cap, .int .i64 end_]] (AV.int IntKind.i64 (IntKind.wrap IntKind.i64 (gapP l base - base))) :=
  ans_of 5 [Ch.n, Ch.r (AV.bool (mayW base b l cap end_)), Ch.b false, Ch.n, Ch.n, Ch.r (AV.int IntKind.i64 (gapP l base)), Ch.n] (.cons (@Vai.L06.wm_ok (base) (cap) (end_) (b) (l) (by assumption) (by assumption) (by omega)) (.cons (nb h0) (.cons (@Vai.L04.pgap_ok (l) (base) (by assumption)) (.nil)))) (by kernel_rfl)
theorem wrd_1 (base cap end_ : Int) (b : List AV) (l : List Spn) (hb : IsB b) (hl : l.length ≤ 9223372036854775806) (hbl : b.length ≤ 140737488355) (h0 : (mayW base b l cap end_) = false) : Ans cfg 19 [.agg [.int .i64 base, .osl b, .osl (prows l), .int .i64 cap, .int .i64 end_]] (AV.int IntKind.i64 (0 : Int)) :=
  ans_of 5 [Ch.n, Ch.r (AV.bool (mayW base b l cap end_)), Ch.b true] (.cons (@Vai.L06.wm_ok (base) (cap) (end_) (b) (l) (by assumption) (by assumption) (by omega)) (.cons (nb h0) (.nil))) (by kernel_rfl)
theorem wrd_to (base cap end_ : Int) (b : List AV) (l : List Spn) (hb : IsB b) (hl : l.length ≤ 9223372036854775806) (hbl : b.length ≤ 140737488355) {RES : AV}
    (p0 : (mayW base b l cap end_) = true → (AV.int IntKind.i64 (IntKind.wrap IntKind.i64 (gapP l base - base))) = RES)
    (p1 : (mayW base b l cap end_) = false → (AV.int IntKind.i64 (0 : Int)) = RES) : Ans cfg 19 [.agg [.int .i64 base, .osl b, .osl (prows l), .int .i64 cap, .int .i64 end_]] RES :=
  (Vai.bcases (mayW base b l cap end_) (fun h0 => ((wrd_0 base cap end_ b l hb hl hbl h0).to rfl (p0 h0))) (fun h0 => ((wrd_1 base cap end_ b l hb hl hbl h0).to rfl (p1 h0))))

theorem weg_0 (base cap end_ : Int) (b : List AV) (l : List Spn) (hb : IsB b) (hl : l.length ≤ 9223372036854775806) (hbl : b.length ≤ 140737488355) (h0 : (mayW base b l cap end_) = true) : Ans cfg 18 [.agg [.int .i64 base, .osl b, .osl (prows l), .int .i64 cap, .int .i64 end_]] (AV.int IntKind.i64 (edgeP base cap)) :=
  ans_of 5 [Ch.n, Ch.r (AV.bool (mayW base b l cap end_)), Ch.b false, Ch.n, Ch.r (AV.int IntKind.i64 (edgeP base cap))] (.cons (@Vai.L06.wm_ok (base) (cap) (end_) (b) (l) (by assumption) (by assumption) (by omega)) (.cons (nb h0) (.cons (@Vai.L06.ed_ok (base) (cap) (end_) (b) (l) (by assumption) (by assumption) (by omega) (by (have hmw := mayW_iff.1 (by assumption); omega)) (by (have hmw := mayW_iff.1 (by assumption); omega))) (.nil)))) (by kernel_rfl)
theorem weg_1 (base cap end_ : Int) (b : List AV) (l : List Spn) (hb : IsB b) (hl : l.length ≤ 9223372036854775806) (hbl : b.length ≤ 140737488355) (h0 : (mayW base b l cap end_) = false) : Ans cfg 18 [.agg [.int .i64 base, .osl b, .osl (prows l), .int .i64 cap, .int .i64 end_]] (AV.int IntKind.i64 (0 : Int)) :=
  ans_of 5 [Ch.n, Ch.r (AV.bool (mayW base b l cap end_)), Ch.b true] (.cons (@Vai.L06.wm_ok (base) (cap) (end_) (b) (l) (by assumption) (by assumption) (by omega)) (.cons (nb h0) (.nil))) (by kernel_rfl)
theorem weg_to (base cap end_ : Int) (b : List AV) (l : List Spn) (hb : IsB b) (hl : l.length ≤ 9223372036854775806) (hbl : b.length ≤ 140737488355) {RES : AV}
    (p0 : (mayW base b l cap end_) = true → (AV.int IntKind.i64 (edgeP base cap)) = RES)
    (p1 : (mayW base b l cap end_) = false → (AV.int IntKind.i64 (0 : Int)) = RES) : Ans cfg 18 [.agg [.int .i64 base, .osl b, .osl (prows l), .int .i64 cap, .int .i64 end_]] RES :=
  (Vai.bcases (mayW base b l cap end_) (fun h0 => ((weg_0 base cap end_ b l hb hl hbl h0).to rfl (p0 h0))) (fun h0 => ((weg_1 base cap end_ b l hb hl hbl h0).to rfl (p1 h0))))


def readyP (base cap end_ : Int) (b : List AV) (l : List Spn) : Int := if mayW base b l cap end_ = true then IntKind.wrap .i64 (gapP l base - base) else 0
def edgeW (base cap end_ : Int) (b : List AV) (l : List Spn) : Int := if mayW base b l cap end_ = true then edgeP base cap else 0
theorem pready_ok (base cap end_ : Int) (b : List AV) (l : List Spn) (hb : IsB b) (hl : l.length ≤ 9223372036854775806) (hbl : b.length ≤ 140737488355) : Ans cfg 19 [.agg [.int .i64 base, .osl b, .osl (prows l), .int .i64 cap, .int .i64 end_]] (.int .i64 (readyP base cap end_ b l)) := by
  refine wrd_to base cap end_ b l hb hl hbl (fun h => ?_) (fun h => ?_) <;> unfold readyP <;> rw [h] <;> rfl
theorem pedge_ok (base cap end_ : Int) (b : List AV) (l : List Spn) (hb : IsB b) (hl : l.length ≤ 9223372036854775806) (hbl : b.length ≤ 140737488355) : Ans cfg 18 [.agg [.int .i64 base, .osl b, .osl (prows l), .int .i64 cap, .int .i64 end_]] (.int .i64 (edgeW base cap end_ b l)) := by
  refine weg_to base cap end_ b l hb hl hbl (fun h => ?_) (fun h => ?_) <;> unfold edgeW <;> rw [h] <;> rfl
theorem awk6_ok : Ans cfg 13 [] (.bool true) := ans_run 300 (by kernel_rfl)

/-! ### What Put tells may be handed on -/
theorem putW_cases {base cap end_ at_ : Int} {b bs : List AV} {l : List Spn} (hbs : IsB bs) (hb : IsB b) (hbsl : bs.length ≤ 140737488355) :
    (putK base b l cap end_ at_ bs ≠ 0 ∧ putW base b l cap end_ at_ bs = Wv.none ∧ putM base b l cap end_ at_ bs = 0) ∨
    (putK base b l cap end_ at_ bs = 0 ∧ MayW base b l cap end_ ∧ 0 ≤ at_ ∧ at_ ≤ 2305843009213693952 ∧ (end_ = -1 ∨ at_ + bs.length ≤ end_) ∧ lowP base at_ ≥ highP base cap at_ bs.length ∧ putW base b l cap end_ at_ bs = ⟨base, b, l, cap, end_⟩ ∧ putM base b l cap end_ at_ bs = 0) ∨
    (putK base b l cap end_ at_ bs = 0 ∧ MayW base b l cap end_ ∧ 0 ≤ at_ ∧ at_ ≤ 2305843009213693952 ∧ (end_ = -1 ∨ at_ + bs.length ≤ end_) ∧ lowP base at_ < highP base cap at_ bs.length ∧ addE l ⟨lowP base at_, highP base cap at_ bs.length⟩ = 0 ∧
      PutF base at_ (lowP base at_) (highP base cap at_ bs.length) b bs l cap ∧
      putW base b l cap end_ at_ bs = ⟨base, putB base at_ (lowP base at_) (highP base cap at_ bs.length) b bs l, addR l ⟨lowP base at_, highP base cap at_ bs.length⟩, cap, end_⟩ ∧
      putM base b l cap end_ at_ bs = IntKind.wrap .i64 (sizeS (addR l ⟨lowP base at_, highP base cap at_ bs.length⟩) - sizeS l)) := by
  by_cases k : putK base b l cap end_ at_ bs = 0
  · right
    by_cases n1 : mayW base b l cap end_ = false ∨ at_ < 0 ∨ at_ > 2305843009213693952
    · unfold putK at k; rw [if_pos n1] at k; omega
    · by_cases n2 : end_ ≠ -1 ∧ at_ + bs.length > end_
      · unfold putK at k; rw [if_neg n1, if_pos n2] at k; omega
      · have m1 : mayW base b l cap end_ = true := by
          cases h : mayW base b l cap end_ with
          | true => rfl
          | false => exact absurd (.inl h) n1
        have m2 : 0 ≤ at_ := Classical.byContradiction fun h => n1 (.inr (.inl (by omega)))
        have m3 : at_ ≤ 2305843009213693952 := Classical.byContradiction fun h => n1 (.inr (.inr (by omega)))
        have m4 : end_ = -1 ∨ at_ + bs.length ≤ end_ := by omega
        have hp := mayW_plain.1 m1
        by_cases c : lowP base at_ ≥ highP base cap at_ bs.length
        · left
          refine ⟨k, hp, m2, m3, m4, c, ?_, ?_⟩
          · unfold putW; rw [if_neg (by simpa using k), if_pos c]
          · unfold putM; rw [if_neg (by simpa using k), if_pos c]
        · right
          have y : addE l ⟨lowP base at_, highP base cap at_ bs.length⟩ = 0 := by unfold putK at k; rw [if_neg n1, if_neg n2, if_neg c] at k; exact k
          have lh := low_high (base := base) (cap := cap) (n := bs.length) (show ¬ at_ < 0 by omega) (show ¬ at_ > 2305843009213693952 by omega) hbsl
          refine ⟨k, hp, m2, m3, m4, by omega, y, put_facts hp hb hbs (by omega) m2 lh.1 lh.2.1 (by omega) lh.2.2.1 lh.2.2.2 y, ?_, ?_⟩
          · unfold putW; rw [if_neg (by simpa using k), if_neg c]
          · unfold putM; rw [if_neg (by simpa using k), if_neg c]
  · left
    exact ⟨k, by unfold putW; rw [if_pos k], by unfold putM; rw [if_pos k]⟩
theorem putW_b {base cap end_ at_ : Int} {b bs : List AV} {l : List Spn} (hb : IsB b) (hbs : IsB bs) (hbl : b.length ≤ 140737488355) (hbsl : bs.length ≤ 140737488355) (hl : l.length ≤ 9223372036854775806) :
    IsB (putW base b l cap end_ at_ bs).b ∧ (putW base b l cap end_ at_ bs).b.length ≤ 140737488355 ∧ (putW base b l cap end_ at_ bs).l.length ≤ 9223372036854775806 := by
  rcases putW_cases (base := base) (cap := cap) (end_ := end_) (at_ := at_) (l := l) hbs hb hbsl with ⟨_, h, _⟩ | ⟨_, hp, _, _, _, _, h, _⟩ | ⟨_, hp, _, _, _, _, _, f, h, _⟩
  · rw [h]; exact ⟨IsB.nil, by simp [Wv.none], by simp [Wv.none]⟩
  · rw [h]; exact ⟨hb, hbl, hl⟩
  · rw [h]
    have := f.lB; have := f.y2; have := hp.edge; have := f.gl
    exact ⟨f.hB, by simp only; omega, by simp only; omega⟩
theorem putW_isb {base cap end_ at_ : Int} {b bs : List AV} {l : List Spn} (hb : IsB b) (hbs : IsB bs) (hbl : b.length ≤ 140737488355) (hbsl : bs.length ≤ 140737488355) (hl : l.length ≤ 9223372036854775806) : IsB (putW base b l cap end_ at_ bs).b := (putW_b hb hbs hbl hbsl hl).1
theorem putW_bl {base cap end_ at_ : Int} {b bs : List AV} {l : List Spn} (hb : IsB b) (hbs : IsB bs) (hbl : b.length ≤ 140737488355) (hbsl : bs.length ≤ 140737488355) (hl : l.length ≤ 9223372036854775806) : (putW base b l cap end_ at_ bs).b.length ≤ 140737488355 := (putW_b hb hbs hbl hbsl hl).2.1
theorem putW_bl2 {base cap end_ at_ : Int} {b bs : List AV} {l : List Spn} (hb : IsB b) (hbs : IsB bs) (hbl : b.length ≤ 140737488355) (hbsl : bs.length ≤ 140737488355) (hl : l.length ≤ 9223372036854775806) : (putW base b l cap end_ at_ bs).b.length ≤ 9223372036854775806 := by have := (putW_b (base := base) (cap := cap) (end_ := end_) (at_ := at_) hb hbs hbl hbsl hl).2.1; omega
theorem putW_ll {base cap end_ at_ : Int} {b bs : List AV} {l : List Spn} (hb : IsB b) (hbs : IsB bs) (hbl : b.length ≤ 140737488355) (hbsl : bs.length ≤ 140737488355) (hl : l.length ≤ 9223372036854775806) : (putW base b l cap end_ at_ bs).l.length ≤ 9223372036854775806 := (putW_b hb hbs hbl hbsl hl).2.2
end Vai.L06
