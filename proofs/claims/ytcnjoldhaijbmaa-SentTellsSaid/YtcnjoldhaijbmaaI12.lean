/- Law 12: Heard, by its runs: a round, the loop, the function. -/
import Derived.Test.YtcnjoldhaijbmaaH12a
import Derived.Test.YtcnjoldhaijbmaaH12b
namespace Vai.L12
open Go Go.Proofs Vai Vai.R2 Vai.L04
set_option maxRecDepth 100000
set_option linter.unusedVariables false
set_option linter.unusedSimpArgs false

def stv (H : Option Nat) (n : Nat) : AV := match H with
  | none => .nl
  | some g => .sl 9 14 g 0 n
def asv (H : Option Nat) (n : Nat) : AV := match H with
  | none => .nl
  | some g => .sl 9 11 (g + 1) 0 n
def fr1 (H : Option Nat) (xs : List Snt) : List ((Nat × Nat) × Blk) := match H with
  | none => []
  | some g => [((14, g), ⟨rows xs, false⟩)]
def fr2 (H : Option Nat) (ys : List Snt) : List ((Nat × Nat) × Blk) := match H with
  | none => []
  | some g => [((11, g + 1), ⟨rows ys, false⟩)]
abbrev frm (H1 H2 : Option Nat) (xs ys : List Snt) : List ((Nat × Nat) × Blk) := ((11, 0), ⟨[.agg [stv H1 xs.length, asv H2 ys.length]], false⟩) :: (fr1 H1 xs ++ fr2 H2 ys)
abbrev bs (l : List Snt) (p : List Spn) (got : Int) (i : Nat) : List (Nat × AV) := [(1, .int .i64 got), (2, .osl (prows p)), (11, .ptr 11 0 0 0), (44, .osl (rows l)), (45, .int .i64 l.length), (46, .int .i64 i)]
abbrev bx (l : List Snt) (p : List Spn) (got : Int) (i X : Nat) (gone : Bool) : List (Nat × AV) := [(1, .int .i64 got), (2, .osl (prows p)), (11, .ptr 11 0 0 0), (13, .ptr 13 X 0 0), (14, .bool gone), (44, .osl (rows l)), (45, .int .i64 l.length), (46, .int .i64 i)]
abbrev by_ (l : List Snt) (p : List Spn) (got : Int) (i X : Nat) (gone told : Bool) : List (Nat × AV) := [(1, .int .i64 got), (2, .osl (prows p)), (11, .ptr 11 0 0 0), (13, .ptr 13 X 0 0), (14, .bool gone), (44, .osl (rows l)), (45, .int .i64 l.length), (46, .int .i64 i), (69, .bool told)]
abbrev xb (X : Nat) (x : Snt) : (Nat × Nat) × Blk := ((13, X), ⟨[x.av], false⟩)
noncomputable abbrev XC : Code := sub (lc Try.prog 17 0) [1, 1, 0, 0]
def fine (H : Option Nat) (xs : List Snt) : Prop := H = none → xs = []
theorem take_rows' (xs : List Snt) : List.take xs.length (rows xs) = rows xs := take_rowsL xs

theorem hH (l : List Snt) (p : List Spn) (i : Nat) (got : Int) (H1 H2 : Option Nat) (xs ys : List Snt) (N M : Nat) (hx : xs.length ≤ 500) (hy : ys.length ≤ 500) (f1 : fine H1 xs) (f2 : fine H2 ys) (hi : i < l.length) : Goto cfg (piece (lc Try.prog 17 0) 0 2) (bs l p got i) (frm H1 H2 xs ys) [(11, N + 1), (14, M)] .normal (fun _ => bs l p got i) (fun _ => frm H1 H2 xs ys) [(11, N + 1), (14, M)] := by
  cases H1 with
  | none =>
    obtain rfl : xs = [] := f1 rfl
    cases H2 with
    | none =>
      obtain rfl : ys = [] := f2 rfl
      exact heH00_to l p i got [] [] 0 0 N M hx hy (fun _ g => g.eqs (fun _ => by simp [look, lookM, frm, fr1, fr2, stv, asv]) fun _ => by simp [look, lookM, frm, fr1, fr2, stv, asv]) (fun h g => absurd h (by omega))
    | some H2 =>
      exact heH01_to l p i got [] ys 0 H2 N M hx hy (fun _ g => g.eqs (fun _ => by simp [look, lookM, frm, fr1, fr2, stv, asv]) fun _ => by simp [look, lookM, frm, fr1, fr2, stv, asv]) (fun h g => absurd h (by omega))
  | some H1 =>
    cases H2 with
    | none =>
      obtain rfl : ys = [] := f2 rfl
      exact heH10_to l p i got xs [] H1 0 N M hx hy (fun _ g => g.eqs (fun _ => by simp [look, lookM, frm, fr1, fr2, stv, asv]) fun _ => by simp [look, lookM, frm, fr1, fr2, stv, asv]) (fun h g => absurd h (by omega))
    | some H2 =>
      exact heH11_to l p i got xs ys H1 H2 N M hx hy (fun _ g => g.eqs (fun _ => by simp [look, lookM, frm, fr1, fr2, stv, asv]) fun _ => by simp [look, lookM, frm, fr1, fr2, stv, asv]) (fun h g => absurd h (by omega))

theorem hHe (l : List Snt) (p : List Spn) (i : Nat) (got : Int) (H1 H2 : Option Nat) (xs ys : List Snt) (N M : Nat) (hx : xs.length ≤ 500) (hy : ys.length ≤ 500) (f1 : fine H1 xs) (f2 : fine H2 ys) (hi : ¬ i < l.length) : Goto cfg (piece (lc Try.prog 17 0) 0 2) (bs l p got i) (frm H1 H2 xs ys) [(11, N + 1), (14, M)] (.exit 0) (fun _ => [(11, .ptr 11 0 0 0)]) (fun _ => frm H1 H2 xs ys) [(11, N + 1), (14, M)] := by
  cases H1 with
  | none =>
    obtain rfl : xs = [] := f1 rfl
    cases H2 with
    | none =>
      obtain rfl : ys = [] := f2 rfl
      exact heH00_to l p i got [] [] 0 0 N M hx hy (fun h g => absurd h (by omega)) (fun _ g => g.eqs (fun _ => by simp [look, lookM, frm, fr1, fr2, stv, asv]) fun _ => by simp [look, lookM, frm, fr1, fr2, stv, asv])
    | some H2 =>
      exact heH01_to l p i got [] ys 0 H2 N M hx hy (fun h g => absurd h (by omega)) (fun _ g => g.eqs (fun _ => by simp [look, lookM, frm, fr1, fr2, stv, asv]) fun _ => by simp [look, lookM, frm, fr1, fr2, stv, asv])
  | some H1 =>
    cases H2 with
    | none =>
      obtain rfl : ys = [] := f2 rfl
      exact heH10_to l p i got xs [] H1 0 N M hx hy (fun h g => absurd h (by omega)) (fun _ g => g.eqs (fun _ => by simp [look, lookM, frm, fr1, fr2, stv, asv]) fun _ => by simp [look, lookM, frm, fr1, fr2, stv, asv])
    | some H2 =>
      exact heH11_to l p i got xs ys H1 H2 N M hx hy (fun h g => absurd h (by omega)) (fun _ g => g.eqs (fun _ => by simp [look, lookM, frm, fr1, fr2, stv, asv]) fun _ => by simp [look, lookM, frm, fr1, fr2, stv, asv])

theorem hI (l : List Snt) (p : List Spn) (i : Nat) (got : Int) (H1 H2 : Option Nat) (xs ys : List Snt) (N M : Nat) (hx : xs.length ≤ 500) (hy : ys.length ≤ 500) (f1 : fine H1 xs) (f2 : fine H2 ys) (hl : l.length ≤ 500) (hi : i < l.length) : Goto cfg (piece (lc Try.prog 17 0) 3 1) (bs l p got i) (frm H1 H2 xs ys) [(11, N + 1), (14, M)] .normal (fun _ => bs l p got (i + 1)) (fun _ => frm H1 H2 xs ys) [(11, N + 1), (14, M)] := by
  have ew : IntKind.wrap IntKind.i64 ((i : Int) + 1) = (i : Int) + 1 := by rw [IntKind.wrap_i64]; omega
  cases H1 with
  | none =>
    obtain rfl : xs = [] := f1 rfl
    cases H2 with
    | none =>
      obtain rfl : ys = [] := f2 rfl
      exact heI00_to l p i got [] [] 0 0 N M hx hy (fun g => g.eqs (fun _ => by simp [look, ew]) fun _ => by simp [look, lookM, frm, fr1, fr2, stv, asv])
    | some H2 =>
      exact heI01_to l p i got [] ys 0 H2 N M hx hy (fun g => g.eqs (fun _ => by simp [look, ew]) fun _ => by simp [look, lookM, frm, fr1, fr2, stv, asv])
  | some H1 =>
    cases H2 with
    | none =>
      obtain rfl : ys = [] := f2 rfl
      exact heI10_to l p i got xs [] H1 0 N M hx hy (fun g => g.eqs (fun _ => by simp [look, ew]) fun _ => by simp [look, lookM, frm, fr1, fr2, stv, asv])
    | some H2 =>
      exact heI11_to l p i got xs ys H1 H2 N M hx hy (fun g => g.eqs (fun _ => by simp [look, ew]) fun _ => by simp [look, lookM, frm, fr1, fr2, stv, asv])

theorem hA (l : List Snt) (p : List Spn) (i : Nat) (got : Int) (H1 H2 : Option Nat) (xs ys : List Snt) (N M : Nat) (hx : xs.length ≤ 500) (hy : ys.length ≤ 500) (f1 : fine H1 xs) (f2 : fine H2 ys) (hl : l.length ≤ 500) (hp : p.length ≤ 9223372036854775806) (hi : i < l.length) (ew : IntKind.wrap IntKind.i64 ((nth l i).seq + (nth l i).len) = (nth l i).seq + (nth l i).len) : Goto cfg (piece XC 0 4) (bs l p got i) (frm H1 H2 xs ys) [(11, N + 1), (14, M)] .normal (fun Gs => by_ l p got i (Gs.getD 0 0) (gone got (nth l i)) (cameB got p (nth l i) && !(nth l i).came)) (fun Gs => xb (Gs.getD 0 0) (nth l i) :: frm H1 H2 xs ys) [(11, N + 1), (14, M)] := by
  have ga : gone got (nth l i) = decide (IntKind.wrap IntKind.i64 ((nth l i).seq + (nth l i).len) ≤ got) := by unfold gone; rw [ew]
  have c1 : IntKind.wrap IntKind.i64 ((nth l i).seq + (nth l i).len) ≤ got → cameB got p (nth l i) = true := fun h => by unfold cameB; rw [ga, decide_eq_true h, Bool.true_or]
  have c2 : ¬ IntKind.wrap IntKind.i64 ((nth l i).seq + (nth l i).len) ≤ got → ∀ b, hasP p ⟨(nth l i).seq, IntKind.wrap IntKind.i64 ((nth l i).seq + (nth l i).len)⟩ = b → cameB got p (nth l i) = b := fun h b hb => by unfold cameB; rw [ga, decide_eq_false h, Bool.false_or, ← ew, hb]
  cases H1 with
  | none =>
    obtain rfl : xs = [] := f1 rfl
    cases H2 with
    | none =>
      obtain rfl : ys = [] := f2 rfl
      refine heA00_to l p i got [] [] 0 0 N M hx hy hl hp hi (fun h g => g.eqs (fun _ => ?_) fun _ => ?_) (fun h hb g => g.eqs (fun _ => ?_) fun _ => ?_) (fun h hb g => g.eqs (fun _ => ?_) fun _ => ?_)
      · rw [c1 h, ga]; simp [look]
      · simp [lookM, frm, fr1, fr2, stv, asv, xb, Snt.av]
      · rw [c2 h _ hb, ga]; simp [look]
      · simp [lookM, frm, fr1, fr2, stv, asv, xb, Snt.av]
      · rw [c2 h _ hb, ga]; simp [look]
      · simp [lookM, frm, fr1, fr2, stv, asv, xb, Snt.av]
    | some H2 =>
      refine heA01_to l p i got [] ys 0 H2 N M hx hy hl hp hi (fun h g => g.eqs (fun _ => ?_) fun _ => ?_) (fun h hb g => g.eqs (fun _ => ?_) fun _ => ?_) (fun h hb g => g.eqs (fun _ => ?_) fun _ => ?_)
      · rw [c1 h, ga]; simp [look]
      · simp [lookM, frm, fr1, fr2, stv, asv, xb, Snt.av]
      · rw [c2 h _ hb, ga]; simp [look]
      · simp [lookM, frm, fr1, fr2, stv, asv, xb, Snt.av]
      · rw [c2 h _ hb, ga]; simp [look]
      · simp [lookM, frm, fr1, fr2, stv, asv, xb, Snt.av]
  | some H1 =>
    cases H2 with
    | none =>
      obtain rfl : ys = [] := f2 rfl
      refine heA10_to l p i got xs [] H1 0 N M hx hy hl hp hi (fun h g => g.eqs (fun _ => ?_) fun _ => ?_) (fun h hb g => g.eqs (fun _ => ?_) fun _ => ?_) (fun h hb g => g.eqs (fun _ => ?_) fun _ => ?_)
      · rw [c1 h, ga]; simp [look]
      · simp [lookM, frm, fr1, fr2, stv, asv, xb, Snt.av]
      · rw [c2 h _ hb, ga]; simp [look]
      · simp [lookM, frm, fr1, fr2, stv, asv, xb, Snt.av]
      · rw [c2 h _ hb, ga]; simp [look]
      · simp [lookM, frm, fr1, fr2, stv, asv, xb, Snt.av]
    | some H2 =>
      refine heA11_to l p i got xs ys H1 H2 N M hx hy hl hp hi (fun h g => g.eqs (fun _ => ?_) fun _ => ?_) (fun h hb g => g.eqs (fun _ => ?_) fun _ => ?_) (fun h hb g => g.eqs (fun _ => ?_) fun _ => ?_)
      · rw [c1 h, ga]; simp [look]
      · simp [lookM, frm, fr1, fr2, stv, asv, xb, Snt.av]
      · rw [c2 h _ hb, ga]; simp [look]
      · simp [lookM, frm, fr1, fr2, stv, asv, xb, Snt.av]
      · rw [c2 h _ hb, ga]; simp [look]
      · simp [lookM, frm, fr1, fr2, stv, asv, xb, Snt.av]

theorem hB (l : List Snt) (p : List Spn) (i : Nat) (got : Int) (x : Snt) (X : Nat) (gone told : Bool) (H1 H2 : Option Nat) (xs ys : List Snt) (N M : Nat) (hx : xs.length ≤ 500) (hy : ys.length ≤ 500) (f1 : fine H1 xs) (f2 : fine H2 ys) : fine (if told = true then some N else H2) (if told = true then ys ++ [x] else ys) ∧ Goto cfg (piece XC 4 1) (by_ l p got i X gone told) (xb X x :: frm H1 H2 xs ys) [(11, N + 1), (14, M)] .normal (fun _ => bx l p got i X gone) (fun _ => xb X (if told = true then { x with came := true, lost := false } else x) :: frm H1 (if told = true then some N else H2) xs (if told = true then ys ++ [x] else ys)) [(11, (if told = true then N + 1 else N) + 1), (14, M)] := by
  cases H1 with
  | none =>
    obtain rfl : xs = [] := f1 rfl
    cases H2 with
    | none =>
      obtain rfl : ys = [] := f2 rfl
      refine heB00_to l p i got x X gone told [] [] 0 0 N M hx hy (fun h g => ?_) (fun h g => ?_)
      · subst h
        refine ⟨fun e => (nomatch e), ?_⟩
        refine g.eqs (fun _ => ?_) fun _ => ?_
        · simp [look]
        · simp [lookM, frm, fr1, fr2, stv, asv, xb, Snt.av, take_rows', rows_len, ← rows_snoc]
          try simp [rows]
          all_goals rfl
      · subst h
        refine ⟨f2, ?_⟩
        refine g.eqs (fun _ => ?_) fun _ => ?_
        · simp [look]
        · simp [lookM, frm, fr1, fr2, stv, asv, xb, Snt.av]
    | some H2 =>
      refine heB01_to l p i got x X gone told [] ys 0 H2 N M hx hy (fun h g => ?_) (fun h g => ?_)
      · subst h
        refine ⟨fun e => (nomatch e), ?_⟩
        refine g.eqs (fun _ => ?_) fun _ => ?_
        · simp [look]
        · simp [lookM, frm, fr1, fr2, stv, asv, xb, Snt.av, take_rows', rows_len, ← rows_snoc]
          try simp [rows]
          all_goals rfl
      · subst h
        refine ⟨f2, ?_⟩
        refine g.eqs (fun _ => ?_) fun _ => ?_
        · simp [look]
        · simp [lookM, frm, fr1, fr2, stv, asv, xb, Snt.av]
  | some H1 =>
    cases H2 with
    | none =>
      obtain rfl : ys = [] := f2 rfl
      refine heB10_to l p i got x X gone told xs [] H1 0 N M hx hy (fun h g => ?_) (fun h g => ?_)
      · subst h
        refine ⟨fun e => (nomatch e), ?_⟩
        refine g.eqs (fun _ => ?_) fun _ => ?_
        · simp [look]
        · simp [lookM, frm, fr1, fr2, stv, asv, xb, Snt.av, take_rows', rows_len, ← rows_snoc]
          try simp [rows]
          all_goals rfl
      · subst h
        refine ⟨f2, ?_⟩
        refine g.eqs (fun _ => ?_) fun _ => ?_
        · simp [look]
        · simp [lookM, frm, fr1, fr2, stv, asv, xb, Snt.av]
    | some H2 =>
      refine heB11_to l p i got x X gone told xs ys H1 H2 N M hx hy (fun h g => ?_) (fun h g => ?_)
      · subst h
        refine ⟨fun e => (nomatch e), ?_⟩
        refine g.eqs (fun _ => ?_) fun _ => ?_
        · simp [look]
        · simp [lookM, frm, fr1, fr2, stv, asv, xb, Snt.av, take_rows', rows_len, ← rows_snoc]
          try simp [rows]
          all_goals rfl
      · subst h
        refine ⟨f2, ?_⟩
        refine g.eqs (fun _ => ?_) fun _ => ?_
        · simp [look]
        · simp [lookM, frm, fr1, fr2, stv, asv, xb, Snt.av]

theorem hC (l : List Snt) (p : List Spn) (i : Nat) (got : Int) (x : Snt) (X : Nat) (gone : Bool) (H1 H2 : Option Nat) (xs ys : List Snt) (N M : Nat) (hx : xs.length ≤ 500) (hy : ys.length ≤ 500) (f1 : fine H1 xs) (f2 : fine H2 ys) : fine (if gone = true then H1 else some M) (if gone = true then xs else xs ++ [x]) ∧ Goto cfg (piece XC 5 1) (bx l p got i X gone) (xb X x :: frm H1 H2 xs ys) [(11, N + 1), (14, M)] .normal (fun _ => bs l p got i) (fun _ => frm (if gone = true then H1 else some M) H2 (if gone = true then xs else xs ++ [x]) ys) [(11, N + 1), (14, (if gone = true then M else M + 1))] := by
  cases H1 with
  | none =>
    obtain rfl : xs = [] := f1 rfl
    cases H2 with
    | none =>
      obtain rfl : ys = [] := f2 rfl
      refine heC00_to l p i got x X gone [] [] 0 0 N M hx hy (fun h g => ?_) (fun h g => ?_)
      · subst h
        refine ⟨f1, ?_⟩
        refine g.eqs (fun _ => ?_) fun _ => ?_
        · simp [look]
        · simp [lookM, frm, fr1, fr2, stv, asv, xb, Snt.av]
      · subst h
        refine ⟨fun e => (nomatch e), ?_⟩
        refine g.eqs (fun _ => ?_) fun _ => ?_
        · simp [look]
        · simp [lookM, frm, fr1, fr2, stv, asv, xb, Snt.av, take_rows', rows_len, ← rows_snoc]
          try simp [rows]
          all_goals rfl
    | some H2 =>
      refine heC01_to l p i got x X gone [] ys 0 H2 N M hx hy (fun h g => ?_) (fun h g => ?_)
      · subst h
        refine ⟨f1, ?_⟩
        refine g.eqs (fun _ => ?_) fun _ => ?_
        · simp [look]
        · simp [lookM, frm, fr1, fr2, stv, asv, xb, Snt.av]
      · subst h
        refine ⟨fun e => (nomatch e), ?_⟩
        refine g.eqs (fun _ => ?_) fun _ => ?_
        · simp [look]
        · simp [lookM, frm, fr1, fr2, stv, asv, xb, Snt.av, take_rows', rows_len, ← rows_snoc]
          try simp [rows]
          all_goals rfl
  | some H1 =>
    cases H2 with
    | none =>
      obtain rfl : ys = [] := f2 rfl
      refine heC10_to l p i got x X gone xs [] H1 0 N M hx hy (fun h g => ?_) (fun h g => ?_)
      · subst h
        refine ⟨f1, ?_⟩
        refine g.eqs (fun _ => ?_) fun _ => ?_
        · simp [look]
        · simp [lookM, frm, fr1, fr2, stv, asv, xb, Snt.av]
      · subst h
        refine ⟨fun e => (nomatch e), ?_⟩
        refine g.eqs (fun _ => ?_) fun _ => ?_
        · simp [look]
        · simp [lookM, frm, fr1, fr2, stv, asv, xb, Snt.av, take_rows', rows_len, ← rows_snoc]
          try simp [rows]
          all_goals rfl
    | some H2 =>
      refine heC11_to l p i got x X gone xs ys H1 H2 N M hx hy (fun h g => ?_) (fun h g => ?_)
      · subst h
        refine ⟨f1, ?_⟩
        refine g.eqs (fun _ => ?_) fun _ => ?_
        · simp [look]
        · simp [lookM, frm, fr1, fr2, stv, asv, xb, Snt.av]
      · subst h
        refine ⟨fun e => (nomatch e), ?_⟩
        refine g.eqs (fun _ => ?_) fun _ => ?_
        · simp [look]
        · simp [lookM, frm, fr1, fr2, stv, asv, xb, Snt.av, take_rows', rows_len, ← rows_snoc]
          try simp [rows]
          all_goals rfl

theorem hT (H1 H2 : Option Nat) (xs ys : List Snt) (N M : Nat) (hx : xs.length ≤ 500) (hy : ys.length ≤ 500) (f1 : fine H1 xs) (f2 : fine H2 ys) : FromL cfg 17 10 [(11, .ptr 11 0 0 0)] (frm H1 H2 xs ys) [(11, N + 1), (14, M)] (.tup [.osl (rows xs), .osl (rows ys), .int .i64 0]) := by
  cases H1 with
  | none =>
    obtain rfl : xs = [] := f1 rfl
    cases H2 with
    | none =>
      obtain rfl : ys = [] := f2 rfl
      refine heT00_to [] [] 0 0 N M hx hy ?_
      (try simp only [take_rows']) <;> rfl
    | some H2 =>
      refine heT01_to [] ys 0 H2 N M hx hy (by rw [take_rows']; exact rows_free _) ?_
      (try simp only [take_rows']) <;> rfl
  | some H1 =>
    cases H2 with
    | none =>
      obtain rfl : ys = [] := f2 rfl
      refine heT10_to xs [] H1 0 N M hx hy (by rw [take_rows']; exact rows_free _) ?_
      (try simp only [take_rows']) <;> rfl
    | some H2 =>
      refine heT11_to xs ys H1 H2 N M hx hy (by rw [take_rows']; exact rows_free _) (by rw [take_rows']; exact rows_free _) ?_
      (try simp only [take_rows']) <;> rfl

theorem stay_snoc {got : Int} {p : List Spn} {l : List Snt} {i : Nat} (hi : i < l.length) : stayL got p (l.take (i + 1)) = if gone got (nth l i) = true then stayL got p (l.take i) else stayL got p (l.take i) ++ [heardX got p (nth l i)] := by
  rw [take_snoc hi]
  unfold stayL
  rw [List.filter_append, List.map_append]
  cases h : gone got (nth l i) with
  | true => rw [if_pos rfl, List.filter_cons_of_neg (by simp [h])]; simp
  | false => rw [if_neg (by simp), List.filter_cons_of_pos (by simp [h])]; simp
theorem told_snoc {got : Int} {p : List Spn} {l : List Snt} {i : Nat} (hi : i < l.length) : toldL got p (l.take (i + 1)) = if (cameB got p (nth l i) && !(nth l i).came) = true then toldL got p (l.take i) ++ [nth l i] else toldL got p (l.take i) := by
  rw [take_snoc hi]
  unfold toldL
  rw [List.filter_append]
  cases h : (cameB got p (nth l i) && !(nth l i).came) with
  | true => rw [if_pos rfl, List.filter_cons_of_pos (p := fun x => cameB got p x && !x.came) h]; simp
  | false => rw [if_neg (by simp), List.filter_cons_of_neg (p := fun x => cameB got p x && !x.came) (by rw [h]; simp)]; simp
theorem heardX_if (got : Int) (p : List Spn) (x : Snt) : (if (cameB got p x && !x.came) = true then { x with came := true, lost := false } else x) = heardX got p x := by
  unfold heardX
  cases h : cameB got p x <;> cases h2 : x.came <;> rfl
theorem stay_tk (got : Int) (p : List Spn) (l : List Snt) (i : Nat) : (stayL got p (l.take i)).length ≤ i := by
  have := stay_len got p (l.take i)
  rw [List.length_take] at this; omega
theorem told_tk (got : Int) (p : List Spn) (l : List Snt) (i : Nat) : (toldL got p (l.take i)).length ≤ i := by
  have : (toldL got p (l.take i)).length ≤ (l.take i).length := List.length_filter_le _ _
  rw [List.length_take] at this; omega
theorem hRound (l : List Snt) (p : List Spn) (got : Int) (i : Nat) (H1 H2 : Option Nat) (N M : Nat) (hl : l.length ≤ 500) (hp : p.length ≤ 9223372036854775806) (hi : i < l.length) (hc : Ch (fst l) l)
    (f1 : fine H1 (stayL got p (l.take i))) (f2 : fine H2 (toldL got p (l.take i))) :
    ∃ H1' H2' N' M', (fine H1' (stayL got p (l.take (i + 1))) ∧ fine H2' (toldL got p (l.take (i + 1)))) ∧
      Goto cfg (lc Try.prog 17 0) (bs l p got i) (frm H1 H2 (stayL got p (l.take i)) (toldL got p (l.take i))) [(11, N + 1), (14, M)] .normal (fun _ => bs l p got (i + 1)) (fun _ => frm H1' H2' (stayL got p (l.take (i + 1))) (toldL got p (l.take (i + 1)))) [(11, N' + 1), (14, M')] := by
  have b1 := stay_tk got p l i
  have b2 := told_tk got p l i
  have b3 := stay_tk got p l (i + 1)
  have b4 := told_tk got p l (i + 1)
  have hb := one_b (hc.nth_seq i hi).1
  have ew : IntKind.wrap IntKind.i64 ((nth l i).seq + (nth l i).len) = (nth l i).seq + (nth l i).len := W_id (by omega)
  have e2 := told_snoc (got := got) (p := p) hi
  have e1 := stay_snoc (got := got) (p := p) hi
  have gA := hA l p i got H1 H2 (stayL got p (l.take i)) (toldL got p (l.take i)) N M (by omega) (by omega) f1 f2 hl hp hi ew
  have kB := fun X => hB l p i got (nth l i) X (gone got (nth l i)) (cameB got p (nth l i) && !(nth l i).came) H1 H2 (stayL got p (l.take i)) (toldL got p (l.take i)) N M (by omega) (by omega) f1 f2
  rw [← e2] at kB
  simp only [heardX_if] at kB
  generalize (if (cameB got p (nth l i) && !(nth l i).came) = true then some N else H2) = H2' at kB
  generalize (if (cameB got p (nth l i) && !(nth l i).came) = true then N + 1 else N) = N' at kB
  have f2' := (kB 0).1
  have kC := fun X => hC l p i got (heardX got p (nth l i)) X (gone got (nth l i)) H1 H2' (stayL got p (l.take i)) (toldL got p (l.take (i + 1))) N' M (by omega) (by omega) f1 f2'
  rw [← e1] at kC
  generalize (if gone got (nth l i) = true then H1 else some M) = H1' at kC
  generalize (if gone got (nth l i) = true then M else M + 1) = M' at kC
  have f1' := (kC 0).1
  have gI := hI l p i got H1' H2' (stayL got p (l.take (i + 1))) (toldL got p (l.take (i + 1))) N' M' (by omega) (by omega) f1' f2' hl hi
  have gH := hH l p i got H1 H2 (stayL got p (l.take i)) (toldL got p (l.take i)) N M (by omega) (by omega) f1 f2 hi
  refine ⟨H1', H2', N', M', ⟨f1', f2'⟩, Goto.flat ?_⟩
  have fx : Goto cfg XC (bs l p got i) (frm H1 H2 (stayL got p (l.take i)) (toldL got p (l.take i))) [(11, N + 1), (14, M)] .normal (fun _ => bs l p got i) (fun _ => frm H1' H2' (stayL got p (l.take (i + 1))) (toldL got p (l.take (i + 1)))) [(11, N' + 1), (14, M')] := by
    refine Goto.flat ?_
    have ex : flat XC = ((flat XC).drop 0).take 4 ++ (((flat XC).drop 4).take 1 ++ ((flat XC).drop 5).take 1) := by kernel_rfl
    rw [ex]
    exact Goto.two gA fun Gs => Goto.two (kB _).2 fun Gs2 => (kC _).2
  have eb : flat (lc Try.prog 17 0) = ((flat (lc Try.prog 17 0)).drop 0).take 2 ++ ([.block 1 XC] ++ ((flat (lc Try.prog 17 0)).drop 3).take 1) := by kernel_rfl
  rw [eb]
  exact Goto.two gH fun _ => Goto.two (a := [.block 1 XC]) (Goto.block (e := .normal) fx) fun _ => gI
structure HS where
  i : Nat
  H1 : Option Nat
  H2 : Option Nat
  N : Nat
  M : Nat
theorem heard_from (l : List Snt) (p : List Spn) (got : Int) (hl : l.length ≤ 500) (hp : p.length ≤ 9223372036854775806) (hc : Ch (fst l) l) :
    FromL cfg 17 9 (bs l p got 0) [((11, 0), ⟨[.agg [.nl, .nl]], false⟩)] [(11, 1), (14, 0)] (.tup [.osl (rows (stayL got p l)), .osl (rows (toldL got p l)), .int .i64 0]) := by
  refine FromL.roundsK (α := HS) (c := lc Try.prog 17 0) (id := 0) (fun s => bs l p got s.i) (fun s => frm s.H1 s.H2 (stayL got p (l.take s.i)) (toldL got p (l.take s.i))) (fun s => [(11, s.N + 1), (14, s.M)]) (fun s => s.i ≤ l.length ∧ fine s.H1 (stayL got p (l.take s.i)) ∧ fine s.H2 (toldL got p (l.take s.i))) (fun s => l.length - s.i) (by kernel_rfl) (fun s hs => ?_) ⟨0, none, none, 0, 0⟩ ⟨Nat.zero_le _, fun _ => rfl, fun _ => rfl⟩
  obtain ⟨i, H1, H2, N, M⟩ := s
  obtain ⟨hi, f1, f2⟩ := hs
  simp only at hi f1 f2 ⊢
  have b1 := stay_tk got p l i
  have b2 := told_tk got p l i
  by_cases h : i < l.length
  · obtain ⟨H1', H2', N', M', ⟨f1', f2'⟩, g⟩ := hRound l p got i H1 H2 N M hl hp h hc f1 f2
    exact .next (fun _ => ⟨i + 1, H1', H2', N', M'⟩) (fun _ => ⟨⟨by simp only; omega, f1', f2'⟩, by simp only; omega⟩) _ (fun _ => rfl) g
  · have gE := hHe l p i got H1 H2 (stayL got p (l.take i)) (toldL got p (l.take i)) N M (by omega) (by omega) f1 f2 h
    have e : l.take i = l := List.take_of_length_le (by omega)
    refine .stop _ _ _ (Goto.flat ?_) fun _ => (hT H1 H2 (stayL got p (l.take i)) (toldL got p (l.take i)) N M (by omega) (by omega) f1 f2).to (by rw [e])
    have eb : flat (lc Try.prog 17 0) = ((flat (lc Try.prog 17 0)).drop 0).take 2 ++ (flat (lc Try.prog 17 0)).drop 2 := by kernel_rfl
    rw [eb]
    exact Goto.out gE (by simp)
theorem mayS_Ch {l : List Snt} (h : mayS l = true) : Ch (fst l) l := (mayS_iff.1 h).2
theorem mayS_len {l : List Snt} (h : mayS l = true) : l.length ≤ 500 := (mayS_iff.1 h).1
theorem heard_from' (l : List Snt) (p : List Spn) (got : Int) (hl : l.length ≤ 500) (hp : p.length ≤ 9223372036854775806) (hc : Ch (fst l) l) :
    FromL cfg 17 9 [(1, .int .i64 got), (2, .osl (prows p)), (11, .ptr 11 0 0 0), (44, .osl (rows l)), (45, .int .i64 (rows l).length), (46, .int .i64 0)] [((11, 0), ⟨[.agg [.nl, .nl]], false⟩)] [(11, 1), (14, 0)] (.tup [.osl (rows (stayL got p l)), .osl (rows (toldL got p l)), .int .i64 0]) := by
  rw [rows_len]
  exact heard_from l p got hl hp hc
theorem heardY_0 (l : List Snt) (got : Int) (p : List Spn) (hl : l.length ≤ 140737488355) (hp : p.length ≤ 140737488355) (h : (p.any fun s => decide (s.a < spA l ∨ s.b > spB l)) = true) (h0 : (mayS l) = true) (h1 : (mayP p) = true) (h2 : ((↑(List.length (rows l)) : Int) == (0 : Int)) = true) : Ans cfg 17 [.osl (rows l), .int .i64 got, .osl (prows p)] (AV.tup [AV.osl [], AV.osl [], AV.int IntKind.i64 (3 : Int)]) :=
  ans_ofL 5 [Ch.r (AV.bool (mayS l)), Ch.b false, Ch.r (AV.bool (mayP p)), Ch.b false, Ch.r (AV.agg [AV.int IntKind.i64 (spA l), AV.int IntKind.i64 (spB l)]), Ch.n, Ch.b true, Ch.k, Ch.k] (.cons (@Vai.L12.mayS_ok (l) (by omega)) (.cons (nb h0) (.cons (@Vai.L04.pmay_ok (p) (by omega)) (.cons (nb h1) (.cons (@Vai.L12.span_ok (l) (by omega)) (.cons h2 (.nil))))))) (by kernel_rfl) (by kernel_rfl)
theorem heardY_1 (l : List Snt) (got : Int) (p : List Spn) (hl : l.length ≤ 140737488355) (hp : p.length ≤ 140737488355) (h : (p.any fun s => decide (s.a < spA l ∨ s.b > spB l)) = true) (h0 : (mayS l) = true) (h1 : (mayP p) = true) (h2 : ((↑(List.length (rows l)) : Int) == (0 : Int)) = false) (h3 : (decide (spA l ≤ got ∧ got ≤ spB l)) = true) : Ans cfg 17 [.osl (rows l), .int .i64 got, .osl (prows p)] (AV.tup [AV.osl [], AV.osl [], AV.int IntKind.i64 (3 : Int)]) :=
  ans_ofL 5 [Ch.r (AV.bool (mayS l)), Ch.b false, Ch.r (AV.bool (mayP p)), Ch.b false, Ch.r (AV.agg [AV.int IntKind.i64 (spA l), AV.int IntKind.i64 (spB l)]), Ch.n, Ch.b false, Ch.n, Ch.n, Ch.r (AV.bool (decide (spA l ≤ got ∧ got ≤ spB l))), Ch.b false, Ch.l [((0 : Nat), AV.osl (prows p)), ((1 : Nat), AV.fn (44 : FuncId) [] [AV.ptr (9 : Nat) (0 : Nat) (0 : Nat) (0 : Nat)]), ((6 : Nat), AV.osl (prows p)), ((7 : Nat), AV.int IntKind.i64 (↑(List.length (prows p)) : Int)), ((8 : Nat), AV.int IntKind.i64 (0 : Int))] [(((9 : Nat), (0 : Nat)), { es := [AV.agg [AV.int IntKind.i64 (spA l), AV.int IntKind.i64 (spB l)]], fr := false })] [((11 : Nat), (0 : Nat)), ((14 : Nat), (0 : Nat))] E.ret (fun x => [((4 : Nat), AV.int IntKind.i64 (↑(fo p (spA l) (spB l)) : Int))]) (fun x => []) [((11 : Nat), (0 : Nat)), ((14 : Nat), (0 : Nat))], Ch.b true] (.cons (@Vai.L12.mayS_ok (l) (by omega)) (.cons (nb h0) (.cons (@Vai.L04.pmay_ok (p) (by omega)) (.cons (nb h1) (.cons (@Vai.L12.span_ok (l) (by omega)) (.cons h2 (.cons (@Vai.L12.in45_ok (got) (spA l) (spB l)) (.cons (nb h3) (.cons (Eq.refl (α := List AV) [AV.osl (prows p), AV.fn (44 : FuncId) [] [AV.ptr (9 : Nat) (0 : Nat) (0 : Nat) (0 : Nat)], AV.osl (prows p), AV.int IntKind.i64 (↑(List.length (prows p)) : Int), AV.int IntKind.i64 (0 : Int)]) (.cons (Eq.refl (α := List (Option Blk)) [some { es := [AV.agg [AV.int IntKind.i64 (spA l), AV.int IntKind.i64 (spB l)]], fr := false }]) (.cons (Eq.refl (α := List Nat) [(0 : Nat), (0 : Nat)]) (.cons (@Vai.L12.out_found (p) ((0 : Nat)) (spA l) (spB l) (by omega) (by assumption)) (.cons (by exact decide_eq_true (Int.natCast_nonneg _) : decide ((↑(fo p (spA l) (spB l)) : Int) ≥ (0 : Int)) = true) (.nil)))))))))))))) (by kernel_rfl) (by kernel_rfl)
theorem heardY_2 (l : List Snt) (got : Int) (p : List Spn) (hl : l.length ≤ 140737488355) (hp : p.length ≤ 140737488355) (h : (p.any fun s => decide (s.a < spA l ∨ s.b > spB l)) = true) (h0 : (mayS l) = true) (h1 : (mayP p) = true) (h2 : ((↑(List.length (rows l)) : Int) == (0 : Int)) = false) (h3 : (decide (spA l ≤ got ∧ got ≤ spB l)) = false) : Ans cfg 17 [.osl (rows l), .int .i64 got, .osl (prows p)] (AV.tup [AV.osl [], AV.osl [], AV.int IntKind.i64 (3 : Int)]) :=
  ans_ofL 5 [Ch.r (AV.bool (mayS l)), Ch.b false, Ch.r (AV.bool (mayP p)), Ch.b false, Ch.r (AV.agg [AV.int IntKind.i64 (spA l), AV.int IntKind.i64 (spB l)]), Ch.n, Ch.b false, Ch.n, Ch.n, Ch.r (AV.bool (decide (spA l ≤ got ∧ got ≤ spB l))), Ch.b true, Ch.k] (.cons (@Vai.L12.mayS_ok (l) (by omega)) (.cons (nb h0) (.cons (@Vai.L04.pmay_ok (p) (by omega)) (.cons (nb h1) (.cons (@Vai.L12.span_ok (l) (by omega)) (.cons h2 (.cons (@Vai.L12.in45_ok (got) (spA l) (spB l)) (.cons (nb h3) (.nil))))))))) (by kernel_rfl) (by kernel_rfl)
theorem heardY_3 (l : List Snt) (got : Int) (p : List Spn) (hl : l.length ≤ 140737488355) (hp : p.length ≤ 140737488355) (h : (p.any fun s => decide (s.a < spA l ∨ s.b > spB l)) = true) (h0 : (mayS l) = true) (h1 : (mayP p) = false) : Ans cfg 17 [.osl (rows l), .int .i64 got, .osl (prows p)] (AV.tup [AV.osl [], AV.osl [], AV.int IntKind.i64 (1 : Int)]) :=
  ans_ofL 5 [Ch.r (AV.bool (mayS l)), Ch.b false, Ch.r (AV.bool (mayP p)), Ch.b true] (.cons (@Vai.L12.mayS_ok (l) (by omega)) (.cons (nb h0) (.cons (@Vai.L04.pmay_ok (p) (by omega)) (.cons (nb h1) (.nil))))) (by kernel_rfl) (by kernel_rfl)
theorem heardY_4 (l : List Snt) (got : Int) (p : List Spn) (hl : l.length ≤ 140737488355) (hp : p.length ≤ 140737488355) (h : (p.any fun s => decide (s.a < spA l ∨ s.b > spB l)) = true) (h0 : (mayS l) = false) : Ans cfg 17 [.osl (rows l), .int .i64 got, .osl (prows p)] (AV.tup [AV.osl [], AV.osl [], AV.int IntKind.i64 (1 : Int)]) :=
  ans_ofL 5 [Ch.r (AV.bool (mayS l)), Ch.b true, Ch.k] (.cons (@Vai.L12.mayS_ok (l) (by omega)) (.cons (nb h0) (.nil))) (by kernel_rfl) (by kernel_rfl)
theorem heardY_to (l : List Snt) (got : Int) (p : List Spn) (hl : l.length ≤ 140737488355) (hp : p.length ≤ 140737488355) (h : (p.any fun s => decide (s.a < spA l ∨ s.b > spB l)) = true) {RES : AV}
    (p0 : (mayS l) = true → (mayP p) = true → ((↑(List.length (rows l)) : Int) = (0 : Int)) → (AV.tup [AV.osl [], AV.osl [], AV.int IntKind.i64 (3 : Int)]) = RES)
    (p1 : (mayS l) = true → (mayP p) = true → ¬ ((↑(List.length (rows l)) : Int) = (0 : Int)) → (spA l ≤ got ∧ got ≤ spB l) → (AV.tup [AV.osl [], AV.osl [], AV.int IntKind.i64 (3 : Int)]) = RES)
    (p2 : (mayS l) = true → (mayP p) = true → ¬ ((↑(List.length (rows l)) : Int) = (0 : Int)) → ¬ (spA l ≤ got ∧ got ≤ spB l) → (AV.tup [AV.osl [], AV.osl [], AV.int IntKind.i64 (3 : Int)]) = RES)
    (p3 : (mayS l) = true → (mayP p) = false → (AV.tup [AV.osl [], AV.osl [], AV.int IntKind.i64 (1 : Int)]) = RES)
    (p4 : (mayS l) = false → (AV.tup [AV.osl [], AV.osl [], AV.int IntKind.i64 (1 : Int)]) = RES) : Ans cfg 17 [.osl (rows l), .int .i64 got, .osl (prows p)] RES :=
  (Vai.bcases (mayS l) (fun h0 => (Vai.bcases (mayP p) (fun h1 => (Vai.bcases ((↑(List.length (rows l)) : Int) == (0 : Int)) (fun h2 => ((heardY_0 l got p hl hp h h0 h1 h2).to rfl (p0 h0 h1 (eq_of_beq h2)))) (fun h2 => (Vai.bcases (decide (spA l ≤ got ∧ got ≤ spB l)) (fun h3 => ((heardY_1 l got p hl hp h h0 h1 h2 h3).to rfl (p1 h0 h1 (ne_of_beq_false h2) (of_decide_eq_true h3)))) (fun h3 => ((heardY_2 l got p hl hp h h0 h1 h2 h3).to rfl (p2 h0 h1 (ne_of_beq_false h2) (of_decide_eq_false h3)))))))) (fun h1 => ((heardY_3 l got p hl hp h h0 h1).to rfl (p3 h0 h1))))) (fun h0 => ((heardY_4 l got p hl hp h h0).to rfl (p4 h0))))

theorem heardN_0 (l : List Snt) (got : Int) (p : List Spn) (hl : l.length ≤ 140737488355) (hp : p.length ≤ 140737488355) (h : (p.any fun s => decide (s.a < spA l ∨ s.b > spB l)) = false) (h0 : (mayS l) = true) (h1 : (mayP p) = true) (h2 : ((↑(List.length (rows l)) : Int) == (0 : Int)) = true) : Ans cfg 17 [.osl (rows l), .int .i64 got, .osl (prows p)] (AV.tup [AV.osl [], AV.osl [], AV.int IntKind.i64 (3 : Int)]) :=
  ans_ofL 5 [Ch.r (AV.bool (mayS l)), Ch.b false, Ch.r (AV.bool (mayP p)), Ch.b false, Ch.r (AV.agg [AV.int IntKind.i64 (spA l), AV.int IntKind.i64 (spB l)]), Ch.n, Ch.b true, Ch.k, Ch.k] (.cons (@Vai.L12.mayS_ok (l) (by omega)) (.cons (nb h0) (.cons (@Vai.L04.pmay_ok (p) (by omega)) (.cons (nb h1) (.cons (@Vai.L12.span_ok (l) (by omega)) (.cons h2 (.nil))))))) (by kernel_rfl) (by kernel_rfl)
theorem heardN_1 (l : List Snt) (got : Int) (p : List Spn) (hl : l.length ≤ 140737488355) (hp : p.length ≤ 140737488355) (h : (p.any fun s => decide (s.a < spA l ∨ s.b > spB l)) = false) (h0 : (mayS l) = true) (h1 : (mayP p) = true) (h2 : ((↑(List.length (rows l)) : Int) == (0 : Int)) = false) (h3 : (decide (spA l ≤ got ∧ got ≤ spB l)) = true) : Ans cfg 17 [.osl (rows l), .int .i64 got, .osl (prows p)] (AV.tup [AV.osl (rows (stayL got p l)), AV.osl (rows (toldL got p l)), AV.int IntKind.i64 (0 : Int)]) :=
  ans_ofL 5 [Ch.r (AV.bool (mayS l)), Ch.b false, Ch.r (AV.bool (mayP p)), Ch.b false, Ch.r (AV.agg [AV.int IntKind.i64 (spA l), AV.int IntKind.i64 (spB l)]), Ch.n, Ch.b false, Ch.n, Ch.n, Ch.r (AV.bool (decide (spA l ≤ got ∧ got ≤ spB l))), Ch.b false, Ch.l [((0 : Nat), AV.osl (prows p)), ((1 : Nat), AV.fn (44 : FuncId) [] [AV.ptr (9 : Nat) (0 : Nat) (0 : Nat) (0 : Nat)]), ((6 : Nat), AV.osl (prows p)), ((7 : Nat), AV.int IntKind.i64 (↑(List.length (prows p)) : Int)), ((8 : Nat), AV.int IntKind.i64 (0 : Int))] [(((9 : Nat), (0 : Nat)), { es := [AV.agg [AV.int IntKind.i64 (spA l), AV.int IntKind.i64 (spB l)]], fr := false })] [((11 : Nat), (0 : Nat)), ((14 : Nat), (0 : Nat))] (E.exit (0 : Nat)) (fun x => []) (fun x => []) [((11 : Nat), (0 : Nat)), ((14 : Nat), (0 : Nat))], Ch.k, Ch.x (9 : Nat) [((1 : Nat), AV.int IntKind.i64 got), ((2 : Nat), AV.osl (prows p)), ((11 : Nat), AV.ptr (11 : Nat) (0 : Nat) (0 : Nat) (0 : Nat)), ((44 : Nat), AV.osl (rows l)), ((45 : Nat), AV.int IntKind.i64 (↑(List.length (rows l)) : Int)), ((46 : Nat), AV.int IntKind.i64 (0 : Int))] [(((11 : Nat), (0 : Nat)), { es := [AV.agg [AV.nl, AV.nl]], fr := false })] [((11 : Nat), (1 : Nat)), ((14 : Nat), (0 : Nat))] (AV.tup [AV.osl (rows (stayL got p l)), AV.osl (rows (toldL got p l)), AV.int IntKind.i64 (0 : Int)])] (.cons (@Vai.L12.mayS_ok (l) (by omega)) (.cons (nb h0) (.cons (@Vai.L04.pmay_ok (p) (by omega)) (.cons (nb h1) (.cons (@Vai.L12.span_ok (l) (by omega)) (.cons h2 (.cons (@Vai.L12.in45_ok (got) (spA l) (spB l)) (.cons (nb h3) (.cons (Eq.refl (α := List AV) [AV.osl (prows p), AV.fn (44 : FuncId) [] [AV.ptr (9 : Nat) (0 : Nat) (0 : Nat) (0 : Nat)], AV.osl (prows p), AV.int IntKind.i64 (↑(List.length (prows p)) : Int), AV.int IntKind.i64 (0 : Int)]) (.cons (Eq.refl (α := List (Option Blk)) [some { es := [AV.agg [AV.int IntKind.i64 (spA l), AV.int IntKind.i64 (spB l)]], fr := false }]) (.cons (Eq.refl (α := List Nat) [(0 : Nat), (0 : Nat)]) (.cons (@Vai.L12.out_none (p) ((0 : Nat)) (spA l) (spB l) (by omega) (by assumption)) (.cons (Eq.refl (α := List AV) [AV.int IntKind.i64 got, AV.osl (prows p), AV.ptr (11 : Nat) (0 : Nat) (0 : Nat) (0 : Nat), AV.osl (rows l), AV.int IntKind.i64 (↑(List.length (rows l)) : Int), AV.int IntKind.i64 (0 : Int)]) (.cons (Eq.refl (α := List (Option Blk)) [some { es := [AV.agg [AV.nl, AV.nl]], fr := false }]) (.cons (Eq.refl (α := List Nat) [(1 : Nat), (0 : Nat)]) (.cons (@Vai.L12.heard_from' (l) (p) (got) (by exact mayS_len (by assumption)) (by omega) (by exact mayS_Ch (by assumption))) (.nil))))))))))))))))) (by kernel_rfl) (by kernel_rfl)
theorem heardN_2 (l : List Snt) (got : Int) (p : List Spn) (hl : l.length ≤ 140737488355) (hp : p.length ≤ 140737488355) (h : (p.any fun s => decide (s.a < spA l ∨ s.b > spB l)) = false) (h0 : (mayS l) = true) (h1 : (mayP p) = true) (h2 : ((↑(List.length (rows l)) : Int) == (0 : Int)) = false) (h3 : (decide (spA l ≤ got ∧ got ≤ spB l)) = false) : Ans cfg 17 [.osl (rows l), .int .i64 got, .osl (prows p)] (AV.tup [AV.osl [], AV.osl [], AV.int IntKind.i64 (3 : Int)]) :=
  ans_ofL 5 [Ch.r (AV.bool (mayS l)), Ch.b false, Ch.r (AV.bool (mayP p)), Ch.b false, Ch.r (AV.agg [AV.int IntKind.i64 (spA l), AV.int IntKind.i64 (spB l)]), Ch.n, Ch.b false, Ch.n, Ch.n, Ch.r (AV.bool (decide (spA l ≤ got ∧ got ≤ spB l))), Ch.b true, Ch.k] (.cons (@Vai.L12.mayS_ok (l) (by omega)) (.cons (nb h0) (.cons (@Vai.L04.pmay_ok (p) (by omega)) (.cons (nb h1) (.cons (@Vai.L12.span_ok (l) (by omega)) (.cons h2 (.cons (@Vai.L12.in45_ok (got) (spA l) (spB l)) (.cons (nb h3) (.nil))))))))) (by kernel_rfl) (by kernel_rfl)
theorem heardN_3 (l : List Snt) (got : Int) (p : List Spn) (hl : l.length ≤ 140737488355) (hp : p.length ≤ 140737488355) (h : (p.any fun s => decide (s.a < spA l ∨ s.b > spB l)) = false) (h0 : (mayS l) = true) (h1 : (mayP p) = false) : Ans cfg 17 [.osl (rows l), .int .i64 got, .osl (prows p)] (AV.tup [AV.osl [], AV.osl [], AV.int IntKind.i64 (1 : Int)]) :=
  ans_ofL 5 [Ch.r (AV.bool (mayS l)), Ch.b false, Ch.r (AV.bool (mayP p)), Ch.b true] (.cons (@Vai.L12.mayS_ok (l) (by omega)) (.cons (nb h0) (.cons (@Vai.L04.pmay_ok (p) (by omega)) (.cons (nb h1) (.nil))))) (by kernel_rfl) (by kernel_rfl)
theorem heardN_4 (l : List Snt) (got : Int) (p : List Spn) (hl : l.length ≤ 140737488355) (hp : p.length ≤ 140737488355) (h : (p.any fun s => decide (s.a < spA l ∨ s.b > spB l)) = false) (h0 : (mayS l) = false) : Ans cfg 17 [.osl (rows l), .int .i64 got, .osl (prows p)] (AV.tup [AV.osl [], AV.osl [], AV.int IntKind.i64 (1 : Int)]) :=
  ans_ofL 5 [Ch.r (AV.bool (mayS l)), Ch.b true, Ch.k] (.cons (@Vai.L12.mayS_ok (l) (by omega)) (.cons (nb h0) (.nil))) (by kernel_rfl) (by kernel_rfl)
theorem heardN_to (l : List Snt) (got : Int) (p : List Spn) (hl : l.length ≤ 140737488355) (hp : p.length ≤ 140737488355) (h : (p.any fun s => decide (s.a < spA l ∨ s.b > spB l)) = false) {RES : AV}
    (p0 : (mayS l) = true → (mayP p) = true → ((↑(List.length (rows l)) : Int) = (0 : Int)) → (AV.tup [AV.osl [], AV.osl [], AV.int IntKind.i64 (3 : Int)]) = RES)
    (p1 : (mayS l) = true → (mayP p) = true → ¬ ((↑(List.length (rows l)) : Int) = (0 : Int)) → (spA l ≤ got ∧ got ≤ spB l) → (AV.tup [AV.osl (rows (stayL got p l)), AV.osl (rows (toldL got p l)), AV.int IntKind.i64 (0 : Int)]) = RES)
    (p2 : (mayS l) = true → (mayP p) = true → ¬ ((↑(List.length (rows l)) : Int) = (0 : Int)) → ¬ (spA l ≤ got ∧ got ≤ spB l) → (AV.tup [AV.osl [], AV.osl [], AV.int IntKind.i64 (3 : Int)]) = RES)
    (p3 : (mayS l) = true → (mayP p) = false → (AV.tup [AV.osl [], AV.osl [], AV.int IntKind.i64 (1 : Int)]) = RES)
    (p4 : (mayS l) = false → (AV.tup [AV.osl [], AV.osl [], AV.int IntKind.i64 (1 : Int)]) = RES) : Ans cfg 17 [.osl (rows l), .int .i64 got, .osl (prows p)] RES :=
  (Vai.bcases (mayS l) (fun h0 => (Vai.bcases (mayP p) (fun h1 => (Vai.bcases ((↑(List.length (rows l)) : Int) == (0 : Int)) (fun h2 => ((heardN_0 l got p hl hp h h0 h1 h2).to rfl (p0 h0 h1 (eq_of_beq h2)))) (fun h2 => (Vai.bcases (decide (spA l ≤ got ∧ got ≤ spB l)) (fun h3 => ((heardN_1 l got p hl hp h h0 h1 h2 h3).to rfl (p1 h0 h1 (ne_of_beq_false h2) (of_decide_eq_true h3)))) (fun h3 => ((heardN_2 l got p hl hp h h0 h1 h2 h3).to rfl (p2 h0 h1 (ne_of_beq_false h2) (of_decide_eq_false h3)))))))) (fun h1 => ((heardN_3 l got p hl hp h h0 h1).to rfl (p3 h0 h1))))) (fun h0 => ((heardN_4 l got p hl hp h h0).to rfl (p4 h0))))


theorem heard_ok (l : List Snt) (got : Int) (p : List Spn) (hl : l.length ≤ 140737488355) (hp : p.length ≤ 140737488355) : Ans cfg 17 [.osl (rows l), .int .i64 got, .osl (prows p)] (.tup [.osl (rows (heardL l got p)), .osl (rows (heardT l got p)), .int .i64 (heardE l got p)]) := by
  have no : ∀ {n : Int}, heardE l got p = n → n ≠ 0 → (AV.tup [AV.osl [], AV.osl [], AV.int IntKind.i64 n]) = (.tup [.osl (rows (heardL l got p)), .osl (rows (heardT l got p)), .int .i64 (heardE l got p)]) := fun e hn => by
    unfold heardL heardT; rw [if_neg (by rw [e]; exact hn), if_neg (by rw [e]; exact hn), e]; rfl
  have n1 : mayS l = false → heardE l got p = 1 := fun h => if_neg (fun k => by rw [h] at k; cases k.1)
  have n2 : mayP p = false → heardE l got p = 1 := fun h => if_neg (fun k => by rw [h] at k; cases k.2)
  have n3 : mayS l = true → mayP p = true → ¬ (l ≠ [] ∧ spA l ≤ got ∧ got ≤ spB l ∧ p.any (outP l) = false) → heardE l got p = 3 := fun h1 h2 h => by
    unfold heardE; rw [if_pos ⟨h1, h2⟩, if_neg h]
  have nn : ((rows l).length : Int) = 0 → l = [] := fun h => List.length_eq_zero_iff.1 (by rw [rows_len] at h; omega)
  cases ho : p.any (outP l) with
  | true =>
    refine heardY_to l got p hl hp ho ?_ ?_ ?_ ?_ ?_
    all_goals intros
    · exact no (n3 (by assumption) (by assumption) (fun k => by rw [ho] at k; cases k.2.2.2)) (by decide)
    · exact no (n3 (by assumption) (by assumption) (fun k => by rw [ho] at k; cases k.2.2.2)) (by decide)
    · exact no (n3 (by assumption) (by assumption) (fun k => by rw [ho] at k; cases k.2.2.2)) (by decide)
    · exact no (n2 (by assumption)) (by decide)
    · exact no (n1 (by assumption)) (by decide)
  | false =>
    refine heardN_to l got p hl hp ho (fun h1 h2 h3 => ?_) (fun h1 h2 h3 h4 => ?_) (fun h1 h2 h3 h4 => ?_) (fun h1 h2 => ?_) (fun h1 => ?_)
    · exact no (n3 h1 h2 (fun k => k.1 (nn h3))) (by decide)
    · have e : heardE l got p = 0 := by
        unfold heardE
        rw [if_pos ⟨h1, h2⟩, if_pos ⟨fun h => h3 (by rw [h]; rfl), h4.1, h4.2, ho⟩]
      unfold heardL heardT
      rw [if_pos e, if_pos e, e]
    · exact no (n3 h1 h2 (fun k => h4 ⟨k.2.1, k.2.2.1⟩)) (by decide)
    · exact no (n2 h2) (by decide)
    · exact no (n1 h1) (by decide)
theorem heardL_le {l : List Snt} {got : Int} {p : List Spn} {n : Nat} (h : l.length ≤ n) : (heardL l got p).length ≤ n := by
  unfold heardL; split
  · have := stay_len got p l; omega
  · simp
theorem heardT_le {l : List Snt} {got : Int} {p : List Spn} {n : Nat} (h : l.length ≤ n) : (heardT l got p).length ≤ n := by
  unfold heardT; split
  · have : (toldL got p l).length ≤ l.length := List.length_filter_le _ _
    omega
  · simp
end Vai.L12
