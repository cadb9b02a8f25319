/- Law 12: the document's Heard, by its runs: a round, the loop, the function. -/
import Derived.Test.YtcnjoldhaijbmaaQ12a
import Derived.Test.YtcnjoldhaijbmaaI12
namespace Vai.L12
open Go Go.Proofs Vai Vai.R2 Vai.L04
set_option maxRecDepth 100000
set_option linter.unusedVariables false
set_option linter.unusedSimpArgs false

theorem goto_leave {C : Cfg} {c : Code} {i : Nat} {l0 : List (Nat × AV)} {m0 : List ((Nat × Nat) × Blk)} {g0 g1 : List (Nat × Nat)} {l1 : List Nat → List (Nat × AV)} {m1 : List Nat → List ((Nat × Nat) × Blk)}
    (h : Goto C c l0 m0 g0 (.exit i) l1 m1 g1) : Goto C (.block i c) l0 m0 g0 .normal l1 m1 g1 := fun st hst => by
  obtain ⟨s1, Gs1, a1, k1⟩ := h st hst
  refine ⟨s1, Gs1, a1, Ev.succ (k1.pred.imp fun k hk => ?_)⟩
  have h4 : execC C (exec C k) c st = _ := hk
  show leave i (execC C (exec C k) c st) = _
  rw [h4]; simp [leave]
def stq (H : Option Nat) (n : Nat) : AV := match H with
  | none => .nl
  | some g => .sl 9 115 g 0 n
def atq (H : Option Nat) (n : Nat) : AV := match H with
  | none => .nl
  | some g => .sl 9 105 g 0 n
def fq1 (H : Option Nat) (xs : List Snt) : List ((Nat × Nat) × Blk) := match H with
  | none => []
  | some g => [((115, g), ⟨rows xs, false⟩)]
def fq2 (H : Option Nat) (ys : List Snt) : List ((Nat × Nat) × Blk) := match H with
  | none => []
  | some g => [((105, g), ⟨rows ys, false⟩)]
abbrev frq (H1 H2 : Option Nat) (xs ys : List Snt) : List ((Nat × Nat) × Blk) := fq1 H1 xs ++ fq2 H2 ys
abbrev bq (l : List Snt) (p : List Spn) (got : Int) (i : Nat) (H1 H2 : Option Nat) (xs ys : List Snt) : List (Nat × AV) := [(0, .osl (rows l)), (1, .int .i64 got), (2, .osl (prows p)), (13, stq H1 xs.length), (14, atq H2 ys.length), (15, .int .i64 i)]
abbrev xq (X : Nat) (x : Snt) : (Nat × Nat) × Blk := ((16, X), ⟨[x.av], false⟩)
noncomputable abbrev XQ : Code := sub (lc Try.prog 35 1) [1, 0, 0]

theorem qH (l : List Snt) (p : List Spn) (i : Nat) (got : Int) (H1 H2 : Option Nat) (xs ys : List Snt) (N M : Nat) (hx : xs.length ≤ 500) (hy : ys.length ≤ 500) (f1 : fine H1 xs) (f2 : fine H2 ys) (hi : i < l.length) : Goto cfg (piece (lc Try.prog 35 1) 0 2) (bq l p got i H1 H2 xs ys) (frq H1 H2 xs ys) [(105, N), (115, M)] .normal (fun _ => (bq l p got i H1 H2 xs ys)) (fun _ => (frq H1 H2 xs ys)) [(105, N), (115, M)] := by
  cases H1 with
  | none =>
    obtain rfl : xs = [] := f1 rfl
    cases H2 with
    | none =>
      obtain rfl : ys = [] := f2 rfl
      exact hrH00_to l p i got [] [] 0 0 N M hx hy (fun _ g => g.eqs (fun _ => by simp [look, stq, atq]) fun _ => by simp [lookM, fq1, fq2]) (fun h g => absurd h (by rw [rows_len]; omega))
    | some H2 =>
      exact hrH01_to l p i got [] ys 0 H2 N M hx hy (fun _ g => g.eqs (fun _ => by simp [look, stq, atq]) fun _ => by simp [lookM, fq1, fq2]) (fun h g => absurd h (by rw [rows_len]; omega))
  | some H1 =>
    cases H2 with
    | none =>
      obtain rfl : ys = [] := f2 rfl
      exact hrH10_to l p i got xs [] H1 0 N M hx hy (fun _ g => g.eqs (fun _ => by simp [look, stq, atq]) fun _ => by simp [lookM, fq1, fq2]) (fun h g => absurd h (by rw [rows_len]; omega))
    | some H2 =>
      exact hrH11_to l p i got xs ys H1 H2 N M hx hy (fun _ g => g.eqs (fun _ => by simp [look, stq, atq]) fun _ => by simp [lookM, fq1, fq2]) (fun h g => absurd h (by rw [rows_len]; omega))

theorem qHe (l : List Snt) (p : List Spn) (i : Nat) (got : Int) (H1 H2 : Option Nat) (xs ys : List Snt) (N M : Nat) (hx : xs.length ≤ 500) (hy : ys.length ≤ 500) (f1 : fine H1 xs) (f2 : fine H2 ys) (hi : ¬ i < l.length) : Goto cfg (piece (lc Try.prog 35 1) 0 2) (bq l p got i H1 H2 xs ys) (frq H1 H2 xs ys) [(105, N), (115, M)] (.exit 2) (fun _ => [(13, stq H1 xs.length), (14, atq H2 ys.length)]) (fun _ => (frq H1 H2 xs ys)) [(105, N), (115, M)] := by
  cases H1 with
  | none =>
    obtain rfl : xs = [] := f1 rfl
    cases H2 with
    | none =>
      obtain rfl : ys = [] := f2 rfl
      exact hrH00_to l p i got [] [] 0 0 N M hx hy (fun h g => absurd h (by rw [rows_len]; omega)) (fun _ g => g.eqs (fun _ => by simp [look, stq, atq]) fun _ => by simp [lookM, fq1, fq2])
    | some H2 =>
      exact hrH01_to l p i got [] ys 0 H2 N M hx hy (fun h g => absurd h (by rw [rows_len]; omega)) (fun _ g => g.eqs (fun _ => by simp [look, stq, atq]) fun _ => by simp [lookM, fq1, fq2])
  | some H1 =>
    cases H2 with
    | none =>
      obtain rfl : ys = [] := f2 rfl
      exact hrH10_to l p i got xs [] H1 0 N M hx hy (fun h g => absurd h (by rw [rows_len]; omega)) (fun _ g => g.eqs (fun _ => by simp [look, stq, atq]) fun _ => by simp [lookM, fq1, fq2])
    | some H2 =>
      exact hrH11_to l p i got xs ys H1 H2 N M hx hy (fun h g => absurd h (by rw [rows_len]; omega)) (fun _ g => g.eqs (fun _ => by simp [look, stq, atq]) fun _ => by simp [lookM, fq1, fq2])

theorem qI (l : List Snt) (p : List Spn) (i : Nat) (got : Int) (H1 H2 : Option Nat) (xs ys : List Snt) (N M : Nat) (hx : xs.length ≤ 500) (hy : ys.length ≤ 500) (f1 : fine H1 xs) (f2 : fine H2 ys) (hl : l.length ≤ 500) (hi : i < l.length) : Goto cfg (piece (lc Try.prog 35 1) 3 1) (bq l p got i H1 H2 xs ys) (frq H1 H2 xs ys) [(105, N), (115, M)] .normal (fun _ => bq l p got (i + 1) H1 H2 xs ys) (fun _ => (frq H1 H2 xs ys)) [(105, N), (115, M)] := by
  have ew : IntKind.wrap IntKind.i64 ((i : Int) + 1) = (i : Int) + 1 := by rw [IntKind.wrap_i64]; omega
  cases H1 with
  | none =>
    obtain rfl : xs = [] := f1 rfl
    cases H2 with
    | none =>
      obtain rfl : ys = [] := f2 rfl
      exact hrI00_to l p i got [] [] 0 0 N M hx hy (fun g => g.eqs (fun _ => by simp [look, stq, atq, ew]) fun _ => by simp [lookM, fq1, fq2])
    | some H2 =>
      exact hrI01_to l p i got [] ys 0 H2 N M hx hy (fun g => g.eqs (fun _ => by simp [look, stq, atq, ew]) fun _ => by simp [lookM, fq1, fq2])
  | some H1 =>
    cases H2 with
    | none =>
      obtain rfl : ys = [] := f2 rfl
      exact hrI10_to l p i got xs [] H1 0 N M hx hy (fun g => g.eqs (fun _ => by simp [look, stq, atq, ew]) fun _ => by simp [lookM, fq1, fq2])
    | some H2 =>
      exact hrI11_to l p i got xs ys H1 H2 N M hx hy (fun g => g.eqs (fun _ => by simp [look, stq, atq, ew]) fun _ => by simp [lookM, fq1, fq2])

theorem qA (l : List Snt) (p : List Spn) (i : Nat) (got : Int) (H1 H2 : Option Nat) (xs ys : List Snt) (N M : Nat) (hx : xs.length ≤ 500) (hy : ys.length ≤ 500) (f1 : fine H1 xs) (f2 : fine H2 ys) (hl : l.length ≤ 500) (hp : p.length ≤ 9223372036854775806) (hi : i < l.length) (ew : IntKind.wrap IntKind.i64 ((nth l i).seq + (nth l i).len) = (nth l i).seq + (nth l i).len) : Goto cfg (piece XQ 0 4) (bq l p got i H1 H2 xs ys) (frq H1 H2 xs ys) [(105, N), (115, M)] .normal (fun Gs => (bq l p got i H1 H2 xs ys) ++ [(16, .ptr 16 (Gs.getD 0 0) 0 0), (17, .int .i64 ((nth l i).seq + (nth l i).len)), (18, .bool (hasP p ⟨(nth l i).seq, (nth l i).seq + (nth l i).len⟩)), (101, .bool (cameB got p (nth l i) && !(nth l i).came))]) (fun Gs => xq (Gs.getD 0 0) (nth l i) :: (frq H1 H2 xs ys)) [(105, N), (115, M)] := by
  cases H1 with
  | none =>
    obtain rfl : xs = [] := f1 rfl
    cases H2 with
    | none =>
      obtain rfl : ys = [] := f2 rfl
      refine hrA00_to l p i got [] [] 0 0 N M hx hy hl hp hi (fun hb g => g.eqs (fun _ => ?_) fun _ => ?_) (fun hb h g => g.eqs (fun _ => ?_) fun _ => ?_) (fun hb h g => g.eqs (fun _ => ?_) fun _ => ?_)
      · rw [ew] at hb ⊢; simp [look, stq, atq, cameB, hb]
      · simp [lookM, fq1, fq2]
      · rw [ew] at hb h ⊢; simp [look, stq, atq, cameB, gone, hb, h]
      · simp [lookM, fq1, fq2]
      · rw [ew] at hb h ⊢; simp [look, stq, atq, cameB, gone, hb, h]
      · simp [lookM, fq1, fq2]
    | some H2 =>
      refine hrA01_to l p i got [] ys 0 H2 N M hx hy hl hp hi (fun hb g => g.eqs (fun _ => ?_) fun _ => ?_) (fun hb h g => g.eqs (fun _ => ?_) fun _ => ?_) (fun hb h g => g.eqs (fun _ => ?_) fun _ => ?_)
      · rw [ew] at hb ⊢; simp [look, stq, atq, cameB, hb]
      · simp [lookM, fq1, fq2]
      · rw [ew] at hb h ⊢; simp [look, stq, atq, cameB, gone, hb, h]
      · simp [lookM, fq1, fq2]
      · rw [ew] at hb h ⊢; simp [look, stq, atq, cameB, gone, hb, h]
      · simp [lookM, fq1, fq2]
  | some H1 =>
    cases H2 with
    | none =>
      obtain rfl : ys = [] := f2 rfl
      refine hrA10_to l p i got xs [] H1 0 N M hx hy hl hp hi (fun hb g => g.eqs (fun _ => ?_) fun _ => ?_) (fun hb h g => g.eqs (fun _ => ?_) fun _ => ?_) (fun hb h g => g.eqs (fun _ => ?_) fun _ => ?_)
      · rw [ew] at hb ⊢; simp [look, stq, atq, cameB, hb]
      · simp [lookM, fq1, fq2]
      · rw [ew] at hb h ⊢; simp [look, stq, atq, cameB, gone, hb, h]
      · simp [lookM, fq1, fq2]
      · rw [ew] at hb h ⊢; simp [look, stq, atq, cameB, gone, hb, h]
      · simp [lookM, fq1, fq2]
    | some H2 =>
      refine hrA11_to l p i got xs ys H1 H2 N M hx hy hl hp hi (fun hb g => g.eqs (fun _ => ?_) fun _ => ?_) (fun hb h g => g.eqs (fun _ => ?_) fun _ => ?_) (fun hb h g => g.eqs (fun _ => ?_) fun _ => ?_)
      · rw [ew] at hb ⊢; simp [look, stq, atq, cameB, hb]
      · simp [lookM, fq1, fq2]
      · rw [ew] at hb h ⊢; simp [look, stq, atq, cameB, gone, hb, h]
      · simp [lookM, fq1, fq2]
      · rw [ew] at hb h ⊢; simp [look, stq, atq, cameB, gone, hb, h]
      · simp [lookM, fq1, fq2]

theorem qB (l : List Snt) (p : List Spn) (i : Nat) (got : Int) (x : Snt) (X : Nat) (upto : Int) (has told : Bool) (H1 H2 : Option Nat) (xs ys : List Snt) (N M : Nat) (hx : xs.length ≤ 500) (hy : ys.length ≤ 500) (f1 : fine H1 xs) (f2 : fine H2 ys) : fine (if told = true then some N else H2) (if told = true then ys ++ [x] else ys) ∧ Goto cfg (piece XQ 4 1) ((bq l p got i H1 H2 xs ys) ++ [(16, .ptr 16 X 0 0), (17, .int .i64 upto), (18, .bool has), (101, .bool told)]) (xq X x :: (frq H1 H2 xs ys)) [(105, N), (115, M)] .normal (fun _ => bq l p got i H1 (if told = true then some N else H2) xs (if told = true then ys ++ [x] else ys) ++ [(16, .ptr 16 X 0 0), (17, .int .i64 upto), (18, .bool has)]) (fun _ => xq X x :: frq H1 (if told = true then some N else H2) xs (if told = true then ys ++ [x] else ys)) [(105, (if told = true then N + 1 else N)), (115, M)] := by
  cases H1 with
  | none =>
    obtain rfl : xs = [] := f1 rfl
    cases H2 with
    | none =>
      obtain rfl : ys = [] := f2 rfl
      refine hrB00_to l p i got x X upto has told [] [] 0 0 N M hx hy (fun h g => ?_) (fun h g => ?_)
      · subst h
        refine ⟨fun e => (nomatch e), g.eqs (fun _ => ?_) fun _ => ?_⟩
        · simp [look, stq, atq, take_rows', rows_len]
        · simp [lookM, fq1, fq2, take_rows', rows_len]
          try simp [rows]
          all_goals rfl
      · subst h
        refine ⟨f2, g.eqs (fun _ => ?_) fun _ => ?_⟩
        · simp [look, stq, atq]
        · simp [lookM, fq1, fq2]
    | some H2 =>
      refine hrB01_to l p i got x X upto has told [] ys 0 H2 N M hx hy (fun h g => ?_) (fun h g => ?_)
      · subst h
        refine ⟨fun e => (nomatch e), g.eqs (fun _ => ?_) fun _ => ?_⟩
        · simp [look, stq, atq, take_rows', rows_len]
        · simp [lookM, fq1, fq2, take_rows', rows_len]
          try simp [rows]
          all_goals rfl
      · subst h
        refine ⟨f2, g.eqs (fun _ => ?_) fun _ => ?_⟩
        · simp [look, stq, atq]
        · simp [lookM, fq1, fq2]
  | some H1 =>
    cases H2 with
    | none =>
      obtain rfl : ys = [] := f2 rfl
      refine hrB10_to l p i got x X upto has told xs [] H1 0 N M hx hy (fun h g => ?_) (fun h g => ?_)
      · subst h
        refine ⟨fun e => (nomatch e), g.eqs (fun _ => ?_) fun _ => ?_⟩
        · simp [look, stq, atq, take_rows', rows_len]
        · simp [lookM, fq1, fq2, take_rows', rows_len]
          try simp [rows]
          all_goals rfl
      · subst h
        refine ⟨f2, g.eqs (fun _ => ?_) fun _ => ?_⟩
        · simp [look, stq, atq]
        · simp [lookM, fq1, fq2]
    | some H2 =>
      refine hrB11_to l p i got x X upto has told xs ys H1 H2 N M hx hy (fun h g => ?_) (fun h g => ?_)
      · subst h
        refine ⟨fun e => (nomatch e), g.eqs (fun _ => ?_) fun _ => ?_⟩
        · simp [look, stq, atq, take_rows', rows_len]
        · simp [lookM, fq1, fq2, take_rows', rows_len]
          try simp [rows]
          all_goals rfl
      · subst h
        refine ⟨f2, g.eqs (fun _ => ?_) fun _ => ?_⟩
        · simp [look, stq, atq]
        · simp [lookM, fq1, fq2]

theorem qC (l : List Snt) (p : List Spn) (i : Nat) (got : Int) (x : Snt) (X : Nat) (upto : Int) (has : Bool) (H1 H2 : Option Nat) (xs ys : List Snt) (N M : Nat) (hx : xs.length ≤ 500) (hy : ys.length ≤ 500) (f1 : fine H1 xs) (f2 : fine H2 ys) (h : ¬ upto ≤ got) : Goto cfg (piece XQ 5 2) ((bq l p got i H1 H2 xs ys) ++ [(16, .ptr 16 X 0 0), (17, .int .i64 upto), (18, .bool has)]) (xq X x :: (frq H1 H2 xs ys)) [(105, N), (115, M)] .normal (fun _ => (bq l p got i H1 H2 xs ys) ++ [(16, .ptr 16 X 0 0), (18, .bool has)]) (fun _ => xq X x :: (frq H1 H2 xs ys)) [(105, N), (115, M)] := by
  cases H1 with
  | none =>
    obtain rfl : xs = [] := f1 rfl
    cases H2 with
    | none =>
      obtain rfl : ys = [] := f2 rfl
      exact hrC00_to l p i got x X upto has [] [] 0 0 N M hx hy (fun k _ => absurd k h) (fun _ g => g.eqs (fun _ => by simp [look, stq, atq]) fun _ => by simp [lookM, fq1, fq2])
    | some H2 =>
      exact hrC01_to l p i got x X upto has [] ys 0 H2 N M hx hy (fun k _ => absurd k h) (fun _ g => g.eqs (fun _ => by simp [look, stq, atq]) fun _ => by simp [lookM, fq1, fq2])
  | some H1 =>
    cases H2 with
    | none =>
      obtain rfl : ys = [] := f2 rfl
      exact hrC10_to l p i got x X upto has xs [] H1 0 N M hx hy (fun k _ => absurd k h) (fun _ g => g.eqs (fun _ => by simp [look, stq, atq]) fun _ => by simp [lookM, fq1, fq2])
    | some H2 =>
      exact hrC11_to l p i got x X upto has xs ys H1 H2 N M hx hy (fun k _ => absurd k h) (fun _ g => g.eqs (fun _ => by simp [look, stq, atq]) fun _ => by simp [lookM, fq1, fq2])

theorem qCe (l : List Snt) (p : List Spn) (i : Nat) (got : Int) (x : Snt) (X : Nat) (upto : Int) (has : Bool) (H1 H2 : Option Nat) (xs ys : List Snt) (N M : Nat) (hx : xs.length ≤ 500) (hy : ys.length ≤ 500) (f1 : fine H1 xs) (f2 : fine H2 ys) (h : upto ≤ got) : Goto cfg (piece XQ 5 2) ((bq l p got i H1 H2 xs ys) ++ [(16, .ptr 16 X 0 0), (17, .int .i64 upto), (18, .bool has)]) (xq X x :: (frq H1 H2 xs ys)) [(105, N), (115, M)] (.exit 3) (fun _ => (bq l p got i H1 H2 xs ys)) (fun _ => (frq H1 H2 xs ys)) [(105, N), (115, M)] := by
  cases H1 with
  | none =>
    obtain rfl : xs = [] := f1 rfl
    cases H2 with
    | none =>
      obtain rfl : ys = [] := f2 rfl
      exact hrC00_to l p i got x X upto has [] [] 0 0 N M hx hy (fun _ g => g.eqs (fun _ => by simp [look, stq, atq]) fun _ => by simp [lookM, fq1, fq2]) (fun k _ => absurd h k)
    | some H2 =>
      exact hrC01_to l p i got x X upto has [] ys 0 H2 N M hx hy (fun _ g => g.eqs (fun _ => by simp [look, stq, atq]) fun _ => by simp [lookM, fq1, fq2]) (fun k _ => absurd h k)
  | some H1 =>
    cases H2 with
    | none =>
      obtain rfl : ys = [] := f2 rfl
      exact hrC10_to l p i got x X upto has xs [] H1 0 N M hx hy (fun _ g => g.eqs (fun _ => by simp [look, stq, atq]) fun _ => by simp [lookM, fq1, fq2]) (fun k _ => absurd h k)
    | some H2 =>
      exact hrC11_to l p i got x X upto has xs ys H1 H2 N M hx hy (fun _ g => g.eqs (fun _ => by simp [look, stq, atq]) fun _ => by simp [lookM, fq1, fq2]) (fun k _ => absurd h k)

theorem qD (l : List Snt) (p : List Spn) (i : Nat) (got : Int) (x : Snt) (X : Nat) (has : Bool) (H1 H2 : Option Nat) (xs ys : List Snt) (N M : Nat) (hx : xs.length ≤ 500) (hy : ys.length ≤ 500) (f1 : fine H1 xs) (f2 : fine H2 ys) : Goto cfg (piece XQ 7 3) ((bq l p got i H1 H2 xs ys) ++ [(16, .ptr 16 X 0 0), (18, .bool has)]) (xq X x :: (frq H1 H2 xs ys)) [(105, N), (115, M)] .normal (fun _ => bq l p got i (some M) H2 (xs ++ [if has = true then { x with came := true, lost := false } else x]) ys) (fun _ => frq (some M) H2 (xs ++ [if has = true then { x with came := true, lost := false } else x]) ys) [(105, N), (115, M + 1)] := by
  cases H1 with
  | none =>
    obtain rfl : xs = [] := f1 rfl
    cases H2 with
    | none =>
      obtain rfl : ys = [] := f2 rfl
      refine hrD00_to l p i got x X has [] [] 0 0 N M hx hy (fun h g => ?_) (fun h g => ?_)
      · subst h
        refine g.eqs (fun _ => ?_) fun _ => ?_
        · simp [look, stq, atq, take_rows', rows_len]
        · simp [lookM, fq1, fq2, take_rows', rows_len]
          try simp [rows]
          all_goals rfl
      · subst h
        refine g.eqs (fun _ => ?_) fun _ => ?_
        · simp [look, stq, atq, take_rows', rows_len]
        · simp [lookM, fq1, fq2, take_rows', rows_len]
          try simp [rows]
          all_goals rfl
    | some H2 =>
      refine hrD01_to l p i got x X has [] ys 0 H2 N M hx hy (fun h g => ?_) (fun h g => ?_)
      · subst h
        refine g.eqs (fun _ => ?_) fun _ => ?_
        · simp [look, stq, atq, take_rows', rows_len]
        · simp [lookM, fq1, fq2, take_rows', rows_len]
          try simp [rows]
          all_goals rfl
      · subst h
        refine g.eqs (fun _ => ?_) fun _ => ?_
        · simp [look, stq, atq, take_rows', rows_len]
        · simp [lookM, fq1, fq2, take_rows', rows_len]
          try simp [rows]
          all_goals rfl
  | some H1 =>
    cases H2 with
    | none =>
      obtain rfl : ys = [] := f2 rfl
      refine hrD10_to l p i got x X has xs [] H1 0 N M hx hy (fun h g => ?_) (fun h g => ?_)
      · subst h
        refine g.eqs (fun _ => ?_) fun _ => ?_
        · simp [look, stq, atq, take_rows', rows_len]
        · simp [lookM, fq1, fq2, take_rows', rows_len]
          try simp [rows]
          all_goals rfl
      · subst h
        refine g.eqs (fun _ => ?_) fun _ => ?_
        · simp [look, stq, atq, take_rows', rows_len]
        · simp [lookM, fq1, fq2, take_rows', rows_len]
          try simp [rows]
          all_goals rfl
    | some H2 =>
      refine hrD11_to l p i got x X has xs ys H1 H2 N M hx hy (fun h g => ?_) (fun h g => ?_)
      · subst h
        refine g.eqs (fun _ => ?_) fun _ => ?_
        · simp [look, stq, atq, take_rows', rows_len]
        · simp [lookM, fq1, fq2, take_rows', rows_len]
          try simp [rows]
          all_goals rfl
      · subst h
        refine g.eqs (fun _ => ?_) fun _ => ?_
        · simp [look, stq, atq, take_rows', rows_len]
        · simp [lookM, fq1, fq2, take_rows', rows_len]
          try simp [rows]
          all_goals rfl

theorem qT (H1 H2 : Option Nat) (xs ys : List Snt) (N M : Nat) (hx : xs.length ≤ 500) (hy : ys.length ≤ 500) (f1 : fine H1 xs) (f2 : fine H2 ys) : FromL cfg 35 14 [(13, stq H1 xs.length), (14, atq H2 ys.length)] (frq H1 H2 xs ys) [(105, N), (115, M)] (.tup [.osl (rows xs), .osl (rows ys), .int .i64 0]) := by
  cases H1 with
  | none =>
    obtain rfl : xs = [] := f1 rfl
    cases H2 with
    | none =>
      obtain rfl : ys = [] := f2 rfl
      refine hrT00_to [] [] 0 0 N M hx hy ?_
      rfl
    | some H2 =>
      refine hrT01_to [] ys 0 H2 N M hx hy ?_
      rfl
  | some H1 =>
    cases H2 with
    | none =>
      obtain rfl : ys = [] := f2 rfl
      refine hrT10_to xs [] H1 0 N M hx hy ?_
      rfl
    | some H2 =>
      refine hrT11_to xs ys H1 H2 N M hx hy ?_
      rfl

theorem heardX_has {got : Int} {p : List Spn} {x : Snt} (ho : x.one = true) (hg : gone got x = false) : (if hasP p ⟨x.seq, x.seq + x.len⟩ = true then { x with came := true, lost := false } else x) = heardX got p x := by
  have hb := one_b ho
  unfold heardX cameB
  rw [hg, Bool.false_or]
  cases hh : hasP p ⟨x.seq, x.seq + x.len⟩ with
  | false => simp
  | true =>
    cases hc : x.came with
    | false => simp
    | true =>
      have hl := hb.2.2.2.2 hc
      simp only [if_true, Bool.true_eq_false, and_false, if_false]
      rw [← hc, ← hl]
theorem qRound (l : List Snt) (p : List Spn) (got : Int) (i : Nat) (H1 H2 : Option Nat) (N M : Nat) (hl : l.length ≤ 500) (hp : p.length ≤ 9223372036854775806) (hi : i < l.length) (hc : Ch (fst l) l)
    (f1 : fine H1 (stayL got p (l.take i))) (f2 : fine H2 (toldL got p (l.take i))) :
    ∃ H1' H2' N' M', (fine H1' (stayL got p (l.take (i + 1))) ∧ fine H2' (toldL got p (l.take (i + 1)))) ∧
      Goto cfg (lc Try.prog 35 1) (bq l p got i H1 H2 (stayL got p (l.take i)) (toldL got p (l.take i))) (frq H1 H2 (stayL got p (l.take i)) (toldL got p (l.take i))) [(105, N), (115, M)] .normal (fun _ => bq l p got (i + 1) H1' H2' (stayL got p (l.take (i + 1))) (toldL got p (l.take (i + 1)))) (fun _ => frq H1' H2' (stayL got p (l.take (i + 1))) (toldL got p (l.take (i + 1)))) [(105, N'), (115, M')] := by
  have b1 := stay_tk got p l i
  have b2 := told_tk got p l i
  have b3 := stay_tk got p l (i + 1)
  have b4 := told_tk got p l (i + 1)
  have ho := (hc.nth_seq i hi).1
  have hb := one_b ho
  have ew : IntKind.wrap IntKind.i64 ((nth l i).seq + (nth l i).len) = (nth l i).seq + (nth l i).len := W_id (by omega)
  have e2 := told_snoc (got := got) (p := p) hi
  have e1 := stay_snoc (got := got) (p := p) hi
  have gH := qH l p i got H1 H2 (stayL got p (l.take i)) (toldL got p (l.take i)) N M (by omega) (by omega) f1 f2 hi
  have gA := qA l p i got H1 H2 (stayL got p (l.take i)) (toldL got p (l.take i)) N M (by omega) (by omega) f1 f2 hl hp hi ew
  have kB := fun X => qB l p i got (nth l i) X ((nth l i).seq + (nth l i).len) (hasP p ⟨(nth l i).seq, (nth l i).seq + (nth l i).len⟩) (cameB got p (nth l i) && !(nth l i).came) H1 H2 (stayL got p (l.take i)) (toldL got p (l.take i)) N M (by omega) (by omega) f1 f2
  rw [← e2] at kB
  generalize (if (cameB got p (nth l i) && !(nth l i).came) = true then some N else H2) = H2' at kB
  generalize (if (cameB got p (nth l i) && !(nth l i).came) = true then N + 1 else N) = N' at kB
  have f2' := (kB 0).1
  have ex : flat XQ = ((flat XQ).drop 0).take 4 ++ (((flat XQ).drop 4).take 1 ++ (((flat XQ).drop 5).take 2 ++ ((flat XQ).drop 7).take 3)) := by kernel_rfl
  have eb : flat (lc Try.prog 35 1) = ((flat (lc Try.prog 35 1)).drop 0).take 2 ++ ([.block 3 XQ] ++ ((flat (lc Try.prog 35 1)).drop 3).take 1) := by kernel_rfl
  cases hg : gone got (nth l i) with
  | true =>
    have hle : (nth l i).seq + (nth l i).len ≤ got := of_decide_eq_true hg
    rw [hg, if_pos rfl] at e1
    have kC := fun X => qCe l p i got (nth l i) X ((nth l i).seq + (nth l i).len) (hasP p ⟨(nth l i).seq, (nth l i).seq + (nth l i).len⟩) H1 H2' (stayL got p (l.take i)) (toldL got p (l.take (i + 1))) N' M (by omega) (by omega) f1 f2' hle
    rw [e1]
    have gI := qI l p i got H1 H2' (stayL got p (l.take i)) (toldL got p (l.take (i + 1))) N' M (by omega) (by omega) f1 f2' hl hi
    refine ⟨H1, H2', N', M, ⟨f1, f2'⟩, Goto.flat ?_⟩
    have fx : Goto cfg XQ (bq l p got i H1 H2 (stayL got p (l.take i)) (toldL got p (l.take i))) (frq H1 H2 (stayL got p (l.take i)) (toldL got p (l.take i))) [(105, N), (115, M)] (.exit 3) (fun _ => bq l p got i H1 H2' (stayL got p (l.take i)) (toldL got p (l.take (i + 1)))) (fun _ => frq H1 H2' (stayL got p (l.take i)) (toldL got p (l.take (i + 1)))) [(105, N'), (115, M)] := by
      refine Goto.flat ?_
      rw [ex]
      exact Goto.two gA fun Gs => Goto.two (kB _).2 fun Gs2 => Goto.out (kC _) (by simp)
    rw [eb]
    exact Goto.two gH fun _ => Goto.two (a := [.block 3 XQ]) (goto_leave fx) fun _ => gI
  | false =>
    have hle : ¬ (nth l i).seq + (nth l i).len ≤ got := of_decide_eq_false hg
    rw [hg, if_neg (by simp)] at e1
    have kC := fun X => qC l p i got (nth l i) X ((nth l i).seq + (nth l i).len) (hasP p ⟨(nth l i).seq, (nth l i).seq + (nth l i).len⟩) H1 H2' (stayL got p (l.take i)) (toldL got p (l.take (i + 1))) N' M (by omega) (by omega) f1 f2' hle
    have kD := fun X => qD l p i got (nth l i) X (hasP p ⟨(nth l i).seq, (nth l i).seq + (nth l i).len⟩) H1 H2' (stayL got p (l.take i)) (toldL got p (l.take (i + 1))) N' M (by omega) (by omega) f1 f2'
    rw [heardX_has ho hg, ← e1] at kD
    have f1' : fine (some M) (stayL got p (l.take (i + 1))) := fun e => (nomatch e)
    have gI := qI l p i got (some M) H2' (stayL got p (l.take (i + 1))) (toldL got p (l.take (i + 1))) N' (M + 1) (by omega) (by omega) f1' f2' hl hi
    refine ⟨some M, H2', N', M + 1, ⟨f1', f2'⟩, Goto.flat ?_⟩
    have fx : Goto cfg XQ (bq l p got i H1 H2 (stayL got p (l.take i)) (toldL got p (l.take i))) (frq H1 H2 (stayL got p (l.take i)) (toldL got p (l.take i))) [(105, N), (115, M)] .normal (fun _ => bq l p got i (some M) H2' (stayL got p (l.take (i + 1))) (toldL got p (l.take (i + 1)))) (fun _ => frq (some M) H2' (stayL got p (l.take (i + 1))) (toldL got p (l.take (i + 1)))) [(105, N'), (115, M + 1)] := by
      refine Goto.flat ?_
      rw [ex]
      exact Goto.two gA fun Gs => Goto.two (kB _).2 fun Gs2 => Goto.two (kC _) fun _ => kD _
    rw [eb]
    exact Goto.two gH fun _ => Goto.two (a := [.block 3 XQ]) (Goto.block (e := .normal) fx) fun _ => gI
theorem qheard_from (l : List Snt) (p : List Spn) (got : Int) (hl : l.length ≤ 500) (hp : p.length ≤ 9223372036854775806) (hc : Ch (fst l) l) :
    FromL cfg 35 13 [(0, .osl (rows l)), (1, .int .i64 got), (2, .osl (prows p)), (13, .nl), (14, .nl), (15, .int .i64 0)] [] [(105, 0), (115, 0)] (.tup [.osl (rows (stayL got p l)), .osl (rows (toldL got p l)), .int .i64 0]) := by
  refine FromL.roundsK (α := HS) (c := lc Try.prog 35 1) (id := 2) (fun s => bq l p got s.i s.H1 s.H2 (stayL got p (l.take s.i)) (toldL got p (l.take s.i))) (fun s => frq s.H1 s.H2 (stayL got p (l.take s.i)) (toldL got p (l.take s.i))) (fun s => [(105, s.N), (115, s.M)]) (fun s => s.i ≤ l.length ∧ fine s.H1 (stayL got p (l.take s.i)) ∧ fine s.H2 (toldL got p (l.take s.i))) (fun s => l.length - s.i) (by kernel_rfl) (fun s hs => ?_) ⟨0, none, none, 0, 0⟩ ⟨Nat.zero_le _, fun _ => rfl, fun _ => rfl⟩
  obtain ⟨i, H1, H2, N, M⟩ := s
  obtain ⟨hi, f1, f2⟩ := hs
  simp only at hi f1 f2 ⊢
  have b1 := stay_tk got p l i
  have b2 := told_tk got p l i
  by_cases h : i < l.length
  · obtain ⟨H1', H2', N', M', ⟨f1', f2'⟩, g⟩ := qRound l p got i H1 H2 N M hl hp h hc f1 f2
    exact .next (fun _ => ⟨i + 1, H1', H2', N', M'⟩) (fun _ => ⟨⟨by simp only; omega, f1', f2'⟩, by simp only; omega⟩) _ (fun _ => rfl) g
  · have gE := qHe l p i got H1 H2 (stayL got p (l.take i)) (toldL got p (l.take i)) N M (by omega) (by omega) f1 f2 h
    have e : l.take i = l := List.take_of_length_le (by omega)
    refine .stop _ _ _ (Goto.flat ?_) fun _ => (qT H1 H2 (stayL got p (l.take i)) (toldL got p (l.take i)) N M (by omega) (by omega) f1 f2).to (by rw [e])
    have eb : flat (lc Try.prog 35 1) = ((flat (lc Try.prog 35 1)).drop 0).take 2 ++ (flat (lc Try.prog 35 1)).drop 2 := by kernel_rfl
    rw [eb]
    exact Goto.out gE (by simp)
end Vai.L12
