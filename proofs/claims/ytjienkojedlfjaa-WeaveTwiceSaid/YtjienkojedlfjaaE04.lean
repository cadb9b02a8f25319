/- spans.Add, by its runs: a round of its loop, the loop, the function. -/
import Derived.Test.YtjienkojedlfjaaD04
namespace Vai.L04
open Go Go.Proofs Vai Vai.R3
set_option maxRecDepth 100000
set_option linter.unusedVariables false
set_option linter.unusedSimpArgs false

theorem goto_leave {C : Cfg} {c : Code} {i : Nat} {l0 : List (Nat × AV)} {m0 : List ((Nat × Nat) × Blk)} {g0 g1 : List (Nat × Nat)} {l1 : List Nat → List (Nat × AV)} {m1 : List Nat → List ((Nat × Nat) × Blk)}
    (h : Goto C c l0 m0 g0 (.exit i) l1 m1 g1) : Goto C (.block i c) l0 m0 g0 .normal l1 m1 g1 := fun st hst => by
  obtain ⟨s1, Gs1, a1, k1⟩ := h st hst
  refine ⟨s1, Gs1, a1, Ev.succ (k1.pred.imp fun k hk => ?_)⟩
  have h4 : execC C (exec C k) c st = _ := hk
  show leave i (execC C (exec C k) c st) = _
  rw [h4]; simp [leave]
def sta (H : Option Nat) (n : Nat) : AV := match H with
  | none => .nl
  | some g => .sl 2 33 g 0 n
def ata (H : Option Nat) (n : Nat) : AV := match H with
  | none => .nl
  | some g => .sl 2 43 g 0 n
def fa1 (H : Option Nat) (xs : List Spn) : List ((Nat × Nat) × Blk) := match H with
  | none => []
  | some g => [((33, g), ⟨prows xs, false⟩)]
def fa2 (H : Option Nat) (ys : List Spn) : List ((Nat × Nat) × Blk) := match H with
  | none => []
  | some g => [((43, g), ⟨prows ys, false⟩)]
def fineP (H : Option Nat) (xs : List Spn) : Prop := H = none → xs = []
abbrev fra (H1 H2 : Option Nat) (xs ys : List Spn) (a b : Int) : List ((Nat × Nat) × Blk) := ((3, 0), ⟨[.agg [.int .i64 a, .int .i64 b]], false⟩) :: (fa1 H1 xs ++ fa2 H2 ys)
abbrev ba (l : List Spn) (i : Nat) (H1 H2 : Option Nat) (xs ys : List Spn) : List (Nat × AV) := [(3, .ptr 3 0 0 0), (6, sta H1 xs.length), (7, ata H2 ys.length), (18, .osl (prows l)), (19, .int .i64 l.length), (20, .int .i64 i)]
abbrev xa (X : Nat) (x : Spn) : (Nat × Nat) × Blk := ((9, X), ⟨[.agg [.int .i64 x.a, .int .i64 x.b]], false⟩)
noncomputable abbrev LA : Code := lc Try.prog 53 0
noncomputable abbrev XA : Code := sub LA [1, 1, 0, 0]

theorem dH (l : List Spn) (i : Nat) (a b : Int) (H1 H2 : Option Nat) (xs ys : List Spn) (N M : Nat) (hx : xs.length ≤ 1000) (hy : ys.length ≤ 1000) (f1 : fineP H1 xs) (f2 : fineP H2 ys) (hi : i < l.length) : Goto cfg (piece LA 0 2) (ba l i H1 H2 xs ys) (fra H1 H2 xs ys a b) [(33, N), (43, M)] .normal (fun _ => (ba l i H1 H2 xs ys)) (fun _ => (fra H1 H2 xs ys a b)) [(33, N), (43, M)] := by
  cases H1 with
  | none =>
    obtain rfl : xs = [] := f1 rfl
    cases H2 with
    | none =>
      obtain rfl : ys = [] := f2 rfl
      exact adH00_to l i a b [] [] 0 0 N M hx hy (fun _ g => g.eqs (fun _ => by simp [look, sta, ata]) fun _ => by simp [lookM, fa1, fa2]) (fun h g => absurd h (by omega))
    | some H2 =>
      exact adH01_to l i a b [] ys 0 H2 N M hx hy (fun _ g => g.eqs (fun _ => by simp [look, sta, ata]) fun _ => by simp [lookM, fa1, fa2]) (fun h g => absurd h (by omega))
  | some H1 =>
    cases H2 with
    | none =>
      obtain rfl : ys = [] := f2 rfl
      exact adH10_to l i a b xs [] H1 0 N M hx hy (fun _ g => g.eqs (fun _ => by simp [look, sta, ata]) fun _ => by simp [lookM, fa1, fa2]) (fun h g => absurd h (by omega))
    | some H2 =>
      exact adH11_to l i a b xs ys H1 H2 N M hx hy (fun _ g => g.eqs (fun _ => by simp [look, sta, ata]) fun _ => by simp [lookM, fa1, fa2]) (fun h g => absurd h (by omega))

theorem dHe (l : List Spn) (i : Nat) (a b : Int) (H1 H2 : Option Nat) (xs ys : List Spn) (N M : Nat) (hx : xs.length ≤ 1000) (hy : ys.length ≤ 1000) (f1 : fineP H1 xs) (f2 : fineP H2 ys) (hi : ¬ i < l.length) : Goto cfg (piece LA 0 2) (ba l i H1 H2 xs ys) (fra H1 H2 xs ys a b) [(33, N), (43, M)] (.exit 0) (fun _ => [(3, .ptr 3 0 0 0), (6, sta H1 xs.length), (7, ata H2 ys.length)]) (fun _ => (fra H1 H2 xs ys a b)) [(33, N), (43, M)] := by
  cases H1 with
  | none =>
    obtain rfl : xs = [] := f1 rfl
    cases H2 with
    | none =>
      obtain rfl : ys = [] := f2 rfl
      exact adH00_to l i a b [] [] 0 0 N M hx hy (fun h g => absurd h (by omega)) (fun _ g => g.eqs (fun _ => by simp [look, sta, ata]) fun _ => by simp [lookM, fa1, fa2])
    | some H2 =>
      exact adH01_to l i a b [] ys 0 H2 N M hx hy (fun h g => absurd h (by omega)) (fun _ g => g.eqs (fun _ => by simp [look, sta, ata]) fun _ => by simp [lookM, fa1, fa2])
  | some H1 =>
    cases H2 with
    | none =>
      obtain rfl : ys = [] := f2 rfl
      exact adH10_to l i a b xs [] H1 0 N M hx hy (fun h g => absurd h (by omega)) (fun _ g => g.eqs (fun _ => by simp [look, sta, ata]) fun _ => by simp [lookM, fa1, fa2])
    | some H2 =>
      exact adH11_to l i a b xs ys H1 H2 N M hx hy (fun h g => absurd h (by omega)) (fun _ g => g.eqs (fun _ => by simp [look, sta, ata]) fun _ => by simp [lookM, fa1, fa2])

theorem dI (l : List Spn) (i : Nat) (a b : Int) (H1 H2 : Option Nat) (xs ys : List Spn) (N M : Nat) (hx : xs.length ≤ 1000) (hy : ys.length ≤ 1000) (f1 : fineP H1 xs) (f2 : fineP H2 ys) (hl : l.length ≤ 1000) (hi : i < l.length) : Goto cfg (piece LA 3 1) (ba l i H1 H2 xs ys) (fra H1 H2 xs ys a b) [(33, N), (43, M)] .normal (fun _ => ba l (i + 1) H1 H2 xs ys) (fun _ => (fra H1 H2 xs ys a b)) [(33, N), (43, M)] := by
  have ew : IntKind.wrap IntKind.i64 ((i : Int) + 1) = (i : Int) + 1 := by rw [IntKind.wrap_i64]; omega
  cases H1 with
  | none =>
    obtain rfl : xs = [] := f1 rfl
    cases H2 with
    | none =>
      obtain rfl : ys = [] := f2 rfl
      exact adI00_to l i a b [] [] 0 0 N M hx hy (fun g => g.eqs (fun _ => by simp [look, sta, ata, ew]) fun _ => by simp [lookM, fa1, fa2])
    | some H2 =>
      exact adI01_to l i a b [] ys 0 H2 N M hx hy (fun g => g.eqs (fun _ => by simp [look, sta, ata, ew]) fun _ => by simp [lookM, fa1, fa2])
  | some H1 =>
    cases H2 with
    | none =>
      obtain rfl : ys = [] := f2 rfl
      exact adI10_to l i a b xs [] H1 0 N M hx hy (fun g => g.eqs (fun _ => by simp [look, sta, ata, ew]) fun _ => by simp [lookM, fa1, fa2])
    | some H2 =>
      exact adI11_to l i a b xs ys H1 H2 N M hx hy (fun g => g.eqs (fun _ => by simp [look, sta, ata, ew]) fun _ => by simp [lookM, fa1, fa2])

theorem dA (l : List Spn) (i : Nat) (a b : Int) (H1 H2 : Option Nat) (xs ys : List Spn) (N M : Nat) (hx : xs.length ≤ 1000) (hy : ys.length ≤ 1000) (f1 : fineP H1 xs) (f2 : fineP H2 ys) (hl : l.length ≤ 1000) (hi : i < l.length) : Goto cfg (piece XA 0 1) (ba l i H1 H2 xs ys) (fra H1 H2 xs ys a b) [(33, N), (43, M)] .normal (fun Gs => (ba l i H1 H2 xs ys) ++ [(9, .ptr 9 (Gs.getD 0 0) 0 0)]) (fun Gs => xa (Gs.getD 0 0) (pth l i) :: (fra H1 H2 xs ys a b)) [(33, N), (43, M)] := by
  cases H1 with
  | none =>
    obtain rfl : xs = [] := f1 rfl
    cases H2 with
    | none =>
      obtain rfl : ys = [] := f2 rfl
      exact adA00_to l i a b hi hl [] [] 0 0 N M hx hy (fun g => g.eqs (fun _ => by simp [look, sta, ata]) fun _ => by simp [lookM, fa1, fa2])
    | some H2 =>
      exact adA01_to l i a b hi hl [] ys 0 H2 N M hx hy (fun g => g.eqs (fun _ => by simp [look, sta, ata]) fun _ => by simp [lookM, fa1, fa2])
  | some H1 =>
    cases H2 with
    | none =>
      obtain rfl : ys = [] := f2 rfl
      exact adA10_to l i a b hi hl xs [] H1 0 N M hx hy (fun g => g.eqs (fun _ => by simp [look, sta, ata]) fun _ => by simp [lookM, fa1, fa2])
    | some H2 =>
      exact adA11_to l i a b hi hl xs ys H1 H2 N M hx hy (fun g => g.eqs (fun _ => by simp [look, sta, ata]) fun _ => by simp [lookM, fa1, fa2])

theorem dB1 (l : List Spn) (i : Nat) (a b : Int) (x : Spn) (X : Nat) (H1 H2 : Option Nat) (xs ys : List Spn) (N M : Nat) (hx : xs.length ≤ 1000) (hy : ys.length ≤ 1000) (f1 : fineP H1 xs) (f2 : fineP H2 ys) (h : x.b < a) : Goto cfg (piece XA 1 1) ((ba l i H1 H2 xs ys) ++ [(9, .ptr 9 X 0 0)]) (xa X x :: (fra H1 H2 xs ys a b)) [(33, N), (43, M)] (.exit 1) (fun _ => ba l i (some N) H2 (xs ++ [x]) ys) (fun _ => fra (some N) H2 (xs ++ [x]) ys a b) [(33, N + 1), (43, M)] := by
  cases H1 with
  | none =>
    obtain rfl : xs = [] := f1 rfl
    cases H2 with
    | none =>
      obtain rfl : ys = [] := f2 rfl
      refine adB00_to l i a b x.a x.b X [] [] 0 0 N M hx hy (fun _ g => g.eqs (fun _ => ?_) fun _ => ?_) (fun k _ _ => absurd h k) (fun k _ _ => absurd h k)
      · simp [look, sta, ata, take_prows, prows_len]
      · simp [lookM, fa1, fa2, take_prows, prows_len]
        try simp [prows]
        all_goals rfl
    | some H2 =>
      refine adB01_to l i a b x.a x.b X [] ys 0 H2 N M hx hy (fun _ g => g.eqs (fun _ => ?_) fun _ => ?_) (fun k _ _ => absurd h k) (fun k _ _ => absurd h k)
      · simp [look, sta, ata, take_prows, prows_len]
      · simp [lookM, fa1, fa2, take_prows, prows_len]
        try simp [prows]
        all_goals rfl
  | some H1 =>
    cases H2 with
    | none =>
      obtain rfl : ys = [] := f2 rfl
      refine adB10_to l i a b x.a x.b X xs [] H1 0 N M hx hy (fun _ g => g.eqs (fun _ => ?_) fun _ => ?_) (fun k _ _ => absurd h k) (fun k _ _ => absurd h k)
      · simp [look, sta, ata, take_prows, prows_len]
      · simp [lookM, fa1, fa2, take_prows, prows_len]
        try simp [prows]
        all_goals rfl
    | some H2 =>
      refine adB11_to l i a b x.a x.b X xs ys H1 H2 N M hx hy (fun _ g => g.eqs (fun _ => ?_) fun _ => ?_) (fun k _ _ => absurd h k) (fun k _ _ => absurd h k)
      · simp [look, sta, ata, take_prows, prows_len]
      · simp [lookM, fa1, fa2, take_prows, prows_len]
        try simp [prows]
        all_goals rfl

theorem dB2 (l : List Spn) (i : Nat) (a b : Int) (x : Spn) (X : Nat) (H1 H2 : Option Nat) (xs ys : List Spn) (N M : Nat) (hx : xs.length ≤ 1000) (hy : ys.length ≤ 1000) (f1 : fineP H1 xs) (f2 : fineP H2 ys) (h : ¬ x.b < a) (h2 : x.a > b) : Goto cfg (piece XA 1 1) ((ba l i H1 H2 xs ys) ++ [(9, .ptr 9 X 0 0)]) (xa X x :: (fra H1 H2 xs ys a b)) [(33, N), (43, M)] (.exit 1) (fun _ => ba l i H1 (some M) xs (ys ++ [x])) (fun _ => fra H1 (some M) xs (ys ++ [x]) a b) [(33, N), (43, M + 1)] := by
  cases H1 with
  | none =>
    obtain rfl : xs = [] := f1 rfl
    cases H2 with
    | none =>
      obtain rfl : ys = [] := f2 rfl
      refine adB00_to l i a b x.a x.b X [] [] 0 0 N M hx hy (fun k _ => absurd k h) (fun _ _ g => g.eqs (fun _ => ?_) fun _ => ?_) (fun _ k _ => absurd h2 k)
      · simp [look, sta, ata, take_prows, prows_len]
      · simp [lookM, fa1, fa2, take_prows, prows_len]
        try simp [prows]
        all_goals rfl
    | some H2 =>
      refine adB01_to l i a b x.a x.b X [] ys 0 H2 N M hx hy (fun k _ => absurd k h) (fun _ _ g => g.eqs (fun _ => ?_) fun _ => ?_) (fun _ k _ => absurd h2 k)
      · simp [look, sta, ata, take_prows, prows_len]
      · simp [lookM, fa1, fa2, take_prows, prows_len]
        try simp [prows]
        all_goals rfl
  | some H1 =>
    cases H2 with
    | none =>
      obtain rfl : ys = [] := f2 rfl
      refine adB10_to l i a b x.a x.b X xs [] H1 0 N M hx hy (fun k _ => absurd k h) (fun _ _ g => g.eqs (fun _ => ?_) fun _ => ?_) (fun _ k _ => absurd h2 k)
      · simp [look, sta, ata, take_prows, prows_len]
      · simp [lookM, fa1, fa2, take_prows, prows_len]
        try simp [prows]
        all_goals rfl
    | some H2 =>
      refine adB11_to l i a b x.a x.b X xs ys H1 H2 N M hx hy (fun k _ => absurd k h) (fun _ _ g => g.eqs (fun _ => ?_) fun _ => ?_) (fun _ k _ => absurd h2 k)
      · simp [look, sta, ata, take_prows, prows_len]
      · simp [lookM, fa1, fa2, take_prows, prows_len]
        try simp [prows]
        all_goals rfl

theorem dB3 (l : List Spn) (i : Nat) (a b : Int) (x : Spn) (X : Nat) (H1 H2 : Option Nat) (xs ys : List Spn) (N M : Nat) (hx : xs.length ≤ 1000) (hy : ys.length ≤ 1000) (f1 : fineP H1 xs) (f2 : fineP H2 ys) (h : ¬ x.b < a) (h2 : ¬ x.a > b) : Goto cfg (piece XA 1 1) ((ba l i H1 H2 xs ys) ++ [(9, .ptr 9 X 0 0)]) (xa X x :: (fra H1 H2 xs ys a b)) [(33, N), (43, M)] .normal (fun _ => (ba l i H1 H2 xs ys) ++ [(9, .ptr 9 X 0 0)]) (fun _ => xa X x :: (fra H1 H2 xs ys a b)) [(33, N), (43, M)] := by
  cases H1 with
  | none =>
    obtain rfl : xs = [] := f1 rfl
    cases H2 with
    | none =>
      obtain rfl : ys = [] := f2 rfl
      exact adB00_to l i a b x.a x.b X [] [] 0 0 N M hx hy (fun k _ => absurd k h) (fun _ k _ => absurd k h2) (fun _ _ g => g.eqs (fun _ => by simp [look, sta, ata]) fun _ => by simp [lookM, fa1, fa2])
    | some H2 =>
      exact adB01_to l i a b x.a x.b X [] ys 0 H2 N M hx hy (fun k _ => absurd k h) (fun _ k _ => absurd k h2) (fun _ _ g => g.eqs (fun _ => by simp [look, sta, ata]) fun _ => by simp [lookM, fa1, fa2])
  | some H1 =>
    cases H2 with
    | none =>
      obtain rfl : ys = [] := f2 rfl
      exact adB10_to l i a b x.a x.b X xs [] H1 0 N M hx hy (fun k _ => absurd k h) (fun _ k _ => absurd k h2) (fun _ _ g => g.eqs (fun _ => by simp [look, sta, ata]) fun _ => by simp [lookM, fa1, fa2])
    | some H2 =>
      exact adB11_to l i a b x.a x.b X xs ys H1 H2 N M hx hy (fun k _ => absurd k h) (fun _ k _ => absurd k h2) (fun _ _ g => g.eqs (fun _ => by simp [look, sta, ata]) fun _ => by simp [lookM, fa1, fa2])

theorem dC (l : List Spn) (i : Nat) (a b : Int) (x : Spn) (X : Nat) (H1 H2 : Option Nat) (xs ys : List Spn) (N M : Nat) (hx : xs.length ≤ 1000) (hy : ys.length ≤ 1000) (f1 : fineP H1 xs) (f2 : fineP H2 ys) : Goto cfg (piece XA 2 1) ((ba l i H1 H2 xs ys) ++ [(9, .ptr 9 X 0 0)]) (xa X x :: (fra H1 H2 xs ys a b)) [(33, N), (43, M)] .normal (fun _ => (ba l i H1 H2 xs ys)) (fun _ => fra H1 H2 xs ys (if x.a < a then x.a else a) (if x.b > b then x.b else b)) [(33, N), (43, M)] := by
  cases H1 with
  | none =>
    obtain rfl : xs = [] := f1 rfl
    cases H2 with
    | none =>
      obtain rfl : ys = [] := f2 rfl
      exact adC00_to l i a b x.a x.b X [] [] 0 0 N M hx hy (fun g => g.eqs (fun _ => by simp [look, sta, ata]) fun _ => by simp [lookM, fa1, fa2])
    | some H2 =>
      exact adC01_to l i a b x.a x.b X [] ys 0 H2 N M hx hy (fun g => g.eqs (fun _ => by simp [look, sta, ata]) fun _ => by simp [lookM, fa1, fa2])
  | some H1 =>
    cases H2 with
    | none =>
      obtain rfl : ys = [] := f2 rfl
      exact adC10_to l i a b x.a x.b X xs [] H1 0 N M hx hy (fun g => g.eqs (fun _ => by simp [look, sta, ata]) fun _ => by simp [lookM, fa1, fa2])
    | some H2 =>
      exact adC11_to l i a b x.a x.b X xs ys H1 H2 N M hx hy (fun g => g.eqs (fun _ => by simp [look, sta, ata]) fun _ => by simp [lookM, fa1, fa2])

structure AS where
  s : Spn
  xs : List Spn
  ys : List Spn
def addF (t : AS) (x : Spn) : AS :=
  if x.b < t.s.a then { t with xs := t.xs ++ [x] }
  else if x.a > t.s.b then { t with ys := t.ys ++ [x] }
  else { t with s := ⟨if x.a < t.s.a then x.a else t.s.a, if x.b > t.s.b then x.b else t.s.b⟩ }
/-- What is ahead, what is behind, and the span itself, when i are seen. -/
def addS (l : List Spn) (s : Spn) (i : Nat) : AS := (l.take i).foldl addF ⟨s, [], []⟩
theorem addS_succ {l : List Spn} {s : Spn} {i : Nat} (hi : i < l.length) : addS l s (i + 1) = addF (addS l s i) (pth l i) := by
  unfold addS; rw [ptake hi, List.foldl_append]; rfl
theorem addS_len (l : List Spn) (s : Spn) : ∀ i, i ≤ l.length → (addS l s i).xs.length + (addS l s i).ys.length ≤ i
  | 0, _ => by simp [addS]
  | i + 1, h => by
    have := addS_len l s i (by omega)
    rw [addS_succ (by omega)]
    unfold addF
    split
    · simp; omega
    · split
      · simp; omega
      · simp; omega
theorem dRound (l : List Spn) (s : Spn) (i : Nat) (H1 H2 : Option Nat) (N M : Nat) (hl : l.length ≤ 1000) (hi : i < l.length) (f1 : fineP H1 (addS l s i).xs) (f2 : fineP H2 (addS l s i).ys) :
    ∃ H1' H2' N' M', (fineP H1' (addS l s (i + 1)).xs ∧ fineP H2' (addS l s (i + 1)).ys) ∧
      Goto cfg LA (ba l i H1 H2 (addS l s i).xs (addS l s i).ys) (fra H1 H2 (addS l s i).xs (addS l s i).ys (addS l s i).s.a (addS l s i).s.b) [(33, N), (43, M)] .normal (fun _ => ba l (i + 1) H1' H2' (addS l s (i + 1)).xs (addS l s (i + 1)).ys) (fun _ => fra H1' H2' (addS l s (i + 1)).xs (addS l s (i + 1)).ys (addS l s (i + 1)).s.a (addS l s (i + 1)).s.b) [(33, N'), (43, M')] := by
  have hb := addS_len l s i (by omega)
  have hb2 := addS_len l s (i + 1) (by omega)
  rw [addS_succ hi] at hb2 ⊢
  generalize addS l s i = t at f1 f2 hb hb2 ⊢
  have gH := dH l i t.s.a t.s.b H1 H2 t.xs t.ys N M (by omega) (by omega) f1 f2 hi
  have gA := dA l i t.s.a t.s.b H1 H2 t.xs t.ys N M (by omega) (by omega) f1 f2 hl hi
  have ex : flat XA = ((flat XA).drop 0).take 1 ++ (((flat XA).drop 1).take 1 ++ ((flat XA).drop 2).take 1) := by kernel_rfl
  have eb : flat LA = ((flat LA).drop 0).take 2 ++ ([.block 1 XA] ++ ((flat LA).drop 3).take 1) := by kernel_rfl
  unfold addF at hb2 ⊢
  by_cases h1 : (pth l i).b < t.s.a
  · simp only [if_pos h1, List.length_append, List.length_cons, List.length_nil] at hb2 ⊢
    have kB := fun X => dB1 l i t.s.a t.s.b (pth l i) X H1 H2 t.xs t.ys N M (by omega) (by omega) f1 f2 h1
    have gI := dI l i t.s.a t.s.b (some N) H2 (t.xs ++ [pth l i]) t.ys (N + 1) M (by simp; omega) (by omega) (fun e => (nomatch e)) f2 hl hi
    refine ⟨some N, H2, N + 1, M, ⟨fun e => (nomatch e), f2⟩, Goto.flat ?_⟩
    have fx := Goto.flat (c := XA) (by rw [ex]; exact Goto.two gA fun Gs => Goto.out (kB _) (by simp))
    rw [eb]
    exact Goto.two gH fun _ => Goto.two (a := [.block 1 XA]) (goto_leave fx) fun _ => gI
  · by_cases h2 : (pth l i).a > t.s.b
    · simp only [if_neg h1, if_pos h2, List.length_append, List.length_cons, List.length_nil] at hb2 ⊢
      have kB := fun X => dB2 l i t.s.a t.s.b (pth l i) X H1 H2 t.xs t.ys N M (by omega) (by omega) f1 f2 h1 h2
      have gI := dI l i t.s.a t.s.b H1 (some M) t.xs (t.ys ++ [pth l i]) N (M + 1) (by omega) (by simp; omega) f1 (fun e => (nomatch e)) hl hi
      refine ⟨H1, some M, N, M + 1, ⟨f1, fun e => (nomatch e)⟩, Goto.flat ?_⟩
      have fx := Goto.flat (c := XA) (by rw [ex]; exact Goto.two gA fun Gs => Goto.out (kB _) (by simp))
      rw [eb]
      exact Goto.two gH fun _ => Goto.two (a := [.block 1 XA]) (goto_leave fx) fun _ => gI
    · simp only [if_neg h1, if_neg h2] at hb2 ⊢
      have kB := fun X => dB3 l i t.s.a t.s.b (pth l i) X H1 H2 t.xs t.ys N M (by omega) (by omega) f1 f2 h1 h2
      have kC := fun X => dC l i t.s.a t.s.b (pth l i) X H1 H2 t.xs t.ys N M (by omega) (by omega) f1 f2
      have gI := dI l i (if (pth l i).a < t.s.a then (pth l i).a else t.s.a) (if (pth l i).b > t.s.b then (pth l i).b else t.s.b) H1 H2 t.xs t.ys N M (by omega) (by omega) f1 f2 hl hi
      refine ⟨H1, H2, N, M, ⟨f1, f2⟩, Goto.flat ?_⟩
      have fx := Goto.flat (c := XA) (by rw [ex]; exact Goto.two gA fun Gs => Goto.two (kB _) fun Gs2 => kC _)
      rw [eb]
      exact Goto.two gH fun _ => Goto.two (a := [.block 1 XA]) (Goto.block (e := .normal) fx) fun _ => gI

theorem tk1 (l m : List Spn) : List.take (l.length + m.length) (prows (l ++ m)) = prows (l ++ m) := List.take_of_length_le (by rw [prows_len]; simp)
theorem tk2 (l m : List Spn) (s : Spn) : List.take (l.length + 1 + m.length) (prows (l ++ [s] ++ m)) = prows (l ++ [s] ++ m) := List.take_of_length_le (by rw [prows_len]; simp; omega)
theorem tk4 (m : List Spn) (a b : Int) : List.take (1 + m.length) (AV.agg [AV.int IntKind.i64 a, AV.int IntKind.i64 b] :: prows m) = prows (⟨a, b⟩ :: m) := List.take_of_length_le (by simp [prows_len]; omega)
theorem tk5 (m : List Spn) (a b : Int) : (AV.agg [AV.int IntKind.i64 a, AV.int IntKind.i64 b] :: prows m) = prows (⟨a, b⟩ :: m) := rfl
theorem tk3 (m : List Spn) (s : Spn) : List.take (1 + m.length) (prows ([s] ++ m)) = prows ([s] ++ m) := List.take_of_length_le (by rw [prows_len]; simp; omega)
theorem dT (a b : Int) (H1 H2 : Option Nat) (xs ys : List Spn) (N M : Nat) (hx : xs.length ≤ 1000) (hy : ys.length ≤ 1000) (f1 : fineP H1 xs) (f2 : fineP H2 ys) : FromL cfg 53 7 [(3, .ptr 3 0 0 0), (6, sta H1 xs.length), (7, ata H2 ys.length)] (fra H1 H2 xs ys a b) [(33, N), (43, M)] (if xs.length + 1 + ys.length > 1000 then .tup [.osl [], .int .i64 4] else .tup [.osl (prows (xs ++ [⟨a, b⟩] ++ ys)), .int .i64 0]) := by
  cases H1 with
  | none =>
    obtain rfl : xs = [] := f1 rfl
    cases H2 with
    | none =>
      obtain rfl : ys = [] := f2 rfl
      refine adT00_to a b [] [] 0 0 N M hx hy (fun k => ?_) (fun k => ?_)
      · rw [if_pos (by simp only [take_prows, prows_len, Nat.min_self, List.length_take, prows_snoc, take_prows_snoc, List.length_append, List.length_cons, List.length_nil, Nat.zero_add] at k ⊢; omega)]
      · rw [if_neg (by simp only [take_prows, prows_len, Nat.min_self, List.length_take, prows_snoc, take_prows_snoc, List.length_append, List.length_cons, List.length_nil, Nat.zero_add] at k ⊢; omega)]
        first
          | rfl
          | (simp [take_prows, prows_len, prows_snoc, take_prows_snoc, prows_app, tk1, tk2, tk3, tk4, tk5]; done)
          | (simp [take_prows, prows_len, prows_snoc, take_prows_snoc, prows_app, tk1, tk2, tk3, tk4, tk5]; exact List.take_of_length_le (by simp [prows_len]; omega))
    | some H2 =>
      refine adT01_to a b [] ys 0 H2 N M hx hy (fun k => ?_) (fun k => ?_) (fun k => ?_)
      · simp only [take_prows, prows_len, Nat.min_self, List.length_take, prows_snoc, take_prows_snoc, prows_app, List.length_append, List.length_cons, List.length_nil, Nat.zero_add, tk1, tk2, tk3, tk4]
        exact prows_free _
      · rw [if_pos (by simp only [take_prows, prows_len, Nat.min_self, List.length_take, prows_snoc, take_prows_snoc, List.length_append, List.length_cons, List.length_nil, Nat.zero_add] at k ⊢; omega)]
      · rw [if_neg (by simp only [take_prows, prows_len, Nat.min_self, List.length_take, prows_snoc, take_prows_snoc, List.length_append, List.length_cons, List.length_nil, Nat.zero_add] at k ⊢; omega)]
        first
          | rfl
          | (simp [take_prows, prows_len, prows_snoc, take_prows_snoc, prows_app, tk1, tk2, tk3, tk4, tk5]; done)
          | (simp [take_prows, prows_len, prows_snoc, take_prows_snoc, prows_app, tk1, tk2, tk3, tk4, tk5]; exact List.take_of_length_le (by simp [prows_len]; omega))
  | some H1 =>
    cases H2 with
    | none =>
      obtain rfl : ys = [] := f2 rfl
      refine adT10_to a b xs [] H1 0 N M hx hy (fun k => ?_) (fun k => ?_) (fun k => ?_)
      · simp only [take_prows, prows_len, Nat.min_self, List.length_take, prows_snoc, take_prows_snoc, prows_app, List.length_append, List.length_cons, List.length_nil, Nat.zero_add, tk1, tk2, tk3, tk4]
        exact prows_free _
      · rw [if_pos (by simp only [take_prows, prows_len, Nat.min_self, List.length_take, prows_snoc, take_prows_snoc, List.length_append, List.length_cons, List.length_nil, Nat.zero_add] at k ⊢; omega)]
      · rw [if_neg (by simp only [take_prows, prows_len, Nat.min_self, List.length_take, prows_snoc, take_prows_snoc, List.length_append, List.length_cons, List.length_nil, Nat.zero_add] at k ⊢; omega)]
        first
          | rfl
          | (simp [take_prows, prows_len, prows_snoc, take_prows_snoc, prows_app, tk1, tk2, tk3, tk4, tk5]; done)
          | (simp [take_prows, prows_len, prows_snoc, take_prows_snoc, prows_app, tk1, tk2, tk3, tk4, tk5]; exact List.take_of_length_le (by simp [prows_len]; omega))
    | some H2 =>
      refine adT11_to a b xs ys H1 H2 N M hx hy (fun k => ?_) (fun k => ?_) (fun k => ?_)
      · simp only [take_prows, prows_len, Nat.min_self, List.length_take, prows_snoc, take_prows_snoc, prows_app, List.length_append, List.length_cons, List.length_nil, Nat.zero_add, tk1, tk2, tk3, tk4]
        exact prows_free _
      · rw [if_pos (by simp only [take_prows, prows_len, Nat.min_self, List.length_take, prows_snoc, take_prows_snoc, List.length_append, List.length_cons, List.length_nil, Nat.zero_add] at k ⊢; omega)]
      · rw [if_neg (by simp only [take_prows, prows_len, Nat.min_self, List.length_take, prows_snoc, take_prows_snoc, List.length_append, List.length_cons, List.length_nil, Nat.zero_add] at k ⊢; omega)]
        first
          | rfl
          | (simp [take_prows, prows_len, prows_snoc, take_prows_snoc, prows_app, tk1, tk2, tk3, tk4, tk5]; done)
          | (simp [take_prows, prows_len, prows_snoc, take_prows_snoc, prows_app, tk1, tk2, tk3, tk4, tk5]; exact List.take_of_length_le (by simp [prows_len]; omega))

structure AH where
  i : Nat
  H1 : Option Nat
  H2 : Option Nat
  N : Nat
  M : Nat
/-- Where spans.Add puts one: what is told, and the error. -/
def addL (l : List Spn) (s : Spn) : List Spn := (addS l s l.length).xs ++ [(addS l s l.length).s] ++ (addS l s l.length).ys
theorem add_from (l : List Spn) (s : Spn) (hl : l.length ≤ 1000) :
    FromL cfg 53 6 [(3, .ptr 3 0 0 0), (6, .nl), (7, .nl), (18, .osl (prows l)), (19, .int .i64 (prows l).length), (20, .int .i64 0)] [((3, 0), ⟨[.agg [.int .i64 s.a, .int .i64 s.b]], false⟩)] [(33, 0), (43, 0)]
      (if (addL l s).length > 1000 then .tup [.osl [], .int .i64 4] else .tup [.osl (prows (addL l s)), .int .i64 0]) := by
  rw [prows_len]
  refine FromL.roundsK (α := AH) (c := LA) (id := 0) (fun t => ba l t.i t.H1 t.H2 (addS l s t.i).xs (addS l s t.i).ys) (fun t => fra t.H1 t.H2 (addS l s t.i).xs (addS l s t.i).ys (addS l s t.i).s.a (addS l s t.i).s.b) (fun t => [(33, t.N), (43, t.M)]) (fun t => t.i ≤ l.length ∧ fineP t.H1 (addS l s t.i).xs ∧ fineP t.H2 (addS l s t.i).ys) (fun t => l.length - t.i) (by kernel_rfl) (fun t ht => ?_) ⟨0, none, none, 0, 0⟩ ⟨Nat.zero_le _, fun _ => rfl, fun _ => rfl⟩
  obtain ⟨i, H1, H2, N, M⟩ := t
  obtain ⟨hi, f1, f2⟩ := ht
  simp only at hi f1 f2 ⊢
  have hb := addS_len l s i hi
  by_cases h : i < l.length
  · obtain ⟨H1', H2', N', M', ⟨f1', f2'⟩, g⟩ := dRound l s i H1 H2 N M hl h f1 f2
    exact .next (fun _ => ⟨i + 1, H1', H2', N', M'⟩) (fun _ => ⟨⟨by simp only; omega, f1', f2'⟩, by simp only; omega⟩) _ (fun _ => rfl) g
  · have e : i = l.length := by omega
    subst e
    have gE := dHe l l.length (addS l s l.length).s.a (addS l s l.length).s.b H1 H2 (addS l s l.length).xs (addS l s l.length).ys N M (by omega) (by omega) f1 f2 h
    refine .stop _ _ _ (Goto.flat ?_) fun _ => (dT (addS l s l.length).s.a (addS l s l.length).s.b H1 H2 (addS l s l.length).xs (addS l s l.length).ys N M (by omega) (by omega) f1 f2).to ?_
    · have eb : flat LA = ((flat LA).drop 0).take 2 ++ (flat LA).drop 2 := by kernel_rfl
      rw [eb]
      exact Goto.out gE (by simp)
    · have e2 : (addL l s).length = (addS l s l.length).xs.length + 1 + (addS l s l.length).ys.length := by unfold addL; simp; omega
      rw [e2]; rfl
theorem mayP_len {l : List Spn} (h : mayP l = true) : l.length ≤ 1000 := by
  unfold mayP at h; rw [Bool.and_eq_true, decide_eq_true_eq] at h; exact h.1
theorem padd_0 (l : List Spn) (s : Spn) (hl : l.length ≤ 9223372036854775806) (h0 : (mayP l) = true) (h1 : (oneP (Spn.a s) (Spn.b s)) = true) : Ans cfg 53 [.osl (prows l), .agg [.int .i64 s.a, .int .i64 s.b]] (if List.length (addL l s) > (1000 : Nat) then AV.tup [AV.osl [], AV.int IntKind.i64 (4 : Int)] else AV.tup [AV.osl (prows (addL l s)), AV.int IntKind.i64 (0 : Int)]) :=
  ans_ofL 5 [Ch.r (AV.bool (mayP l)), Ch.b false, Ch.n, Ch.r (AV.bool (oneP (Spn.a s) (Spn.b s))), Ch.b false, Ch.x (6 : Nat) [((3 : Nat), AV.ptr (3 : Nat) (0 : Nat) (0 : Nat) (0 : Nat)), ((6 : Nat), AV.nl), ((7 : Nat), AV.nl), ((18 : Nat), AV.osl (prows l)), ((19 : Nat), AV.int IntKind.i64 (↑(List.length (prows l)) : Int)), ((20 : Nat), AV.int IntKind.i64 (0 : Int))] [(((3 : Nat), (0 : Nat)), { es := [AV.agg [AV.int IntKind.i64 (Spn.a s), AV.int IntKind.i64 (Spn.b s)]], fr := false })] [((33 : Nat), (0 : Nat)), ((43 : Nat), (0 : Nat))] (if List.length (addL l s) > (1000 : Nat) then AV.tup [AV.osl [], AV.int IntKind.i64 (4 : Int)] else AV.tup [AV.osl (prows (addL l s)), AV.int IntKind.i64 (0 : Int)])] (.cons (@Vai.L04.pmay_ok (l) (by assumption)) (.cons (nb h0) (.cons (@Vai.L04.pone_ok (Spn.a s) (Spn.b s)) (.cons (nb h1) (.cons (Eq.refl (α := List AV) [AV.ptr (3 : Nat) (0 : Nat) (0 : Nat) (0 : Nat), AV.nl, AV.nl, AV.osl (prows l), AV.int IntKind.i64 (↑(List.length (prows l)) : Int), AV.int IntKind.i64 (0 : Int)]) (.cons (Eq.refl (α := List (Option Blk)) [some { es := [AV.agg [AV.int IntKind.i64 (Spn.a s), AV.int IntKind.i64 (Spn.b s)]], fr := false }]) (.cons (Eq.refl (α := List Nat) [(0 : Nat), (0 : Nat)]) (.cons (@Vai.L04.add_from (l) (s) (by exact mayP_len (by assumption))) (.nil))))))))) (by kernel_rfl) (by kernel_rfl)
theorem padd_1 (l : List Spn) (s : Spn) (hl : l.length ≤ 9223372036854775806) (h0 : (mayP l) = true) (h1 : (oneP (Spn.a s) (Spn.b s)) = false) : Ans cfg 53 [.osl (prows l), .agg [.int .i64 s.a, .int .i64 s.b]] (AV.tup [AV.osl [], AV.int IntKind.i64 (1 : Int)]) :=
  ans_ofL 5 [Ch.r (AV.bool (mayP l)), Ch.b false, Ch.n, Ch.r (AV.bool (oneP (Spn.a s) (Spn.b s))), Ch.b true] (.cons (@Vai.L04.pmay_ok (l) (by assumption)) (.cons (nb h0) (.cons (@Vai.L04.pone_ok (Spn.a s) (Spn.b s)) (.cons (nb h1) (.nil))))) (by kernel_rfl) (by kernel_rfl)
theorem padd_2 (l : List Spn) (s : Spn) (hl : l.length ≤ 9223372036854775806) (h0 : (mayP l) = false) : Ans cfg 53 [.osl (prows l), .agg [.int .i64 s.a, .int .i64 s.b]] (AV.tup [AV.osl [], AV.int IntKind.i64 (1 : Int)]) :=
  ans_ofL 5 [Ch.r (AV.bool (mayP l)), Ch.b true, Ch.k] (.cons (@Vai.L04.pmay_ok (l) (by assumption)) (.cons (nb h0) (.nil))) (by kernel_rfl) (by kernel_rfl)
theorem padd_to (l : List Spn) (s : Spn) (hl : l.length ≤ 9223372036854775806) {RES : AV}
    (p0 : (mayP l) = true → (oneP (Spn.a s) (Spn.b s)) = true → (if List.length (addL l s) > (1000 : Nat) then AV.tup [AV.osl [], AV.int IntKind.i64 (4 : Int)] else AV.tup [AV.osl (prows (addL l s)), AV.int IntKind.i64 (0 : Int)]) = RES)
    (p1 : (mayP l) = true → (oneP (Spn.a s) (Spn.b s)) = false → (AV.tup [AV.osl [], AV.int IntKind.i64 (1 : Int)]) = RES)
    (p2 : (mayP l) = false → (AV.tup [AV.osl [], AV.int IntKind.i64 (1 : Int)]) = RES) : Ans cfg 53 [.osl (prows l), .agg [.int .i64 s.a, .int .i64 s.b]] RES :=
  (Vai.bcases (mayP l) (fun h0 => (Vai.bcases (oneP (Spn.a s) (Spn.b s)) (fun h1 => ((padd_0 l s hl h0 h1).to rfl (p0 h0 h1))) (fun h1 => ((padd_1 l s hl h0 h1).to rfl (p1 h0 h1))))) (fun h0 => ((padd_2 l s hl h0).to rfl (p2 h0))))


def addE (l : List Spn) (s : Spn) : Int := if mayP l = true ∧ s.one = true then (if (addL l s).length > 1000 then 4 else 0) else 1
def addR (l : List Spn) (s : Spn) : List Spn := if addE l s = 0 then addL l s else []
theorem padd_ok (l : List Spn) (s : Spn) (hl : l.length ≤ 9223372036854775806) : Ans cfg 53 [.osl (prows l), .agg [.int .i64 s.a, .int .i64 s.b]] (.tup [.osl (prows (addR l s)), .int .i64 (addE l s)]) := by
  refine padd_to l s hl (fun h1 h2 => ?_) (fun h1 h2 => ?_) (fun h1 => ?_)
  · have h2 : s.one = true := h2
    by_cases h : (addL l s).length > 1000
    · have e : addE l s = 4 := by unfold addE; rw [if_pos ⟨h1, h2⟩, if_pos h]
      unfold addR; rw [if_pos h, e]; rfl
    · have e : addE l s = 0 := by unfold addE; rw [if_pos ⟨h1, h2⟩, if_neg h]
      unfold addR; rw [if_neg h, e]; rfl
  · have h2 : s.one = false := h2
    have e : addE l s = 1 := if_neg fun k => by rw [h2] at k; cases k.2
    unfold addR; rw [e]; rfl
  · have e : addE l s = 1 := if_neg fun k => by rw [h1] at k; cases k.1
    unfold addR; rw [e]; rfl
end Vai.L04
