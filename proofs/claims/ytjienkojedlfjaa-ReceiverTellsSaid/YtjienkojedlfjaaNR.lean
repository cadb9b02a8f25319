import Derived.Test.YtjienkojedlfjaaNQ
namespace Vai.L04
open Go Go.Proofs Vai
set_option maxRecDepth 100000
set_option linter.unusedVariables false
set_option linter.unusedSimpArgs false
def ith (xs : List Int) (i : Nat) : Int := xs.getD i 0
def atF (xs : List Int) (n : Int) : Nat → Nat
  | 0 => 0
  | k + 1 => if ith xs k > n then atF xs n k else k + 1
def putL (xs : List Int) (n : Int) : List Int :=
  if 0 < atF xs n xs.length ∧ ith xs (atF xs n xs.length - 1) = n then xs else xs.take (atF xs n xs.length) ++ [n] ++ xs.drop (atF xs n xs.length)
theorem ith_get {xs : List Int} {i : Nat} (h : i < xs.length) : xs[i] = ith xs i := by
  unfold ith; rw [List.getD_eq_getElem?_getD, List.getElem?_eq_getElem h]; rfl
theorem atF_spec (xs : List Int) (n : Int) : ∀ k, atF xs n k ≤ k ∧ (∀ j, atF xs n k ≤ j → j < k → n < ith xs j) ∧ (atF xs n k = 0 ∨ ith xs (atF xs n k - 1) ≤ n)
  | 0 => ⟨Nat.le_refl _, fun j h1 h2 => by omega, .inl rfl⟩
  | k + 1 => by
    obtain ⟨h1, h2, h3⟩ := atF_spec xs n k
    unfold atF
    by_cases c : ith xs k > n
    · rw [if_pos c]
      refine ⟨by omega, fun j g1 g2 => ?_, h3⟩
      by_cases e : j = k
      · rw [e]; exact c
      · exact h2 j g1 (by omega)
    · rw [if_neg c]
      exact ⟨Nat.le_refl _, fun j g1 g2 => by omega, .inr (by simpa using c)⟩
theorem ith_mem {xs : List Int} {x : Int} (h : x ∈ xs) : ∃ i, i < xs.length ∧ ith xs i = x := by
  obtain ⟨i, hi, rfl⟩ := List.mem_iff_getElem.1 h
  exact ⟨i, hi, (ith_get hi).symm⟩
theorem rise_le {xs : List Int} (h : xs.Pairwise (· < ·)) {i j : Nat} (hij : i ≤ j) (hj : j < xs.length) : ith xs i ≤ ith xs j := by
  by_cases e : i = j
  · rw [e]; exact Int.le_refl _
  · have := (List.pairwise_iff_getElem.1 h) i j (by omega) hj (by omega)
    rw [ith_get, ith_get] at this; omega
theorem put_spec {xs : List Int} (h : xs.Pairwise (· < ·)) (n : Int) : (putL xs n).Pairwise (· < ·) ∧ (∀ m, m ∈ putL xs n ↔ m ∈ xs ∨ m = n) ∧ (putL xs n).length ≤ xs.length + 1 := by
  obtain ⟨h1, h2, h3⟩ := atF_spec xs n xs.length
  unfold putL
  generalize atF xs n xs.length = k at *
  by_cases c : 0 < k ∧ ith xs (k - 1) = n
  · rw [if_pos c]
    refine ⟨h, fun m => ⟨.inl, fun g => ?_⟩, by omega⟩
    rcases g with g | g
    · exact g
    · rw [g, ← c.2, ← ith_get (show k - 1 < xs.length by omega)]; exact List.getElem_mem _
  · rw [if_neg c]
    have ht : ∀ x ∈ xs.take k, x < n := fun x hx => by
      obtain ⟨i, hi, rfl⟩ := List.mem_iff_getElem.1 hx
      rw [List.length_take] at hi
      rw [List.getElem_take, ith_get (by omega)]
      have := rise_le h (show i ≤ k - 1 by omega) (by omega)
      omega
    have hd : ∀ x ∈ xs.drop k, n < x := fun x hx => by
      obtain ⟨i, hi, rfl⟩ := List.mem_iff_getElem.1 hx
      rw [List.length_drop] at hi
      rw [List.getElem_drop, ith_get (by omega)]
      exact h2 _ (by omega) (by omega)
    refine ⟨?_, fun m => ?_, by simp only [List.length_append, List.length_take, List.length_drop, List.length_cons, List.length_nil]; omega⟩
    · rw [List.pairwise_append, List.pairwise_append]
      refine ⟨⟨List.Pairwise.sublist (List.take_sublist _ _) h, List.pairwise_singleton .., fun a ha b hb => ?_⟩, List.Pairwise.sublist (List.drop_sublist _ _) h, fun a ha b hb => ?_⟩
      · rw [List.mem_singleton] at hb; rw [hb]; exact ht a ha
      · rw [List.mem_append, List.mem_singleton] at ha
        have := hd b hb
        rcases ha with ha | ha
        · have := ht a ha; omega
        · omega
    · have e : m ∈ xs ↔ m ∈ xs.take k ∨ m ∈ xs.drop k := by rw [← List.mem_append, List.take_append_drop]
      rw [List.mem_append, List.mem_append, List.mem_singleton, e]
      constructor
      · rintro ((g | g) | g)
        · exact .inl (.inl g)
        · exact .inr g
        · exact .inl (.inr g)
      · rintro ((g | g) | g)
        · exact .inl (.inl g)
        · exact .inr g
        · exact .inl (.inr g)
def endsF (e : List Int) (s : Spn) : List Int := putL (putL e s.a) s.b
def endsL (l : List Spn) : List Int := l.foldl endsF []
theorem ends_fold : ∀ (l : List Spn) (e : List Int), e.Pairwise (· < ·) → (l.foldl endsF e).Pairwise (· < ·) ∧ (∀ m, m ∈ l.foldl endsF e ↔ m ∈ e ∨ ∃ s ∈ l, m = s.a ∨ m = s.b) ∧ (l.foldl endsF e).length ≤ e.length + 2 * l.length
  | [], e, h => ⟨h, fun m => ⟨.inl, fun g => g.elim id fun ⟨s, hs, _⟩ => by cases hs⟩, Nat.le_refl _⟩
  | s :: l, e, h => by
    obtain ⟨a1, a2, a3⟩ := put_spec h s.a
    obtain ⟨b1, b2, b3⟩ := put_spec a1 s.b
    obtain ⟨c1, c2, c3⟩ := ends_fold l (endsF e s) b1
    refine ⟨c1, fun m => ?_, by rw [List.length_cons]; unfold endsF at c3; show (l.foldl endsF (endsF e s)).length ≤ _; unfold endsF at *; omega⟩
    show m ∈ l.foldl endsF (endsF e s) ↔ _
    rw [c2 m, show m ∈ endsF e s ↔ _ from b2 m, a2 m]
    constructor
    · rintro (((g | g) | g) | ⟨t, ht, g⟩)
      · exact .inl g
      · exact .inr ⟨s, List.mem_cons_self .., .inl g⟩
      · exact .inr ⟨s, List.mem_cons_self .., .inr g⟩
      · exact .inr ⟨t, List.mem_cons_of_mem _ ht, g⟩
    · rintro (g | ⟨t, ht, g⟩)
      · exact .inl (.inl (.inl g))
      · rcases List.mem_cons.1 ht with rfl | ht
        · exact .inl (g.elim (fun x => .inl (.inr x)) .inr)
        · exact .inr ⟨t, ht, g⟩
theorem ends_spec (l : List Spn) : (endsL l).Pairwise (· < ·) ∧ (∀ m, m ∈ endsL l ↔ ∃ s ∈ l, m = s.a ∨ m = s.b) ∧ (endsL l).length ≤ 2 * l.length := by
  obtain ⟨h1, h2, h3⟩ := ends_fold l [] .nil
  refine ⟨h1, fun m => (h2 m).trans ⟨fun g => g.elim (fun x => by cases x) id, .inr⟩, by unfold endsL; simpa using h3⟩
def stepM (out : List Spn) (x y : Int) : List Spn :=
  if 0 < out.length ∧ (pth out (out.length - 1)).b = x then out.set (out.length - 1) ⟨(pth out (out.length - 1)).a, y⟩ else out ++ [⟨x, y⟩]
noncomputable def keepM (l : List Spn) (s : Spn) (wo : Bool) (x : Int) : Bool := if wo then memB l x && !memB [s] x else memB l x || memB [s] x
noncomputable def madeF (k : Int → Bool) : List Int → List Spn → List Spn
  | x :: y :: r, out => madeF k (y :: r) (if k x then stepM out x y else out)
  | _, out => out
noncomputable def madeL (l : List Spn) (s : Spn) (wo : Bool) : List Spn := madeF (keepM l s wo) (endsL (l ++ [s])) []
structure MInv (P : Int → Prop) (out : List Spn) (x : Int) : Prop where
  can : Can out
  le : ∀ t ∈ out, t.b ≤ x
  me : ∀ n, mem out n ↔ P n ∧ n < x
theorem last_split {out : List Spn} (h : 0 < out.length) : ∃ i, out = i ++ [pth out (out.length - 1)] ∧ ∀ v, out.set (out.length - 1) v = i ++ [v] := by
  have e : out = out.take (out.length - 1) ++ [pth out (out.length - 1)] := by rw [← ptake (by omega), Nat.sub_add_cancel h, List.take_length]
  refine ⟨_, e, fun v => ?_⟩
  have l1 : (out.take (out.length - 1)).length = out.length - 1 := by rw [List.length_take]; omega
  generalize out.take (out.length - 1) = i at *
  rw [← l1, e, List.set_append_right _ _ (Nat.le_refl _), Nat.sub_self]; rfl
theorem step_inv {P : Int → Prop} {out : List Spn} {x y : Int} (h : MInv P out x) (hxy : x < y) (h0 : 0 ≤ x) (h1 : y ≤ 4611686018427387904) (hc : ∀ n, x ≤ n → n < y → (P n ↔ P x)) (k : Bool) (hk : k = true ↔ P x) :
    MInv P (if k then stepM out x y else out) y := by
  cases k with
  | false =>
    have hk' : ¬ P x := fun p => by cases hk.2 p
    refine ⟨h.can, fun t ht => by have := h.le t ht; omega, fun n => (h.me n).trans ⟨fun g => ⟨g.1, by omega⟩, fun g => ⟨g.1, ?_⟩⟩⟩
    rcases Int.lt_or_le n x with c | c
    · exact c
    · exact absurd ((hc n c g.2).1 g.1) hk'
  | true =>
    have hp : P x := hk.1 rfl
    have hm : ∀ n, ((P n ∧ n < x) ∨ (x ≤ n ∧ n < y)) ↔ P n ∧ n < y := fun n => by
      constructor
      · rintro (g | g)
        · exact ⟨g.1, by omega⟩
        · exact ⟨(hc n g.1 g.2).2 hp, g.2⟩
      · intro g
        rcases Int.lt_or_le n x with c | c
        · exact .inl ⟨g.1, c⟩
        · exact .inr ⟨c, g.2⟩
    rw [if_pos rfl]
    unfold stepM
    by_cases c : 0 < out.length ∧ (pth out (out.length - 1)).b = x
    · rw [if_pos c]
      obtain ⟨i, e1, e2⟩ := last_split c.1
      have hb := c.2
      rw [e2]
      generalize pth out (out.length - 1) = t at *
      have hc := h.can; have hle := h.le; have hme := h.me
      rw [e1] at hc hle hme
      have ht := hc.one t (by simp)
      have hup := List.pairwise_append.1 hc.up
      refine ⟨⟨fun z hz => ?_, List.pairwise_append.2 ⟨hup.1, List.pairwise_singleton .., fun a ha b hb => ?_⟩⟩, fun z hz => ?_, fun n => ?_⟩
      · rcases List.mem_append.1 hz with g | g
        · exact hc.one z (List.mem_append.2 (.inl g))
        · rw [List.mem_singleton.1 g]; exact ⟨ht.1, by show t.a < y; omega, h1⟩
      · rw [List.mem_singleton.1 hb]; exact hup.2.2 a ha t (by simp)
      · rcases List.mem_append.1 hz with g | g
        · have := hle z (List.mem_append.2 (.inl g)); omega
        · rw [List.mem_singleton.1 g]; exact Int.le_refl _
      · rw [← hm n, ← hme n, mem_app, mem_app, mem_cons, mem_cons]
        have : inS ⟨t.a, y⟩ n ↔ inS t n ∨ (x ≤ n ∧ n < y) := by unfold inS; show t.a ≤ n ∧ n < y ↔ _; omega
        rw [this]
        constructor
        · rintro (g | (g | g) | g)
          · exact .inl (.inl g)
          · exact .inl (.inr (.inl g))
          · exact .inr g
          · exact absurd g mem_nil
        · rintro ((g | g | g) | g)
          · exact .inl g
          · exact .inr (.inl (.inl g))
          · exact absurd g mem_nil
          · exact .inr (.inl (.inr g))
    · rw [if_neg c]
      have hlt : ∀ z ∈ out, z.b < x := fun z hz => by
        obtain ⟨j, hj, rfl⟩ := List.mem_iff_getElem.1 hz
        have hl := h.le (pth out (out.length - 1)) (by rw [← pth_get (by omega)]; exact List.getElem_mem _)
        have hne : (pth out (out.length - 1)).b ≠ x := fun g => c ⟨by omega, g⟩
        by_cases e : j = out.length - 1
        · subst e; rw [pth_get hj]; omega
        · have := (List.pairwise_iff_getElem.1 h.can.up) j (out.length - 1) hj (by omega) (by omega)
          have ho := h.can.one (pth out (out.length - 1)) (by rw [← pth_get (by omega)]; exact List.getElem_mem _)
          rw [pth_get, pth_get] at this
          rw [pth_get hj]; omega
      refine ⟨⟨fun z hz => ?_, List.pairwise_append.2 ⟨h.can.up, List.pairwise_singleton .., fun a ha b hb => ?_⟩⟩, fun z hz => ?_, fun n => ?_⟩
      · rcases List.mem_append.1 hz with g | g
        · exact h.can.one z g
        · rw [List.mem_singleton.1 g]; exact ⟨h0, hxy, h1⟩
      · rw [List.mem_singleton.1 hb]; exact hlt a ha
      · rcases List.mem_append.1 hz with g | g
        · have := h.le z g; omega
        · rw [List.mem_singleton.1 g]; exact Int.le_refl _
      · rw [← hm n, ← h.me n, mem_app, mem_cons]
        constructor
        · rintro (g | g | g)
          · exact .inl g
          · exact .inr g
          · exact absurd g mem_nil
        · rintro (g | g)
          · exact .inl g
          · exact .inr (.inl g)
theorem made_fold {P : Int → Prop} {k : Int → Bool} (hk : ∀ x, k x = true ↔ P x) : ∀ (r : List Int) (x : Int) (out : List Spn), MInv P out x → (x :: r).Pairwise (· < ·) → (∀ z ∈ x :: r, 0 ≤ z ∧ z ≤ 4611686018427387904) →
    (∀ (i : Nat) (n : Int), i + 1 < (x :: r).length → ith (x :: r) i ≤ n → n < ith (x :: r) (i + 1) → (P n ↔ P (ith (x :: r) i))) → ∃ z, z ∈ x :: r ∧ (∀ w ∈ x :: r, w ≤ z) ∧ MInv P (madeF k (x :: r) out) z
  | [], x, out, h, _, _, _ => ⟨x, List.mem_cons_self .., fun w hw => by rw [List.mem_singleton.1 hw]; exact Int.le_refl _, h⟩
  | y :: r, x, out, h, hp, hb, hc => by
    have hxy := (List.pairwise_cons.1 hp).1 y (List.mem_cons_self ..)
    have b0 := hb x (List.mem_cons_self ..)
    have b1 := hb y (List.mem_cons_of_mem _ (List.mem_cons_self ..))
    obtain ⟨z, z1, z2, z3⟩ := made_fold hk r y _ (step_inv h hxy b0.1 b1.2 (fun n g1 g2 => hc 0 n (by simp) g1 g2) (k x) (hk x)) (List.pairwise_cons.1 hp).2 (fun z hz => hb z (List.mem_cons_of_mem _ hz))
      (fun i n g1 g2 g3 => hc (i + 1) n (by simp at g1 ⊢; omega) g2 g3)
    refine ⟨z, List.mem_cons_of_mem _ z1, fun w hw => ?_, z3⟩
    rcases List.mem_cons.1 hw with rfl | hw
    · have := z2 y (List.mem_cons_self ..); omega
    · exact z2 w hw
def keepP (l : List Spn) (s : Spn) (wo : Bool) (n : Int) : Prop := if wo then mem l n ∧ ¬ inS s n else mem l n ∨ inS s n
theorem keep_iff (l : List Spn) (s : Spn) (wo : Bool) (n : Int) : keepM l s wo n = true ↔ keepP l s wo n := by
  have e : memB [s] n = true ↔ inS s n := by rw [memB_iff, mem_cons]; exact ⟨fun g => g.elim id fun g => absurd g mem_nil, .inl⟩
  unfold keepM keepP
  cases wo with
  | true => rw [if_pos rfl, if_pos rfl, Bool.and_eq_true, memB_iff, ← e, Bool.not_eq_true', Bool.not_eq_true]
  | false => rw [if_neg (by decide), if_neg (by decide), Bool.or_eq_true, memB_iff, e]
theorem made_spec {l : List Spn} (hl : Can l) {s : Spn} (hs : 0 ≤ s.a ∧ s.a < s.b ∧ s.b ≤ 4611686018427387904) (wo : Bool) : Can (madeL l s wo) ∧ ∀ n, mem (madeL l s wo) n ↔ keepP l s wo n := by
  obtain ⟨e1, e2, e3⟩ := ends_spec (l ++ [s])
  have hone : ∀ t ∈ l ++ [s], 0 ≤ t.a ∧ t.a < t.b ∧ t.b ≤ 4611686018427387904 := fun t ht => by
    rcases List.mem_append.1 ht with g | g
    · exact hl.one t g
    · rw [List.mem_singleton.1 g]; exact hs
  have hsp : ∀ n, keepP l s wo n → ∃ t ∈ l ++ [s], inS t n := fun n hn => by
    unfold keepP at hn
    have : mem l n ∨ inS s n := by
      cases wo with
      | true => rw [if_pos rfl] at hn; exact .inl hn.1
      | false => rw [if_neg (by decide)] at hn; exact hn
    rcases this with ⟨t, ht, g⟩ | g
    · exact ⟨t, List.mem_append.2 (.inl ht), g⟩
    · exact ⟨s, by simp, g⟩
  unfold madeL
  generalize hE : endsL (l ++ [s]) = e at *
  cases e with
  | nil => have := (e2 s.a).2 ⟨s, by simp, .inl rfl⟩; cases this
  | cons x r =>
    have hmin : ∀ w ∈ x :: r, x ≤ w := fun w hw => by
      rcases List.mem_cons.1 hw with rfl | hw
      · exact Int.le_refl _
      · have := (List.pairwise_cons.1 e1).1 w hw; omega
    have hin : ∀ t ∈ l ++ [s], t.a ∈ x :: r ∧ t.b ∈ x :: r := fun t ht => ⟨(e2 _).2 ⟨t, ht, .inl rfl⟩, (e2 _).2 ⟨t, ht, .inr rfl⟩⟩
    have hcon : ∀ t ∈ l ++ [s], ∀ (i : Nat) (n : Int), i + 1 < (x :: r).length → ith (x :: r) i ≤ n → n < ith (x :: r) (i + 1) → (inS t n ↔ inS t (ith (x :: r) i)) := fun t ht i n g1 g2 g3 => by
      have key : ∀ w ∈ x :: r, w ≤ ith (x :: r) i ∨ ith (x :: r) (i + 1) ≤ w := fun w hw => by
        obtain ⟨j, hj, rfl⟩ := ith_mem hw
        by_cases c : j ≤ i
        · exact .inl (rise_le e1 c (by omega))
        · exact .inr (rise_le e1 (by omega) hj)
      have k1 := key _ (hin t ht).1
      have k2 := key _ (hin t ht).2
      unfold inS; omega
    have hi0 : MInv (keepP l s wo) [] x := by
      refine ⟨⟨fun t ht => (by cases ht), List.Pairwise.nil⟩, fun t ht => (by cases ht), fun n => ⟨fun g => absurd g mem_nil, fun g => ?_⟩⟩
      obtain ⟨t, ht, g2⟩ := hsp n g.1
      have := hmin _ (hin t ht).1
      unfold inS at g2; omega
    have hb0 : ∀ w ∈ x :: r, 0 ≤ w ∧ w ≤ 4611686018427387904 := by
      intro w hw
      obtain ⟨t, ht, g⟩ := (e2 w).1 hw
      have := hone t ht
      rcases g with rfl | rfl <;> omega
    obtain ⟨z, z1, z2, z3⟩ := made_fold (keep_iff l s wo) r x [] hi0 e1 hb0 (fun i n g1 g2 g3 => by
        have c1 : mem l n ↔ mem l (ith (x :: r) i) := ⟨fun ⟨t, ht, g⟩ => ⟨t, ht, (hcon t (List.mem_append.2 (.inl ht)) i n g1 g2 g3).1 g⟩, fun ⟨t, ht, g⟩ => ⟨t, ht, (hcon t (List.mem_append.2 (.inl ht)) i n g1 g2 g3).2 g⟩⟩
        have c2 := hcon s (by simp) i n g1 g2 g3
        unfold keepP
        rw [c1, c2])
    refine ⟨z3.can, fun n => (z3.me n).trans ⟨fun g => g.1, fun g => ⟨g, ?_⟩⟩⟩
    obtain ⟨t, ht, g2⟩ := hsp n g
    have := z2 _ (hin t ht).2
    unfold inS at g2; omega
theorem made_add {l : List Spn} (hl : Can l) {s : Spn} (hs : 0 ≤ s.a ∧ s.a < s.b ∧ s.b ≤ 4611686018427387904) : madeL l s false = addL l s := by
  obtain ⟨h1, h2⟩ := made_spec hl hs false
  exact can_eq h1 (addL_can hl hs) fun n => (h2 n).trans ((addL_mem hl hs n).symm)
theorem made_cut {l : List Spn} (hl : Can l) {s : Spn} (hs : 0 ≤ s.a ∧ s.a < s.b ∧ s.b ≤ 4611686018427387904) : madeL l s true = cutL l s := by
  obtain ⟨h1, h2⟩ := made_spec hl hs true
  exact can_eq h1 (cutL_can hl hs.2.1) fun n => (h2 n).trans ((cutL_mem l hs.2.1 n).symm)
end Vai.L04
