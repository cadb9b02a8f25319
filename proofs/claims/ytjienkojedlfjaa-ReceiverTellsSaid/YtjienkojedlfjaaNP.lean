import Derived.Test.YtjienkojedlfjaaNS
namespace Vai.L04
open Go Go.Proofs Vai
set_option maxRecDepth 100000
set_option linter.unusedVariables false
set_option linter.unusedSimpArgs false
def inS (s : Spn) (n : Int) : Prop := s.a ≤ n ∧ n < s.b
def mem (l : List Spn) (n : Int) : Prop := ∃ s ∈ l, inS s n
structure Can (l : List Spn) : Prop where
  one : ∀ x ∈ l, 0 ≤ x.a ∧ x.a < x.b ∧ x.b ≤ 4611686018427387904
  up : l.Pairwise (fun x y => x.b < y.a)
theorem one_iff {s : Spn} : s.one = true ↔ 0 ≤ s.a ∧ s.a < s.b ∧ s.b ≤ 4611686018427387904 := by unfold Spn.one; rw [decide_eq_true_eq]
theorem rz_iff : ∀ {l : List Spn} {p : Int}, Rz p l = true ↔ Can l ∧ ∀ x ∈ l, p < x.a
  | [], p => ⟨fun _ => ⟨⟨fun x h => (by cases h), List.Pairwise.nil⟩, fun x h => (by cases h)⟩, fun _ => rfl⟩
  | s :: l, p => by
    unfold Rz
    rw [Bool.and_eq_true, Bool.and_eq_true, decide_eq_true_eq, one_iff, rz_iff (l := l)]
    refine ⟨fun ⟨⟨h1, h2⟩, h3, h4⟩ => ⟨⟨fun x hx => ?_, List.pairwise_cons.2 ⟨h4, h3.up⟩⟩, fun x hx => ?_⟩, fun ⟨h1, h2⟩ => ⟨⟨h1.one s (List.mem_cons_self ..), h2 s (List.mem_cons_self ..)⟩, ⟨fun x hx => h1.one x (List.mem_cons_of_mem _ hx), (List.pairwise_cons.1 h1.up).2⟩, (List.pairwise_cons.1 h1.up).1⟩⟩
    · rcases List.mem_cons.1 hx with rfl | hx
      · exact h1
      · exact h3.one x hx
    · rcases List.mem_cons.1 hx with rfl | hx
      · exact h2
      · have := h4 x hx; omega
theorem may_iff {l : List Spn} : mayP l = true ↔ l.length ≤ 1000 ∧ Can l := by
  unfold mayP
  rw [Bool.and_eq_true, decide_eq_true_eq, rz_iff]
  exact ⟨fun h => ⟨h.1, h.2.1⟩, fun h => ⟨h.1, h.2, fun x hx => by have := h.2.one x hx; omega⟩⟩
theorem mem_nil {n : Int} : ¬ mem [] n := fun ⟨s, h, _⟩ => by cases h
theorem mem_cons {s : Spn} {l : List Spn} {n : Int} : mem (s :: l) n ↔ inS s n ∨ mem l n :=
  ⟨fun ⟨x, hx, h⟩ => (List.mem_cons.1 hx).elim (fun e => .inl (e ▸ h)) fun hx => .inr ⟨x, hx, h⟩, fun h => h.elim (fun h => ⟨s, List.mem_cons_self .., h⟩) fun ⟨x, hx, h⟩ => ⟨x, List.mem_cons_of_mem _ hx, h⟩⟩
theorem mem_app {l m : List Spn} {n : Int} : mem (l ++ m) n ↔ mem l n ∨ mem m n :=
  ⟨fun ⟨x, hx, h⟩ => (List.mem_append.1 hx).elim (fun hx => .inl ⟨x, hx, h⟩) fun hx => .inr ⟨x, hx, h⟩,
   fun h => h.elim (fun ⟨x, hx, h⟩ => ⟨x, List.mem_append_left _ hx, h⟩) fun ⟨x, hx, h⟩ => ⟨x, List.mem_append_right _ hx, h⟩⟩
theorem Can.tail {s : Spn} {l : List Spn} (h : Can (s :: l)) : Can l := ⟨fun x hx => h.one x (List.mem_cons_of_mem _ hx), (List.pairwise_cons.1 h.up).2⟩
theorem Can.behind {s : Spn} {l : List Spn} (h : Can (s :: l)) {n : Int} (hn : mem l n) : s.b < n := by
  obtain ⟨x, hx, h1, _⟩ := hn
  have := (List.pairwise_cons.1 h.up).1 x hx
  omega
theorem can_eq : ∀ {l m : List Spn}, Can l → Can m → (∀ n, mem l n ↔ mem m n) → l = m
  | [], [], _, _, _ => rfl
  | [], t :: m, _, hm, h => by
    have := hm.one t (List.mem_cons_self ..)
    exact absurd ((h t.a).2 (mem_cons.2 (.inl ⟨Int.le_refl _, this.2.1⟩))) mem_nil
  | s :: l, [], hl, _, h => by
    have := hl.one s (List.mem_cons_self ..)
    exact absurd ((h s.a).1 (mem_cons.2 (.inl ⟨Int.le_refl _, this.2.1⟩))) mem_nil
  | s :: l, t :: m, hl, hm, h => by
    have os := hl.one s (List.mem_cons_self ..)
    have ot := hm.one t (List.mem_cons_self ..)
    have e1 : s.a = t.a := by
      have k1 : t.a ≤ s.a := by
        rcases mem_cons.1 ((h s.a).1 (mem_cons.2 (.inl ⟨Int.le_refl _, os.2.1⟩))) with k | k
        · exact k.1
        · have := hm.behind k; omega
      have k2 : s.a ≤ t.a := by
        rcases mem_cons.1 ((h t.a).2 (mem_cons.2 (.inl ⟨Int.le_refl _, ot.2.1⟩))) with k | k
        · exact k.1
        · have := hl.behind k; omega
      omega
    have e2 : s.b = t.b := by
      have k1 : ¬ s.b < t.b := fun k => by
        rcases mem_cons.1 ((h s.b).2 (mem_cons.2 (.inl ⟨by omega, k⟩))) with k | k
        · have := k.2; omega
        · have := hl.behind k; omega
      have k2 : ¬ t.b < s.b := fun k => by
        rcases mem_cons.1 ((h t.b).1 (mem_cons.2 (.inl ⟨by omega, k⟩))) with k | k
        · have := k.2; omega
        · have := hm.behind k; omega
      omega
    obtain ⟨sa, sb⟩ := s
    obtain ⟨ta, tb⟩ := t
    simp only at e1 e2
    subst e1; subst e2
    rw [can_eq hl.tail hm.tail fun n => ⟨fun k => ?_, fun k => ?_⟩]
    · have hb := hl.behind k
      rcases mem_cons.1 ((h n).1 (mem_cons.2 (.inr k))) with k | k
      · have := k.2; simp only at this hb; omega
      · exact k
    · have hb := hm.behind k
      rcases mem_cons.1 ((h n).2 (mem_cons.2 (.inr k))) with k | k
      · have := k.2; simp only at this hb; omega
      · exact k
theorem cutF_sub {s x y : Spn} (h : y ∈ cutF s x) : x.a ≤ y.a ∧ y.b ≤ x.b ∧ y.a < y.b := by
  have k1 := lft_cases s x
  have k2 := rgt_cases s x
  unfold cutF at h
  rcases List.mem_append.1 h with h | h
  · split at h
    · obtain rfl := List.mem_singleton.1 h
      simp only
      omega
    · cases h
  · split at h
    · obtain rfl := List.mem_singleton.1 h
      simp only
      omega
    · cases h
theorem cutF_mem {s x : Spn} (hs : s.a < s.b) (n : Int) : mem (cutF s x) n ↔ inS x n ∧ ¬ inS s n := by
  have k1 := lft_cases s x
  have k2 := rgt_cases s x
  unfold cutF
  rw [mem_app]
  have one : ∀ (c : Prop) [Decidable c] (u : Spn), mem (if c then [u] else []) n ↔ c ∧ inS u n := fun c _ u => by
    split
    · rw [mem_cons]; exact ⟨fun h => ⟨by assumption, h.elim id fun h => absurd h mem_nil⟩, fun h => .inl h.2⟩
    · exact ⟨fun h => absurd h mem_nil, fun h => absurd h.1 (by assumption)⟩
  rw [one, one]
  unfold inS
  simp only
  omega
theorem cutL_can {l : List Spn} (hl : Can l) {s : Spn} (hs : s.a < s.b) : Can (cutL l s) := by
  refine ⟨fun y hy => ?_, ?_⟩
  · obtain ⟨x, hx, hy⟩ := List.mem_flatMap.1 hy
    have := hl.one x hx
    have := cutF_sub hy
    omega
  · unfold cutL
    rw [List.pairwise_flatMap]
    refine ⟨fun x hx => ?_, hl.up.imp fun {x y} h u hu v hv => ?_⟩
    · have k1 := lft_cases s x
      have k2 := rgt_cases s x
      unfold cutF
      rw [List.pairwise_append]
      refine ⟨by split <;> simp, by split <;> simp, fun u hu v hv => ?_⟩
      split at hu
      · split at hv
        · obtain rfl := List.mem_singleton.1 hu
          obtain rfl := List.mem_singleton.1 hv
          simp only
          omega
        · cases hv
      · cases hu
    · have := cutF_sub hu
      have := cutF_sub hv
      omega
theorem cutL_mem (l : List Spn) {s : Spn} (hs : s.a < s.b) (n : Int) : mem (cutL l s) n ↔ mem l n ∧ ¬ inS s n := by
  constructor
  · rintro ⟨y, hy, hn⟩
    obtain ⟨x, hx, hy⟩ := List.mem_flatMap.1 hy
    have := (cutF_mem (x := x) hs n).1 ⟨y, hy, hn⟩
    exact ⟨⟨x, hx, this.1⟩, this.2⟩
  · rintro ⟨⟨x, hx, hn⟩, hs'⟩
    obtain ⟨y, hy, hn⟩ := (cutF_mem (x := x) hs n).2 ⟨hn, hs'⟩
    exact ⟨y, List.mem_flatMap.2 ⟨x, hx, hy⟩, hn⟩
theorem cutF_len (s x : Spn) : (cutF s x).length ≤ 1 ∨ ((cutF s x).length = 2 ∧ s.b < x.b) := by
  have k2 := rgt_cases s x
  unfold cutF
  by_cases h1 : x.a < lft s x
  · rw [if_pos h1]
    by_cases h2 : rgt s x < x.b
    · rw [if_pos h2]
      exact .inr ⟨rfl, by omega⟩
    · rw [if_neg h2]; exact .inl (Nat.le_refl _)
  · rw [if_neg h1]
    left
    split <;> simp
theorem cutF_far {s x : Spn} (hs : s.a < s.b) (h : s.b < x.a) : (cutF s x).length ≤ 1 := by
  have k1 := lft_cases s x
  unfold cutF
  rw [if_neg (by omega)]
  split <;> simp
theorem cutL_len : ∀ {l : List Spn}, Can l → ∀ {s : Spn}, s.a < s.b → (cutL l s).length ≤ l.length + 1
  | [], _, _, _ => by simp [cutL]
  | x :: l, hl, s, hs => by
    have e : (cutL (x :: l) s).length = (cutF s x).length + (cutL l s).length := by unfold cutL; simp
    rw [e, List.length_cons]
    rcases cutF_len s x with h | ⟨h, h2⟩
    · have := cutL_len hl.tail hs
      omega
    · have far : ∀ m : List Spn, (∀ y ∈ m, s.b < y.a) → (cutL m s).length ≤ m.length := by
        intro m
        induction m with
        | nil => intro _; simp [cutL]
        | cons y m ih =>
          intro hm
          have e : (cutL (y :: m) s).length = (cutF s y).length + (cutL m s).length := by unfold cutL; simp
          have := cutF_far hs (hm y (List.mem_cons_self ..))
          have := ih fun z hz => hm z (List.mem_cons_of_mem _ hz)
          rw [e, List.length_cons]; omega
      have := far l fun y hy => by have := (List.pairwise_cons.1 hl.up).1 y hy; omega
      omega
theorem gap_stay : ∀ (l : List Spn) (f : Int), (∀ x ∈ l, f < x.a) → l.foldl gapF f = f
  | [], f, _ => rfl
  | x :: l, f, h => by
    have hx := h x (List.mem_cons_self ..)
    rw [List.foldl_cons, show gapF f x = f from if_neg (by omega)]
    exact gap_stay l f fun y hy => h y (List.mem_cons_of_mem _ hy)
theorem gap_spec : ∀ {l : List Spn}, Can l → ∀ f : Int, f ≤ l.foldl gapF f ∧ ¬ mem l (l.foldl gapF f) ∧ ∀ n, f ≤ n → n < l.foldl gapF f → mem l n
  | [], _, f => ⟨Int.le_refl _, mem_nil, fun n h1 h2 => by simp only [List.foldl_nil] at h2; omega⟩
  | s :: l, hl, f => by
    have ho := hl.one s (List.mem_cons_self ..)
    rw [List.foldl_cons]
    by_cases h : s.a ≤ f ∧ f < s.b
    · rw [show gapF f s = s.b from if_pos h, gap_stay l s.b fun x hx => (List.pairwise_cons.1 hl.up).1 x hx]
      refine ⟨by omega, fun k => ?_, fun n h1 h2 => mem_cons.2 (.inl ⟨by omega, h2⟩)⟩
      rcases mem_cons.1 k with k | k
      · have := k.2; omega
      · have := hl.behind k; omega
    · rw [show gapF f s = f from if_neg h]
      obtain ⟨h1, h2, h3⟩ := gap_spec hl.tail f
      refine ⟨h1, fun k => ?_, fun n k1 k2 => mem_cons.2 (.inr (h3 n k1 k2))⟩
      rcases mem_cons.1 k with k | k
      · have e : f < s.a → l.foldl gapF f = f := fun hf => gap_stay l f fun x hx => by have := (List.pairwise_cons.1 hl.up).1 x hx; omega
        by_cases hf : f < s.a
        · rw [e hf] at k; exact h k
        · have := k.2; omega
      · exact h2 k
def cnt (p : Int → Bool) : Nat → Int
  | 0 => 0
  | n + 1 => cnt p n + if p n then 1 else 0
theorem cnt_ext {p q : Int → Bool} (h : ∀ n, p n = q n) (N : Nat) : cnt p N = cnt q N := by rw [show p = q from funext h]
theorem cnt_split (p q : Int → Bool) : ∀ N, cnt p N = cnt (fun n => p n && q n) N + cnt (fun n => p n && !q n) N
  | 0 => rfl
  | n + 1 => by
    simp only [cnt]
    have := cnt_split p q n
    rcases Bool.eq_false_or_eq_true (p n) with h | h <;> rcases Bool.eq_false_or_eq_true (q n) with k | k <;> simp [h, k] <;> omega
theorem cnt_or (p q : Int → Bool) : ∀ N, cnt (fun n => p n || q n) N + cnt (fun n => p n && q n) N = cnt p N + cnt q N
  | 0 => rfl
  | n + 1 => by
    simp only [cnt]
    have := cnt_or p q n
    rcases Bool.eq_false_or_eq_true (p n) with h | h <;> rcases Bool.eq_false_or_eq_true (q n) with k | k <;> simp [h, k] <;> omega
theorem cnt_pos (p : Int → Bool) : ∀ N, 0 ≤ cnt p N
  | 0 => Int.le_refl _
  | n + 1 => by
    have := cnt_pos p n
    simp only [cnt]
    split <;> omega
theorem cnt_none : ∀ N, cnt (fun _ => false) N = 0
  | 0 => rfl
  | n + 1 => by simp only [cnt]; rw [cnt_none n]; rfl
noncomputable def memB (l : List Spn) (n : Int) : Bool := @decide (mem l n) (Classical.propDecidable _)
def inB (s : Spn) (n : Int) : Bool := decide (s.a ≤ n ∧ n < s.b)
theorem memB_iff {l : List Spn} {n : Int} : memB l n = true ↔ mem l n := by unfold memB; simp
theorem inB_iff {s : Spn} {n : Int} : inB s n = true ↔ inS s n := by unfold inB inS; simp
theorem cnt_in {s : Spn} (h0 : 0 ≤ s.a) (h1 : s.a < s.b) : ∀ N : Nat, cnt (inB s) N = if (N : Int) ≤ s.a then 0 else if (N : Int) ≤ s.b then N - s.a else s.b - s.a
  | 0 => by simp [cnt, h0]
  | n + 1 => by
    simp only [cnt]
    rw [cnt_in h0 h1 n]
    by_cases h : inB s (n : Int) = true
    · have := inB_iff.1 h
      unfold inS at this
      rw [h]
      simp only [if_true]
      have e : ((n + 1 : Nat) : Int) = (n : Int) + 1 := by omega
      rw [e]
      repeat' split
      all_goals omega
    · have hn : ¬ inS s (n : Int) := fun k => h (inB_iff.2 k)
      unfold inS at hn
      rw [if_neg h]
      have e : ((n + 1 : Nat) : Int) = (n : Int) + 1 := by omega
      rw [e]
      repeat' split
      all_goals omega
theorem cnt_size {N : Nat} (hN : (N : Int) = 4611686018427387904) : ∀ {l : List Spn}, Can l → cnt (memB l) N = sizeP l
  | [], _ => by
    rw [cnt_ext (q := fun _ => false) (fun n => by
      cases h : memB [] n with
      | false => rfl
      | true => exact absurd (memB_iff.1 h) mem_nil), cnt_none]; rfl
  | s :: l, hl => by
    have ho := hl.one s (List.mem_cons_self ..)
    have h1 := cnt_or (inB s) (memB l) N
    have e1 : cnt (fun n => inB s n && memB l n) N = 0 := by
      rw [cnt_ext (q := fun _ => false) (fun n => ?_), cnt_none]
      cases h : (inB s n && memB l n) with
      | false => rfl
      | true =>
        rw [Bool.and_eq_true, inB_iff, memB_iff] at h
        have := hl.behind h.2
        have := h.1.2
        omega
    have e2 : cnt (fun n => inB s n || memB l n) N = cnt (memB (s :: l)) N := cnt_ext (fun n => by
      rw [Bool.eq_iff_iff, Bool.or_eq_true, inB_iff, memB_iff, memB_iff, mem_cons]) N
    have e3 := cnt_in ho.1 ho.2.1 N
    rw [e1, e2, cnt_size hN hl.tail] at h1
    rw [hN] at e3
    rw [if_neg (by omega)] at e3
    unfold sizeP
    split at e3 <;> omega
theorem exN : ∃ N : Nat, (N : Int) = 4611686018427387904 := ⟨Int.toNat 4611686018427387904, Int.toNat_of_nonneg (by omega)⟩
end Vai.L04
