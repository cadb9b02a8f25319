import Derived.Test.YtjienkojedlfjaaN04
namespace Vai.L04
open Go Go.Proofs Vai
set_option maxRecDepth 100000
set_option linter.unusedVariables false
set_option linter.unusedSimpArgs false
theorem addS_succ_p {l : List Spn} {s : Spn} {i : Nat} (hi : i < l.length) : addS l s (i + 1) = addF (addS l s i) (pth l i) := addS_succ (by rw [List.getElem?_eq_getElem hi, pth_get hi])
structure AddInv (s : Spn) (p : List Spn) (last : Int) (t : AS) : Prop where
  can : Can (t.xs ++ [t.s] ++ t.ys)
  mem : ∀ n, mem (t.xs ++ [t.s] ++ t.ys) n ↔ L04.mem p n ∨ inS s n
  ex : ∀ y ∈ t.xs, y.b ≤ last
  ey : ∀ y ∈ t.ys, y.b ≤ last
theorem addF_inv {s : Spn} {p : List Spn} {last : Int} {t : AS} (h : AddInv s p last t) {x : Spn} (ho : 0 ≤ x.a ∧ x.a < x.b ∧ x.b ≤ 4611686018427387904) (hx : last < x.a) : AddInv s (p ++ [x]) x.b (addF t x) := by
  obtain ⟨⟨c1, c2⟩, hm, ex, ey⟩ := h
  have os := c1 t.s (by simp)
  rw [List.append_assoc, List.pairwise_append] at c2
  obtain ⟨p1, p2, p3⟩ := c2
  rw [List.singleton_append, List.pairwise_cons] at p2
  obtain ⟨p4, p5⟩ := p2
  have memx : ∀ n, L04.mem (p ++ [x]) n ↔ L04.mem p n ∨ inS x n := fun n => by
    rw [mem_app, mem_cons]
    exact ⟨fun h => h.imp id fun h => h.elim id fun h => absurd h mem_nil, fun h => h.imp id .inl⟩
  have mids : ∀ (a b : List Spn) (u : Spn) n, L04.mem (a ++ [u] ++ b) n ↔ L04.mem a n ∨ inS u n ∨ L04.mem b n := fun a b u n => by
    rw [mem_app, mem_app, mem_cons]
    have : ¬ L04.mem ([] : List Spn) n := mem_nil
    constructor
    · rintro ((h | h | h) | h)
      · exact .inl h
      · exact .inr (.inl h)
      · exact absurd h this
      · exact .inr (.inr h)
    · rintro (h | h | h)
      · exact .inl (.inl h)
      · exact .inl (.inr (.inl h))
      · exact .inr h
  have snoc : ∀ (a : List Spn) n, L04.mem (a ++ [x]) n ↔ L04.mem a n ∨ inS x n := fun a n => by
    rw [mem_app, mem_cons]
    exact ⟨fun h => h.imp id fun h => h.elim id fun h => absurd h mem_nil, fun h => h.imp id .inl⟩
  have all : ∀ y, y ∈ t.xs ∨ y = t.s ∨ y ∈ t.ys → 0 ≤ y.a ∧ y.a < y.b ∧ y.b ≤ 4611686018427387904 := fun y hy => c1 y (by simp; grind)
  unfold addF
  split
  · rename_i h1
    refine ⟨⟨fun y hy => ?_, ?_⟩, fun n => ?_, fun y hy => ?_, fun y hy => ?_⟩
    · simp only [List.mem_append, List.mem_singleton] at hy
      rcases hy with ((hy | rfl) | rfl) | hy
      · exact all y (.inl hy)
      · exact ho
      · exact all _ (.inr (.inl rfl))
      · exact all y (.inr (.inr hy))
    · show (t.xs ++ [x] ++ [t.s] ++ t.ys).Pairwise _
      rw [List.append_assoc, List.append_assoc, List.pairwise_append, List.singleton_append, List.pairwise_cons, List.singleton_append, List.pairwise_cons]
      refine ⟨p1, ⟨fun y hy => ?_, p4, p5⟩, fun y hy z hz => ?_⟩
      · rcases List.mem_cons.1 hy with rfl | hy
        · exact h1
        · have := p4 y hy; omega
      · rcases List.mem_cons.1 hz with rfl | hz
        · have := ex y hy; omega
        · exact p3 y hy z hz
    · show L04.mem (t.xs ++ [x] ++ [t.s] ++ t.ys) n ↔ _
      have := hm n
      rw [mids] at this
      rw [mids, snoc, memx]
      grind
    · rcases List.mem_append.1 hy with hy | hy
      · have := ex y hy; omega
      · obtain rfl := List.mem_singleton.1 hy; exact Int.le_refl _
    · have := ey y hy; omega
  · rename_i h1
    split
    · rename_i h2
      refine ⟨⟨fun y hy => ?_, ?_⟩, fun n => ?_, fun y hy => ?_, fun y hy => ?_⟩
      · simp only [List.mem_append, List.mem_singleton] at hy
        rcases hy with (hy | rfl) | (hy | rfl)
        · exact all y (.inl hy)
        · exact all _ (.inr (.inl rfl))
        · exact all y (.inr (.inr hy))
        · exact ho
      · show (t.xs ++ [t.s] ++ (t.ys ++ [x])).Pairwise _
        rw [List.append_assoc, List.pairwise_append, List.singleton_append, List.pairwise_cons, List.pairwise_append]
        refine ⟨p1, ⟨fun y hy => ?_, p5, List.pairwise_singleton _ _, fun y hy z hz => ?_⟩, fun y hy z hz => ?_⟩
        · rcases List.mem_append.1 hy with hy | hy
          · exact p4 y hy
          · obtain rfl := List.mem_singleton.1 hy; omega
        · obtain rfl := List.mem_singleton.1 hz; have := ey y hy; omega
        · rcases List.mem_cons.1 hz with rfl | hz
          · exact p3 y hy _ (by simp)
          · rcases List.mem_append.1 hz with hz | hz
            · exact p3 y hy z (by simp [hz])
            · obtain rfl := List.mem_singleton.1 hz; have := ex y hy; omega
      · show L04.mem (t.xs ++ [t.s] ++ (t.ys ++ [x])) n ↔ _
        have := hm n
        rw [mids] at this
        rw [mids, snoc, memx]
        grind
      · have := ex y hy; omega
      · rcases List.mem_append.1 hy with hy | hy
        · have := ey y hy; omega
        · obtain rfl := List.mem_singleton.1 hy; exact Int.le_refl _
    · rename_i h2
      have hys : t.ys = [] := by
        cases hy : t.ys with
        | nil => rfl
        | cons y ys =>
          have k1 := p4 y (by rw [hy]; simp)
          have k2 := ey y (by rw [hy]; simp)
          have k3 := all y (.inr (.inr (by rw [hy]; simp)))
          omega
      refine ⟨⟨fun y hy => ?_, ?_⟩, fun n => ?_, fun y hy => ?_, fun y hy => ?_⟩
      · simp only [hys, List.append_nil, List.mem_append, List.mem_singleton] at hy
        rcases hy with hy | rfl
        · exact all y (.inl hy)
        · refine ⟨?_, ?_, ?_⟩ <;> simp only <;> repeat' split
          all_goals omega
      · show (t.xs ++ [_] ++ t.ys).Pairwise _
        rw [hys, List.append_nil, List.pairwise_append]
        refine ⟨p1, List.pairwise_singleton _ _, fun y hy z hz => ?_⟩
        obtain rfl := List.mem_singleton.1 hz
        have k1 := ex y hy
        have k2 := p3 y hy t.s (by simp)
        simp only
        split <;> omega
      · show L04.mem (t.xs ++ [_] ++ t.ys) n ↔ _
        have := hm n
        rw [mids] at this
        rw [mids, memx]
        have e : inS ⟨if x.a < t.s.a then x.a else t.s.a, if x.b > t.s.b then x.b else t.s.b⟩ n ↔ inS t.s n ∨ inS x n := by
          unfold inS
          simp only
          split <;> split <;> omega
        rw [e]
        grind
      · have := ex y hy; omega
      · rw [hys] at hy; cases hy
theorem addS_inv {l : List Spn} (hl : Can l) {s : Spn} (hs : 0 ≤ s.a ∧ s.a < s.b ∧ s.b ≤ 4611686018427387904) :
    ∀ i, i ≤ l.length → ∃ last, AddInv s (l.take i) last (addS l s i) ∧ ∀ x ∈ l.drop i, last < x.a
  | 0, _ => ⟨-1, ⟨⟨fun x hx => by have : x ∈ [s] := hx; obtain rfl := List.mem_singleton.1 this; exact hs, List.pairwise_singleton _ _⟩, fun n => by
      show L04.mem [s] n ↔ _
      rw [mem_cons]
      exact ⟨fun h => .inr (h.elim id fun h => absurd h mem_nil), fun h => .inl (h.elim (fun h => absurd h mem_nil) id)⟩, fun y hy => (by cases hy), fun y hy => (by cases hy)⟩,
      fun x hx => by have := hl.one x (List.mem_of_mem_drop hx); omega⟩
  | i + 1, h => by
    obtain ⟨last, hi, hd⟩ := addS_inv hl hs i (by omega)
    have hm : pth l i ∈ l := by rw [← pth_get (show i < l.length by omega)]; exact List.getElem_mem _
    rw [pdrop (show i < l.length by omega)] at hd
    refine ⟨(pth l i).b, ?_, fun x hx => ?_⟩
    · rw [addS_succ_p (by omega), ptake (by omega)]
      exact addF_inv hi (hl.one _ hm) (hd _ (List.mem_cons_self ..))
    · have hp := hl.up
      rw [← List.take_append_drop i l, List.pairwise_append, pdrop (show i < l.length by omega), List.pairwise_cons] at hp
      exact hp.2.1.1 x hx
theorem addL_can {l : List Spn} (hl : Can l) {s : Spn} (hs : 0 ≤ s.a ∧ s.a < s.b ∧ s.b ≤ 4611686018427387904) : Can (addL l s) := by
  obtain ⟨_, h, _⟩ := addS_inv hl hs l.length (Nat.le_refl _)
  exact h.can
theorem addL_mem {l : List Spn} (hl : Can l) {s : Spn} (hs : 0 ≤ s.a ∧ s.a < s.b ∧ s.b ≤ 4611686018427387904) (n : Int) : mem (addL l s) n ↔ mem l n ∨ inS s n := by
  obtain ⟨_, h, _⟩ := addS_inv hl hs l.length (Nat.le_refl _)
  have := h.mem n
  rw [List.take_length] at this
  exact this
theorem size_both {l : List Spn} (hl : Can l) {s : Spn} (hs : 0 ≤ s.a ∧ s.a < s.b ∧ s.b ≤ 4611686018427387904) :
    0 ≤ sizeP l - sizeP (cutL l s) ∧ sizeP l - sizeP (cutL l s) ≤ s.b - s.a ∧ sizeP (addL l s) = sizeP l + (s.b - s.a) - (sizeP l - sizeP (cutL l s)) := by
  obtain ⟨N, hN⟩ := exN
  have k1 := cnt_size hN hl
  have k2 := cnt_size hN (cutL_can hl hs.2.1)
  have k3 := cnt_size hN (addL_can hl hs)
  have k4 : cnt (inB s) N = s.b - s.a := by
    rw [cnt_in hs.1 hs.2.1 N, hN, if_neg (by omega)]
    split <;> omega
  have h1 := cnt_split (memB l) (inB s) N
  have h2 := cnt_or (memB l) (inB s) N
  have h3 := cnt_split (inB s) (memB l) N
  have e1 : cnt (fun n => memB l n && !inB s n) N = cnt (memB (cutL l s)) N := cnt_ext (fun n => by
    rw [Bool.eq_iff_iff, Bool.and_eq_true, memB_iff, memB_iff, cutL_mem l hs.2.1, Bool.not_eq_true', ← inB_iff, Bool.not_eq_true]) N
  have e2 : cnt (fun n => memB l n || inB s n) N = cnt (memB (addL l s)) N := cnt_ext (fun n => by
    rw [Bool.eq_iff_iff, Bool.or_eq_true, inB_iff, memB_iff, memB_iff, addL_mem hl hs]) N
  have e3 : cnt (fun n => inB s n && memB l n) N = cnt (fun n => memB l n && inB s n) N := cnt_ext (fun n => Bool.and_comm _ _) N
  have p1 := cnt_pos (fun n => memB l n && inB s n) N
  have p2 := cnt_pos (fun n => inB s n && !memB l n) N
  omega
end Vai.L04
