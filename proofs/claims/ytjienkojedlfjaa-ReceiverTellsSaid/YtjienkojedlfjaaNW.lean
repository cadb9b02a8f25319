import Derived.Test.YtjienkojedlfjaaNQ
namespace Vai.L06
open Go Go.Proofs Vai Vai.L04
set_option maxRecDepth 100000
set_option linter.unusedVariables false
set_option linter.unusedSimpArgs false
def zeroB (xs : List AV) : Bool := (List.range xs.length).all fun i => decide (byteAt xs i = 0)
theorem zeroB_iff {xs : List AV} : zeroB xs = true ↔ ∀ i, i < xs.length → byteAt xs i = 0 := by
  unfold zeroB; rw [List.all_eq_true]
  exact ⟨fun h i hi => of_decide_eq_true (h i (List.mem_range.2 hi)), fun h i hi => decide_eq_true (h i (List.mem_range.1 hi))⟩
noncomputable def nzi (xs : List AV) : Nat := @Classical.epsilon Nat ⟨0⟩ fun n => n < xs.length ∧ byteAt xs n ≠ 0 ∧ ∀ j, j < n → byteAt xs j = 0
theorem nzi_spec {xs : List AV} (h : zeroB xs = false) : nzi xs < xs.length ∧ byteAt xs (nzi xs) ≠ 0 ∧ ∀ j, j < nzi xs → byteAt xs j = 0 := by
  have hx : ∃ n, n < xs.length ∧ byteAt xs n ≠ 0 := by
    apply Classical.byContradiction
    intro hn
    have : zeroB xs = true := zeroB_iff.2 fun i hi => Classical.byContradiction fun hne => hn ⟨i, hi, hne⟩
    rw [h] at this; cases this
  have ex : ∃ n, n < xs.length ∧ byteAt xs n ≠ 0 ∧ ∀ j, j < n → byteAt xs j = 0 := by
    obtain ⟨n, h1, h2⟩ := hx
    induction n using Nat.strongRecOn with
    | _ n ih =>
      by_cases hm : ∃ j, j < n ∧ byteAt xs j ≠ 0
      · obtain ⟨j, hj, hne⟩ := hm
        exact ih j hj (by omega) hne
      · exact ⟨n, h1, h2, fun j hj => Classical.byContradiction fun hne => hm ⟨j, hj, hne⟩⟩
  exact @Classical.epsilon_spec _ _ ex
noncomputable def nzI (xs : List AV) : Int := if zeroB xs = true then -1 else (nzi xs : Int)
def blankP (base : Int) (b : List AV) : Int → List Spn → Bool
  | _, [] => true
  | at_, s :: l => zeroB ((b.take (s.a - base).toNat).drop (at_ - base).toNat) && blankP base b s.b l
def uptoP (base : Int) (got : List Spn) : Int := if got.length = 0 then base else (pth got (got.length - 1)).b
def edgeP (base cap : Int) : Int := if 2305843009213693952 < base + cap then 2305843009213693952 else base + cap
def mayW (base : Int) (b : List AV) (l : List Spn) (cap end_ : Int) : Bool :=
  decide (0 ≤ cap ∧ cap ≤ 65536 ∧ 0 ≤ base ∧ base ≤ 2305843009213693952) && mayP l && decide (¬ (0 < l.length ∧ (pth l 0).a < base) ∧ uptoP base l ≤ edgeP base cap ∧ (b.length : Int) = uptoP base l - base) && decide (end_ = -1 ∨ uptoP base l ≤ end_) && blankP base b base l
theorem upto_rng {base : Int} {l : List Spn} (hm : mayP l = true) (k0 : 0 ≤ base) (k1 : base ≤ 2305843009213693952) : 0 ≤ uptoP base l ∧ uptoP base l ≤ 4611686018427387904 := by
  unfold uptoP
  split
  · omega
  · have := (may_iff.1 hm).2.one (pth l (l.length - 1)) (by rw [← pth_get (show l.length - 1 < l.length by omega)]; exact List.getElem_mem _)
    omega
theorem mayW_iff {base : Int} {b : List AV} {l : List Spn} {cap end_ : Int} : mayW base b l cap end_ = true ↔ (0 ≤ cap ∧ cap ≤ 65536 ∧ 0 ≤ base ∧ base ≤ 2305843009213693952) ∧ mayP l = true ∧ (¬ (0 < l.length ∧ (pth l 0).a < base) ∧ uptoP base l ≤ edgeP base cap ∧ (b.length : Int) = uptoP base l - base) ∧ (end_ = -1 ∨ uptoP base l ≤ end_) ∧ blankP base b base l = true := by
  unfold mayW
  simp only [Bool.and_eq_true, decide_eq_true_eq, and_assoc]
def cpyR (base : Int) (b : List AV) (N : Nat) (R : List AV) (s : Spn) : List AV :=
  List.take ((0 : Nat) + Int.toNat (IntKind.wrap IntKind.i64 (s.a - base))) R ++ (List.take (N - Int.toNat (IntKind.wrap IntKind.i64 (s.a - base))) (List.take (Int.toNat (IntKind.wrap IntKind.i64 (s.b - base)) - Int.toNat (IntKind.wrap IntKind.i64 (s.a - base))) (List.drop ((0 : Nat) + Int.toNat (IntKind.wrap IntKind.i64 (s.a - base))) b)) ++
    List.drop ((0 : Nat) + Int.toNat (IntKind.wrap IntKind.i64 (s.a - base)) + min (List.length (List.take (Int.toNat (IntKind.wrap IntKind.i64 (s.b - base)) - Int.toNat (IntKind.wrap IntKind.i64 (s.a - base))) (List.drop ((0 : Nat) + Int.toNat (IntKind.wrap IntKind.i64 (s.a - base))) b))) (N - Int.toNat (IntKind.wrap IntKind.i64 (s.a - base)))) R)
theorem byteAt_take {xs : List AV} {n i : Nat} (h : i < n) : byteAt (xs.take n) i = byteAt xs i := by unfold byteAt; rw [List.getElem?_take, if_pos h]
theorem byteAt_drop (xs : List AV) (n i : Nat) : byteAt (xs.drop n) i = byteAt xs (n + i) := by unfold byteAt; rw [List.getElem?_drop]
theorem byteAt_left {xs ys : List AV} {i : Nat} (h : i < xs.length) : byteAt (xs ++ ys) i = byteAt xs i := by unfold byteAt; rw [List.getElem?_append_left h]
theorem byteAt_right {xs ys : List AV} {i : Nat} (h : xs.length ≤ i) : byteAt (xs ++ ys) i = byteAt ys (i - xs.length) := by unfold byteAt; rw [List.getElem?_append_right h]
structure Fits (base : Int) (b : List AV) (N : Nat) (s : Spn) : Prop where
  fa : base ≤ s.a
  fab : s.a < s.b
  fb : s.b - base ≤ b.length
  fn : b.length ≤ N
  fm : N ≤ 140737488355328
  fz : 0 ≤ base
  ft : s.b ≤ 4611686018427387904
theorem cpyR_spec {base : Int} {b R : List AV} {N : Nat} {s : Spn} (hb : IsB b) (hR : IsB R) (hN : R.length = N) (f : Fits base b N s) :
    IsB (cpyR base b N R s) ∧ (cpyR base b N R s).length = N ∧ ∀ k, k < N → byteAt (cpyR base b N R s) k = if s.a ≤ base + k ∧ base + k < s.b then byteAt b k else byteAt R k := by
  obtain ⟨f1, f2, f3, f4, f5, f6, f7⟩ := f
  have e1 : IntKind.wrap IntKind.i64 (s.a - base) = s.a - base := by rw [IntKind.wrap_i64]; omega
  have e2 : IntKind.wrap IntKind.i64 (s.b - base) = s.b - base := by rw [IntKind.wrap_i64]; omega
  obtain ⟨p, hp⟩ : ∃ p : Nat, (p : Int) = s.a - base := ⟨(s.a - base).toNat, by omega⟩
  obtain ⟨q, hq⟩ : ∃ q : Nat, (q : Int) = s.b - base := ⟨(s.b - base).toNat, by omega⟩
  unfold cpyR
  rw [e1, e2, ← hp, ← hq]
  simp only [Int.toNat_natCast, Nat.zero_add]
  have l1 : (List.take p R).length = p := by rw [List.length_take]; omega
  have l2 : (List.take (N - p) (List.take (q - p) (List.drop p b))).length = q - p := by simp only [List.length_take, List.length_drop]; omega
  have l3 : min (List.take (q - p) (List.drop p b)).length (N - p) = q - p := by simp only [List.length_take, List.length_drop]; omega
  rw [l3]
  refine ⟨IsB.append (IsB.take hR _) (IsB.append (IsB.take (IsB.take (IsB.drop hb _) _) _) (IsB.drop hR _)), ?_, fun k hk => ?_⟩
  · rw [List.length_append, List.length_append, l1, l2, List.length_drop]; omega
  · by_cases h1 : k < p
    · rw [byteAt_left (by omega), byteAt_take h1, if_neg (by omega)]
    · rw [byteAt_right (by omega), l1]
      by_cases h2 : k < q
      · rw [byteAt_left (by omega), byteAt_take (by omega), byteAt_take (by omega), byteAt_drop, if_pos (by omega), show p + (k - p) = k by omega]
      · rw [byteAt_right (by omega), l2, byteAt_drop, if_neg (by omega), show p + (q - p) + (k - p - (q - p)) = k by omega]
theorem fold_spec {base : Int} {b : List AV} {N : Nat} (hb : IsB b) : ∀ (l : List Spn) (R : List AV), IsB R → R.length = N → (∀ s ∈ l, Fits base b N s) →
    IsB (l.foldl (cpyR base b N) R) ∧ (l.foldl (cpyR base b N) R).length = N ∧ ∀ k, k < N → (mem l (base + k) → byteAt (l.foldl (cpyR base b N) R) k = byteAt b k) ∧ (¬ mem l (base + k) → byteAt (l.foldl (cpyR base b N) R) k = byteAt R k)
  | [], R, hR, hN, _ => ⟨hR, hN, fun k _ => ⟨fun h => absurd h mem_nil, fun _ => rfl⟩⟩
  | s :: l, R, hR, hN, hf => by
    obtain ⟨h1, h2, h3⟩ := cpyR_spec hb hR hN (hf s (List.mem_cons_self ..))
    obtain ⟨g1, g2, g3⟩ := fold_spec hb l _ h1 h2 fun x hx => hf x (List.mem_cons_of_mem _ hx)
    refine ⟨g1, g2, fun k hk => ?_⟩
    rw [List.foldl_cons]
    obtain ⟨k1, k2⟩ := g3 k hk
    refine ⟨fun h => ?_, fun h => ?_⟩
    · by_cases hm : mem l (base + k)
      · exact k1 hm
      · rw [k2 hm, h3 k hk, if_pos (show s.a ≤ base + k ∧ base + k < s.b from (mem_cons.1 h).resolve_right hm)]
    · rw [mem_cons] at h
      rw [k2 fun hm => h (.inr hm), h3 k hk, if_neg (show ¬ (s.a ≤ base + k ∧ base + k < s.b) from fun hs => h (.inl hs))]
structure PuP (base : Int) (b R : List AV) (l got : List Spn) (N : Nat) : Prop where
  hb : IsB b
  hR : IsB R
  hN : R.length = N
  hll : l.length ≤ 1000
  hg : got.length ≤ 9223372036854775806
  hf : ∀ s ∈ l, Fits base b N s
  hbN : b.length ≤ N
  hNl : N ≤ 140737488355328
  z3 : 0 ≤ base
def putN (base : Int) (b : List AV) (u : Int) : Nat := List.length (List.take (List.length b) b) + List.length (List.replicate (Int.toNat (IntKind.wrap IntKind.i64 (IntKind.wrap IntKind.i64 (u - base) - (↑(List.length b) : Int)))) (AV.int IntKind.u8 (0 : Int)))
def putZ (base : Int) (b : List AV) (u : Int) : List AV := List.take (List.length b) b ++ List.replicate (Int.toNat (IntKind.wrap IntKind.i64 (IntKind.wrap IntKind.i64 (u - base) - (↑(List.length b) : Int)))) (AV.int IntKind.u8 (0 : Int))
def putR (base at_ low high : Int) (b bs : List AV) (u : Int) : List AV := List.take ((0 : Nat) + Int.toNat (IntKind.wrap IntKind.i64 (low - base))) (putZ base b u) ++ (List.take (putN base b u - Int.toNat (IntKind.wrap IntKind.i64 (low - base))) (List.drop (Int.toNat (IntKind.wrap IntKind.i64 (low - at_))) (List.take (Int.toNat (IntKind.wrap IntKind.i64 (high - at_))) bs)) ++ List.drop ((0 : Nat) + Int.toNat (IntKind.wrap IntKind.i64 (low - base)) + min (List.length (List.drop (Int.toNat (IntKind.wrap IntKind.i64 (low - at_))) (List.take (Int.toNat (IntKind.wrap IntKind.i64 (high - at_))) bs))) (putN base b u - Int.toNat (IntKind.wrap IntKind.i64 (low - base)))) (putZ base b u))
theorem byteAt_over {xs : List AV} {i : Nat} (h : xs.length ≤ i) : byteAt xs i = 0 := by
  unfold byteAt; rw [List.getElem?_eq_none h]
theorem byteAt_zeros (n i : Nat) : byteAt (List.replicate n (AV.int .u8 0)) i = 0 := by
  unfold byteAt
  by_cases h : i < n
  · rw [List.getElem?_replicate_of_lt h]
  · rw [List.getElem?_eq_none (by simp; omega)]
theorem pth_in {l : List Spn} {i : Nat} (h : i < l.length) : pth l i ∈ l := by rw [← pth_get h]; exact List.getElem_mem _
theorem upto_nil (base : Int) : uptoP base [] = base := rfl
theorem upto_mem {base : Int} {l : List Spn} (hl : Can l) (h : 0 < l.length) : mem l (uptoP base l - 1) := by
  have hi : l.length - 1 < l.length := by omega
  refine ⟨pth l (l.length - 1), pth_in hi, ?_⟩
  have := hl.one _ (pth_in hi)
  unfold uptoP inS
  rw [if_neg (by omega)]
  omega
theorem upto_lt {base : Int} {l : List Spn} (hl : Can l) {n : Int} (h : mem l n) : n < uptoP base l := by
  obtain ⟨s, hs, h1, h2⟩ := h
  obtain ⟨i, hi, rfl⟩ := List.getElem_of_mem hs
  unfold uptoP
  rw [if_neg (by omega)]
  have hj : l.length - 1 < l.length := by omega
  have ho := hl.one _ (pth_in hj)
  by_cases e : i = l.length - 1
  · subst e; rw [pth_get hi] at h2; exact h2
  · have := (List.pairwise_iff_getElem.1 hl.up) i (l.length - 1) hi hj (by omega)
    rw [pth_get hj] at this; omega
theorem upto_le {base B : Int} {l : List Spn} (hl : Can l) (h0 : base ≤ B) (h : ∀ n, mem l n → n < B) : uptoP base l ≤ B := by
  by_cases e : 0 < l.length
  · have := h _ (upto_mem (base := base) hl e); omega
  · unfold uptoP; rw [if_pos (by omega)]; exact h0
theorem upto_ge {base : Int} {l : List Spn} (hl : Can l) (h : ∀ n, mem l n → base ≤ n) : base ≤ uptoP base l := by
  by_cases e : 0 < l.length
  · have := h _ (upto_mem (base := base) hl e); omega
  · unfold uptoP; rw [if_pos (by omega)]; omega
theorem first_le {l : List Spn} (hl : Can l) {n : Int} (h : mem l n) : 0 < l.length ∧ (pth l 0).a ≤ n := by
  obtain ⟨s, hs, h1, h2⟩ := h
  obtain ⟨i, hi, rfl⟩ := List.getElem_of_mem hs
  refine ⟨by omega, ?_⟩
  have hj : 0 < l.length := by omega
  by_cases e : i = 0
  · subst e; rw [pth_get hi] at h1; exact h1
  · have := (List.pairwise_iff_getElem.1 hl.up) 0 i hj hi (by omega)
    have ho := hl.one _ (pth_in hj)
    rw [pth_get hj] at this; omega
theorem first_mem {l : List Spn} (hl : Can l) (h : 0 < l.length) : mem l (pth l 0).a :=
  ⟨pth l 0, pth_in h, Int.le_refl _, (hl.one _ (pth_in h)).2.1⟩
theorem upto_cons (base : Int) (s : Spn) (l : List Spn) : uptoP base (s :: l) = uptoP s.b l := by
  unfold uptoP
  rw [if_neg (by simp)]
  cases l with
  | nil => rfl
  | cons t l => rw [if_neg (by simp)]; rfl
theorem blank_iff {base : Int} {b : List AV} : ∀ {l : List Spn} {at_ : Int}, Can l → base ≤ at_ → (∀ s ∈ l, at_ ≤ s.a) → (uptoP at_ l - base ≤ b.length) →
    (blankP base b at_ l = true ↔ ∀ k : Nat, at_ ≤ base + k → base + k < uptoP at_ l → ¬ mem l (base + k) → byteAt b k = 0)
  | [], at_, _, _, _, _ => ⟨fun _ k h1 h2 => by rw [upto_nil] at h2; omega, fun _ => rfl⟩
  | s :: l, at_, hc, h0, h1, h2 => by
    have hs := h1 s (List.mem_cons_self ..)
    have ho := hc.one s (List.mem_cons_self ..)
    have ht := hc.tail
    have hb : ∀ x ∈ l, s.b ≤ x.a := fun x hx => by have := (List.pairwise_cons.1 hc.up).1 x hx; omega
    have hu := upto_cons at_ s l
    have hge : s.b ≤ uptoP s.b l := upto_ge ht fun n hn => by have := hc.behind hn; omega
    rw [hu] at h2 ⊢
    unfold blankP
    rw [Bool.and_eq_true, zeroB_iff, blank_iff ht (by omega) hb h2]
    have el : (List.drop (at_ - base).toNat (List.take (s.a - base).toNat b)).length = (s.a - at_).toNat := by rw [List.length_drop, List.length_take]; omega
    constructor
    · intro ⟨g1, g2⟩ k k1 k2 k3
      by_cases c : base + k < s.a
      · have := g1 (k - (at_ - base).toNat) (by rw [el]; omega)
        rw [byteAt_drop, byteAt_take (by omega)] at this
        rwa [show (at_ - base).toNat + (k - (at_ - base).toNat) = k by omega] at this
      · rw [mem_cons] at k3
        have k4 : s.b ≤ base + k := Classical.byContradiction fun hh => k3 (.inl ⟨by omega, by omega⟩)
        exact g2 k k4 k2 fun hm => k3 (.inr hm)
    · intro g
      refine ⟨fun i hi => ?_, fun k k1 k2 k3 => g k (by omega) k2 ?_⟩
      · rw [el] at hi
        rw [byteAt_drop, byteAt_take (by omega)]
        refine g _ (by omega) (by omega) ?_
        rw [mem_cons]
        rintro (⟨g1, g2⟩ | hm)
        · omega
        · have := hc.behind hm; omega
      · rw [mem_cons]
        rintro (⟨g1, g2⟩ | hm)
        · omega
        · exact k3 hm
structure MayW (base : Int) (b : List AV) (l : List Spn) (cap end_ : Int) : Prop where
  c0 : 0 ≤ cap
  c1 : cap ≤ 65536
  b0 : 0 ≤ base
  b1 : base ≤ 2305843009213693952
  ll : l.length ≤ 1000
  can : Can l
  lo : ∀ n, mem l n → base ≤ n
  ue : uptoP base l ≤ edgeP base cap
  bl : (b.length : Int) = uptoP base l - base
  en : end_ = -1 ∨ uptoP base l ≤ end_
  bz : ∀ k : Nat, k < b.length → ¬ mem l (base + k) → byteAt b k = 0
theorem mayW_plain {base : Int} {b : List AV} {l : List Spn} {cap end_ : Int} : mayW base b l cap end_ = true ↔ MayW base b l cap end_ := by
  rw [mayW_iff, may_iff]
  constructor
  · intro ⟨⟨h1, h2, h3, h4⟩, ⟨h5, h6⟩, ⟨h7, h8, h9⟩, h10, h11⟩
    have lo : ∀ n, mem l n → base ≤ n := fun n hn => by have := first_le h6 hn; omega
    refine ⟨h1, h2, h3, h4, h5, h6, lo, h8, h9, h10, fun k hk hm => ?_⟩
    exact (blank_iff h6 (Int.le_refl _) (fun s hs => lo _ ⟨s, hs, Int.le_refl _, (h6.one s hs).2.1⟩) (by omega)).1 h11 k (by omega) (by omega) hm
  · intro h
    refine ⟨⟨h.c0, h.c1, h.b0, h.b1⟩, ⟨h.ll, h.can⟩, ⟨fun ⟨h1, h2⟩ => ?_, h.ue, h.bl⟩, h.en, ?_⟩
    · have := h.lo _ (first_mem h.can h1); omega
    · refine (blank_iff h.can (Int.le_refl _) (fun s hs => h.lo _ ⟨s, hs, Int.le_refl _, (h.can.one s hs).2.1⟩) (by have := h.bl; omega)).2 fun k h1 h2 h3 => h.bz k (by have := h.bl; omega) h3
theorem MayW.edge {base : Int} {b : List AV} {l : List Spn} {cap end_ : Int} (h : MayW base b l cap end_) : edgeP base cap ≤ 2305843009213693952 ∧ edgeP base cap ≤ base + 65536 ∧ base ≤ edgeP base cap := by
  have h1 := h.c0; have h2 := h.c1; have h3 := h.b1; have h4 := h.b0
  unfold edgeP
  split <;> omega
theorem MayW.ge {base : Int} {b : List AV} {l : List Spn} {cap end_ : Int} (h : MayW base b l cap end_) : base ≤ uptoP base l := upto_ge h.can h.lo
theorem MayW.len {base : Int} {b : List AV} {l : List Spn} {cap end_ : Int} (h : MayW base b l cap end_) : b.length ≤ 65536 := by
  have h1 := h.edge; have h2 := h.ue; have h3 := h.bl; omega
theorem MayW.fits {base : Int} {b : List AV} {l : List Spn} {cap end_ : Int} (h : MayW base b l cap end_) {N : Nat} (hN : b.length ≤ N) (hM : N ≤ 140737488355328) : ∀ s ∈ l, Fits base b N s := fun s hs => by
  have ho := h.can.one s hs
  have h1 := h.lo s.a ⟨s, hs, Int.le_refl _, ho.2.1⟩
  have h2 := upto_lt (base := base) h.can (n := s.b - 1) ⟨s, hs, by omega, by omega⟩
  have h3 := h.bl
  exact ⟨h1, ho.2.1, by omega, hN, hM, h.b0, ho.2.2⟩
def putB (base at_ low high : Int) (b bs : List AV) (l : List Spn) : List AV :=
  l.foldl (cpyR base b (putN base b (uptoP base (addR l ⟨low, high⟩)))) (putR base at_ low high b bs (uptoP base (addR l ⟨low, high⟩)))
theorem putN_eq {base u : Int} {b : List AV} (h0 : 0 ≤ base) (h1 : b.length + base ≤ u) (h2 : u ≤ base + 65536) (h3 : base ≤ 2305843009213693952) : (putN base b u : Int) = u - base := by
  unfold putN
  rw [List.length_take, List.length_replicate]
  have e1 : IntKind.wrap IntKind.i64 (u - base) = u - base := by rw [IntKind.wrap_i64]; omega
  have e2 : IntKind.wrap IntKind.i64 (u - base - b.length) = u - base - b.length := by rw [IntKind.wrap_i64]; omega
  rw [e1, e2]; omega
theorem putZ_spec {base u : Int} {b : List AV} (hb : IsB b) (h0 : 0 ≤ base) (h1 : b.length + base ≤ u) (h2 : u ≤ base + 65536) (h3 : base ≤ 2305843009213693952) :
    IsB (putZ base b u) ∧ (putZ base b u).length = putN base b u ∧ ∀ k, byteAt (putZ base b u) k = byteAt b k := by
  unfold putZ putN
  refine ⟨IsB.append (IsB.take hb _) (IsB.replicate _ _), by rw [List.length_append], fun k => ?_⟩
  rw [List.take_length]
  by_cases h : k < b.length
  · rw [byteAt_left h]
  · rw [byteAt_right (by omega), byteAt_zeros, byteAt_over (by omega)]
theorem putR_spec {base at_ low high u : Int} {b bs : List AV} (hb : IsB b) (hbs : IsB bs) (h0 : 0 ≤ base) (h1 : b.length + base ≤ u) (h2 : u ≤ base + 65536) (h3 : base ≤ 2305843009213693952)
    (z0 : 0 ≤ at_) (z1 : base ≤ low) (z2 : at_ ≤ low) (z3 : low < high) (z4 : high ≤ at_ + bs.length) (z5 : high ≤ u) (hl : bs.length ≤ 140737488355) :
    IsB (putR base at_ low high b bs u) ∧ (putR base at_ low high b bs u).length = putN base b u ∧
      ∀ k : Nat, k < putN base b u → byteAt (putR base at_ low high b bs u) k = if low ≤ base + k ∧ base + k < high then byteAt bs (base + k - at_).toNat else byteAt b k := by
  obtain ⟨q1, q2, q3⟩ := putZ_spec hb h0 h1 h2 h3
  have hN := putN_eq (b := b) h0 h1 h2 h3
  unfold putR
  generalize putN base b u = N at *
  generalize putZ base b u = Z at *
  have e1 : IntKind.wrap IntKind.i64 (low - base) = low - base := by rw [IntKind.wrap_i64]; omega
  have e2 : IntKind.wrap IntKind.i64 (low - at_) = low - at_ := by rw [IntKind.wrap_i64]; omega
  have e3 : IntKind.wrap IntKind.i64 (high - at_) = high - at_ := by rw [IntKind.wrap_i64]; omega
  rw [e1, e2, e3]
  obtain ⟨p, hp⟩ : ∃ p : Nat, (p : Int) = low - base := ⟨(low - base).toNat, by omega⟩
  obtain ⟨x, hx⟩ : ∃ p : Nat, (p : Int) = low - at_ := ⟨(low - at_).toNat, by omega⟩
  obtain ⟨y, hy⟩ : ∃ p : Nat, (p : Int) = high - at_ := ⟨(high - at_).toNat, by omega⟩
  rw [← hp, ← hx, ← hy]
  simp only [Int.toNat_natCast, Nat.zero_add]
  have l0 : (List.drop x (List.take y bs)).length = y - x := by rw [List.length_drop, List.length_take]; omega
  have l1 : (List.take p Z).length = p := by rw [List.length_take]; omega
  have l2 : (List.take (N - p) (List.drop x (List.take y bs))).length = y - x := by rw [List.length_take, l0]; omega
  have l3 : min (List.drop x (List.take y bs)).length (N - p) = y - x := by rw [l0]; omega
  rw [l3]
  refine ⟨IsB.append (IsB.take q1 _) (IsB.append (IsB.take (IsB.drop (IsB.take hbs _) _) _) (IsB.drop q1 _)), ?_, fun k hk => ?_⟩
  · rw [List.length_append, List.length_append, l1, l2, List.length_drop]; omega
  · by_cases c1 : k < p
    · rw [byteAt_left (by omega), byteAt_take c1, q3, if_neg (by omega)]
    · rw [byteAt_right (by omega), l1]
      by_cases c2 : k - p < y - x
      · rw [byteAt_left (by omega), byteAt_take (by omega), byteAt_drop, byteAt_take (by omega), if_pos (by omega), show (base + k - at_).toNat = x + (k - p) by omega]
      · rw [byteAt_right (by omega), l2, byteAt_drop, q3, if_neg (by omega), show p + (y - x) + (k - p - (y - x)) = k by omega]
open Classical in
structure PutF (base at_ low high : Int) (b bs : List AV) (l : List Spn) (cap : Int) : Prop where
  ge : addR l ⟨low, high⟩ = addL l ⟨low, high⟩
  can : Can (addR l ⟨low, high⟩)
  me : ∀ n, mem (addR l ⟨low, high⟩) n ↔ mem l n ∨ (low ≤ n ∧ n < high)
  gl : (addR l ⟨low, high⟩).length ≤ 1000
  y1 : high ≤ uptoP base (addR l ⟨low, high⟩)
  y2 : uptoP base (addR l ⟨low, high⟩) ≤ edgeP base cap
  y3 : b.length + base ≤ uptoP base (addR l ⟨low, high⟩)
  pu : PuP base b (putR base at_ low high b bs (uptoP base (addR l ⟨low, high⟩))) l (addR l ⟨low, high⟩) (putN base b (uptoP base (addR l ⟨low, high⟩)))
  hB : IsB (putB base at_ low high b bs l)
  lB : ((putB base at_ low high b bs l).length : Int) = uptoP base (addR l ⟨low, high⟩) - base
  by_ : ∀ k : Nat, k < (putB base at_ low high b bs l).length → byteAt (putB base at_ low high b bs l) k = if mem l (base + k) then byteAt b k else if low ≤ base + k ∧ base + k < high then byteAt bs (base + k - at_).toNat else 0
theorem addE_0 {l : List Spn} {s : Spn} (h : addE l s = 0) : addR l s = addL l s ∧ (addL l s).length ≤ 1000 := by
  refine ⟨by unfold addR; rw [if_pos h], ?_⟩
  unfold addE at h
  split at h
  · split at h
    · omega
    · omega
  · omega
open Classical in
theorem put_facts {base at_ low high : Int} {b bs : List AV} {l : List Spn} {cap end_ : Int} (hm : MayW base b l cap end_) (hb : IsB b) (hbs : IsB bs) (hl : bs.length ≤ 140737488355)
    (z0 : 0 ≤ at_) (z1 : base ≤ low) (z2 : at_ ≤ low) (z3 : low < high) (z4 : high ≤ at_ + bs.length) (z5 : high ≤ edgeP base cap) (y4 : addE l ⟨low, high⟩ = 0) : PutF base at_ low high b bs l cap := by
  obtain ⟨ge, gl⟩ := addE_0 y4
  have he := hm.edge
  have hs : 0 ≤ (⟨low, high⟩ : Spn).a ∧ (⟨low, high⟩ : Spn).a < (⟨low, high⟩ : Spn).b ∧ (⟨low, high⟩ : Spn).b ≤ 4611686018427387904 := by
    have := hm.b0; simp only; omega
  have can : Can (addR l ⟨low, high⟩) := by rw [ge]; exact addL_can hm.can hs
  have me : ∀ n, mem (addR l ⟨low, high⟩) n ↔ mem l n ∨ (low ≤ n ∧ n < high) := fun n => by rw [ge]; exact addL_mem hm.can hs n
  have y1 : high ≤ uptoP base (addR l ⟨low, high⟩) := by
    have := upto_lt (base := base) can ((me (high - 1)).2 (.inr ⟨by omega, by omega⟩)); omega
  have y2 : uptoP base (addR l ⟨low, high⟩) ≤ edgeP base cap := upto_le can he.2.2 fun n hn => by
    rcases (me n).1 hn with h | h
    · have := upto_lt (base := base) hm.can h; have := hm.ue; omega
    · omega
  have y3 : b.length + base ≤ uptoP base (addR l ⟨low, high⟩) := by
    have h1 := hm.bl
    have h2 : uptoP base l ≤ uptoP base (addR l ⟨low, high⟩) := upto_le hm.can (by omega) fun n hn => upto_lt can ((me n).2 (.inl hn))
    omega
  have hN := putN_eq (b := b) hm.b0 y3 (by omega) hm.b1
  obtain ⟨r1, r2, r3⟩ := putR_spec hb hbs hm.b0 y3 (by omega) hm.b1 z0 z1 z2 z3 z4 y1 hl
  have ft : ∀ s ∈ l, Fits base b (putN base b (uptoP base (addR l ⟨low, high⟩))) s := hm.fits (by omega) (by omega)
  obtain ⟨f1, f2, f3⟩ := fold_spec hb l _ r1 r2 ft
  refine ⟨ge, can, me, by rw [ge]; exact gl, y1, y2, y3, ⟨hb, r1, r2, hm.ll, by rw [ge]; omega, ft, by omega, by omega, hm.b0⟩, f1, ?_, fun k hk => ?_⟩
  · unfold putB; rw [f2]; exact hN
  · have hk' : k < putN base b (uptoP base (addR l ⟨low, high⟩)) := by unfold putB at hk; rw [f2] at hk; exact hk
    obtain ⟨g1, g2⟩ := f3 k hk'
    by_cases c : mem l (base + k)
    · rw [if_pos c]; exact g1 c
    · rw [if_neg c]
      refine (g2 c).trans ?_
      rw [r3 k hk']
      by_cases c2 : low ≤ base + k ∧ base + k < high
      · rw [if_pos c2, if_pos c2]
      · rw [if_neg c2, if_neg c2]
        by_cases c3 : k < b.length
        · exact hm.bz k c3 c
        · exact byteAt_over (by omega)
open Classical in
theorem put_may {base at_ low high : Int} {b bs : List AV} {l : List Spn} {cap end_ : Int} (hm : MayW base b l cap end_) (f : PutF base at_ low high b bs l cap) (z1 : base ≤ low) (he : end_ = -1 ∨ high ≤ end_) :
    MayW base (putB base at_ low high b bs l) (addR l ⟨low, high⟩) cap end_ := by
  refine ⟨hm.c0, hm.c1, hm.b0, hm.b1, f.gl, f.can, fun n hn => ?_, f.y2, f.lB, ?_, fun k hk hn => ?_⟩
  · rcases (f.me n).1 hn with h | h
    · exact hm.lo n h
    · omega
  · rcases hm.en with h | h
    · exact .inl h
    · rcases he with h2 | h2
      · exact .inl h2
      · refine .inr (upto_le f.can (by have := hm.ge; omega) fun n hn => ?_)
        rcases (f.me n).1 hn with h3 | h3
        · have := upto_lt (base := base) hm.can h3; omega
        · omega
  · rw [f.by_ k hk, if_neg (fun h => hn ((f.me _).2 (.inl h))), if_neg (fun h => hn ((f.me _).2 (.inr h)))]
end Vai.L06
