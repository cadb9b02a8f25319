/- Law 12: what was sent, as plain lists: what holds of it. -/
import Derived.Test.YtcnjoldhaijbmaaF12
import Derived.Test.YtcnjoldhaijbmaaA04
namespace Vai.L12
open Go Go.Proofs Vai Vai.R2 Vai.L04
set_option maxRecDepth 100000
set_option linter.unusedVariables false
set_option linter.unusedSimpArgs false

theorem one_b {x : Snt} (h : x.one = true) : (0 ≤ x.seq ∧ x.seq ≤ 1152921504606846976) ∧ (0 ≤ x.at_ ∧ x.at_ ≤ 1152921504606846976) ∧ (1 ≤ x.len ∧ x.len ≤ 1460) ∧ (1 ≤ x.tries ∧ x.tries ≤ 1000) ∧ (x.came = true → x.lost = false) := by
  unfold Snt.one oneB at h
  simp only [Bool.and_eq_true, decide_eq_true_eq] at h
  refine ⟨by omega, by omega, by omega, by omega, fun hc => ?_⟩
  have := h.2
  rw [hc] at this
  simpa using this

theorem W_id {n : Int} (h : -9223372036854775808 ≤ n ∧ n ≤ 9223372036854775807) : IntKind.wrap IntKind.i64 n = n := by rw [IntKind.wrap_i64]; omega

/-- From a place on, each behind the other. -/
def Ch : Int → List Snt → Prop
  | _, [] => True
  | s, x :: l => x.one = true ∧ x.seq = s ∧ Ch (s + x.len) l
def tot : List Snt → Int
  | [] => 0
  | x :: l => x.len + tot l
def Snt.opn (x : Snt) : Bool := !x.came && !x.lost
def fl : List Snt → Int
  | [] => 0
  | x :: l => (if x.opn = true then x.len else 0) + fl l
def fst (l : List Snt) : Int := (nth l 0).seq

theorem nth_zero (x : Snt) (l : List Snt) : nth (x :: l) 0 = x := rfl
theorem nth_succ (x : Snt) (l : List Snt) (i : Nat) : nth (x :: l) (i + 1) = nth l i := rfl

theorem okAt_succ (x : Snt) (l : List Snt) (i : Nat) (hi : 0 < i) : okAt (x :: l) (i + 1) ↔ okAt l i := by
  unfold okAt
  obtain ⟨j, rfl⟩ : ∃ j, i = j + 1 := ⟨i - 1, by omega⟩
  simp only [nth_succ, Nat.add_sub_cancel]
  simp
theorem okAt_all_cons (x : Snt) (l : List Snt) : (∀ i, i < (x :: l).length → okAt (x :: l) i) ↔ x.one = true ∧ (l ≠ [] → (nth l 0).seq = IntKind.wrap IntKind.i64 (x.seq + x.len)) ∧ ∀ i, i < l.length → okAt l i := by
  constructor
  · intro h
    refine ⟨(h 0 (by simp)).1, fun hl => ?_, fun i hi => ?_⟩
    · have : 0 < l.length := List.length_pos_iff.2 hl
      exact (h 1 (by simp; omega)).2 (by omega)
    · rcases Nat.eq_zero_or_pos i with rfl | hp
      · have := h 1 (by simp; omega)
        exact ⟨this.1, fun h => absurd h (by omega)⟩
      · exact (okAt_succ x l i hp).1 (h (i + 1) (by simp; omega))
  · intro ⟨h1, h2, h3⟩ i hi
    rcases Nat.eq_zero_or_pos i with rfl | hp
    · exact ⟨h1, fun h => absurd h (by omega)⟩
    · obtain ⟨j, rfl⟩ : ∃ j, i = j + 1 := ⟨i - 1, by omega⟩
      have hj : j < l.length := by simp at hi; omega
      rcases Nat.eq_zero_or_pos j with rfl | hq
      · refine ⟨(h3 0 hj).1, fun _ => h2 (by rintro rfl; simp at hj)⟩
      · exact (okAt_succ x l j hq).2 (h3 j hj)
theorem chain_Ch : ∀ (l : List Snt), (∀ i, i < l.length → okAt l i) ↔ Ch (fst l) l
  | [] => ⟨fun _ => trivial, fun _ i hi => by simp at hi⟩
  | [x] => by
    rw [okAt_all_cons]
    unfold Ch Ch fst
    rw [nth_zero]
    simp
  | x :: y :: l => by
    rw [okAt_all_cons, chain_Ch (y :: l)]
    have ec : Ch (fst (x :: y :: l)) (x :: y :: l) ↔ x.one = true ∧ x.seq = x.seq ∧ Ch (x.seq + x.len) (y :: l) := Iff.rfl
    rw [ec, nth_zero, show fst (y :: l) = y.seq from rfl]
    constructor
    · intro ⟨h1, h2, h3⟩
      have h2 := h2 (by simp)
      obtain ⟨b1, _, b3, _⟩ := one_b h1
      rw [W_id (by omega)] at h2
      rw [h2] at h3
      exact ⟨h1, rfl, h3⟩
    · intro ⟨h1, _, h3⟩
      obtain ⟨b1, _, b3, _⟩ := one_b h1
      have e : y.seq = x.seq + x.len := h3.2.1
      rw [W_id (by omega)]
      refine ⟨h1, fun _ => e, ?_⟩
      rw [e]; exact h3

theorem Ch.mem {x : Snt} : ∀ {s : Int} {l : List Snt}, Ch s l → x ∈ l → x.one = true
  | _, [], _, h => by cases h
  | s, y :: l, hc, h => by
    rcases List.mem_cons.1 h with rfl | h
    · exact hc.1
    · exact hc.2.2.mem h
theorem Ch.app : ∀ {s : Int} {l m : List Snt}, Ch s (l ++ m) ↔ Ch s l ∧ Ch (s + tot l) m
  | s, [], m => by simp [Ch, tot]
  | s, x :: l, m => by
    simp only [List.cons_append, Ch, tot, Ch.app (l := l), and_assoc, Int.add_assoc]
theorem tot_app : ∀ (l m : List Snt), tot (l ++ m) = tot l + tot m
  | [], m => by simp [tot]
  | x :: l, m => by simp only [List.cons_append, tot, tot_app l m, Int.add_assoc]
theorem fl_app : ∀ (l m : List Snt), fl (l ++ m) = fl l + fl m
  | [], m => by simp [fl]
  | x :: l, m => by simp only [List.cons_append, fl, fl_app l m, Int.add_assoc]
theorem Ch.tot_b : ∀ {s : Int} {l : List Snt}, Ch s l → (l.length : Int) ≤ tot l ∧ tot l ≤ 1460 * l.length
  | _, [], _ => by simp [tot]
  | s, x :: l, h => by
    have := h.2.2.tot_b
    obtain ⟨_, _, b3, _⟩ := one_b h.1
    simp only [tot, List.length_cons]; omega
theorem Ch.fl_b : ∀ {s : Int} {l : List Snt}, Ch s l → 0 ≤ fl l ∧ fl l ≤ tot l
  | _, [], _ => by simp [fl, tot]
  | s, x :: l, h => by
    have := h.2.2.fl_b
    obtain ⟨_, _, b3, _⟩ := one_b h.1
    simp only [tot, fl]; split <;> omega
theorem Ch.nth_seq : ∀ {s : Int} {l : List Snt}, Ch s l → ∀ i, i < l.length → (nth l i).one = true ∧ (nth l i).seq = s + tot (l.take i)
  | _, [], _, i, hi => by simp at hi
  | s, x :: l, h, 0, hi => ⟨h.1, by simp [tot, nth_zero, h.2.1]⟩
  | s, x :: l, h, i + 1, hi => by
    have := h.2.2.nth_seq i (by simp at hi; omega)
    simp only [nth_succ, List.take_succ_cons, tot]
    exact ⟨this.1, by rw [this.2]; omega⟩
theorem take_snoc {l : List Snt} {i : Nat} (hi : i < l.length) : l.take (i + 1) = l.take i ++ [nth l i] := by
  rw [List.take_succ_eq_append_getElem hi]
  congr 2
  unfold nth
  rw [List.getD_eq_getElem?_getD, List.getElem?_eq_getElem hi]; rfl
theorem Ch.take {s : Int} {l : List Snt} (h : Ch s l) (i : Nat) : Ch s (l.take i) := by
  have := h
  rw [← List.take_append_drop i l, Ch.app] at this
  exact this.1
/-- Where the last one ends. -/
theorem Ch.last {s : Int} {l : List Snt} (h : Ch s l) (hl : l ≠ []) : (nth l (l.length - 1)).seq + (nth l (l.length - 1)).len = s + tot l := by
  have hp : 0 < l.length := List.length_pos_iff.2 hl
  have h1 := (h.nth_seq (l.length - 1) (by omega)).2
  have h2 := take_snoc (l := l) (i := l.length - 1) (by omega)
  have h3 : l.take (l.length - 1 + 1) = l := List.take_of_length_le (by omega)
  rw [h3] at h2
  have h4 := congrArg tot h2
  rw [tot_app] at h4
  simp only [tot] at h4
  omega
/-- Places differ. -/
theorem Ch.apart {s : Int} {l : List Snt} (h : Ch s l) {i j : Nat} (hi : i < j) (hj : j < l.length) : (nth l i).seq + (nth l i).len ≤ (nth l j).seq := by
  have h1 := (h.nth_seq i (by omega)).2
  have h2 := (h.nth_seq j hj).2
  have h3 := take_snoc (l := l) (i := i) (by omega)
  have h4 : tot (l.take (i + 1)) ≤ tot (l.take j) := by
    have e : l.take j = l.take (i + 1) ++ (l.take j).drop (i + 1) := by
      conv => lhs; rw [← List.take_append_drop (i + 1) (l.take j)]
      rw [List.take_take]; congr 2; omega
    have hc := h.take j
    rw [e, Ch.app] at hc
    have := hc.2.tot_b
    rw [e, tot_app]
    omega
  rw [h3, tot_app] at h4
  simp only [tot] at h4
  omega
theorem Ch.seq_inj {s : Int} {l : List Snt} (h : Ch s l) {i j : Nat} (hi : i < l.length) (hj : j < l.length) (e : (nth l i).seq = (nth l j).seq) : i = j := by
  rcases Nat.lt_trichotomy i j with h1 | h1 | h1
  · have := h.apart h1 hj
    have := (one_b (h.nth_seq i hi).1).2.2.1
    omega
  · exact h1
  · have := h.apart h1 hi
    have := (one_b (h.nth_seq j hj).1).2.2.1
    omega
theorem chainB_Ch {l : List Snt} : chainB l = true ↔ Ch (fst l) l := chainB_iff.trans (chain_Ch l)
theorem mayS_iff {l : List Snt} : mayS l = true ↔ l.length ≤ 500 ∧ Ch (fst l) l := by
  unfold mayS
  rw [Bool.and_eq_true, decide_eq_true_eq, chainB_Ch]
theorem Ch.self {s : Int} {l : List Snt} (h : Ch s l) : Ch (fst l) l := by
  cases l with
  | nil => trivial
  | cons x l => have e : x.seq = s := h.2.1; show Ch x.seq (x :: l); rw [e]; exact h
noncomputable def flightS (l : List Snt) : Int := if mayS l = true then fl l else 0
noncomputable def spA (l : List Snt) : Int := if l ≠ [] ∧ mayS l = true then fst l else 0
noncomputable def spB (l : List Snt) : Int := if l ≠ [] ∧ mayS l = true then fst l + tot l else 0
/-- Send. -/
noncomputable def sendE (l : List Snt) (x : Snt) : Int := if chainB (l ++ [x]) = true ∧ l.length ≤ 500 then (if l.length + 1 ≤ 500 then 0 else 4) else 1
noncomputable def sendL (l : List Snt) (x : Snt) : List Snt := if sendE l x = 0 then l ++ [x] else []
theorem sendE_zero {l : List Snt} {x : Snt} : sendE l x = 0 ↔ mayS (l ++ [x]) = true := by
  unfold sendE mayS
  simp only [Bool.and_eq_true, decide_eq_true_eq, List.length_append, List.length_cons, List.length_nil]
  constructor
  · intro h
    split at h
    · rename_i h1
      split at h
      · rename_i h2; exact ⟨by omega, h1.1⟩
      · simp at h
    · simp at h
  · intro h
    rw [if_pos ⟨h.2, by omega⟩, if_pos (by omega)]
/-- Again. -/
def Snt.again (x : Snt) (at_ : Int) : Snt := { x with at_ := at_, lost := false, tries := x.tries + 1 }
def idx (l : List Snt) (seq : Int) : Nat := l.findIdx (fun x => x.seq == seq)
noncomputable def againE (l : List Snt) (seq at_ : Int) : Int :=
  if mayS l = true ∧ 0 ≤ at_ ∧ at_ ≤ 1152921504606846976 then (if idx l seq < l.length ∧ (nth l (idx l seq)).came = false ∧ (nth l (idx l seq)).tries ≠ 1000 then 0 else 3) else 1
noncomputable def againL (l : List Snt) (seq at_ : Int) : List Snt := if againE l seq at_ = 0 then l.set (idx l seq) ((nth l (idx l seq)).again at_) else []
/-- Heard. -/
def gone (got : Int) (x : Snt) : Bool := decide (x.seq + x.len ≤ got)
def cameB (got : Int) (p : List Spn) (x : Snt) : Bool := gone got x || hasP p ⟨x.seq, x.seq + x.len⟩
def heardX (got : Int) (p : List Spn) (x : Snt) : Snt := if cameB got p x = true ∧ x.came = false then { x with came := true, lost := false } else x
def stayL (got : Int) (p : List Spn) (l : List Snt) : List Snt := (l.filter fun x => !gone got x).map (heardX got p)
def toldL (got : Int) (p : List Spn) (l : List Snt) : List Snt := l.filter fun x => cameB got p x && !x.came
noncomputable def outP (l : List Snt) (s : Spn) : Bool := decide (s.a < spA l ∨ s.b > spB l)
noncomputable def heardE (l : List Snt) (got : Int) (p : List Spn) : Int :=
  if mayS l = true ∧ mayP p = true then (if l ≠ [] ∧ spA l ≤ got ∧ got ≤ spB l ∧ p.any (outP l) = false then 0 else 3) else 1
noncomputable def heardL (l : List Snt) (got : Int) (p : List Spn) : List Snt := if heardE l got p = 0 then stayL got p l else []
noncomputable def heardT (l : List Snt) (got : Int) (p : List Spn) : List Snt := if heardE l got p = 0 then toldL got p l else []

/-! ### What holds -/
theorem spA_le (l : List Snt) : spA l ≤ spB l ∧ flightS l ≤ spB l - spA l ∧ 0 ≤ flightS l := by
  unfold spA spB flightS
  by_cases h : mayS l = true
  · obtain ⟨hl, hc⟩ := mayS_iff.1 h
    have h1 := hc.tot_b
    have h2 := hc.fl_b
    by_cases hn : l = []
    · subst hn; simp [fl]
    · rw [if_pos ⟨hn, h⟩, if_pos ⟨hn, h⟩, if_pos h]; omega
  · rw [if_neg (fun k => h k.2), if_neg (fun k => h k.2), if_neg h]; omega
theorem fst_app {l m : List Snt} (h : l ≠ []) : fst (l ++ m) = fst l := by
  cases l with
  | nil => exact absurd rfl h
  | cons x l => rfl
theorem send_law {l : List Snt} {x : Snt} (h : mayS l = true) (he : sendE l x = 0) :
    spB (l ++ [x]) = x.seq + x.len ∧ (l ≠ [] → spA (l ++ [x]) = spA l ∧ x.seq = spB l) ∧ flightS (l ++ [x]) = flightS l + (if x.opn = true then x.len else 0) ∧ spA (l ++ [x]) = fst (l ++ [x]) := by
  have hm := sendE_zero.1 he
  obtain ⟨hl, hc⟩ := mayS_iff.1 hm
  have hne : l ++ [x] ≠ [] := by simp
  have hcs := Ch.app.1 hc
  have e1 : x.seq = fst (l ++ [x]) + tot l := hcs.2.2.1
  unfold spA spB flightS
  rw [if_pos ⟨hne, hm⟩, if_pos ⟨hne, hm⟩, if_pos hm, if_pos h, tot_app, fl_app]
  simp only [tot, fl]
  refine ⟨by omega, fun hn => ?_, by omega, trivial⟩
  rw [if_pos ⟨hn, h⟩, if_pos ⟨hn, h⟩, fst_app hn]
  rw [fst_app hn] at e1
  exact ⟨rfl, e1⟩
theorem idx_spec {l : List Snt} {seq : Int} (h : idx l seq < l.length) : (nth l (idx l seq)).seq = seq := by
  unfold idx at h ⊢
  have := List.findIdx_getElem (w := h)
  unfold nth
  rw [List.getD_eq_getElem?_getD, List.getElem?_eq_getElem h]
  simpa using this
theorem set_split (l : List Snt) (i : Nat) (y : Snt) (hi : i < l.length) : l = l.take i ++ nth l i :: l.drop (i + 1) ∧ l.set i y = l.take i ++ y :: l.drop (i + 1) := by
  constructor
  · conv => lhs; rw [← List.take_append_drop i l]
    congr 1
    rw [List.drop_eq_getElem_cons hi]
    congr 1
    unfold nth
    rw [List.getD_eq_getElem?_getD, List.getElem?_eq_getElem hi]; rfl
  · rw [List.set_eq_take_append_cons_drop, if_pos hi]
theorem nth_set (l : List Snt) (i j : Nat) (y : Snt) (hi : i < l.length) : nth (l.set i y) j = if j = i then y else nth l j := by
  unfold nth
  simp only [List.getD_eq_getElem?_getD, List.getElem?_set]
  by_cases h : j = i
  · subst h; simp [hi]
  · rw [if_neg (fun e => h e.symm), if_neg h]
theorem fst_set (l : List Snt) (i : Nat) (y : Snt) (hi : i < l.length) (h : y.seq = (nth l i).seq) : fst (l.set i y) = fst l := by
  unfold fst
  rw [nth_set l i 0 y hi]
  split
  · rename_i e; subst e; exact h
  · rfl
theorem again_one {x : Snt} {at_ : Int} (h : x.one = true) (ha : 0 ≤ at_ ∧ at_ ≤ 1152921504606846976) (ht : x.tries ≠ 1000) : (x.again at_).one = true := by
  unfold Snt.one oneB at h ⊢
  rw [Bool.and_eq_true, decide_eq_true_eq] at h
  obtain ⟨h1, h2⟩ := h
  have h3 : x.tries + 1 ≤ 1000 := by omega
  rw [Bool.and_eq_true, decide_eq_true_eq]
  show ((0 ≤ x.seq ∧ x.seq ≤ 1152921504606846976 ∧ 0 ≤ x.dsn ∧ x.dsn ≤ 1152921504606846976 ∧ 0 ≤ at_ ∧ at_ ≤ 1152921504606846976 ∧ 0 ≤ x.total ∧ x.total ≤ 1152921504606846976 ∧ 0 ≤ x.last ∧ x.last ≤ 1152921504606846976 ∧ 1 ≤ x.len ∧ x.len ≤ 1460 ∧ 1 ≤ x.tries + 1 ∧ x.tries + 1 ≤ 1000)) ∧ (!(x.came && false)) = true
  refine ⟨⟨h1.1, h1.2.1, h1.2.2.1, h1.2.2.2.1, ha.1, ha.2, h1.2.2.2.2.2.2.1, h1.2.2.2.2.2.2.2.1, h1.2.2.2.2.2.2.2.2.1, h1.2.2.2.2.2.2.2.2.2.1, by omega, by omega, by omega, by omega⟩, by simp⟩
theorem again_law {l : List Snt} {seq at_ : Int} (he : againE l seq at_ = 0) :
    mayS l = true ∧ idx l seq < l.length ∧ (nth l (idx l seq)).came = false ∧ (nth l (idx l seq)).seq = seq ∧ (∀ j, j < l.length → ((nth l j).seq = seq ↔ j = idx l seq)) ∧
    mayS (againL l seq at_) = true ∧ spA (againL l seq at_) = spA l ∧ spB (againL l seq at_) = spB l ∧ flightS l ≤ flightS (againL l seq at_) ∧ flightS (againL l seq at_) ≤ flightS l + 1460 ∧ (againL l seq at_).length = l.length := by
  have hE := he
  unfold againE at he
  split at he
  case isFalse => simp at he
  rename_i hm
  split at he
  case isFalse => simp at he
  rename_i hi
  obtain ⟨hi, hcm, htr⟩ := hi
  obtain ⟨hl, hc⟩ := mayS_iff.1 hm.1
  have hs := idx_spec hi
  have ho := (hc.nth_seq _ hi).1
  have hb := one_b ho
  have eL : againL l seq at_ = l.set (idx l seq) ((nth l (idx l seq)).again at_) := if_pos hE
  obtain ⟨e1, e2⟩ := set_split l (idx l seq) ((nth l (idx l seq)).again at_) hi
  have hf := fst_set l (idx l seq) ((nth l (idx l seq)).again at_) hi rfl
  have hc2 : Ch (fst l) (l.set (idx l seq) ((nth l (idx l seq)).again at_)) := by
    rw [e2, Ch.app]
    rw [e1, Ch.app] at hc
    have hc' := hc
    rw [← e1] at hc'
    exact ⟨hc'.1, again_one ho ⟨hm.2.1, hm.2.2⟩ htr, hc'.2.2.1, hc'.2.2.2⟩
  have ht : tot (l.set (idx l seq) ((nth l (idx l seq)).again at_)) = tot l := by
    rw [e2]
    conv => rhs; rw [e1]
    rw [tot_app, tot_app]; rfl
  have hfl : fl (l.set (idx l seq) ((nth l (idx l seq)).again at_)) = fl l + (if (nth l (idx l seq)).lost = true then (nth l (idx l seq)).len else 0) := by
    have q0 : fl l = fl (l.take (idx l seq)) + fl (nth l (idx l seq) :: l.drop (idx l seq + 1)) := by
      conv => lhs; rw [e1]
      rw [fl_app]
    rw [e2, q0, fl_app]
    have q1 : ((nth l (idx l seq)).again at_).opn = true := by unfold Snt.opn Snt.again; simp [hcm]
    have q2 : (nth l (idx l seq)).opn = !(nth l (idx l seq)).lost := by unfold Snt.opn; simp [hcm]
    have q3 : ((nth l (idx l seq)).again at_).len = (nth l (idx l seq)).len := rfl
    simp only [fl, q1, q2, q3, if_true]
    cases (nth l (idx l seq)).lost <;> simp <;> omega
  have hne : l ≠ [] := by rintro rfl; simp at hi
  have hlen : (l.set (idx l seq) ((nth l (idx l seq)).again at_)).length = l.length := List.length_set
  have hne2 : l.set (idx l seq) ((nth l (idx l seq)).again at_) ≠ [] := by intro h; rw [h] at hlen; simp at hlen; exact hne (List.length_eq_zero_iff.1 hlen.symm)
  have hm2 : mayS (l.set (idx l seq) ((nth l (idx l seq)).again at_)) = true := mayS_iff.2 ⟨by rw [hlen]; exact hl, hc2.self⟩
  rw [eL]
  refine ⟨hm.1, hi, hcm, hs, fun j hj => ⟨fun e => hc.seq_inj hj hi (e.trans hs.symm), fun e => by rw [e]; exact hs⟩, hm2, ?_, ?_, ?_, ?_, hlen⟩
  · unfold spA; rw [if_pos ⟨hne2, hm2⟩, if_pos ⟨hne, hm.1⟩, hf]
  · unfold spB; rw [if_pos ⟨hne2, hm2⟩, if_pos ⟨hne, hm.1⟩, hf, ht]
  · unfold flightS; rw [if_pos hm.1, if_pos hm2, hfl]; split <;> omega
  · unfold flightS; rw [if_pos hm.1, if_pos hm2, hfl]; split <;> omega
/-! Heard -/
theorem heardX_keeps (got : Int) (p : List Spn) (x : Snt) : (heardX got p x).seq = x.seq ∧ (heardX got p x).len = x.len ∧ (x.one = true → (heardX got p x).one = true) := by
  unfold heardX
  split
  · refine ⟨rfl, rfl, fun h => ?_⟩
    unfold Snt.one oneB at h ⊢
    simp only [Bool.and_eq_true, decide_eq_true_eq] at h ⊢
    exact ⟨h.1, by simp⟩
  · exact ⟨rfl, rfl, id⟩
theorem Ch.heard {got : Int} {p : List Spn} : ∀ {s : Int} {l : List Snt}, Ch s l → Ch s (l.map (heardX got p))
  | _, [], _ => trivial
  | s, x :: l, h => by
    obtain ⟨a, b, c⟩ := heardX_keeps got p x
    refine ⟨c h.1, a.trans h.2.1, ?_⟩
    rw [b]; exact h.2.2.heard
theorem stay_all {got : Int} : ∀ {s : Int} {l : List Snt}, Ch s l → got ≤ s → l.filter (fun x => !gone got x) = l
  | _, [], _, _ => rfl
  | s, x :: l, h, hg => by
    have hb := one_b h.1
    have e : gone got x = false := by unfold gone; rw [decide_eq_false_iff_not]; have := h.2.1; omega
    rw [List.filter_cons_of_pos (by simp [e]), stay_all h.2.2 (by omega)]
theorem Ch.filt {got : Int} : ∀ {s : Int} {l : List Snt}, Ch s l → ∃ s', Ch s' (l.filter fun x => !gone got x)
  | s, [], _ => ⟨0, trivial⟩
  | s, x :: l, h => by
    cases e : gone got x with
    | true => rw [List.filter_cons_of_neg (by simp [e])]; exact h.2.2.filt
    | false =>
      have : got ≤ s + x.len := by unfold gone at e; rw [decide_eq_false_iff_not] at e; have := h.2.1; omega
      rw [List.filter_cons_of_pos (by simp [e]), stay_all h.2.2 this]
      exact ⟨s, h⟩
theorem stay_may {got : Int} {p : List Spn} {l : List Snt} (h : mayS l = true) : mayS (stayL got p l) = true := by
  obtain ⟨hl, hc⟩ := mayS_iff.1 h
  obtain ⟨s, hs⟩ := hc.filt (got := got)
  refine mayS_iff.2 ⟨?_, hs.heard.self⟩
  unfold stayL
  rw [List.length_map]
  have := List.length_filter_le (fun x => !gone got x) l
  omega
theorem stay_len (got : Int) (p : List Spn) (l : List Snt) : (stayL got p l).length ≤ l.length := by
  unfold stayL
  rw [List.length_map]; exact List.length_filter_le _ l
/-- How much of what is told was in flight. -/
def flT : List Snt → Int
  | [] => 0
  | x :: l => (if x.lost = false then x.len else 0) + flT l
theorem stay_fl (got : Int) (p : List Spn) : ∀ (l : List Snt), fl (stayL got p l) = fl l - flT (toldL got p l)
  | [] => rfl
  | x :: l => by
    have ih := stay_fl got p l
    unfold stayL toldL at ih ⊢
    cases hc : x.came with
    | true =>
      have e1 : (cameB got p x && !x.came) = false := by rw [hc]; simp
      have ho : x.opn = false := by unfold Snt.opn; rw [hc]; rfl
      have hx : heardX got p x = x := if_neg (fun k => by rw [hc] at k; cases k.2)
      rw [List.filter_cons_of_neg (p := fun x => cameB got p x && !x.came) (by simp [hc])]
      cases hg : gone got x with
      | true => rw [List.filter_cons_of_neg (by simp [hg])]; simp only [fl, ho]; simp; omega
      | false => rw [List.filter_cons_of_pos (by simp [hg]), List.map_cons, hx]; simp only [fl, ho]; simp; omega
    | false =>
      cases hb : cameB got p x with
      | true =>
        have hx : (heardX got p x).opn = false := by
          unfold heardX
          rw [if_pos ⟨hb, hc⟩]; rfl
        have ho : x.opn = !x.lost := by unfold Snt.opn; rw [hc]; rfl
        rw [List.filter_cons_of_pos (p := fun x => cameB got p x && !x.came) (by simp [hc, hb])]
        cases hg : gone got x with
        | true => rw [List.filter_cons_of_neg (by simp [hg])]; simp only [fl, flT, ho]; cases x.lost <;> simp <;> omega
        | false => rw [List.filter_cons_of_pos (by simp [hg]), List.map_cons]; simp only [fl, flT, hx, ho]; cases x.lost <;> simp <;> omega
      | false =>
        have hg : gone got x = false := by unfold cameB at hb; cases h : gone got x with
          | true => rw [h] at hb; cases hb
          | false => rfl
        have hx : heardX got p x = x := if_neg (fun k => by rw [hb] at k; cases k.1)
        rw [List.filter_cons_of_neg (p := fun x => cameB got p x && !x.came) (by simp [hb]), List.filter_cons_of_pos (by simp [hg]), List.map_cons, hx]
        simp only [fl]; omega
theorem gone_heard (got : Int) (p : List Spn) (x : Snt) : gone got (heardX got p x) = gone got x := by
  unfold gone; rw [(heardX_keeps got p x).1, (heardX_keeps got p x).2.1]
theorem came_heard (got : Int) (p : List Spn) (x : Snt) : cameB got p (heardX got p x) = cameB got p x := by
  unfold cameB; rw [gone_heard, (heardX_keeps got p x).1, (heardX_keeps got p x).2.1]
theorem heard_done (got : Int) (p : List Spn) (x : Snt) : (cameB got p (heardX got p x) && !(heardX got p x).came) = false := by
  rw [came_heard]
  unfold heardX
  split
  · simp
  · rename_i h
    cases h1 : cameB got p x with
    | false => rfl
    | true => cases h2 : x.came with
      | true => rfl
      | false => exact absurd ⟨h1, h2⟩ h
theorem told_again (got : Int) (p : List Spn) (l : List Snt) : toldL got p (stayL got p l) = [] := by
  unfold toldL stayL
  rw [List.filter_eq_nil_iff]
  intro x hx
  obtain ⟨y, _, rfl⟩ := List.mem_map.1 hx
  rw [heard_done]; simp
theorem stay_again (got : Int) (p : List Spn) (l : List Snt) : stayL got p (stayL got p l) = stayL got p l := by
  unfold stayL
  rw [List.filter_map]
  have e1 : ((fun x => !gone got x) ∘ heardX got p) = fun x => !gone got x := by funext x; simp [gone_heard]
  rw [e1, List.filter_filter]
  have e2 : (fun x => (!gone got x) && !gone got x) = fun x => !gone got x := by funext x; simp
  rw [e2, List.map_map]
  congr 1
  funext x
  have := heard_done got p x
  show heardX got p (heardX got p x) = heardX got p x
  conv => lhs; unfold heardX
  refine if_neg fun k => ?_
  have h2 := heard_done got p x
  unfold heardX at h2
  rw [k.1, k.2] at h2
  cases h2
theorem heardE_cases (l : List Snt) (got : Int) (p : List Spn) : heardE l got p = 0 ∨ heardE l got p = 1 ∨ heardE l got p = 3 := by
  unfold heardE; split
  · split <;> simp
  · simp
theorem heardE_may {l : List Snt} {got : Int} {p : List Spn} (h : heardE l got p = 0) : mayS l = true ∧ mayP p = true ∧ l ≠ [] ∧ (spA l ≤ got ∧ got ≤ spB l) ∧ p.any (outP l) = false := by
  unfold heardE at h
  split at h
  · rename_i h1
    split at h
    · rename_i h2; exact ⟨h1.1, h1.2, h2.1, ⟨h2.2.1, h2.2.2.1⟩, h2.2.2.2⟩
    · simp at h
  · simp at h
/-- Heard once more. -/
theorem once_law {l : List Snt} {got : Int} {p : List Spn} (h : heardE l got p = 0) :
    (heardE (stayL got p l) got p = 3 ∨ heardE (stayL got p l) got p = 0) ∧ mayS (stayL got p l) = true ∧ flightS (stayL got p l) = flightS l - flT (toldL got p l) := by
  obtain ⟨h1, h2, _⟩ := heardE_may h
  have h3 := stay_may (got := got) (p := p) h1
  refine ⟨?_, h3, ?_⟩
  · unfold heardE
    rw [if_pos ⟨h3, h2⟩]
    split
    · exact .inr rfl
    · exact .inl rfl
  · unfold flightS
    rw [if_pos h3, if_pos h1, stay_fl]
theorem toldL_nil_from {s : Int} {l : List Snt} (hc : Ch s l) : ∀ got, got ≤ s → toldL got [] l = [] ∧ stayL got [] l = l := by
  intro got hg
  have hf := stay_all hc hg
  have hng : ∀ x ∈ l, gone got x = false := by
    intro x hx
    rw [← hf] at hx
    have := (List.mem_filter.1 hx).2
    simpa using this
  have hnb : ∀ x ∈ l, cameB got [] x = false := fun x hx => by unfold cameB; rw [hng x hx, hasP_nil]; rfl
  constructor
  · unfold toldL; rw [List.filter_eq_nil_iff]; intro x hx; rw [hnb x hx]; simp
  · unfold stayL
    rw [hf]
    conv => rhs; rw [← List.map_id l]
    refine List.map_congr_left fun x hx => ?_
    exact if_neg (fun k => by rw [hnb x hx] at k; cases k.1)
theorem Ch.ends : ∀ {s : Int} {l : List Snt}, Ch s l → ∀ x ∈ l, s ≤ x.seq ∧ x.seq + x.len ≤ s + tot l
  | _, [], _, x, hx => by cases hx
  | s, y :: l, h, x, hx => by
    have hb := one_b h.1
    have ht := h.2.2.tot_b
    have e : y.seq = s := h.2.1
    simp only [tot]
    rcases List.mem_cons.1 hx with rfl | hx
    · omega
    · have := h.2.2.ends x hx
      omega
theorem all_law {l : List Snt} (h : mayS l = true) (hn : l ≠ []) :
    heardE l (spB l) [] = 0 ∧ stayL (spB l) [] l = [] ∧ toldL (spB l) [] l = l.filter (fun x => !x.came) ∧
    heardE l (spA l) [] = 0 ∧ toldL (spA l) [] l = [] ∧ stayL (spA l) [] l = l ∧
    heardE l (spA l) [⟨spA l, spB l⟩] = 0 ∧ (stayL (spA l) [⟨spA l, spB l⟩] l).length = l.length ∧ flightS (stayL (spA l) [⟨spA l, spB l⟩] l) = 0 := by
  obtain ⟨hl, hc⟩ := mayS_iff.1 h
  have eA : spA l = fst l := if_pos ⟨hn, h⟩
  have eB : spB l = fst l + tot l := if_pos ⟨hn, h⟩
  have htb := hc.tot_b
  have hpos : 0 < l.length := List.length_pos_iff.2 hn
  have hf0 := one_b (hc.nth_seq 0 hpos).1
  have hfs : fst l = (nth l 0).seq := rfl
  obtain ⟨hle, _, _⟩ := spA_le l
  have hpn : mayP [] = true := rfl
  have hend := hc.ends
  have hall : ∀ x ∈ l, gone (spB l) x = true := fun x hx => by
    unfold gone; rw [decide_eq_true_eq, eB]; exact (hend x hx).2
  obtain ⟨t2, s2⟩ := toldL_nil_from hc (spA l) (by omega)
  have hone : Spn.one ⟨spA l, spB l⟩ = true := by unfold Spn.one; rw [decide_eq_true_eq]; simp only; omega
  have hmp : mayP [⟨spA l, spB l⟩] = true := by
    unfold mayP Rz Rz
    rw [hone]
    simp only [List.length_cons, List.length_nil, Bool.and_true, Bool.true_and, Bool.and_eq_true, decide_eq_true_eq]
    omega
  have hhas : ∀ x ∈ l, hasP [⟨spA l, spB l⟩] ⟨x.seq, x.seq + x.len⟩ = true := fun x hx => by
    have hb := one_b (hc.mem hx)
    have he := hend x hx
    unfold hasP gapP
    rw [hmp, if_pos rfl]
    simp only [Bool.true_and, Bool.and_eq_true, decide_eq_true_eq, List.foldl_cons, List.foldl_nil]
    refine ⟨by unfold Spn.one; rw [decide_eq_true_eq]; simp only; omega, ?_⟩
    rw [if_neg (by omega)]
    unfold gapF
    simp only
    rw [if_pos (by omega)]; omega
  have hst : (l.filter fun x => !gone (spA l) x) = l := stay_all hc (by omega)
  refine ⟨?_, ?_, ?_, ?_, t2, s2, ?_, ?_, ?_⟩
  · unfold heardE; rw [if_pos ⟨h, hpn⟩, if_pos ⟨hn, hle, Int.le_refl _, rfl⟩]
  · unfold stayL
    rw [List.filter_eq_nil_iff.2 fun x hx => by rw [hall x hx]; simp]; rfl
  · unfold toldL
    refine List.filter_congr fun x hx => ?_
    unfold cameB; rw [hall x hx]; rfl
  · unfold heardE; rw [if_pos ⟨h, hpn⟩, if_pos ⟨hn, Int.le_refl _, hle, rfl⟩]
  · unfold heardE
    rw [if_pos ⟨h, hmp⟩, if_pos ⟨hn, Int.le_refl _, hle, by simp [outP]⟩]
  · unfold stayL; rw [List.length_map, hst]
  · have hm2 := stay_may (got := spA l) (p := [⟨spA l, spB l⟩]) h
    unfold flightS
    rw [if_pos hm2]
    unfold stayL
    rw [hst]
    clear hst hm2 s2 t2 hall htb hl
    have key : ∀ (m : List Snt), (∀ x ∈ m, hasP [⟨spA l, spB l⟩] ⟨x.seq, x.seq + x.len⟩ = true) → fl (m.map (heardX (spA l) [⟨spA l, spB l⟩])) = 0 := by
      intro m
      induction m with
      | nil => intro _; rfl
      | cons x m ih =>
        intro hx
        have e : (heardX (spA l) [⟨spA l, spB l⟩] x).opn = false := by
          unfold heardX
          have hcx : cameB (spA l) [⟨spA l, spB l⟩] x = true := by unfold cameB; rw [hx x (List.mem_cons_self ..)]; simp
          cases hcc : x.came with
          | true => rw [if_neg (fun k => by cases k.2)]; unfold Snt.opn; rw [hcc]; rfl
          | false => rw [if_pos ⟨hcx, rfl⟩]; rfl
        rw [List.map_cons]
        simp only [fl, e]
        rw [ih fun y hy => hx y (List.mem_cons_of_mem _ hy)]
        rfl
    exact key l hhas
theorem wrong_law {l : List Snt} {got : Int} {p : List Spn} (h : heardE l got p = 0) : l ≠ [] ∧ (spA l ≤ got ∧ got ≤ spB l) ∧ ∀ s ∈ p, spA l ≤ s.a ∧ s.b ≤ spB l := by
  obtain ⟨_, _, h1, h2, h3⟩ := heardE_may h
  refine ⟨h1, h2, fun s hs => ?_⟩
  have := (List.any_eq_false.1 h3) s hs
  unfold outP at this
  simp only [decide_eq_true_eq] at this
  omega
end Vai.L12
