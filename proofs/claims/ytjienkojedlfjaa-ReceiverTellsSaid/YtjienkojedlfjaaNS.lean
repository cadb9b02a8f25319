import Derived.Test.YtjienkojedlfjaaVbU
import Derived.Test.YtjienkojedlfjaaProg
import Derived.Test.YtjienkojedlfjaaVbV
import Derived.IntWalk
namespace Vai.L04
open Go Go.Proofs Vai
set_option maxRecDepth 100000
set_option linter.unusedVariables false
set_option linter.unusedSimpArgs false
structure Spn where
  a : Int
  b : Int
  deriving DecidableEq
instance : Inhabited Spn := ⟨⟨0, 0⟩⟩
def Spn.av (s : Spn) : AV := .agg [.int .i64 s.a, .int .i64 s.b]
structure Spn.Ok (s : Spn) : Prop where
  a : -9223372036854775808 ≤ s.a ∧ s.a ≤ 9223372036854775807
  b : -9223372036854775808 ≤ s.b ∧ s.b ≤ 9223372036854775807
def pth (l : List Spn) (n : Nat) : Spn := l.getD n default
def prows (l : List Spn) : List AV := l.map Spn.av
theorem prows_len (l : List Spn) : (prows l).length = l.length := List.length_map _
theorem el_p (l : List Spn) (n : Nat) (hi : n < l.length) : (prows l)[Int.toNat (n : Int)]? = some (Spn.av (pth l n)) := by
  show (prows l)[n]? = _
  unfold prows pth
  rw [List.getElem?_map, List.getElem?_eq_getElem hi, List.getD_eq_getElem?_getD, List.getElem?_eq_getElem hi]
  rfl
theorem pth_get {l : List Spn} {n : Nat} (h : n < l.length) : l[n] = pth l n := by
  unfold pth
  rw [List.getD_eq_getElem?_getD, List.getElem?_eq_getElem h]; rfl
theorem pdrop {l : List Spn} {i : Nat} (h : i < l.length) : l.drop i = pth l i :: l.drop (i + 1) := by
  rw [List.drop_eq_getElem_cons h, pth_get h]
theorem ptake {l : List Spn} {i : Nat} (h : i < l.length) : l.take (i + 1) = l.take i ++ [pth l i] := by
  rw [List.take_succ_eq_append_getElem h, pth_get h]
theorem prows_ok (l : List Spn) : ((prows l).all fun x => x.ok && x.cells.length = 2) = true := List.all_eq_true.2 fun x hx => by
  obtain ⟨y, _, rfl⟩ := List.mem_map.1 hx; rfl
theorem prows_free (l : List Spn) : ((prows l).all fun x => x.free && x.cells.length = 2) = true := List.all_eq_true.2 fun x hx => by
  obtain ⟨y, _, rfl⟩ := List.mem_map.1 hx; rfl
theorem prows_one (l : List Spn) : ((prows l).all fun x => decide (x.cells.length = 2)) = true := List.all_eq_true.2 fun x hx => by
  obtain ⟨y, _, rfl⟩ := List.mem_map.1 hx; rfl
theorem prows_snoc (l : List Spn) (a b : Int) : prows l ++ [.agg [.int .i64 a, .int .i64 b]] = prows (l ++ [⟨a, b⟩]) := by
  unfold prows; rw [List.map_append]; rfl
theorem take_prows (l : List Spn) : List.take l.length (prows l) = prows l := List.take_of_length_le (by rw [prows_len]; exact Nat.le_refl _)
theorem take_prows_snoc (l : List Spn) (s : Spn) : List.take (l.length + 1) (prows (l ++ [s])) = prows (l ++ [s]) := List.take_of_length_le (by rw [prows_len]; simp)
theorem prows_app (l m : List Spn) : prows l ++ prows m = prows (l ++ m) := by unfold prows; rw [List.map_append]
abbrev shSpn : Sh := .parts [.int .i64, .int .i64]
theorem hasSpn {l : List AV} (h : Has shSpn l) : ∃ x : Spn, l = x.av.cells ∧ x.Ok := by
  obtain ⟨a, r, rfl, h0, h⟩ := hasCons h
  obtain ⟨b, r, rfl, h1, h⟩ := hasCons h
  obtain rfl := hasNil h
  obtain ⟨n0, rfl, w0⟩ := hasI64 h0
  obtain ⟨n1, rfl, w1⟩ := hasI64 h1
  exact ⟨⟨n0, n1⟩, rfl, ⟨w0, w1⟩⟩
theorem hasSpns {l : List AV} (h : Has (.slice shSpn true) l) : ∃ q : List Spn, l = [.osl (prows q)] ∧ q.length ≤ 9223372036854775807 ∧ ∀ x ∈ q, x.Ok := by
  obtain ⟨xs, rfl, hl, hx⟩ := hasSl h
  have key : ∀ (ys : List AV), (∀ x ∈ ys, x = mk true x.cells ∧ Has shSpn x.cells) → ∃ q : List Spn, ys = prows q ∧ ∀ x ∈ q, x.Ok := by
    intro ys
    induction ys with
    | nil => exact fun _ => ⟨[], rfl, fun x hx => by cases hx⟩
    | cons y ys ih =>
      intro hy
      obtain ⟨q, rfl, hq⟩ := ih fun x hx => hy x (List.mem_cons_of_mem _ hx)
      obtain ⟨e, hh⟩ := hy y (List.mem_cons_self ..)
      obtain ⟨s, hs, hok⟩ := hasSpn hh
      refine ⟨s :: q, ?_, fun x hx => ?_⟩
      · rw [hs] at e; rw [e]; rfl
      · rcases List.mem_cons.1 hx with rfl | hx
        · exact hok
        · exact hq x hx
  obtain ⟨q, rfl, hq⟩ := key xs hx
  exact ⟨q, rfl, by rw [← prows_len]; exact hl, hq⟩
def Spn.one (s : Spn) : Bool := decide (0 ≤ s.a ∧ s.a < s.b ∧ s.b ≤ 4611686018427387904)
def Rz : Int → List Spn → Bool
  | _, [] => true
  | last, s :: l => s.one && decide (last < s.a) && Rz s.b l
def mayP (l : List Spn) : Bool := decide (l.length ≤ 1000) && Rz (-1) l
def gapF (f : Int) (s : Spn) : Int := if s.a ≤ f ∧ f < s.b then s.b else f
def gapP (l : List Spn) (from_ : Int) : Int := if mayP l = true then l.foldl gapF (if from_ < 0 then 0 else from_) else 0
def sizeP : List Spn → Int
  | [] => 0
  | s :: l => s.b - s.a + sizeP l
def sizeS (l : List Spn) : Int := if mayP l = true then sizeP l else 0
def lft (s x : Spn) : Int := if s.a < x.b then s.a else x.b
def rgt (s x : Spn) : Int := if s.b > x.a then s.b else x.a
theorem lft_cases (s x : Spn) : (s.a < x.b ∧ lft s x = s.a) ∨ (¬ s.a < x.b ∧ lft s x = x.b) := by
  unfold lft; split
  · exact .inl ⟨by assumption, rfl⟩
  · exact .inr ⟨by assumption, rfl⟩
theorem rgt_cases (s x : Spn) : (s.b > x.a ∧ rgt s x = s.b) ∨ (¬ s.b > x.a ∧ rgt s x = x.a) := by
  unfold rgt; split
  · exact .inl ⟨by assumption, rfl⟩
  · exact .inr ⟨by assumption, rfl⟩
def cutF (s x : Spn) : List Spn := (if x.a < lft s x then [⟨x.a, lft s x⟩] else []) ++ (if rgt s x < x.b then [⟨rgt s x, x.b⟩] else [])
def cutL (l : List Spn) (s : Spn) : List Spn := l.flatMap (cutF s)
def cutE (l : List Spn) (s : Spn) : Int := if mayP l = true ∧ s.one = true then (if (cutL l s).length > 1000 then 4 else 0) else 1
def cutR (l : List Spn) (s : Spn) : List Spn := if cutE l s = 0 then cutL l s else []
end Vai.L04
