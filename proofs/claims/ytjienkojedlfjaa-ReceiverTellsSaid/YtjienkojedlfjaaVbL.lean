import Derived.Test.YtjienkojedlfjaaVbU
import Derived.IntWalk
namespace Vai
open Go
set_option linter.unusedVariables false
set_option linter.unusedSimpArgs false
def IsB (xs : List AV) : Prop := ∀ x ∈ xs, ∃ n, x = AV.int .u8 n
def byteAt (xs : List AV) (i : Nat) : Int := match xs[i]? with
  | some (.int .u8 n) => n
  | _ => 0
theorem IsB.nil : IsB [] := fun x h => by cases h
theorem IsB.drop {xs : List AV} (h : IsB xs) (n : Nat) : IsB (xs.drop n) := fun x hx => h x (List.mem_of_mem_drop hx)
theorem IsB.take {xs : List AV} (h : IsB xs) (n : Nat) : IsB (xs.take n) := fun x hx => h x (List.mem_of_mem_take hx)
theorem IsB.append {xs ys : List AV} (h : IsB xs) (h2 : IsB ys) : IsB (xs ++ ys) := fun x hx => by
  rcases List.mem_append.1 hx with hx | hx
  · exact h x hx
  · exact h2 x hx
theorem IsB.replicate (n : Nat) (k : Int) : IsB (List.replicate n (.int .u8 k)) := fun x hx => ⟨k, (List.mem_replicate.1 hx).2⟩
theorem IsB.ok {xs : List AV} (h : IsB xs) : (xs.all fun x => x.ok && x.cells.length = 1) = true := List.all_eq_true.2 fun x hx => by
  obtain ⟨n, rfl⟩ := h x hx; rfl
theorem IsB.free {xs : List AV} (h : IsB xs) : (xs.all fun x => x.free && x.cells.length = 1) = true := List.all_eq_true.2 fun x hx => by
  obtain ⟨n, rfl⟩ := h x hx; rfl
theorem IsB.one {xs : List AV} (h : IsB xs) : (xs.all fun x => decide (x.cells.length = 1)) = true := List.all_eq_true.2 fun x hx => by
  obtain ⟨n, rfl⟩ := h x hx; rfl
theorem el_b (xs : List AV) (n : Nat) (h : IsB xs) (hi : n < xs.length) : xs[Int.toNat (n : Int)]? = some (.int .u8 (byteAt xs n)) := by
  show xs[n]? = _
  have h1 : xs[n]? = some xs[n] := List.getElem?_eq_getElem hi
  obtain ⟨m, hm⟩ := h xs[n] (List.getElem_mem hi)
  unfold byteAt
  rw [h1, hm]
theorem w_succ {n : Nat} (h : n < 9223372036854775807) : IntKind.i64.wrap ((n : Int) + 1) = ((n + 1 : Nat) : Int) := by
  rw [IntKind.wrap_i64]; omega
noncomputable def same (xs ys : List AV) : Bool := @decide (xs = ys) (Classical.propDecidable _)
theorem all1 {α : Type} {f : α → Bool} {a : α} (h : f a = true) : List.all [a] f = true := by simp [h]
end Vai
