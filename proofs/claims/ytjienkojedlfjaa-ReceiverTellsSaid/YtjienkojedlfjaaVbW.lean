import Derived.Test.YtjienkojedlfjaaVbR
import Derived.Test.YtjienkojedlfjaaVbL
set_option linter.unusedSectionVars false
namespace Vai
open Go Go.RowKit
set_option linter.unusedVariables false
set_option linter.unusedSimpArgs false
theorem RFs.cons {ro : RO} {a : AV} {as : List AV} {v : Value} {vs : List Value} (h : RF ro a v) (t : RFs ro as ⟨vs⟩) : RFs ro (a :: as) ⟨v :: vs⟩ := by
  refine ⟨by have := t.1; simp at this ⊢; exact this, fun j u q hu hq => ?_⟩
  cases j with
  | zero => simp at hu hq; subst hu; subst hq; exact h
  | succ j => exact t.2 j u q (by simpa using hu) (by simpa using hq)
theorem i64_range {n : Int} (h : (Lit.int .i64 n).wf = true) : -9223372036854775808 ≤ n ∧ n ≤ 9223372036854775807 := by
  simp only [Lit.wf, Bool.and_eq_true, decide_eq_true_eq] at h
  exact h
theorem hasSl {e : Sh} {ag : Bool} {l : List AV} (h : Has (.slice e ag) l) : ∃ xs, l = [.osl xs] ∧ xs.length ≤ 9223372036854775807 ∧ ∀ x ∈ xs, x = mk ag x.cells ∧ Has e x.cells := by
  cases h with
  | slice _ _ xs hl h1 h2 => exact ⟨xs, rfl, hl, fun x hx => ⟨h1 x hx, h2 x hx⟩⟩
theorem hasInt {k : IntKind} {l : List AV} (h : Has (.int k) l) : ∃ n, l = [.int k n] ∧ (Lit.int k n).wf = true := by
  cases h with
  | int _ n h => exact ⟨n, rfl, h⟩
theorem hasI64 {l : List AV} (h : Has (.int .i64) l) : ∃ n, l = [.int .i64 n] ∧ (-9223372036854775808 ≤ n ∧ n ≤ 9223372036854775807) := by
  obtain ⟨n, rfl, hw⟩ := hasInt h
  exact ⟨n, rfl, i64_range hw⟩
theorem hasBool {l : List AV} (h : Has .bool l) : ∃ b, l = [.bool b] := by
  cases h with
  | bool b => exact ⟨b, rfl⟩
theorem hasCons {p : Sh} {ps : List Sh} {l : List AV} (h : Has (.parts (p :: ps)) l) : ∃ a b, l = a ++ b ∧ Has p a ∧ Has (.parts ps) b := by
  cases h with
  | parts1 _ _ a b ha hb => exact ⟨a, b, rfl, ha, hb⟩
theorem hasNil {l : List AV} (h : Has (.parts []) l) : l = [] := by cases h; rfl
theorem hasBytes {l : List AV} (h : Has (.slice (.int .u8) false) l) : ∃ xs, l = [.osl xs] ∧ xs.length ≤ 9223372036854775807 ∧ IsB xs := by
  obtain ⟨xs, rfl, hl, hx⟩ := hasSl h
  refine ⟨xs, rfl, hl, fun x hm => ?_⟩
  obtain ⟨h1, h2⟩ := hx x hm
  obtain ⟨n, hn, _⟩ := hasInt h2
  rw [hn] at h1
  exact ⟨n, h1⟩
theorem law_callsF {P : Program} {f : FuncId} {fn : Func} {c : Code} (hf : P.funcs[f]? = some fn) (hb : fn.body = some c) (hn : (fn.name == "runtime.NumGoroutine") = false)
    {as : List AV} (h : FnOk P f as (.bool true)) {W : World} {vals : Array Value} (ha : RFs (AllF W) as vals) : Calls P f vals W (fun e w' => e = .returned (.bool true) ∧ Below W.heap.size W w') := by
  rcases h W _ vals (fun b hb => hb) ha with ⟨_, h2⟩ | ⟨v, w', h1, _⟩
  · refine Calls.mono h2 (fun e w' ⟨v, he, hbel, hr⟩ => ?_)
    subst he
    cases hr with
    | one hr => cases hr; exact ⟨rfl, hbel⟩
  · rw [callFunc_enter hf hb hn] at h1
    cases h1
end Vai
