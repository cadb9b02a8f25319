/- Law 05: what the functions answer, by guided runs. -/
import Derived.Test.YtaadkicopnacbaaProg
import Derived.Test.YtaadkicopnacbaaVaiR
import Derived.Test.YtaadkicopnacbaaVaiG
import Derived.KernelRfl
namespace Vai.L05
open Go Go.Proofs Vai
set_option maxRecDepth 100000
set_option linter.unusedVariables false
set_option linter.unusedSimpArgs false

noncomputable def cfg : Cfg := { P := Try.prog, skip := fun _ => false, inl := fun f => ([44, 52] : List Nat).contains f, ext := fun _ => none }

theorem prog_ok : ProgOk cfg := progOk_of (by kernel_rfl)
theorem ext_ok : ExtOk cfg := fun _ _ _ _ h _ => nomatch h
theorem mixed : cfg.P.follows .mixedOrders = true := by kernel_rfl

theorem awake_ok : fnV cfg (exec cfg 300) 18 [] = some (.bool true) := by kernel_rfl

abbrev K (base : Int) (xs : List AV) (cap : Int) (shut : Bool) : AV := .agg [.int .i64 base, .osl xs, .int .i64 cap, .bool shut]
abbrev Z : AV := .agg [.int .i64 0, .osl [], .int .i64 0, .bool false]

def mayB (base : Int) (n : Nat) (cap : Int) : Bool :=
  decide (base ≥ 0) && (decide (base ≤ IntKind.i64.wrap (2305843009213693952 - n)) && (decide (cap ≥ 0) && (decide (cap ≤ 65536) && decide ((n : Int) ≤ cap))))

theorem may_ok (k : Nat) (base cap : Int) (xs : List AV) (shut : Bool) : fnV cfg (exec cfg (k + 1)) 19 [K base xs cap shut] = some (.bool (mayB base xs.length cap)) := by
  cases h1 : decide (base ≥ 0) with
  | false =>
    rw [show mayB base xs.length cap = false by simp only [mayB, h1, Bool.false_and]]
    exact sem_of (cs := [.b false, .b false, .b false, .b false]) (cs' := []) (ps := [decide (base ≥ 0) = false, false = false, false = false, false = false]) (by kernel_rfl) ⟨h1, rfl, rfl, rfl, trivial⟩
  | true =>
    cases h2 : decide (base ≤ IntKind.i64.wrap (2305843009213693952 - xs.length)) with
    | false =>
      rw [show mayB base xs.length cap = false by simp only [mayB, h1, h2, Bool.false_and, Bool.and_false]]
      exact sem_of (cs := [.b true, .b false, .b false, .b false]) (cs' := []) (ps := [decide (base ≥ 0) = true, decide (base ≤ IntKind.i64.wrap (2305843009213693952 - xs.length)) = false, false = false, false = false]) (by kernel_rfl) ⟨h1, h2, rfl, rfl, trivial⟩
    | true =>
      cases h3 : decide (cap ≥ 0) with
      | false =>
        rw [show mayB base xs.length cap = false by simp only [mayB, h1, h2, h3, Bool.false_and, Bool.and_false]]
        exact sem_of (cs := [.b true, .b true, .b false, .b false]) (cs' := []) (ps := [decide (base ≥ 0) = true, decide (base ≤ IntKind.i64.wrap (2305843009213693952 - xs.length)) = true, decide (cap ≥ 0) = false, false = false]) (by kernel_rfl) ⟨h1, h2, h3, rfl, trivial⟩
      | true =>
        cases h4 : decide (cap ≤ 65536) with
        | false =>
          rw [show mayB base xs.length cap = false by simp only [mayB, h1, h2, h3, h4, Bool.false_and, Bool.and_false]]
          exact sem_of (cs := [.b true, .b true, .b true, .b false]) (cs' := []) (ps := [decide (base ≥ 0) = true, decide (base ≤ IntKind.i64.wrap (2305843009213693952 - xs.length)) = true, decide (cap ≥ 0) = true, decide (cap ≤ 65536) = false]) (by kernel_rfl) ⟨h1, h2, h3, h4, trivial⟩
        | true =>
          rw [show mayB base xs.length cap = decide ((xs.length : Int) ≤ cap) by simp only [mayB, h1, h2, h3, h4, Bool.true_and]]
          exact sem_of (cs := [.b true, .b true, .b true, .b true]) (cs' := []) (ps := [decide (base ≥ 0) = true, decide (base ≤ IntKind.i64.wrap (2305843009213693952 - xs.length)) = true, decide (cap ≥ 0) = true, decide (cap ≤ 65536) = true]) (by kernel_rfl) ⟨h1, h2, h3, h4, trivial⟩

theorem write_no (k : Nat) (base cap : Int) (xs bs : List AV) (shut : Bool) (h : fnV cfg (exec cfg k) 19 [K base xs cap shut] = some (.bool false)) : fnV cfg (exec cfg (k + 1)) 21 [K base xs cap shut, .osl bs] = some (.tup [Z, .int .i64 0, .int .i64 1]) :=
  sem_of (cs := [.r (.bool false), .b true]) (cs' := []) (ps := [fnV cfg (exec cfg k) 19 [K base xs cap shut] = some (.bool false), (!false) = true]) (by kernel_rfl) ⟨h, rfl, trivial⟩
theorem ack_no (k : Nat) (base cap : Int) (xs : List AV) (shut : Bool) (n : Int) (h : fnV cfg (exec cfg k) 19 [K base xs cap shut] = some (.bool false)) : fnV cfg (exec cfg (k + 1)) 22 [K base xs cap shut, .int .i64 n] = some (.tup [Z, .int .i64 1]) :=
  sem_of (cs := [.r (.bool false), .b true]) (cs' := []) (ps := [fnV cfg (exec cfg k) 19 [K base xs cap shut] = some (.bool false), (!false) = true]) (by kernel_rfl) ⟨h, rfl, trivial⟩
theorem shut_no (k : Nat) (base cap : Int) (xs : List AV) (shut : Bool) (h : fnV cfg (exec cfg k) 19 [K base xs cap shut] = some (.bool false)) : fnV cfg (exec cfg (k + 1)) 20 [K base xs cap shut] = some (.tup [Z, .int .i64 1]) :=
  sem_of (cs := [.r (.bool false), .b true]) (cs' := []) (ps := [fnV cfg (exec cfg k) 19 [K base xs cap shut] = some (.bool false), (!false) = true]) (by kernel_rfl) ⟨h, rfl, trivial⟩
theorem end_no (k : Nat) (base cap : Int) (xs : List AV) (shut : Bool) (h : fnV cfg (exec cfg k) 19 [K base xs cap shut] = some (.bool false)) : fnV cfg (exec cfg (k + 1)) 24 [K base xs cap shut] = some (.int .i64 0) :=
  sem_of (cs := [.r (.bool false), .b true]) (cs' := []) (ps := [fnV cfg (exec cfg k) 19 [K base xs cap shut] = some (.bool false), (!false) = true]) (by kernel_rfl) ⟨h, rfl, trivial⟩
theorem part_no (k : Nat) (base cap : Int) (xs : List AV) (shut : Bool) (n m : Int) (h : fnV cfg (exec cfg k) 19 [K base xs cap shut] = some (.bool false)) : fnV cfg (exec cfg (k + 1)) 27 [K base xs cap shut, .int .i64 n, .int .i64 m] = some (.osl []) :=
  sem_of (cs := [.r (.bool false), .b true, .b true, .b true]) (cs' := []) (ps := [fnV cfg (exec cfg k) 19 [K base xs cap shut] = some (.bool false), (!false) = true, true = true, true = true]) (by kernel_rfl) ⟨h, rfl, rfl, rfl, trivial⟩

theorem keepWrong (base cap : Int) (xs bs : List AV) (shut : Bool) (n : Int) : sem cfg 301 10 [K base xs cap shut, .osl bs, .int .i64 n] = some (.bool true) := by
  have hmay := may_ok 299 base cap xs shut
  cases h1 : decide ((xs.length : Int) > 2000) with
  | true =>
    exact sem_of (cs := [.r (.bool true), .b false, .b true, .b true, .b true]) (cs' := []) (ps := [fnV cfg (exec cfg 300) 18 [] = some (.bool true), (!true) = false, decide ((xs.length : Int) > 2000) = true, true = true, true = true]) (by kernel_rfl) ⟨awake_ok, rfl, h1, rfl, rfl, trivial⟩
  | false =>
    cases h2 : decide ((bs.length : Int) > 2000) with
    | true =>
      exact sem_of (cs := [.r (.bool true), .b false, .b false, .b true, .b true]) (cs' := []) (ps := [fnV cfg (exec cfg 300) 18 [] = some (.bool true), (!true) = false, decide ((xs.length : Int) > 2000) = false, decide ((bs.length : Int) > 2000) = true, true = true]) (by kernel_rfl) ⟨awake_ok, rfl, h1, h2, rfl, trivial⟩
    | false =>
      cases h3 : mayB base xs.length cap with
      | true =>
        rw [h3] at hmay
        exact sem_of (cs := [.r (.bool true), .b false, .b false, .b false, .r (.bool true), .b true]) (cs' := []) (ps := [fnV cfg (exec cfg 300) 18 [] = some (.bool true), (!true) = false, decide ((xs.length : Int) > 2000) = false, decide ((bs.length : Int) > 2000) = false, fnV cfg (exec cfg 300) 19 [K base xs cap shut] = some (.bool true), true = true]) (by kernel_rfl) ⟨awake_ok, rfl, h1, h2, hmay, rfl, trivial⟩
      | false =>
        rw [h3] at hmay
        have hm' := may_ok 298 base cap xs shut
        rw [h3] at hm'
        exact sem_of (cs := [.r (.bool true), .b false, .b false, .b false, .r (.bool false), .b false, .r (.tup [Z, .int .i64 0, .int .i64 1]), .r (.tup [Z, .int .i64 1]), .r (.tup [Z, .int .i64 1]), .b true, .b true, .b true, .b true, .b true, .b true, .b true, .b true, .r (.osl []), .b true, .r (.int .i64 0)]) (cs' := [])
          (ps := [fnV cfg (exec cfg 300) 18 [] = some (.bool true), (!true) = false, decide ((xs.length : Int) > 2000) = false, decide ((bs.length : Int) > 2000) = false, fnV cfg (exec cfg 300) 19 [K base xs cap shut] = some (.bool false), false = false,
            fnV cfg (exec cfg 300) 21 [K base xs cap shut, .osl bs] = some (.tup [Z, .int .i64 0, .int .i64 1]), fnV cfg (exec cfg 300) 22 [K base xs cap shut, .int .i64 n] = some (.tup [Z, .int .i64 1]), fnV cfg (exec cfg 300) 20 [K base xs cap shut] = some (.tup [Z, .int .i64 1]),
            true = true, true = true, true = true, true = true, true = true, true = true, true = true, true = true, fnV cfg (exec cfg 300) 27 [K base xs cap shut, .int .i64 n, .int .i64 9] = some (.osl []), true = true, fnV cfg (exec cfg 300) 24 [K base xs cap shut] = some (.int .i64 0)])
          (by kernel_rfl) ⟨awake_ok, rfl, h1, h2, hmay, rfl, write_no 299 base cap xs bs shut hm', ack_no 299 base cap xs shut n hm', shut_no 299 base cap xs shut hm', rfl, rfl, rfl, rfl, rfl, rfl, rfl, rfl, part_no 299 base cap xs shut n 9 hm', rfl, end_no 299 base cap xs shut hm', trivial⟩

theorem sh35 : shOf Try.prog 4 35 = some (.parts [.int .i64, .slice (.int .u8) false, .int .i64, .bool]) := by kernel_rfl
theorem sh33 : shOf Try.prog 4 33 = some (.slice (.int .u8) false) := by kernel_rfl

theorem hasSl {e : Sh} {ag : Bool} {l : List AV} (h : Has (.slice e ag) l) : ∃ xs, l = [.osl xs] ∧ xs.length ≤ maxLen ∧ ∀ x ∈ xs, x = mk ag x.cells ∧ Has e x.cells := by
  cases h with
  | slice _ _ xs hl h1 h2 => exact ⟨xs, rfl, hl, fun x hx => ⟨h1 x hx, h2 x hx⟩⟩
theorem hasInt {k : IntKind} {l : List AV} (h : Has (.int k) l) : ∃ n, l = [.int k n] ∧ (Lit.int k n).wf = true := by
  cases h with
  | int _ n h => exact ⟨n, rfl, h⟩
theorem hasBool {l : List AV} (h : Has .bool l) : ∃ b, l = [.bool b] := by
  cases h with
  | bool b => exact ⟨b, rfl⟩
theorem hasCons {p : Sh} {ps : List Sh} {l : List AV} (h : Has (.parts (p :: ps)) l) : ∃ a b, l = a ++ b ∧ Has p a ∧ Has (.parts ps) b := by
  cases h with
  | parts1 _ _ a b ha hb => exact ⟨a, b, rfl, ha, hb⟩
theorem hasNil {l : List AV} (h : Has (.parts []) l) : l = [] := by cases h; rfl

theorem hasK {l : List AV} (h : Has (.parts [.int .i64, .slice (.int .u8) false, .int .i64, .bool]) l) : ∃ base xs cap shut, l = [.int .i64 base, .osl xs, .int .i64 cap, .bool shut] ∧ (Lit.int .i64 base).wf = true ∧ (Lit.int .i64 cap).wf = true ∧ xs.length ≤ maxLen ∧
    ∀ x ∈ xs, x = mk false x.cells ∧ Has (.int .u8) x.cells := by
  obtain ⟨a, r, rfl, h0, h⟩ := hasCons h
  obtain ⟨b, r, rfl, h1, h⟩ := hasCons h
  obtain ⟨c, r, rfl, h2, h⟩ := hasCons h
  obtain ⟨d, r, rfl, h3, h⟩ := hasCons h
  obtain rfl := hasNil h
  obtain ⟨base, rfl, w0⟩ := hasInt h0
  obtain ⟨xs, rfl, hl, hx⟩ := hasSl h1
  obtain ⟨cap, rfl, w2⟩ := hasInt h2
  obtain ⟨shut, rfl⟩ := hasBool h3
  exact ⟨base, xs, cap, shut, rfl, w0, w2, hl, hx⟩

end Vai.L05
