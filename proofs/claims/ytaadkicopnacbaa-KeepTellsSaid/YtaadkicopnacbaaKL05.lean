/- Law 05: KeepTells, as the runs tell. -/
import Derived.Test.YtaadkicopnacbaaKT05
import Derived.Test.YtaadkicopnacbaaKG05
import Derived.Test.YtaadkicopnacbaaVaiT
namespace Vai.L05
open Go Go.Proofs Vai Vai.R1
set_option maxRecDepth 100000
set_option linter.unusedVariables false
set_option linter.unusedSimpArgs false

theorem keepTells_all (base cap : Int) (xs : List AV) (shut : Bool) (bs : List AV) (from_ n : Int) (hb : -9223372036854775808 ≤ base ∧ base ≤ 9223372036854775807) (hc : -9223372036854775808 ≤ cap ∧ cap ≤ 9223372036854775807) (hu : -9223372036854775808 ≤ from_ ∧ from_ ≤ 9223372036854775807) (hn : -9223372036854775808 ≤ n ∧ n ≤ 9223372036854775807) (hl : xs.length ≤ 9223372036854775807) (hx : IsB xs) (hl2 : bs.length ≤ 9223372036854775807) (hx2 : IsB bs) :
    Ans cfg 9 [.agg [.int .i64 base, .osl xs, .int .i64 cap, .bool shut], .osl bs, .int .i64 from_, .int .i64 n] (.bool true) := by
  cases shut with
  | true =>
    refine (keepTellsT base cap xs bs from_ n hb hc hu hn hl hx hl2 hx2).to rfl ?_
    simp only [cond_eq_ite, Nat.zero_add, List.take_length, same_refl, Bool.and_true, beq_self_eq_true, if_true, ite_self]
  | false =>
    refine (keepTellsF base cap xs bs from_ n hb hc hu hn hl hx hl2 hx2).to rfl ?_
    simp only [cond_eq_ite, Nat.zero_add, List.take_length, same_refl, Bool.and_true, beq_self_eq_true, if_true, ite_self]

theorem sh35 : shOf Try.prog 4 35 = some (.parts [.int .i64, .slice (.int .u8) false, .int .i64, .bool]) := by kernel_rfl
theorem sh33 : shOf Try.prog 4 33 = some (.slice (.int .u8) false) := by kernel_rfl
theorem hasK {l : List AV} (h : Has (.parts [.int .i64, .slice (.int .u8) false, .int .i64, .bool]) l) : ∃ base xs cap shut, l = [.int .i64 base, .osl xs, .int .i64 cap, .bool shut] ∧
    (-9223372036854775808 ≤ base ∧ base ≤ 9223372036854775807) ∧ (-9223372036854775808 ≤ cap ∧ cap ≤ 9223372036854775807) ∧ xs.length ≤ 9223372036854775807 ∧ IsB xs := by
  obtain ⟨a, r, rfl, h0, h⟩ := hasCons h
  obtain ⟨b, r, rfl, h1, h⟩ := hasCons h
  obtain ⟨c, r, rfl, h2, h⟩ := hasCons h
  obtain ⟨d, r, rfl, h3, h⟩ := hasCons h
  obtain rfl := hasNil h
  obtain ⟨base, rfl, w0⟩ := hasI64 h0
  obtain ⟨xs, rfl, hl, hx⟩ := hasBytes h1
  obtain ⟨cap, rfl, w2⟩ := hasI64 h2
  obtain ⟨shut, rfl⟩ := hasBool h3
  exact ⟨base, xs, cap, shut, rfl, w0, w2, hl, hx⟩

end Vai.L05
