import Derived.Test.YtjienkojedlfjaaN04
import Derived.Test.YtjienkojedlfjaaVoK
namespace Vai.R3b
open Go Go.Proofs Vai
set_option maxRecDepth 100000
set_option linter.unusedVariables false
set_option linter.unusedSimpArgs false
noncomputable def cfg0 : Cfg := { P := Try.prog, skip := fun _ => false, inl := fun _ => false, ext := fun _ => none, cln := fun _ => none }
theorem prog_ok0 : ProgOk cfg0 := progOk_of (by kernel_rfl)
theorem ext_ok0 : ExtOk cfg0 := ⟨fun _ _ _ _ h _ => (nomatch h), fun _ _ _ h => (nomatch h), fun _ _ _ _ _ h _ => (nomatch h)⟩
theorem mixed : cfg0.P.follows .mixedOrders = true := by kernel_rfl
theorem cloneB : ClnOk Try.prog 88 1 1 := by
  refine clnOk_at (C := cfg0) prog_ok0 ext_ok0 mixed (a := 5) (b := 7) (by decide) (fun hp gn => callF_of 3 [.k] .nil (by kernel_rfl)) (fun x hp gn xs hlt hn hc hall hb => ?_)
  have hn5 : (if 5 = 5 ∧ gn 5 = gn 5 then some (⟨[], false⟩ : Blk) else hp 5 (gn 5)) = some ⟨[], false⟩ := if_pos ⟨rfl, rfl⟩
  rcases hn with rfl | ⟨y, ys, rfl⟩ | ⟨e, s, g, lo, n, rfl⟩
  · obtain rfl : ([] : List AV) = xs := by simpa [conts] using hc
    exact callF_of 3 [.k, .m ⟨[], false⟩] (.cons hn5 (.cons (p := 0 ≤ 0) (Nat.le_refl 0) (.cons hall (.cons hb .nil)))) (by kernel_rfl)
  · obtain rfl : y :: ys = xs := by simpa [conts] using hc
    exact callF_of 3 [.k, .m ⟨[], false⟩] (.cons hn5 (.cons (p := 0 ≤ 0) (Nat.le_refl 0) (.cons hall (.cons hb .nil)))) (by kernel_rfl)
  · simp only [conts, Option.bind_eq_some_iff] at hc
    obtain ⟨B, hB, hc⟩ := hc
    split at hc
    · rename_i hlo
      obtain rfl : (B.es.drop lo).take (n + 1) = xs := by simpa using hc
      have hB' : (if s = 5 ∧ g = gn 5 then some (⟨[], false⟩ : Blk) else hp s g) = some B := by
        rw [if_neg (by rintro ⟨rfl, rfl⟩; exact absurd (hlt _ _ _ hB) (by omega))]; exact hB
      exact callF_of 3 [.k, .m B, .m ⟨[], false⟩] (.cons hB' (.cons hlo (.cons hn5 (.cons (p := 0 ≤ 0) (Nat.le_refl 0) (.cons hall (.cons hb .nil)))))) (by kernel_rfl)
    · cases hc
theorem cloneS : ClnOk Try.prog 89 2 16 := by
  refine clnOk_at (C := cfg0) prog_ok0 ext_ok0 mixed (a := 5) (b := 7) (by decide) (fun hp gn => callF_of 3 [.k] .nil (by kernel_rfl)) (fun x hp gn xs hlt hn hc hall hb => ?_)
  have hn5 : (if 5 = 5 ∧ gn 5 = gn 5 then some (⟨[], false⟩ : Blk) else hp 5 (gn 5)) = some ⟨[], false⟩ := if_pos ⟨rfl, rfl⟩
  rcases hn with rfl | ⟨y, ys, rfl⟩ | ⟨e, s, g, lo, n, rfl⟩
  · obtain rfl : ([] : List AV) = xs := by simpa [conts] using hc
    exact callF_of 3 [.k, .m ⟨[], false⟩] (.cons hn5 (.cons (p := 0 ≤ 0) (Nat.le_refl 0) (.cons hall (.cons hb .nil)))) (by kernel_rfl)
  · obtain rfl : y :: ys = xs := by simpa [conts] using hc
    exact callF_of 3 [.k, .m ⟨[], false⟩] (.cons hn5 (.cons (p := 0 ≤ 0) (Nat.le_refl 0) (.cons hall (.cons hb .nil)))) (by kernel_rfl)
  · simp only [conts, Option.bind_eq_some_iff] at hc
    obtain ⟨B, hB, hc⟩ := hc
    split at hc
    · rename_i hlo
      obtain rfl : (B.es.drop lo).take (n + 1) = xs := by simpa using hc
      have hB' : (if s = 5 ∧ g = gn 5 then some (⟨[], false⟩ : Blk) else hp s g) = some B := by
        rw [if_neg (by rintro ⟨rfl, rfl⟩; exact absurd (hlt _ _ _ hB) (by omega))]; exact hB
      exact callF_of 3 [.k, .m B, .m ⟨[], false⟩] (.cons hB' (.cons hlo (.cons hn5 (.cons (p := 0 ≤ 0) (Nat.le_refl 0) (.cons hall (.cons hb .nil)))))) (by kernel_rfl)
    · cases hc
end Vai.R3b
