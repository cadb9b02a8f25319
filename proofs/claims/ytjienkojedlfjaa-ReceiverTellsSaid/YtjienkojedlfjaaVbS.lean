import Derived.Test.YtjienkojedlfjaaVbH
import Derived.LoopN
namespace Vai
open Go Go.RowKit
set_option linter.unusedVariables false
set_option linter.unusedSimpArgs false
theorem gdB_at {R : Type} : ∀ {bs : List (Option CB)} {k : Option R} {r : R}, gdB bs k = some r → k = some r ∧ ∀ b, some b ∈ bs → b.pt = false → gNo b.es = true
  | [], k, r, h => ⟨h, fun b h => by simp at h⟩
  | none :: l, k, r, h => by
    obtain ⟨h1, h2⟩ := gdB_at (show gdB l k = some r from h)
    exact ⟨h1, fun b hb => h2 b (by simpa using hb)⟩
  | some b :: l, k, r, h => by
    simp only [gdB] at h
    split at h
    · rename_i hp
      obtain ⟨h1, h2⟩ := gdB_at h
      refine ⟨h1, fun c hc hf => ?_⟩
      rcases List.mem_cons.1 hc with hc | hc
      · cases hc; rw [hp] at hf; cases hf
      · exact h2 c hc hf
    · cases hg : gNo b.es with
      | false => rw [hg] at h; cases h
      | true =>
        rw [hg] at h
        obtain ⟨h1, h2⟩ := gdB_at (show gdB l k = some r from h)
        refine ⟨h1, fun c hc hf => ?_⟩
        rcases List.mem_cons.1 hc with hc | hc
        · cases hc; exact hg
        · exact h2 c hc hf
theorem cano_ok {R : Type} {ns : List Bool} {vs : List AV} {hp : Hp} {gn : Nat → Nat} {K : CS → Option R} {r : R} (h : canoK ns vs hp K = some r) {w0 : Base} {w : World} {ro : RO} {σ : Map} (hh : HRep w0 w ro σ hp gn) :
    ∃ cs σ', K cs = some r ∧ HRep w0 w ro σ' (mkHp cs.bs) mkGn ∧ ExtO ns.length ro ro σ σ' ∧ cs.vs.length = vs.length ∧ (∀ (j : Nat) (x y : AV) (v : Value), vs[j]? = some x → cs.vs[j]? = some y → RV ro σ x v → RV ro σ' y v) ∧ ∀ b, some b ∈ cs.bs → b.pt = false → gNo b.es = true := by
  unfold canoK at h
  simp only at h
  generalize hN : keysOf hp (origs 0 ns ++ refsA.refsL vs) = N at h
  split at h
  · rename_i hc
    simp only [Bool.and_eq_true] at hc
    simp only [Option.bind_eq_some_iff] at h
    obtain ⟨us, hus, bs, hbs, h⟩ := h
    obtain ⟨hk, hfree⟩ := gdB_at h
    obtain ⟨hl, hat⟩ := renB_at hbs
    let σ' : Map := fun s g l => ∃ i k, N[i]? = some k ∧ s = BIG + i ∧ g = 0 ∧ σ k.1.1 k.1.2 l
    have hφ : ∀ s g p l, ((ixK N s g 0).map fun i => (BIG + i, 0)) = some p → σ s g l → σ' p.1 p.2 l := by
      intro s g p l hp hl
      simp only [Option.map_eq_some_iff] at hp
      obtain ⟨q, hq, rfl⟩ := hp
      obtain ⟨j, k, rfl, hj, rfl, rfl⟩ := ixK_at hq
      exact ⟨j, k, hj, by simp, rfl, hl⟩
    refine ⟨⟨us, bs⟩, σ', hk, ?_, ⟨fun b hb => ⟨hb, rfl⟩, fun i l hi hl => ?_⟩, (renL_at hus).1, fun j x y v hx hy hr => ?_, hfree⟩
    · have key : ∀ s g B, mkHp bs s g = some B → ∃ i k B0 b, N[i]? = some k ∧ s = BIG + i ∧ g = 0 ∧ hp k.1.1 k.1.2 = some B0 ∧ B = ⟨b.es, B0.fr⟩ ∧ some b ∈ bs ∧ b.pt = k.2 ∧
          (k.2 = true → renA.renL (fun s g => (ixK N s g 0).map fun i => (BIG + i, 0)) B0.es = some b.es) ∧ (k.2 = false → b.es = B0.es) := by
        intro s g B hB
        obtain ⟨i, b, rfl, rfl, hb, rfl⟩ := mkHp_at hB
        obtain ⟨k, B0, h1, h2, h3, h4, h5, h6⟩ := hat i b hb
        exact ⟨i, k, B0, b, h1, rfl, rfl, h2, by rw [h3], List.mem_of_getElem? hb, h4, h5, h6⟩
      have loc : ∀ i k l, N[i]? = some k → σ' (BIG + i) 0 l → σ k.1.1 k.1.2 l := by
        rintro i k l hi ⟨j, q, hj, e, _, hl⟩
        have e : j = i := by omega
        subst e
        rw [hi] at hj
        cases hj
        exact hl
      refine ⟨hh.below, hh.fr, hh.sub, ?_, ?_, ?_, ?_, ?_, ?_, hh.hid, hh.dis, ?_⟩
      · rintro s g l l' ⟨i, k, hi, rfl, rfl, h1⟩ ⟨j, q, hj, e, _, h2⟩
        have e : j = i := by omega
        subst e
        rw [hi] at hj
        cases hj
        exact hh.fn _ _ _ _ h1 h2
      · rintro s g l ⟨i, k, hi, rfl, rfl, h1⟩
        simp [mkGn]
      · intro s g B hB
        obtain ⟨i, k, B0, b, hi, rfl, rfl, hB0, rfl, hmem, hpt, h1, h2⟩ := key s g B hB
        obtain ⟨l, hσ, hblk⟩ := hh.blk _ _ _ hB0
        refine ⟨l, ⟨i, k, hi, rfl, rfl, hσ⟩, ?_⟩
        cases hk2 : k.2 with
        | true => exact hblk.ren hφ (.inl (h1 hk2))
        | false =>
          have he := h2 hk2
          have hno := hfree b hmem (by rw [hpt, hk2])
          exact hblk.ren hφ (.inr ⟨he, by rw [← he]; exact hno⟩)
      · intro s g B b sz NN hB hfr hσ
        obtain ⟨i, k, B0, c, hi, rfl, rfl, hB0, rfl, hmem, hpt, h1, h2⟩ := key s g B hB
        exact hh.own _ _ _ _ _ _ hB0 hfr (loc _ _ _ hi hσ)
      · intro s g B b sz NN hB hfr hσ
        obtain ⟨i, k, B0, c, hi, rfl, rfl, hB0, rfl, hmem, hpt, h1, h2⟩ := key s g B hB
        exact hh.frz _ _ _ _ _ _ hB0 hfr (loc _ _ _ hi hσ)
      · intro s g B s' g' B' b sz NN sz' NN' hB hB' hfr hσ hσ'
        obtain ⟨i, k, B0, c, hi, rfl, rfl, hB0, rfl, _, _, _, _⟩ := key s g B hB
        obtain ⟨j, q, B1, d, hj, rfl, rfl, hB1, rfl, _, _, _, _⟩ := key s' g' B' hB'
        obtain ⟨e1, e2⟩ := hh.inj _ _ _ _ _ _ _ _ _ _ _ hB0 hB1 hfr (loc _ _ _ hi hσ) (loc _ _ _ hj hσ')
        have : i = j := distK_inj hc.1 hi hj (Prod.ext e1 e2)
        subst this
        exact ⟨rfl, rfl⟩
      · intro s g B b sz NN hB hfr hσ
        obtain ⟨i, k, B0, c, hi, rfl, rfl, hB0, rfl, hmem, hpt, h1, h2⟩ := key s g B hB
        exact hh.oh _ _ _ _ _ _ hB0 hfr (loc _ _ _ hi hσ)
    · obtain ⟨b, hb⟩ := origs_at ns 0 i hi
      obtain ⟨q, hq, e⟩ := preK_at hc.2 hb
      refine ⟨i, q, hq, rfl, rfl, ?_⟩
      rw [e]
      simpa using hl
    · obtain ⟨c, hc, hr'⟩ := renL_at' hus hy
      rw [hx] at hc
      cases hc
      exact renA_rep hφ hr y hr'
  · cases h
end Vai
