/- Weaves, in plain words: what is put twice. -/
import Derived.Test.YtjienkojedlfjaaY06
namespace Vai.L06
open Go Go.Proofs Vai Vai.L04
set_option maxRecDepth 100000
set_option linter.unusedVariables false
set_option linter.unusedSimpArgs false

theorem none_M (at_ : Int) (other : List AV) : putM 0 [] [] 0 0 at_ other = 0 := by
  unfold putM
  split
  · rfl
  · rw [if_pos]
    have e : edgeP 0 0 = 0 := by decide
    have h1 : 0 ≤ lowP 0 at_ := by unfold lowP; split <;> omega
    have h2 : highP 0 0 at_ other.length ≤ 0 := by unfold highP; rw [e]; split <;> omega
    omega
theorem gapP_at {l : List Spn} (h : mayP l = true) {n : Int} (hn : 0 ≤ n) : gapP l n = l.foldl gapF n := by unfold gapP; rw [if_pos h, if_neg (by omega)]
theorem sizeS_of {l : List Spn} (h : mayP l = true) : sizeS l = sizeP l := if_pos h
/-- Ready, in plain words. -/
theorem ready_le {base cap end_ : Int} {b b2 : List AV} {l l2 : List Spn} (h : MayW base b l cap end_) (h2 : MayW base b2 l2 cap end_) (hs : ∀ n, mem l n → mem l2 n) : readyP base cap end_ b l ≤ readyP base cap end_ b2 l2 := by
  have m1 : mayP l = true := may_iff.2 ⟨h.ll, h.can⟩
  have m2 : mayP l2 = true := may_iff.2 ⟨h2.ll, h2.can⟩
  unfold readyP
  rw [if_pos (mayW_plain.2 h), if_pos (mayW_plain.2 h2), gapP_at m1 h.b0, gapP_at m2 h.b0]
  obtain ⟨a1, a2, a3⟩ := gap_spec h.can base
  obtain ⟨c1, c2, c3⟩ := gap_spec h2.can base
  have hb0 := h.b0
  have hb1 := h.b1
  have le : l.foldl gapF base ≤ l2.foldl gapF base := Classical.byContradiction fun hh => c2 (hs _ (a3 _ c1 (by omega)))
  have up : l2.foldl gapF base ≤ 4611686018427387904 := by
    by_cases e : base = l2.foldl gapF base
    · omega
    · obtain ⟨s, hm, k1, k2⟩ := c3 (l2.foldl gapF base - 1) (by omega) (by omega)
      have := h2.can.one s hm; omega
  rw [IntKind.wrap_i64, IntKind.wrap_i64]; omega
structure TwB (base cap end_ at_ : Int) (b bs other : List AV) (l : List Spn) (u : Wv) : Prop where
  k2 : putK u.base u.b u.l u.cap u.end_ at_ other = 0
  m2 : putM u.base u.b u.l u.cap u.end_ at_ other = 0
  same : putW u.base u.b u.l u.cap u.end_ at_ other = u
  n0 : 0 ≤ putM base b l cap end_ at_ bs
  n1 : putM base b l cap end_ at_ bs ≤ bs.length
  may : mayW u.base u.b u.l u.cap u.end_ = true
  edge : edgeW u.base u.cap u.end_ u.b u.l = edgeW base cap end_ b l
  ready : readyP base cap end_ b l ≤ readyP u.base u.cap u.end_ u.b u.l
theorem twice_B {base cap end_ at_ : Int} {b bs other : List AV} {l : List Spn} (hb : IsB b) (hbs : IsB bs) (hot : IsB other) (hl : bs.length ≤ 140737488355) (he : other.length = bs.length)
    (k : putK base b l cap end_ at_ bs = 0) : TwB base cap end_ at_ b bs other l (putW base b l cap end_ at_ bs) := by
  rcases putW_cases (base := base) (cap := cap) (end_ := end_) (at_ := at_) (l := l) hbs hb hl with ⟨h, _⟩ | ⟨_, hp, p0, p1, pe, c, h, hM⟩ | ⟨_, hp, p0, p1, pe, c, y, f, h, hM⟩
  · exact absurd k h
  · have k2 : putK base b l cap end_ at_ other = 0 := by
      unfold putK
      rw [he, mayW_plain.2 hp, if_neg (by rintro (h | h | h) <;> first | omega | simp_all), if_neg (by omega), if_pos c]
    rw [h]
    refine ⟨k2, ?_, ?_, by rw [hM]; omega, by rw [hM]; omega, mayW_plain.2 hp, rfl, Int.le_refl _⟩
    · show putM base b l cap end_ at_ other = 0
      unfold putM; rw [he, if_neg (by simpa using k2), if_pos c]
    · show putW base b l cap end_ at_ other = _
      unfold putW; rw [he, if_neg (by simpa using k2), if_pos c]
  · have lh := low_high (base := base) (cap := cap) (n := bs.length) (show ¬ at_ < 0 by omega) (show ¬ at_ > 2305843009213693952 by omega) hl
    rw [h]
    generalize hlow : lowP base at_ = low at *
    generalize hhigh : highP base cap at_ bs.length = high at *
    have hedge := hp.edge
    have hb0 := hp.b0
    have hs : 0 ≤ (⟨low, high⟩ : Spn).a ∧ (⟨low, high⟩ : Spn).a < (⟨low, high⟩ : Spn).b ∧ (⟨low, high⟩ : Spn).b ≤ 4611686018427387904 := by simp only; omega
    have hu := put_may hp f lh.1 (by rcases pe with h | h <;> omega)
    have mU := mayW_plain.2 hu
    have eL : addL (addR l ⟨low, high⟩) ⟨low, high⟩ = addR l ⟨low, high⟩ := can_eq (addL_can f.can hs) f.can fun n => by
      rw [addL_mem f.can hs, f.me]
      exact ⟨fun h => h.elim id .inr, .inl⟩
    have mG : mayP (addR l ⟨low, high⟩) = true := may_iff.2 ⟨f.gl, f.can⟩
    have eE : addE (addR l ⟨low, high⟩) ⟨low, high⟩ = 0 := by
      unfold addE
      rw [if_pos ⟨mG, one_iff.2 hs⟩, eL, if_neg (by have := f.gl; omega)]
    have eR : addR (addR l ⟨low, high⟩) ⟨low, high⟩ = addR l ⟨low, high⟩ := by rw [(addE_0 eE).1, eL]
    have k2 : putK base (putB base at_ low high b bs l) (addR l ⟨low, high⟩) cap end_ at_ other = 0 := by
      unfold putK
      rw [he, mU, if_neg (by rintro (h | h | h) <;> first | omega | simp_all), if_neg (by omega), hlow, hhigh, if_neg (by omega), eE]
    have f2 := put_facts hu f.hB hot (by omega) p0 lh.1 lh.2.1 c (by omega) lh.2.2.2 eE
    have eB : putB base at_ low high (putB base at_ low high b bs l) other (addR l ⟨low, high⟩) = putB base at_ low high b bs l := by
      refine byteAt_ext f2.hB f.hB ?_ fun k hk => ?_
      · have h1 := f2.lB; have h2 := f.lB; rw [eR] at h1; omega
      · have h1 := f2.lB; have h2 := f.lB; rw [eR] at h1
        rw [f2.by_ k hk]
        by_cases c1 : mem (addR l ⟨low, high⟩) (base + k)
        · rw [if_pos c1]
        · rw [if_neg c1, if_neg fun h => c1 ((f.me _).2 (.inr h))]
          exact (hu.bz k (by omega) c1).symm
    have ml : mayP l = true := may_iff.2 ⟨hp.ll, hp.can⟩
    have hn : putM base b l cap end_ at_ bs = sizeP (addR l ⟨low, high⟩) - sizeP l := by
      rw [hM, sizeS_of mG, sizeS_of ml]
      obtain ⟨q1, q2, q3⟩ := size_both hp.can hs
      rw [f.ge, q3, IntKind.wrap_i64]
      simp only at q1 q2 ⊢
      omega
    obtain ⟨q1, q2, q3⟩ := size_both hp.can hs
    rw [← f.ge] at q3
    simp only at q1 q2 q3
    refine ⟨k2, ?_, ?_, by rw [hn]; omega, by rw [hn]; omega, mU, ?_, ready_le hp hu fun n hn => (f.me n).2 (.inl hn)⟩
    · show putM base (putB base at_ low high b bs l) (addR l ⟨low, high⟩) cap end_ at_ other = 0
      unfold putM
      rw [he, hlow, hhigh, if_neg (by simpa using k2), if_neg (by omega), eR, IntKind.wrap_i64]; omega
    · show putW base (putB base at_ low high b bs l) (addR l ⟨low, high⟩) cap end_ at_ other = _
      unfold putW
      rw [he, hlow, hhigh, if_neg (by simpa using k2), if_neg (by omega), eR, eB]
    · show edgeW base cap end_ (putB base at_ low high b bs l) (addR l ⟨low, high⟩) = _
      unfold edgeW
      rw [mU, mayW_plain.2 hp]
end Vai.L06
