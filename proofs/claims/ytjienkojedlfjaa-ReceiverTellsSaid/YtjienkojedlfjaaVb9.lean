import Derived.Test.YtjienkojedlfjaaVbD
import Derived.LoopN
namespace Vai
open Go Go.RowKit
set_option linter.unusedVariables false
set_option linter.unusedSimpArgs false
def Good (w0 : Base) (ro : RO) (σ : Map) (n : Nat) (st' : St) (e : E) : Exit → Act → World → Prop := fun x a' w' => x = e.toExit ∧ After w0 ro σ n st' a' w'
def OkAt (C : Cfg) (n : Nat) (c : Code) (f : St → Option (E × St)) : Prop :=
  ∀ (st st' : St) (e : E) (w0 : Base) (w : World) (ro : RO) (σ : Map) (a : Act), f st = some (e, st') → HRep w0 w ro σ st.hp st.gn → SRep w0 ro σ n st.sl a → c.wp C.P (Good w0 ro σ n st' e) a w
theorem After.trans {w0 : Base} {ro ro' : RO} {σ σ' : Map} {n : Nat} {st : St} {a : Act} {w : World} (he : Ext ro ro' σ σ') (h : After w0 ro' σ' n st a w) : After w0 ro σ n st a w := by
  obtain ⟨r, s, e, h1, h2⟩ := h
  exact ⟨r, s, he.trans e, h1, h2⟩
theorem bindE_some {r : Option (E × St)} {f : St → Option (E × St)} {e : E} {st' : St} (h : bindE r f = some (e, st')) :
    (∃ s, r = some (.normal, s) ∧ f s = some (e, st')) ∨ (e ≠ .normal ∧ r = some (e, st')) := by
  unfold bindE at h
  split at h
  · exact .inl ⟨_, rfl, h⟩
  · rename_i hne
    refine .inr ⟨fun he => ?_, h⟩
    subst he
    exact hne st' h
theorem toExit_normal {e : E} (h : e ≠ .normal) : ∀ (K : Act → World → Prop) (Q : Exit → Act → World → Prop) (a : Act) (w : World), Q e.toExit a w → Exit.then K Q e.toExit a w := by
  intro K Q a w hq
  cases e with
  | normal => exact absurd rfl h
  | exit i => exact hq
  | ret => exact hq
theorem then_ok {C : Cfg} {n : Nat} {c : Code} {f : St → Option (E × St)} (hc : OkAt C n c f) {g : St → Option (E × St)} {st st' : St} {e : E} (h : bindE (f st) g = some (e, st')) {w0 : Base} {w : World} {ro : RO} {σ : Map} {a : Act}
    (hh : HRep w0 w ro σ st.hp st.gn) (hs : SRep w0 ro σ n st.sl a) {K : Act → World → Prop}
    (hK : ∀ s a' w' ro' σ', g s = some (e, st') → Ext ro ro' σ σ' → HRep w0 w' ro' σ' s.hp s.gn → SRep w0 ro' σ' n s.sl a' → K a' w') : c.wp C.P (Exit.then K (Good w0 ro σ n st' e)) a w := by
  rcases bindE_some h with ⟨s, h1, h2⟩ | ⟨hne, h1⟩
  · refine wp_mono (hc st s .normal w0 w ro σ a h1 hh hs) (fun x a' w' ⟨hx, ro', σ', he, hh', hs'⟩ => ?_)
    subst hx
    exact hK s a' w' ro' σ' h2 he hh' hs'
  · refine wp_mono (hc st st' e w0 w ro σ a h1 hh hs) (fun x a' w' ⟨hx, haft⟩ => ?_)
    subst hx
    exact toExit_normal hne _ _ _ _ ⟨rfl, haft⟩
theorem Good.weaken {w0 : Base} {ro ro' : RO} {σ σ' : Map} {n : Nat} {st : St} {e : E} (he : Ext ro ro' σ σ') : ∀ x a w, Good w0 ro' σ' n st e x a w → Good w0 ro σ n st e x a w :=
  fun x a w ⟨hx, h⟩ => ⟨hx, h.trans he⟩
theorem rounds_mono {P : Program} {c : Code} {Q Q' : Exit → Act → World → Prop} (hq : ∀ x a w, Q x a w → Q' x a w) : ∀ (n : Nat) (a : Act) (w : World), Code.rounds P c Q n a w → Code.rounds P c Q' n a w
  | 0, _, _, h => h
  | n + 1, a, w, h => wp_mono h (fun x a w hx => by
    cases x with
    | normal => exact rounds_mono hq n a w hx
    | _ => exact hq _ _ _ hx)
theorem execC_ok {C : Cfg} (hP : ProgOk C) (hX : ExtOk C) (hm : C.P.follows .mixedOrders = true) (k : Nat) (hk : ∀ j, j ≤ k → CodeOk C (exec C j)) :
    ∀ (c : Code) (m n : Nat), codeStat C m c = true → m ≤ n → ∀ j, j ≤ k → OkAt C n c (execC C (exec C j) c) := by
  intro c
  induction c with
  | skip =>
    intro m n _ _ j _ st st' e w0 w ro σ a h hh hs
    simp only [execC, Option.some.injEq, Prod.mk.injEq] at h
    obtain ⟨rfl, rfl⟩ := h
    exact wp_skip ⟨rfl, ro, σ, Ext.refl ro σ, hh, hs⟩
  | label l =>
    intro m n _ _ j _ st st' e w0 w ro σ a h hh hs
    simp only [execC, Option.some.injEq, Prod.mk.injEq] at h
    obtain ⟨rfl, rfl⟩ := h
    exact wp_label ⟨rfl, ro, σ, Ext.refl ro σ, hh, hs⟩
  | exit i =>
    intro m n _ _ j _ st st' e w0 w ro σ a h hh hs
    simp only [execC, Option.some.injEq, Prod.mk.injEq] at h
    obtain ⟨rfl, rfl⟩ := h
    exact wp_exit ⟨rfl, ro, σ, Ext.refl ro σ, hh, hs⟩
  | ret =>
    intro m n _ _ j _ st st' e w0 w ro σ a h hh hs
    simp only [execC, Option.some.injEq, Prod.mk.injEq] at h
    obtain ⟨rfl, rfl⟩ := h
    exact wp_ret ⟨rfl, ro, σ, Ext.refl ro σ, hh, hs⟩
  | seq x y ihx ihy =>
    intro m n hst hmn j hj st st' e w0 w ro σ a h hh hs
    simp only [codeStat, Bool.and_eq_true] at hst
    simp only [execC] at h
    exact wp_seq (then_ok (ihx m n hst.1 hmn j hj) h hh hs (fun s a' w' ro' σ' hg he hh' hs' =>
      wp_mono (ihy m n hst.2 hmn j hj s st' e w0 w' ro' σ' a' hg hh' hs') (Good.weaken he)))
  | region id ops d =>
    intro m n hst hmn j hj st st' e w0 w ro σ a h hh hs
    simp only [codeStat, Bool.and_eq_true, Bool.or_eq_true, Bool.not_eq_true'] at hst
    simp only [execC, Option.bind_eq_some_iff] at h
    obtain ⟨s, h1, h⟩ := h
    split at h
    · cases h
    · rename_i hd
      simp only [Option.some.injEq, Prod.mk.injEq] at h
      obtain ⟨rfl, rfl⟩ := h
      cases d with
      | false => exact region_ok (hk j hj) hP hX h1 hst.1 hmn hh hs (fun a' w' ha => ⟨rfl, ha⟩)
      | true =>
        simp only [Bool.true_and, Bool.not_eq_true', Bool.not_eq_false] at hd
        refine draw_ok (hk j hj) hP hX hm h1 hst.1 hmn (hst.2.resolve_left (by simp)) hd hh hs (fun a' w' ha => ⟨rfl, ha⟩)
  | cond x y z ihy ihz =>
    intro m n hst hmn j hj st st' e w0 w ro σ a h hh hs
    simp only [codeStat, Bool.and_eq_true] at hst
    simp only [execC] at h
    split at h
    · rename_i t ht
      have hx := ev_rep hs x
      rw [ht] at hx
      refine wp_cond hx.bool_inv ?_
      split at h
      · rename_i h1; rw [if_pos h1]; exact ihy m n hst.1 hmn j hj st st' e w0 w ro σ a h hh hs
      · rename_i h1; rw [if_neg h1]; exact ihz m n hst.2 hmn j hj st st' e w0 w ro σ a h hh hs
    · cases h
  | block id x ih =>
    intro m n hst hmn j hj st st' e w0 w ro σ a h hh hs
    simp only [codeStat] at hst
    simp only [execC] at h
    unfold leave at h
    split at h
    · rename_i i s hr
      simp only [Option.some.injEq, Prod.mk.injEq] at h
      obtain ⟨he, rfl⟩ := h
      refine wp_block (wp_mono (ih m n hst hmn j hj st s (.exit i) w0 w ro σ a hr hh hs) (fun x a' w' ⟨hx, haft⟩ => ?_))
      subst hx
      simp only [E.toExit, Exit.inBlock]
      split at he
      · rename_i hi; subst he; rw [if_pos hi]; exact ⟨rfl, haft⟩
      · rename_i hi; subst he; rw [if_neg hi]; exact ⟨rfl, haft⟩
    · rename_i hne
      refine wp_block (wp_mono (ih m n hst hmn j hj st st' e w0 w ro σ a h hh hs) (fun x a' w' ⟨hx, haft⟩ => ?_))
      subst hx
      cases e with
      | normal => exact ⟨rfl, haft⟩
      | exit i => exact absurd h (hne i st')
      | ret => exact ⟨rfl, haft⟩
  | loop x ih =>
    intro m n hst hmn
    simp only [codeStat] at hst
    have key : ∀ j, j ≤ k → ∀ (st st' : St) (e : E) (w0 : Base) (w : World) (ro : RO) (σ : Map) (a : Act), execC C (exec C j) (.loop x) st = some (e, st') → HRep w0 w ro σ st.hp st.gn → SRep w0 ro σ n st.sl a →
        Code.rounds C.P x (Good w0 ro σ n st' e) (j + 1) a w := by
      intro j
      induction j with
      | zero =>
        intro hj st st' e w0 w ro σ a h hh hs
        simp only [execC] at h
        exact then_ok (ih m n hst hmn 0 hj) h hh hs (fun s a' w' ro' σ' hg he hh' hs' => by simp [exec] at hg)
      | succ i ihj =>
        intro hj st st' e w0 w ro σ a h hh hs
        simp only [execC] at h
        refine then_ok (ih m n hst hmn (i + 1) hj) h hh hs (fun s a' w' ro' σ' hg he hh' hs' => ?_)
        exact rounds_mono (Good.weaken he) _ _ _ (ihj (by omega) s st' e w0 w' ro' σ' a' hg hh' hs')
    intro j hj st st' e w0 w ro σ a h hh hs
    exact wp_loop_rounds _ (key j hj st st' e w0 w ro σ a h hh hs)
  | scope x ih =>
    intro m n hst hmn j hj st st' e w0 w ro σ a h hh hs
    simp only [codeStat] at hst
    simp only [execC] at h
    refine wp_scope_straight (wp_mono (ih m n hst hmn j hj st st' e w0 w ro σ a h hh hs) (fun x a' w' ⟨hx, haft⟩ => ?_))
    subst hx
    cases e <;> exact ⟨rfl, haft⟩
  | _ =>
    intro m n hst hmn j hj st st' e w0 w ro σ a h hh hs
    simp [execC] at h
theorem exec_ok {C : Cfg} (hP : ProgOk C) (hX : ExtOk C) (hm : C.P.follows .mixedOrders = true) : ∀ k, CodeOk C (exec C k) := by
  intro k
  induction k using Nat.strongRecOn with
  | _ k ih =>
    intro c m n st st' e w0 w ro σ a h hst hmn hh hs
    cases k with
    | zero => simp [exec] at h
    | succ k => exact execC_ok hP hX hm k (fun j hj => ih j (by omega)) c m n hst hmn k (Nat.le_refl _) st st' e w0 w ro σ a h hh hs
end Vai
