import Derived.Test.YtjienkojedlfjaaVbS
import Derived.ScopeJumps
set_option linter.unusedSectionVars false
namespace Vai
open Go Go.RowKit
set_option linter.unusedVariables false
set_option linter.unusedSimpArgs false
def NatK {ι : Type} (g : (R : Type) → (ι → Option R) → Option R) : Prop := ∃ o : Option ι, ∀ R K, g R K = o.bind K
theorem IsK.nat {ι : Type} {g : (R : Type) → (ι → Option R) → Option R} {o : Option ι} (h : IsK g o) : NatK g := ⟨h.choose, h.choose_spec.1⟩
theorem NatK.is {ι : Type} {g : (R : Type) → (ι → Option R) → Option R} (h : NatK g) : ∃ o, IsK g o := ⟨h.choose, h.choose, h.choose_spec, fun _ h => h⟩
theorem NatK.bind {ι κ : Type} {g : (R : Type) → (ι → Option R) → Option R} {f : ι → (R : Type) → (κ → Option R) → Option R} (h : NatK g) (k : ∀ a, NatK (f a)) : NatK (fun R K => g R fun a => f a R K) := by
  obtain ⟨o, ho⟩ := h.is
  exact (ho.bind (p := fun a => (k a).choose) fun a => ⟨(k a).choose, (k a).choose_spec, fun _ h => h⟩).nat
theorem NatK.pure {ι : Type} (a : ι) : NatK (fun R (K : ι → Option R) => K a) := (IsK.pure a).nat
theorem NatK.none {ι : Type} : NatK (fun R (K : ι → Option R) => Option.none) := (IsK.none Option.none).nat
theorem NatK.gd {ι : Type} {b : Bool} {g : (R : Type) → (ι → Option R) → Option R} (h : NatK g) : NatK (fun R K => Vai.gd b (g R K)) := by
  cases b with
  | false => exact NatK.none
  | true => exact h
theorem NatK.cond {ι : Type} {b : Bool} {g g' : (R : Type) → (ι → Option R) → Option R} (h : NatK g) (h' : NatK g') : NatK (fun R K => bif b then g R K else g' R K) := by
  cases b with
  | false => exact h'
  | true => exact h
theorem NatK.seqE {ι : Type} {f : St → (R : Type) → (ι → Option R) → Option R} {k : E → St → (R : Type) → (ι → Option R) → Option R} (hf : ∀ s, NatK (f s)) (hk : ∀ e s, NatK (k e s)) (e : E) (s : St) :
    NatK (fun R K => Vai.seqE (fun s => f s R K) (fun e s => k e s R K) e s) := by
  cases e with
  | normal => exact hf s
  | _ => exact hk _ s
theorem exJ_nat (C : Cfg) : ∀ (c : Code) {ι : Type} (T : Nat → St → (R : Type) → (ι → Option R) → Option R) (hT : ∀ l s, NatK (T l s)) (st : St) (k : E → St → (R : Type) → (ι → Option R) → Option R), (∀ e s, NatK (k e s)) → NatK (fun R K => exJ C (fun l s => T l s R K) c st fun e s => k e s R K) := by
  intro c
  induction c with
  | skip => intro ι T hT st k hk; exact hk _ _
  | label l => intro ι T hT st k hk; exact hk _ _
  | exit i => intro ι T hT st k hk; exact hk _ _
  | ret => intro ι T hT st k hk; exact hk _ _
  | goto l => intro ι T hT st k hk; exact hT _ _
  | seq a b iha ihb => intro ι T hT st k hk; exact iha T hT st _ (NatK.seqE (fun s => ihb T hT s k hk) hk)
  | region id ops d => intro ι T hT st k hk; exact (iopsK_is C (fun _ _ => none) ops ops.toList st).nat.bind fun s => NatK.gd (hk _ _)
  | cond c a b iha ihb =>
    intro ι T hT st k hk
    simp only [exJ]
    split
    · exact NatK.cond (iha T hT _ k hk) (ihb T hT _ k hk)
    · exact NatK.none
  | block id c ih => intro ι T hT st k hk; exact ih T hT st _ fun e s => hk _ _
  | _ => intro ι T hT st k hk; exact NatK.none
theorem exS_nat (C : Cfg) (c : Code) {ι : Type} (st : St) (k : E → St → (R : Type) → (ι → Option R) → Option R) (hk : ∀ e s, NatK (k e s)) : NatK (fun R K => exS C c st fun e s => k e s R K) := by
  unfold exS
  split
  · rename_i r hr
    refine exJ_nat C c (fun l s R K => bif l == gotoOf c then exJ C noT r s (fun e s => k e s R K) else none) (fun l s => ?_) st k hk
    cases l == gotoOf c with
    | true => exact exJ_nat C r (fun _ _ _ _ => none) (fun _ _ => NatK.none) s k hk
    | false => exact NatK.none
  · exact NatK.none
theorem exU_nat (C : Cfg) : ∀ (c : Code) {ι : Type} (st : St) (k : E → St → (R : Type) → (ι → Option R) → Option R), (∀ e s, NatK (k e s)) → NatK (fun R K => exU C c st fun e s => k e s R K) := by
  intro c
  induction c with
  | skip => intro ι st k hk; exact hk _ _
  | label l => intro ι st k hk; exact hk _ _
  | exit i => intro ι st k hk; exact hk _ _
  | ret => intro ι st k hk; exact hk _ _
  | seq a b iha ihb => intro ι st k hk; exact iha st _ (NatK.seqE (fun s => ihb s k hk) hk)
  | region id ops d => intro ι st k hk; exact (iopsK_is C (fun _ _ => none) ops ops.toList st).nat.bind fun s => NatK.gd (hk _ _)
  | cond c a b iha ihb =>
    intro ι st k hk
    simp only [exU]
    split
    · exact NatK.cond (iha _ k hk) (ihb _ k hk)
    · exact NatK.none
  | block id c ih => intro ι st k hk; exact ih st _ fun e s => hk _ _
  | loop c ih =>
    intro ι st k hk
    have : ∀ (n : Nat) (s : St), NatK (fun R (K : ι → Option R) => Nat.rec (motive := fun _ => St → Option R) (fun _ => none) (fun _ ih s => exU C c s (Vai.seqE ih (fun e s => k e s R K))) n s) := by
      intro n
      induction n with
      | zero => intro s; exact NatK.none
      | succ n ihn => intro s; exact ih s _ (NatK.seqE ihn hk)
    exact this 64 st
  | scope c ih =>
    intro ι st k hk
    simp only [exU]
    cases gotos c with
    | true => exact exS_nat C c st k hk
    | false => exact ih st k hk
  | _ => intro ι st k hk; exact NatK.none
section
variable {ι : Type} {C : Cfg} {J : Nat → Bool} {g : Nat → St → (R : Type) → (ι → Option R) → Option R} (hg : ∀ p s, NatK (g p s))
include hg
theorem jn_nat (p : Nat) {k : E → St → (R : Type) → (ι → Option R) → Option R} (hk : ∀ e s, NatK (k e s)) (e : E) (s : St) : NatK (fun R K => jn J (fun p s => g p s R K) p (fun e s => k e s R K) e s) := by
  unfold jn
  cases J p with
  | false => exact hk e s
  | true => exact NatK.seqE (hg p) hk e s
theorem exK_nat : ∀ (c : Code) (p : Nat) (st : St) (k : E → St → (R : Type) → (ι → Option R) → Option R), (∀ e s, NatK (k e s)) → NatK (fun R K => exK C J (fun p s => g p s R K) p c st fun e s => k e s R K) := by
  intro c
  induction c with
  | skip => intro p st k hk; exact hk _ _
  | label l => intro p st k hk; exact hk _ _
  | exit i => intro p st k hk; exact hk _ _
  | ret => intro p st k hk; exact hk _ _
  | seq a b iha ihb => intro p st k hk; exact iha (2 * p) st _ (NatK.seqE (fun s => ihb (2 * p + 1) s k hk) hk)
  | region id ops d => intro p st k hk; exact (iopsK_is C (fun _ _ => none) ops ops.toList st).nat.bind fun s => NatK.gd (jn_nat hg p hk _ _)
  | cond c a b iha ihb =>
    intro p st k hk
    simp only [exK]
    split
    · exact NatK.cond (iha _ _ _ (jn_nat hg p hk)) (ihb _ _ _ (jn_nat hg p hk))
    · exact NatK.none
  | block id c ih => intro p st k hk; exact ih _ st _ fun e s => jn_nat hg p hk _ _
  | loop c ih =>
    intro p st k hk
    simp only [exK]
    cases J p with
    | true => exact hg p st
    | false => exact exU_nat C (.loop c) st k hk
  | scope c ih =>
    intro p st k hk
    simp only [exK]
    cases gotos c with
    | true => exact exS_nat C c st k hk
    | false => exact ih _ st k hk
  | _ => intro p st k hk; exact NatK.none
theorem kf_nat {fin : E → St → (R : Type) → (ι → Option R) → Option R} (hf : ∀ e s, NatK (fin e s)) : ∀ (fs : List Fr) (e : E) (s : St), NatK (fun R K => kf C J (fun p s => g p s R K) (fun e s => fin e s R K) fs e s)
  | [], e, s => hf e s
  | .seqR b p :: fs, e, s => NatK.seqE (fun s => exK_nat hg b p s _ (kf_nat hf fs)) (kf_nat hf fs) e s
  | .blk id p :: fs, e, s => jn_nat hg p (kf_nat hf fs) _ s
  | .lp _ p :: fs, e, s => NatK.seqE (hg p) (kf_nat hf fs) e s
  | .cnd p :: fs, e, s => jn_nat hg p (kf_nat hf fs) e s
  | .scp _ :: fs, e, s => kf_nat hf fs e s
end
theorem gdB_nat {ι : Type} {g : (R : Type) → (ι → Option R) → Option R} (h : NatK g) : ∀ bs : List (Option CB), NatK (fun R K => gdB bs (g R K))
  | [] => h
  | none :: l => gdB_nat h l
  | some b :: l => by
    simp only [gdB]
    split
    · exact gdB_nat h l
    · exact NatK.gd (gdB_nat h l)
theorem cano_nat (ns : List Bool) (vs : List AV) (hp : Mem) : NatK (fun R K => canoK ns vs hp K) := by
  unfold canoK
  simp only
  split
  · exact (IsK.lift _).nat.bind fun us => (IsK.lift _).nat.bind fun bs => gdB_nat (NatK.pure _) bs
  · exact NatK.none
theorem fin_nat (D : Dn) (e : E) (s : St) : NatK (fun R K => finK D K e s) := by
  unfold finK
  cases e with
  | exit i => exact NatK.none
  | _ =>
    simp only
    refine (IsK.lift _).nat.bind fun vs => ?_
    cases D.mem with
    | none => exact (snapRK_is _ _).nat.bind fun v => NatK.pure _
    | some ns => exact (cano_nat ns _ _).bind fun cs => NatK.pure _
theorem step_nat (D : Dn) (p : Nat) (cs : CS) : NatK (fun R (K : Res ⊕ (Nat × CS) → Option R) => D.stepK (fun q cs => K (.inr (q, cs))) (fun r => K (.inl r)) p cs) := by
  have hg : ∀ (q : Nat) (s : St), NatK (fun R (K : Res ⊕ (Nat × CS) → Option R) => canoK (D.mem.getD []) ((D.lv q).map s.sl) s.hp fun cs => K (.inr (q, cs))) := fun q s => (cano_nat _ _ _).bind fun cs => NatK.pure _
  have hf : ∀ (e : E) (s : St), NatK (fun R (K : Res ⊕ (Nat × CS) → Option R) => finK D (fun r => K (.inl r)) e s) := fun e s => (fin_nat D e s).bind fun r => NatK.pure _
  unfold Dn.stepK
  simp only
  split
  · exact exK_nat hg _ _ _ _ hf
  · split
    · exact exK_nat hg _ _ _ _ (kf_nat hg hf _)
    · exact kf_nat hg hf _ _ _
    · exact NatK.none
def Dn.run (D : Dn) : Nat → Nat → CS → Option Res
  | 0, _, _ => none
  | k + 1, p, cs => D.stepK (D.run k) some p cs
theorem step_as (D : Dn) (p : Nat) (cs : CS) : ∃ o : Option (Res ⊕ (Nat × CS)), ∀ (R : Type) (G : Nat → CS → Option R) (K : Res → Option R), D.stepK G K p cs = o.bind fun x => match x with
    | .inl r => K r
    | .inr q => G q.1 q.2 := by
  obtain ⟨o, ho⟩ := step_nat D p cs
  refine ⟨o, fun R G K => ?_⟩
  exact ho R fun x => match x with
    | .inl r => K r
    | .inr q => G q.1 q.2
theorem run_succ (D : Dn) : ∀ (k p : Nat) (cs : CS) (r : Res), D.run k p cs = some r → D.run (k + 1) p cs = some r
  | 0, p, cs, r, h => by cases h
  | k + 1, p, cs, r, h => by
    obtain ⟨o, ho⟩ := step_as D p cs
    show D.stepK (D.run (k + 1)) some p cs = some r
    have h : D.stepK (D.run k) some p cs = some r := h
    rw [ho] at h ⊢
    cases o with
    | none => cases h
    | some x => cases x with
      | inl r' => exact h
      | inr q => exact run_succ D k _ _ _ h
theorem run_le (D : Dn) {k p : Nat} {cs : CS} {r : Res} (h : D.run k p cs = some r) : ∀ j, D.run (k + j) p cs = some r
  | 0 => h
  | j + 1 => run_succ D _ _ _ _ (run_le D h j)
noncomputable def Dn.From (D : Dn) (p : Nat) (cs : CS) : Option Res := @dite _ (∃ r k, D.run k p cs = some r) (Classical.propDecidable _) (fun h => some h.choose) fun _ => none
theorem from_iff (D : Dn) (p : Nat) (cs : CS) (r : Res) : D.From p cs = some r ↔ ∃ k, D.run k p cs = some r := by
  unfold Dn.From
  constructor
  · intro h
    split at h
    · rename_i hx
      simp only [Option.some.injEq] at h
      obtain ⟨k, hk⟩ := hx.choose_spec
      exact ⟨k, by rw [hk, h]⟩
    · cases h
  · rintro ⟨k, hk⟩
    have hx : ∃ r k, D.run k p cs = some r := ⟨r, k, hk⟩
    rw [dif_pos hx]
    obtain ⟨j, hj⟩ := hx.choose_spec
    have h1 := run_le D hk j
    have h2 := run_le D hj k
    rw [Nat.add_comm] at h2
    rw [h1] at h2
    exact h2.symm ▸ rfl
theorem from_eq (D : Dn) (p : Nat) (cs : CS) : D.From p cs = D.stepK D.From some p cs := by
  obtain ⟨o, ho⟩ := step_as D p cs
  rw [ho]
  have h0 : ∀ k, D.run (k + 1) p cs = o.bind fun x => match x with
    | .inl r => some r
    | .inr q => D.run k q.1 q.2 := fun k => ho _ _ _
  cases hr : D.From p cs with
  | some r =>
    obtain ⟨k, hk⟩ := (from_iff D p cs r).1 hr
    cases k with
    | zero => cases hk
    | succ k =>
      rw [h0] at hk
      cases o with
      | none => cases hk
      | some x => cases x with
        | inl r' => exact hk.symm
        | inr q => exact ((from_iff D _ _ r).2 ⟨k, hk⟩).symm
  | none =>
    cases o with
    | none => rfl
    | some x => cases x with
      | inl r' =>
        have := (from_iff D p cs r').2 ⟨1, by rw [h0]; rfl⟩
        rw [hr] at this
        cases this
      | inr q =>
        show none = D.From q.1 q.2
        cases hq : D.From q.1 q.2 with
        | none => rfl
        | some r =>
          obtain ⟨k, hk⟩ := (from_iff D _ _ r).1 hq
          have := (from_iff D p cs r).2 ⟨k + 1, by rw [h0]; exact hk⟩
          rw [hr] at this
          cases this
theorem From.of {D : Dn} {p : Nat} {cs : CS} {x : Option Res} (h : D.stepK D.From some p cs = x) : D.From p cs = x := (from_eq D p cs).trans h
def StOk (n0 : Nat) (w0 : Base) (ro0 : RO) (σ0 : Map) (n : Nat) (s : St) (a : Act) (w : World) : Prop := ∃ ro σ, ExtO n0 ro0 ro σ0 σ ∧ HRep w0 w ro σ s.hp s.gn ∧ SRep w0 ro σ n s.sl a
theorem StOk.after {n0 : Nat} {w0 : Base} {ro0 : RO} {σ0 : Map} {n : Nat} {ro : RO} {σ : Map} (h : ExtO n0 ro0 ro σ0 σ) {s : St} {a : Act} {w : World} (ha : After w0 ro σ n s a w) : StOk n0 w0 ro0 σ0 n s a w := by
  obtain ⟨ro', σ', e, h1, h2⟩ := ha
  exact ⟨ro', σ', h.trans (.of e), h1, h2⟩
theorem known_eq {s : St} {c : Operand} {t : Bool} (h : s.ev c = .bool t) : s.known c t = s := by
  cases c with
  | tmp x => exact put_same h
  | _ => rfl
theorem none_ok (C : Cfg) : CodeOk C (fun _ _ => none) := fun c m n st st' e w0 w ro σ a h => by cases h
section
variable {C : Cfg} (hP : ProgOk C) (hX : ExtOk C) (hm : C.P.follows .mixedOrders = true)
include hP hX hm
theorem region_okK {R : Type} {id : Nat} {ops : Array Oper} {d : Bool} {m n : Nat} (hst : codeStat C m (.region id ops d) = true) (hmn : m ≤ n) {st : St} {K : St → Option R} {r : R} (h : (iopsK C ops ops.toList st fun s => gd (!d || dynOk C ops s) (K s)) = some r)
    {n0 : Nat} {w0 : Base} {ro0 : RO} {σ0 : Map} {a : Act} {w : World} (hs : StOk n0 w0 ro0 σ0 n st a w) {X : Exit → Act → World → Prop} (hK : ∀ s a' w', K s = some r → StOk n0 w0 ro0 σ0 n s a' w' → X .normal a' w') : (Code.region id ops d).wp C.P X a w := by
  simp only [codeStat, Bool.and_eq_true, Bool.or_eq_true, Bool.not_eq_true'] at hst
  obtain ⟨o', h1, h2⟩ := iopsK_is C (fun _ _ => none) ops ops.toList st
  have h1 : ∀ R (K : St → Option R), iopsK C ops ops.toList st K = o'.bind K := h1
  rw [h1, Option.bind_eq_some_iff] at h
  obtain ⟨s, hs', h⟩ := h
  obtain ⟨ro, σ, he, hh, hsr⟩ := hs
  cases hg : (!d || dynOk C ops s) with
  | false => rw [hg] at h; cases h
  | true =>
    rw [hg] at h
    have h : K s = some r := h
    have fin : ∀ a' w', After w0 ro σ n s a' w' → X .normal a' w' := fun a' w' ha => hK s a' w' h (StOk.after he ha)
    cases d with
    | false => exact region_ok (none_ok C) hP hX (h2 s hs') hst.1 hmn hh hsr fin
    | true => exact draw_ok (none_ok C) hP hX hm (h2 s hs') hst.1 hmn (hst.2.resolve_left (by simp)) (by simpa using hg) hh hsr fin
theorem findLabel_stat {C : Cfg} {m l : Nat} : ∀ {c r : Code}, findLabel c l = some r → codeStat C m c = true → codeStat C m r = true := by
  intro c
  induction c with
  | seq a b iha ihb =>
    intro r h hs
    simp only [codeStat, Bool.and_eq_true] at hs
    simp only [findLabel] at h
    split at h
    · rename_i ra hra
      cases h
      simp only [codeStat, Bool.and_eq_true]
      exact ⟨iha hra hs.1, hs.2⟩
    · exact ihb h hs.2
  | label l' =>
    intro r h hs
    simp only [findLabel] at h
    split at h
    · cases h; rfl
    · cases h
  | _ => intro r h hs; simp [findLabel] at h
theorem exJ_ok : ∀ (c : Code) (m n : Nat), codeStat C m c = true → m ≤ n → ∀ {R : Type} (T : Nat → St → Option R) (st : St) (K : E → St → Option R) (r : R), exJ C T c st K = some r → ∀ {n0 : Nat} {w0 : Base} {ro0 : RO} {σ0 : Map} {a : Act} {w : World}, StOk n0 w0 ro0 σ0 n st a w →
    ∀ {X : Exit → Act → World → Prop}, (∀ e s a' w', K e s = some r → StOk n0 w0 ro0 σ0 n s a' w' → X e.toExit a' w') → (∀ l s a' w', T l s = some r → StOk n0 w0 ro0 σ0 n s a' w' → X (.goto l) a' w') → c.wp C.P X a w := by
  intro c
  induction c with
  | skip => intro m n _ _ R T st K r h n0 w0 ro0 σ0 a w hs X hK hT; exact wp_skip (hK .normal st a w h hs)
  | label l => intro m n _ _ R T st K r h n0 w0 ro0 σ0 a w hs X hK hT; exact wp_label (hK .normal st a w h hs)
  | exit i => intro m n _ _ R T st K r h n0 w0 ro0 σ0 a w hs X hK hT; exact wp_exit (hK (.exit i) st a w h hs)
  | ret => intro m n _ _ R T st K r h n0 w0 ro0 σ0 a w hs X hK hT; exact wp_ret (hK .ret st a w h hs)
  | goto l => intro m n _ _ R T st K r h n0 w0 ro0 σ0 a w hs X hK hT; exact wp_goto (hT l st a w h hs)
  | seq x y ihx ihy =>
    intro m n hst hmn R T st K r h n0 w0 ro0 σ0 a w hs X hK hT
    simp only [codeStat, Bool.and_eq_true] at hst
    refine wp_seq (ihx m n hst.1 hmn T st _ r h hs (fun e s a' w' hk hs' => ?_) fun l s a' w' hk hs' => hT l s a' w' hk hs')
    cases e with
    | normal => exact ihy m n hst.2 hmn T s K r hk hs' hK hT
    | exit i => exact hK (.exit i) s a' w' hk hs'
    | ret => exact hK .ret s a' w' hk hs'
  | region id ops d =>
    intro m n hst hmn R T st K r h n0 w0 ro0 σ0 a w hs X hK hT
    exact region_okK hP hX hm hst hmn (K := fun s => K .normal s) h hs fun s a' w' hk hs' => hK .normal s a' w' hk hs'
  | cond x y z ihy ihz =>
    intro m n hst hmn R T st K r h n0 w0 ro0 σ0 a w hs X hK hT
    simp only [codeStat, Bool.and_eq_true] at hst
    simp only [exJ] at h
    split at h
    · rename_i t ht
      have hx : RV _ _ _ _ := ev_rep hs.choose_spec.choose_spec.2.2 x
      rw [ht] at hx
      refine wp_cond hx.bool_inv ?_
      cases t with
      | true => rw [known_eq ht] at h; exact ihy m n hst.1 hmn T st K r h hs hK hT
      | false => rw [known_eq ht] at h; exact ihz m n hst.2 hmn T st K r h hs hK hT
    · cases h
  | block id x ih =>
    intro m n hst hmn R T st K r h n0 w0 ro0 σ0 a w hs X hK hT
    simp only [codeStat] at hst
    refine wp_block (ih m n hst hmn T st _ r h hs (fun e s a' w' hk hs' => ?_) fun l s a' w' hk hs' => hT l s a' w' hk hs')
    cases e with
    | normal => exact hK .normal s a' w' hk hs'
    | ret => exact hK .ret s a' w' hk hs'
    | exit i =>
      simp only [unblk] at hk
      simp only [E.toExit, Exit.inBlock]
      split
      · rename_i hi; rw [if_pos hi] at hk; exact hK .normal s a' w' hk hs'
      · rename_i hi; rw [if_neg hi] at hk; exact hK (.exit i) s a' w' hk hs'
  | _ =>
    intro m n hst hmn R T st K r h
    simp [exJ] at h
theorem exS_ok (c : Code) (m n : Nat) (hst : codeStat C m c = true) (hmn : m ≤ n) {R : Type} (st : St) (K : E → St → Option R) (r : R) (h : exS C c st K = some r) {n0 : Nat} {w0 : Base} {ro0 : RO} {σ0 : Map} {a : Act} {w : World} (hs : StOk n0 w0 ro0 σ0 n st a w)
    {X : Exit → Act → World → Prop} (hK : ∀ e s a' w', K e s = some r → StOk n0 w0 ro0 σ0 n s a' w' → X e.toExit a' w') : (Code.scope c).wp C.P X a w := by
  unfold exS at h
  split at h
  · rename_i rest hr
    refine wp_scope_jumps (gotoOf c) (fun a w => rest.wp C.P (Exit.noGoto X) a w) (fun _ _ => 0) hr ?_ ?_
    · refine exJ_ok hP hX hm c m n hst hmn _ st K r h hs (fun e s a' w' hk hs' => ?_) fun l s a' w' hk hs' => ?_
      · have := hK e s a' w' hk hs'
        cases e <;> exact this
      · cases hl : l == gotoOf c with
        | false => rw [hl] at hk; cases hk
        | true =>
          rw [hl] at hk
          refine ⟨by simpa using hl, exJ_ok hP hX hm rest m n (findLabel_stat hP hX hm hr hst) hmn noT s K r hk hs' (fun e s a' w' hk hs' => ?_) fun l s a' w' hk _ => by cases hk⟩
          have := hK e s a' w' hk hs'
          cases e <;> exact this
    · intro a w hJ
      refine wp_mono hJ fun e a w he => ?_
      cases e <;> first | exact he.elim | exact he
  · cases h
theorem exU_ok : ∀ (c : Code) (m n : Nat), codeStat C m c = true → m ≤ n → ∀ {R : Type} (st : St) (K : E → St → Option R) (r : R), exU C c st K = some r → ∀ {n0 : Nat} {w0 : Base} {ro0 : RO} {σ0 : Map} {a : Act} {w : World}, StOk n0 w0 ro0 σ0 n st a w →
    ∀ {X : Exit → Act → World → Prop}, (∀ e s a' w', K e s = some r → StOk n0 w0 ro0 σ0 n s a' w' → X e.toExit a' w') → c.wp C.P X a w := by
  intro c
  induction c with
  | skip => intro m n _ _ R st K r h n0 w0 ro0 σ0 a w hs X hK; exact wp_skip (hK .normal st a w h hs)
  | label l => intro m n _ _ R st K r h n0 w0 ro0 σ0 a w hs X hK; exact wp_label (hK .normal st a w h hs)
  | exit i => intro m n _ _ R st K r h n0 w0 ro0 σ0 a w hs X hK; exact wp_exit (hK (.exit i) st a w h hs)
  | ret => intro m n _ _ R st K r h n0 w0 ro0 σ0 a w hs X hK; exact wp_ret (hK .ret st a w h hs)
  | seq x y ihx ihy =>
    intro m n hst hmn R st K r h n0 w0 ro0 σ0 a w hs X hK
    simp only [codeStat, Bool.and_eq_true] at hst
    refine wp_seq (ihx m n hst.1 hmn st _ r h hs fun e s a' w' hk hs' => ?_)
    cases e with
    | normal => exact ihy m n hst.2 hmn s K r hk hs' hK
    | exit i => exact hK (.exit i) s a' w' hk hs'
    | ret => exact hK .ret s a' w' hk hs'
  | region id ops d =>
    intro m n hst hmn R st K r h n0 w0 ro0 σ0 a w hs X hK
    exact region_okK hP hX hm hst hmn (K := fun s => K .normal s) h hs fun s a' w' hk hs' => hK .normal s a' w' hk hs'
  | cond x y z ihy ihz =>
    intro m n hst hmn R st K r h n0 w0 ro0 σ0 a w hs X hK
    simp only [codeStat, Bool.and_eq_true] at hst
    simp only [exU] at h
    split at h
    · rename_i t ht
      have hx : RV _ _ _ _ := ev_rep hs.choose_spec.choose_spec.2.2 x
      rw [ht] at hx
      refine wp_cond hx.bool_inv ?_
      cases t with
      | true => rw [known_eq ht] at h; exact ihy m n hst.1 hmn st K r h hs hK
      | false => rw [known_eq ht] at h; exact ihz m n hst.2 hmn st K r h hs hK
    · cases h
  | block id x ih =>
    intro m n hst hmn R st K r h n0 w0 ro0 σ0 a w hs X hK
    simp only [codeStat] at hst
    refine wp_block (ih m n hst hmn st _ r h hs fun e s a' w' hk hs' => ?_)
    cases e with
    | normal => exact hK .normal s a' w' hk hs'
    | ret => exact hK .ret s a' w' hk hs'
    | exit i =>
      simp only [unblk] at hk
      simp only [E.toExit, Exit.inBlock]
      split
      · rename_i hi; rw [if_pos hi] at hk; exact hK .normal s a' w' hk hs'
      · rename_i hi; rw [if_neg hi] at hk; exact hK (.exit i) s a' w' hk hs'
  | loop x ih =>
    intro m n hst hmn R st K r h n0 w0 ro0 σ0 a w hs X hK
    simp only [codeStat] at hst
    have key : ∀ (k : Nat) (st : St) (a : Act) (w : World), Nat.rec (motive := fun _ => St → Option R) (fun _ => none) (fun _ ih s => exU C x s (Vai.seqE ih K)) k st = some r → StOk n0 w0 ro0 σ0 n st a w → Code.rounds C.P x X k a w := by
      intro k
      induction k with
      | zero => intro st a w h _; cases h
      | succ k ihk =>
        intro st a w h hs
        refine ih m n hst hmn st _ r h hs fun e s a' w' hk hs' => ?_
        cases e with
        | normal => exact ihk s a' w' hk hs'
        | exit i => exact hK (.exit i) s a' w' hk hs'
        | ret => exact hK .ret s a' w' hk hs'
    exact wp_loop_rounds _ (key 64 st a w h hs)
  | scope x ih =>
    intro m n hst hmn R st K r h n0 w0 ro0 σ0 a w hs X hK
    simp only [codeStat] at hst
    simp only [exU] at h
    cases hg : gotos x with
    | true => rw [hg] at h; exact exS_ok hP hX hm x m n hst hmn st K r h hs hK
    | false =>
      rw [hg] at h
      refine wp_scope_straight (ih m n hst hmn st K r h hs fun e s a' w' hk hs' => ?_)
      have := hK e s a' w' hk hs'
      cases e <;> exact this
  | _ =>
    intro m n hst hmn R st K r h
    simp [exU] at h
end
def lpW (P : Program) (c : Code) (Q : Exit → Act → World → Prop) (a : Act) (w : World) : Prop :=
  ∀ b k cs, ∃ e a' w', Q e a' w' ∧ Arrives P (lone (b.at a (.code c :: .inLoop c :: k)) cs w) b k cs e a' w'
theorem lpW.wp {P : Program} {c : Code} {Q : Exit → Act → World → Prop} {a : Act} {w : World} (h : lpW P c Q a w) : (Code.loop c).wp P Q a w := fun b k cs => by
  obtain ⟨e, a', w', hq, harr⟩ := h b k cs
  exact ⟨e, a', w', hq, .of_steps (.one step_loop) harr⟩
theorem lpW.of {P : Program} {Q : Exit → Act → World → Prop} {a : Act} {w : World} {c : Code} (h : c.wp P (Exit.then (lpW P c Q) Q) a w) : lpW P c Q a w := by
  intro b k cs
  obtain ⟨e, a₁, w₁, hq, harr⟩ := h b (.inLoop c :: k) cs
  cases e with
  | normal =>
    obtain ⟨e₂, a₂, w₂, hq₂, harr₂⟩ := hq b k cs
    exact ⟨e₂, a₂, w₂, hq₂, .of_steps (Steps.trans harr (.one step_inLoop)) harr₂⟩
  | exit id => exact ⟨_, a₁, w₁, hq, .pass (x := .inLoop c) rfl (fun _ _ => .inl (by simp)) harr⟩
  | goto l => exact ⟨_, a₁, w₁, hq, .pass (x := .inLoop c) rfl (fun _ _ => .inl (by simp)) harr⟩
  | ret => exact ⟨_, a₁, w₁, hq, .pass (x := .inLoop c) rfl (fun _ _ => .inl (by simp)) harr⟩
  | panic ch => exact ⟨_, a₁, w₁, hq, .pass (x := .inLoop c) rfl (fun _ _ => .inl (by simp)) harr⟩
  | outgrown => exact ⟨_, a₁, w₁, hq, .pass (x := .inLoop c) rfl (fun _ _ => .inl (by simp)) harr⟩
def kw (P : Program) (QF : Exit → Act → World → Prop) : List Fr → Exit → Act → World → Prop
  | [] => QF
  | .seqR b _ :: fs => Exit.then (b.wp P (kw P QF fs)) (kw P QF fs)
  | .blk id _ :: fs => Exit.inBlock id (kw P QF fs)
  | .lp c _ :: fs => Exit.then (lpW P c (kw P QF fs)) (kw P QF fs)
  | .cnd _ :: fs => kw P QF fs
  | .scp _ :: fs => Exit.noGoto (kw P QF fs)
def ptW (P : Program) (QF : Exit → Act → World → Prop) (c : Code) (fs : List Fr) : Act → World → Prop := match c with
  | .loop c => lpW P c (kw P QF fs)
  | _ => kw P QF fs .normal
def posF : Nat → List Bool → Nat
  | p, [] => p
  | p, d :: ds => posF (2 * p + d.toNat) ds
theorem posF_ge : ∀ (ds : List Bool) (p : Nat), 1 ≤ p → p + ds.length ≤ posF p ds
  | [], p, h => by simp [posF]
  | d :: ds, p, h => by
    have := posF_ge ds (2 * p + d.toNat) (by omega)
    simp only [posF, List.length_cons]
    omega
theorem posF_app : ∀ (ds es : List Bool) (p : Nat), posF p (ds ++ es) = posF (posF p ds) es
  | [], es, p => rfl
  | d :: ds, es, p => posF_app ds es _
theorem bits_pos : ∀ (n : Nat) (ds : List Bool) (l : List Bool), ds.length ≤ n → bitsOf n (posF 1 ds) l = ds ++ l := by
  intro n
  induction n with
  | zero => intro ds l h; obtain rfl := List.length_eq_zero_iff.1 (Nat.le_zero.1 h); rfl
  | succ n ih =>
    intro ds l h
    rcases List.eq_nil_or_concat ds with rfl | ⟨es, b, rfl⟩
    · rfl
    · rw [List.concat_eq_append] at h ⊢
      have hge := posF_ge es 1 (Nat.le_refl 1)
      have hp : posF 1 (es ++ [b]) = 2 * posF 1 es + b.toNat := by rw [posF_app]; rfl
      rw [hp]
      unfold bitsOf
      rw [if_neg (by omega)]
      have h1 : (2 * posF 1 es + b.toNat) / 2 = posF 1 es := by cases b <;> simp <;> omega
      have h2 : ((2 * posF 1 es + b.toNat) % 2 == 1) = b := by cases b <;> simp [Nat.add_mod]
      rw [h1, h2, ih es _ (by simp at h; omega)]
      simp
theorem ctx_app {J : Nat → Bool} : ∀ (ds : List Bool) (es : List Bool) (p : Nat) (c : Code) (fs : List Fr) {c' : Code} {fs' : List Fr}, ctx J ds p c fs = some (c', fs') → ctx J (ds ++ es) p c fs = ctx J es (posF p ds) c' fs'
  | [], es, p, c, fs, c', fs', h => by
    simp only [ctx, Option.some.injEq, Prod.mk.injEq] at h
    obtain ⟨rfl, rfl⟩ := h
    rfl
  | d :: ds, es, p, c, fs, c', fs', h => by
    cases c with
    | seq a b =>
      simp only [ctx, List.cons_append] at h ⊢
      cases d with
      | false => exact ctx_app ds es _ _ _ h
      | true => exact ctx_app ds es _ _ _ h
    | cond x a b =>
      simp only [ctx, List.cons_append] at h ⊢
      cases d with
      | false => exact ctx_app ds es _ _ _ h
      | true => exact ctx_app ds es _ _ _ h
    | block id x =>
      cases d with
      | false => exact ctx_app ds es _ _ _ h
      | true => cases h
    | loop x =>
      cases d with
      | false =>
        simp only [ctx, List.cons_append] at h ⊢
        split at h
        · rename_i hj; rw [if_pos hj]; exact ctx_app ds es _ _ _ h
        · cases h
      | true => cases h
    | scope x =>
      cases d with
      | false => exact ctx_app ds es _ _ _ h
      | true => cases h
    | _ => cases d <;> cases h
section
variable (J : Nat → Bool) (B : Code)
def Pla (c : Code) (fs : List Fr) (p : Nat) : Prop := ∃ ds, ctx J ds 1 B [] = some (c, fs) ∧ posF 1 ds = p
def WL : List Fr → Prop
  | [] => True
  | .seqR b p :: fs => Pla J B b fs p ∧ WL fs
  | .blk id p :: fs => (∃ c, Pla J B (.block id c) fs p) ∧ WL fs
  | .lp c p :: fs => Pla J B (.loop c) fs p ∧ J p = true ∧ WL fs
  | .cnd p :: fs => (∃ x a b, Pla J B (.cond x a b) fs p) ∧ WL fs
  | .scp p :: fs => WL fs
end
section
variable {J : Nat → Bool} {B : Code}
theorem Pla.down {c : Code} {fs : List Fr} {p : Nat} (h : Pla J B c fs p) (d : Bool) {c' : Code} {fs' : List Fr} (e : ctx J [d] p c fs = some (c', fs')) : Pla J B c' fs' (2 * p + d.toNat) := by
  obtain ⟨ds, h1, rfl⟩ := h
  exact ⟨ds ++ [d], by rw [ctx_app ds [d] 1 B [] h1]; exact e, by rw [posF_app]; rfl⟩
theorem Pla.bits {c : Code} {fs : List Fr} {p : Nat} (h : Pla J B c fs p) : ctx J (bitsOf p p []) 1 B [] = some (c, fs) ∧ p ≠ 0 := by
  obtain ⟨ds, h1, rfl⟩ := h
  have hge := posF_ge ds 1 (Nat.le_refl 1)
  rw [bits_pos _ ds [] (by omega), List.append_nil]
  exact ⟨h1, by omega⟩
theorem wl_go : ∀ (ds : List Bool) {p : Nat} {c : Code} {fs : List Fr} {c' : Code} {fs' : List Fr}, Pla J B c fs p → WL J B fs → ctx J ds p c fs = some (c', fs') → WL J B fs'
  | [], p, c, fs, c', fs', hl, hw, h => by
    simp only [ctx, Option.some.injEq, Prod.mk.injEq] at h
    obtain ⟨rfl, rfl⟩ := h
    exact hw
  | d :: ds, p, c, fs, c', fs', hl, hw, h => by
    cases c with
    | seq a b =>
      cases d with
      | false => exact wl_go ds (c := a) (fs := .seqR b (2 * p + 1) :: fs) (hl.down false rfl) ⟨hl.down true rfl, hw⟩ h
      | true => exact wl_go ds (hl.down true rfl) hw h
    | cond x a b =>
      cases d with
      | false => exact wl_go ds (c := a) (fs := .cnd p :: fs) (hl.down false rfl) ⟨⟨x, a, b, hl⟩, hw⟩ h
      | true => exact wl_go ds (c := b) (fs := .cnd p :: fs) (hl.down true rfl) ⟨⟨x, a, b, hl⟩, hw⟩ h
    | block id x =>
      cases d with
      | false => exact wl_go ds (c := x) (fs := .blk id p :: fs) (hl.down false rfl) ⟨⟨x, hl⟩, hw⟩ h
      | true => cases h
    | loop x =>
      cases d with
      | false =>
        simp only [ctx] at h
        split at h
        · rename_i hj
          exact wl_go ds (c := x) (fs := .lp x p :: fs) (hl.down false (by simp [ctx, hj])) ⟨hl, hj, hw⟩ h
        · cases h
      | true => cases h
    | scope x =>
      cases d with
      | false => exact wl_go ds (c := x) (fs := .scp p :: fs) (hl.down false rfl) hw h
      | true => cases h
    | _ => cases d <;> cases h
theorem Pla.wl {c : Code} {fs : List Fr} {p : Nat} (h : Pla J B c fs p) : WL J B fs := by
  obtain ⟨ds, h1, rfl⟩ := h
  exact wl_go ds (c := B) (fs := []) ⟨[], rfl, rfl⟩ trivial h1
theorem stat_go {C : Cfg} {m : Nat} : ∀ (ds : List Bool) {p : Nat} {c : Code} {fs : List Fr} {c' : Code} {fs' : List Fr}, codeStat C m c = true → ctx J ds p c fs = some (c', fs') → codeStat C m c' = true
  | [], p, c, fs, c', fs', hw, h => by
    simp only [ctx, Option.some.injEq, Prod.mk.injEq] at h
    obtain ⟨rfl, rfl⟩ := h
    exact hw
  | d :: ds, p, c, fs, c', fs', hw, h => by
    cases c with
    | seq a b =>
      simp only [codeStat, Bool.and_eq_true] at hw
      cases d with
      | false => exact stat_go ds hw.1 h
      | true => exact stat_go ds hw.2 h
    | cond x a b =>
      simp only [codeStat, Bool.and_eq_true] at hw
      cases d with
      | false => exact stat_go ds hw.1 h
      | true => exact stat_go ds hw.2 h
    | block id x =>
      simp only [codeStat] at hw
      cases d with
      | false => exact stat_go ds hw h
      | true => cases h
    | loop x =>
      simp only [codeStat] at hw
      cases d with
      | false =>
        simp only [ctx] at h
        split at h
        · exact stat_go ds hw h
        · cases h
      | true => cases h
    | scope x =>
      simp only [codeStat] at hw
      cases d with
      | false => exact stat_go ds hw h
      | true => cases h
    | _ => cases d <;> cases h
theorem Pla.stat {C : Cfg} {m : Nat} (hB : codeStat C m B = true) {c : Code} {fs : List Fr} {p : Nat} (h : Pla J B c fs p) : codeStat C m c = true := by
  obtain ⟨ds, h1, rfl⟩ := h
  exact stat_go ds hB h1
end
section
variable {C : Cfg} (hP : ProgOk C) (hX : ExtOk C) (hm : C.P.follows .mixedOrders = true) {J : Nat → Bool} {B : Code} {m n : Nat} (hB : codeStat C m B = true) (hmn : m ≤ n)
  {R : Type} {G : Nat → St → Option R} {r : R} {n0 : Nat} {w0 : Base} {ro0 : RO} {σ0 : Map} {QF : Exit → Act → World → Prop}
  (hG : ∀ c fs p s a w, Pla J B c fs p → J p = true → G p s = some r → StOk n0 w0 ro0 σ0 n s a w → ptW C.P QF c fs a w)
include hP hX hm hB hmn hG
theorem jn_ok {c : Code} {fs : List Fr} {p : Nat} (hl : Pla J B c fs p) (hc : ∀ x, c ≠ .loop x) {K : E → St → Option R} (hK : ∀ e s a w, K e s = some r → StOk n0 w0 ro0 σ0 n s a w → kw C.P QF fs e.toExit a w) :
    ∀ e s a w, jn J G p K e s = some r → StOk n0 w0 ro0 σ0 n s a w → kw C.P QF fs e.toExit a w := by
  intro e s a w h hs
  unfold jn at h
  cases hj : J p with
  | false => rw [hj] at h; exact hK e s a w h hs
  | true =>
    rw [hj] at h
    have h : seqE (G p) K e s = some r := h
    cases e with
    | normal =>
      have := hG c fs p s a w hl hj h hs
      unfold ptW at this
      split at this
      · rename_i x; exact absurd rfl (hc x)
      · exact this
    | exit i => exact hK (.exit i) s a w h hs
    | ret => exact hK .ret s a w h hs
theorem exK_ok : ∀ (c : Code) (p : Nat) (fs : List Fr), Pla J B c fs p → ∀ (st : St) (K : E → St → Option R), exK C J G p c st K = some r → ∀ {a : Act} {w : World}, StOk n0 w0 ro0 σ0 n st a w →
    (∀ e s a w, K e s = some r → StOk n0 w0 ro0 σ0 n s a w → kw C.P QF fs e.toExit a w) → c.wp C.P (kw C.P QF fs) a w := by
  intro c
  induction c with
  | skip => intro p fs hl st K h a w hs hK; exact wp_skip (hK .normal st a w h hs)
  | label l => intro p fs hl st K h a w hs hK; exact wp_label (hK .normal st a w h hs)
  | exit i => intro p fs hl st K h a w hs hK; exact wp_exit (hK (.exit i) st a w h hs)
  | ret => intro p fs hl st K h a w hs hK; exact wp_ret (hK .ret st a w h hs)
  | seq x y ihx ihy =>
    intro p fs hl st K h a w hs hK
    refine wp_seq (ihx (2 * p) (.seqR y (2 * p + 1) :: fs) (hl.down false rfl) st _ h hs fun e s a w hk hs' => ?_)
    cases e with
    | normal => exact ihy (2 * p + 1) fs (hl.down true rfl) s K hk hs' hK
    | exit i => exact hK (.exit i) s a w hk hs'
    | ret => exact hK .ret s a w hk hs'
  | region id ops d =>
    intro p fs hl st K h a w hs hK
    have hj := jn_ok hP hX hm hB hmn hG hl (fun _ h => by cases h) hK
    exact region_okK hP hX hm (hl.stat hB) hmn (K := fun s => jn J G p K .normal s) h hs fun s a' w' hk hs' => hj .normal s a' w' hk hs'
  | cond x y z ihy ihz =>
    intro p fs hl st K h a w hs hK
    simp only [exK] at h
    split at h
    · rename_i t ht
      have hx : RV _ _ _ _ := ev_rep hs.choose_spec.choose_spec.2.2 x
      rw [ht] at hx
      refine wp_cond hx.bool_inv ?_
      have hj := jn_ok hP hX hm hB hmn hG hl (fun _ h => by cases h) hK
      cases t with
      | true => rw [known_eq ht] at h; exact ihy (2 * p) (.cnd p :: fs) (hl.down false rfl) st _ h hs hj
      | false => rw [known_eq ht] at h; exact ihz (2 * p + 1) (.cnd p :: fs) (hl.down true rfl) st _ h hs hj
    · cases h
  | block id x ih =>
    intro p fs hl st K h a w hs hK
    have hj := jn_ok hP hX hm hB hmn hG hl (fun _ h => by cases h) hK
    refine wp_block (ih (2 * p) (.blk id p :: fs) (hl.down false rfl) st _ h hs fun e s a' w' hk hs' => ?_)
    have := hj _ s a' w' hk hs'
    cases e with
    | normal => exact this
    | ret => exact this
    | exit i =>
      simp only [unblk] at this
      show Exit.inBlock id (kw C.P QF fs) (.exit i) a' w'
      simp only [Exit.inBlock]
      split
      · rename_i hi; rw [if_pos hi] at this; exact this
      · rename_i hi; rw [if_neg hi] at this; exact this
  | loop x ih =>
    intro p fs hl st K h a w hs hK
    simp only [exK] at h
    cases hj : J p with
    | true =>
      rw [hj] at h
      exact lpW.wp (hG _ fs p st a w hl hj h hs)
    | false =>
      rw [hj] at h
      exact exU_ok hP hX hm (.loop x) m n (hl.stat hB) hmn st K r h hs hK
  | scope x ih =>
    intro p fs hl st K h a w hs hK
    simp only [exK] at h
    cases hg : gotos x with
    | true =>
      rw [hg] at h
      have hst := hl.stat hB
      simp only [codeStat] at hst
      exact exS_ok hP hX hm x m n hst hmn st K r h hs hK
    | false =>
      rw [hg] at h
      refine wp_scope_straight (ih (2 * p) (.scp p :: fs) (hl.down false rfl) st K h hs fun e s a' w' hk hs' => ?_)
      have := hK e s a' w' hk hs'
      cases e <;> exact this
  | _ =>
    intro p fs hl st K h
    simp [exK] at h
theorem kf_ok {fin : E → St → Option R} (hF : ∀ e s a w, fin e s = some r → StOk n0 w0 ro0 σ0 n s a w → QF e.toExit a w) : ∀ (fs : List Fr), WL J B fs → ∀ e s a w, kf C J G fin fs e s = some r → StOk n0 w0 ro0 σ0 n s a w → kw C.P QF fs e.toExit a w
  | [], _, e, s, a, w, h, hs => hF e s a w h hs
  | .seqR b p :: fs, hw, e, s, a, w, h, hs => by
    cases e with
    | normal => exact exK_ok hP hX hm hB hmn hG b p fs hw.1 s _ h hs (kf_ok hF fs hw.2)
    | exit i => exact kf_ok hF fs hw.2 (.exit i) s a w h hs
    | ret => exact kf_ok hF fs hw.2 .ret s a w h hs
  | .blk id p :: fs, hw, e, s, a, w, h, hs => by
    obtain ⟨⟨c, hl⟩, hw⟩ := hw
    have := jn_ok hP hX hm hB hmn hG hl (fun _ h => by cases h) (kf_ok hF fs hw) _ s a w h hs
    cases e with
    | normal => exact this
    | ret => exact this
    | exit i =>
      simp only [unblk] at this
      show Exit.inBlock id (kw C.P QF fs) (.exit i) a w
      simp only [Exit.inBlock]
      split
      · rename_i hi; rw [if_pos hi] at this; exact this
      · rename_i hi; rw [if_neg hi] at this; exact this
  | .lp c p :: fs, hw, e, s, a, w, h, hs => by
    cases e with
    | normal => exact hG _ fs p s a w hw.1 hw.2.1 h hs
    | exit i => exact kf_ok hF fs hw.2.2 (.exit i) s a w h hs
    | ret => exact kf_ok hF fs hw.2.2 .ret s a w h hs
  | .cnd p :: fs, hw, e, s, a, w, h, hs => by
    obtain ⟨⟨x, c, b, hl⟩, hw⟩ := hw
    exact jn_ok hP hX hm hB hmn hG hl (fun _ h => by cases h) (kf_ok hF fs hw) e s a w h hs
  | .scp p :: fs, hw, e, s, a, w, h, hs => by
    have := kf_ok hF fs hw e s a w h hs
    cases e <;> exact this
end
theorem lk_at : ∀ (lv : List Nat) (vs : List AV) (i : Nat), lk lv vs i = .unk ∨ ∃ (j : Nat) (x : AV), lv[j]? = some i ∧ vs[j]? = some x ∧ lk lv vs i = x
  | [], vs, i => .inl rfl
  | a :: l, [], i => .inl rfl
  | a :: l, v :: vs, i => by
    unfold lk
    split
    · rename_i h; exact .inr ⟨0, v, by simp [h], by simp, rfl⟩
    · rcases lk_at l vs i with h | ⟨j, x, h1, h2, h3⟩
      · exact .inl h
      · exact .inr ⟨j + 1, x, by simpa using h1, by simpa using h2, h3⟩
theorem cano_st {R : Type} {ns : List Bool} {lv : List Nat} {s : St} {K : CS → Option R} {r : R} (h : canoK ns (lv.map s.sl) s.hp K = some r) {w0 : Base} {ro0 : RO} {σ0 : Map} {n : Nat} {a : Act} {w : World} (hs : StOk ns.length w0 ro0 σ0 n s a w) :
    ∃ cs, K cs = some r ∧ StOk ns.length w0 ro0 σ0 n (mkSt lv cs) a w := by
  obtain ⟨ro, σ, he, hh, hsr⟩ := hs
  obtain ⟨cs, σ', hk, hh', he', hl, hv, _⟩ := cano_ok h hh
  refine ⟨cs, hk, ro, σ', he.trans he', hh', hsr.size, fun d => ?_, hsr.nodef⟩
  show RV ro σ' (lk lv cs.vs d) _
  rcases lk_at lv cs.vs d with h0 | ⟨j, x, h1, h2, h3⟩
  · rw [h0]; exact .unk _
  · rw [h3]
    exact hv j _ x _ (by rw [List.getElem?_map, h1]; rfl) h2 (hsr.at_ d)
section
variable {D : Dn} (hP : ProgOk D.C) (hX : ExtOk D.C) (hm : D.C.P.follows .mixedOrders = true) {m n : Nat} (hB : codeStat D.C m D.body = true) (hmn : m ≤ n)
  {r : Res} {w0 : Base} {ro0 : RO} {σ0 : Map} {QF : Exit → Act → World → Prop} (hF : ∀ e s a w, finK D some e s = some r → StOk (D.mem.getD []).length w0 ro0 σ0 n s a w → QF e.toExit a w)
include hP hX hm hB hmn hF
theorem run_ok : ∀ (k : Nat) (c : Code) (fs : List Fr) (p : Nat) (cs : CS) (a : Act) (w : World), Pla D.J D.body c fs p → D.J p = true → D.run k p cs = some r → StOk (D.mem.getD []).length w0 ro0 σ0 n (mkSt (D.lv p) cs) a w → ptW D.C.P QF c fs a w := by
  intro k
  induction k with
  | zero => intro c fs p cs a w _ _ h; cases h
  | succ k ih =>
    intro c fs p cs a w hl hj h hs
    have h : D.stepK (D.run k) some p cs = some r := h
    have hG : ∀ c fs q s a w, Pla D.J D.body c fs q → D.J q = true → canoK (D.mem.getD []) ((D.lv q).map s.sl) s.hp (D.run k q) = some r → StOk (D.mem.getD []).length w0 ro0 σ0 n s a w → ptW D.C.P QF c fs a w := by
      intro c fs q s a w hl hj h hs
      obtain ⟨cs, hk, hs'⟩ := cano_st h hs
      exact ih c fs q cs a w hl hj hk hs'
    obtain ⟨hb, hp0⟩ := hl.bits
    unfold Dn.stepK at h
    simp only [if_neg hp0, hb] at h
    split at h
    · rename_i x fs' he
      simp only [Option.some.injEq, Prod.mk.injEq] at he
      obtain ⟨rfl, rfl⟩ := he
      refine lpW.of (exK_ok hP hX hm hB hmn hG x (2 * p) (.lp x p :: fs) (hl.down false (by simp [ctx, hj])) _ _ h hs fun e s a w hk hs' => ?_)
      exact kf_ok hP hX hm hB hmn hG hF (.lp x p :: fs) ⟨hl, hj, hl.wl⟩ e s a w hk hs'
    · rename_i x fs' hne he
      simp only [Option.some.injEq, Prod.mk.injEq] at he
      obtain ⟨rfl, rfl⟩ := he
      have := kf_ok hP hX hm hB hmn hG hF fs hl.wl .normal _ a w h hs
      unfold ptW
      split
      · rename_i y; exact absurd rfl (hne y)
      · exact this
    · rename_i hn; cases hn
theorem from_ok {cs : CS} (h : D.From 0 cs = some r) {a : Act} {w : World} (hs : StOk (D.mem.getD []).length w0 ro0 σ0 n ⟨fun i => cs.vs.getD i .undef, mkHp cs.bs, mkGn⟩ a w) : D.body.wp D.C.P QF a w := by
  obtain ⟨k, hk⟩ := (from_iff D 0 cs r).1 h
  cases k with
  | zero => cases hk
  | succ k =>
    have h : D.stepK (D.run k) some 0 cs = some r := hk
    unfold Dn.stepK at h
    simp only [if_true] at h
    refine exK_ok hP hX hm hB hmn (fun c fs q s a w hl hj h hs => ?_) D.body 1 [] ⟨[], rfl, rfl⟩ _ _ h hs hF
    obtain ⟨cs, hk, hs'⟩ := cano_st h hs
    exact run_ok hP hX hm hB hmn hF k c fs q cs a w hl hj hk hs'
end
theorem fn_ok {D : Dn} (hmem : D.mem = none) (hP : ProgOk D.C) (hX : ExtOk D.C) (hm : D.C.P.follows .mixedOrders = true) (hsk : D.C.skip D.f = false) (hb : ((D.C.P.funcs[D.f]?).bind (·.body)).isSome = true) {args : List AV} {r : Res}
    (h : D.From 0 ⟨args, []⟩ = some r) : FnOk D.C.P D.f args r.1 := by
  intro w F vals hFr ha
  cases hf : D.C.P.funcs[D.f]? with
  | none => rw [hf] at hb; cases hb
  | some fn =>
    cases hc : fn.body with
    | none => rw [hf] at hb; simp [hc] at hb
    | some c =>
      obtain ⟨hst, hnm⟩ := hP D.f fn c hsk hf hc
      have hbody : D.body = c := by unfold Dn.body; rw [hf]; simp [hc]
      have hres : D.res = fn.results.toList := by unfold Dn.res; rw [hf]
      have hva : RVs ⟨w, F⟩ (fun _ _ _ => False) args vals := ⟨ha.1, fun j a v h1 h2 => .free (ha.2 j a v h1 h2)⟩
      refine .inl ⟨callFunc_enter hf hc hnm vals w, calls_of_wp hf hc ?_⟩
      rw [← hbody] at hst ⊢
      have h0 : HRep ⟨w, F, [], fun _ => False, w⟩ w ⟨w, F⟩ (fun _ _ _ => False) (mkHp []) mkGn := by
        have := HRep.start hFr
        refine ⟨this.below, this.fr, this.sub, fun s g l l' h => h.elim, fun s g l h => h.elim, fun s g B h => ?_, fun s g B b sz N h => ?_, fun s g B b sz N h => ?_, fun s g B s' g' B' b sz N sz' N' h => ?_, fun _ h => h.elim, fun _ _ h => h.elim, fun s g B b sz N h => ?_⟩
        all_goals (obtain ⟨i, b, _, _, hb, _⟩ := mkHp_at h; simp at hb)
      refine from_ok hP hX hm hst (n := vals.size + (fn.ntmps - vals.size)) (by omega) (w0 := ⟨w, F, [], fun _ => False, w⟩) (ro0 := ⟨w, F⟩) (σ0 := fun _ _ _ => False) (fun e s a' w' hfin hs => ?_) h ⟨⟨w, F⟩, fun _ _ _ => False, ExtO.refl _ _ _, h0, SRep.enter rfl hva fn.ntmps⟩
      obtain ⟨ro', σ', he, hh, hsr⟩ := hs
      unfold finK at hfin
      have go : ((D.res.mapM (resV D.C.P s)).bind fun vs => snapRK s.hp (resT vs) fun v => some ((v, []) : Res)) = some r → a'.defers = [] ∧ ∃ v, (results fn a'.tmps).run D.C.P w' = .ok v w' ∧
          ∃ v', Ending.returned v = .returned v' ∧ (Below w.heap.size w w' ∧ RR ⟨w', fun b => F b ∨ (w.heap.size ≤ b ∧ b < w'.heap.size)⟩ r.1 v') := by
        intro hr
        simp only [Option.bind_eq_some_iff] at hr
        obtain ⟨vs, hvs, hr⟩ := hr
        rw [hres] at hvs
        obtain ⟨v, hv, hrv⟩ := results_run hh hsr hvs
        obtain ⟨o', h1, h2⟩ := snapRK_is s.hp (resT vs)
        have h1 : ∀ R (K : AV → Option R), snapRK s.hp (resT vs) K = o'.bind K := h1
        rw [h1, Option.bind_eq_some_iff] at hr
        obtain ⟨y, hy, hr⟩ := hr
        cases hr
        refine ⟨hsr.nodef, v, hv, v, rfl, hh.below, snapR_rep hh (fun b hb => ?_) (fun s g B b sz N hB hσ => ?_) (h2 y hy) hrv⟩
        · rcases hh.sub b hb with h1 | h1
          · exact .inl h1
          · exact .inr ⟨h1, (hh.fr b hb).1⟩
        · obtain ⟨l, hl, hblk⟩ := hh.blk _ _ _ hB
          obtain rfl := hh.fn _ _ _ _ hl hσ
          by_cases hfr : B.fr = true
          · have hb := hh.frz _ _ _ _ _ _ hB hfr hσ
            rcases hh.sub b hb with h1 | h1
            · exact .inl h1
            · exact .inr ⟨h1, hblk.lt⟩
          · exact .inr ⟨(hh.own _ _ _ _ _ _ hB (by simpa using hfr) hσ).2, hblk.lt⟩
      cases e with
      | exit i => cases hfin
      | normal => simp only [hmem] at hfin; exact go hfin
      | ret => simp only [hmem] at hfin; exact go hfin
theorem mfn_ok {D : Dn} {ns : List Bool} (hmem : D.mem = some ns) (hP : ProgOk D.C) (hX : ExtOk D.C) (hm : D.C.P.follows .mixedOrders = true) (hsk : D.C.skip D.f = false) (hb : ((D.C.P.funcs[D.f]?).bind (·.body)).isSome = true) {args : List AV} {bs : List (Option CB)} (hn : ns.length = bs.length) {r : Res}
    (h : D.From 0 ⟨args, bs⟩ = some r) (hr1 : bs.length ≤ r.2.length) (hr2 : bsOk r.2 = true) : MFn D.C.P D.f args bs r.1 r.2 := by
  refine ⟨hr1, hr2, ?_⟩
  intro w0 w ro σ vals hds hh ha
  cases hf : D.C.P.funcs[D.f]? with
  | none => rw [hf] at hb; cases hb
  | some fn =>
    cases hc : fn.body with
    | none => rw [hf] at hb; simp [hc] at hb
    | some c =>
      obtain ⟨hst, hnm⟩ := hP D.f fn c hsk hf hc
      have hbody : D.body = c := by unfold Dn.body; rw [hf]; simp [hc]
      have hres : D.res = fn.results.toList := by unfold Dn.res; rw [hf]
      have hlen : (D.mem.getD []).length = bs.length := by rw [hmem]; exact hn
      refine .inl ⟨callFunc_enter hf hc hnm vals w, calls_of_wp hf hc ?_⟩
      rw [← hbody] at hst ⊢
      refine from_ok hP hX hm hst (n := vals.size + (fn.ntmps - vals.size)) (by omega) (w0 := w0) (ro0 := ro) (σ0 := σ) (fun e s a' w' hfin hs => ?_) h ⟨ro, σ, ExtO.refl _ _ _, hh, SRep.enter hds ha fn.ntmps⟩
      rw [hlen] at hs
      obtain ⟨ro', σ', he, hh', hsr⟩ := hs
      unfold finK at hfin
      have go : ((D.res.mapM (resV D.C.P s)).bind fun vs => canoK ns [resT vs] s.hp fun cs => some ((cs.vs.headD .unk, cs.bs) : Res)) = some r → a'.defers = [] ∧ ∃ v, (results fn a'.tmps).run D.C.P w' = .ok v w' ∧
          ∃ v', Ending.returned v = .returned v' ∧ ∃ ro' σ', ExtO bs.length ro ro' σ σ' ∧ HRep w0 w' ro' σ' (mkHp r.2) mkGn ∧ RV ro' σ' r.1 v' := by
        intro hr
        simp only [Option.bind_eq_some_iff] at hr
        obtain ⟨vs, hvs, hr⟩ := hr
        rw [hres] at hvs
        obtain ⟨v, hv, hrv⟩ := results_run hh' hsr hvs
        obtain ⟨cs, σ2, hk, hh2, he2, hl2, hv2, _⟩ := cano_ok hr hh'
        cases hk
        refine ⟨hsr.nodef.trans hds, v, hv, v, rfl, ro', σ2, he.trans (by rw [← hn]; exact he2), hh2, ?_⟩
        obtain ⟨us, bb⟩ := cs
        match us, hl2 with
        | [u], _ => exact hv2 0 _ u v rfl rfl hrv
      cases e with
      | exit i => cases hfin
      | normal => simp only [hmem] at hfin; exact go hfin
      | ret => simp only [hmem] at hfin; exact go hfin
end Vai
