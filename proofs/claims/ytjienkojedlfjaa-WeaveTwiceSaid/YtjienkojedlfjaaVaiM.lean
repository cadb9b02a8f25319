/- More fuel changes no answer. -/
import Derived.Test.YtjienkojedlfjaaVaiG
namespace Vai
open Go
set_option linter.unusedVariables false
set_option linter.unusedSimpArgs false

def RLe (a b : Rec) : Prop := ∀ c st r, a c st = some r → b c st = some r
def OLe {α : Type} (a b : Option α) : Prop := ∀ r, a = some r → b = some r
theorem OLe.refl {α : Type} (a : Option α) : OLe a a := fun _ h => h
theorem OLe.bind {α β : Type} {a b : Option α} {f g : α → Option β} (h : OLe a b) (hf : ∀ x, OLe (f x) (g x)) : OLe (a.bind f) (b.bind g) := fun r hr => by
  cases a with
  | none => cases hr
  | some x => rw [h x rfl]; exact hf x r hr
theorem OLe.map {α β : Type} {a b : Option α} (h : OLe a b) (f : α → β) : OLe (a.map f) (b.map f) := fun r hr => by
  cases a with
  | none => cases hr
  | some x => rw [h x rfl]; exact hr

theorem callF_le {C : Cfg} {a b : Rec} (h : RLe a b) (f : FuncId) (args : List AV) (hp : Mem) (gn : Nat → Nat) : OLe (callF C a f args hp gn) (callF C b f args hp gn) := by
  intro r hr
  unfold callF at hr ⊢
  split at hr
  · cases hr
  · rename_i hs
    rw [if_neg hs]
    split at hr
    · cases hr
    · rename_i fn hf
      split at hr
      · cases hr
      · rename_i c hb
        cases hq : a c { sl := fun i => args.getD i .undef, hp, gn } with
        | none => rw [hq] at hr; cases hr
        | some q => rw [h _ _ _ hq]; rw [hq] at hr; exact hr

theorem fnV_le {C : Cfg} {a b : Rec} (h : RLe a b) (f : FuncId) (args : List AV) : OLe (fnV C a f args) (fnV C b f args) := by
  unfold fnV
  split
  · exact OLe.refl _
  · unfold semF
    exact (callF_le h _ _ _ _).bind fun r => OLe.refl _

theorem callStep_le {C : Cfg} {a b : Rec} (h : RLe a b) (dst : Option Nat) (f : FuncId) (args : List AV) (st : St) : OLe (callStep C a dst f args st) (callStep C b dst f args st) := by
  unfold callStep
  split
  · exact OLe.refl _
  · split
    · exact (callF_le h _ _ _ _).map _
    · split
      · exact (OLe.refl _).bind fun as => (fnV_le h _ _).map _
      · exact OLe.refl _

theorem step_le {C : Cfg} {a b : Rec} (h : RLe a b) (o : Oper) (st : St) : OLe (step C a o st) (step C b o st) := by
  obtain ⟨dst, op, ty, pos, aft, gd⟩ := o
  cases op with
  | call c =>
    obtain ⟨callee, args, argTypes⟩ := c
    cases callee with
    | value f =>
      simp only [step]
      split
      · exact callStep_le h _ _ _ _
      · exact OLe.refl _
    | invoke r m => exact OLe.refl _
    | builtin b => cases b <;> exact OLe.refl _
  | _ => exact OLe.refl _

theorem iops_le {C : Cfg} {a b : Rec} (h : RLe a b) (ops : Array Oper) : ∀ (l : List Oper) (st : St), OLe (iops C a ops l st) (iops C b ops l st)
  | [], st => OLe.refl _
  | o :: rest, st => by
    unfold iops
    refine OLe.bind ?_ fun s => iops_le h ops rest s
    unfold stepG
    split
    · exact step_le h _ _
    · split
      · exact OLe.refl _
      · split
        · split
          · exact step_le h _ _
          · exact OLe.refl _
        · exact OLe.refl _
        · exact OLe.refl _

theorem bindE_le {a b : Option (E × St)} {f g : St → Option (E × St)} (h : OLe a b) (hf : ∀ s, OLe (f s) (g s)) : OLe (bindE a f) (bindE b g) := fun r hr => by
  cases a with
  | none => cases hr
  | some x =>
    rw [h x rfl]
    obtain ⟨e, s⟩ := x
    cases e with
    | normal => exact hf s r hr
    | _ => exact hr

theorem execC_le {C : Cfg} {a b : Rec} (h : RLe a b) : ∀ (c : Code) (st : St), OLe (execC C a c st) (execC C b c st) := by
  intro c
  induction c with
  | seq x y ihx ihy => exact fun st => bindE_le (ihx st) ihy
  | region id ops d => exact fun st => (iops_le h ops _ st).bind fun s => OLe.refl _
  | cond x p q ihp ihq =>
    intro st
    simp only [execC]
    split
    · split
      · exact ihp st
      · exact ihq st
    · exact OLe.refl _
  | block id c ih =>
    intro st r hr
    simp only [execC] at hr ⊢
    cases hc : execC C a c st with
    | none => rw [hc] at hr; cases hr
    | some q => rw [ih st q hc]; rw [hc] at hr; exact hr
  | loop c ih => exact fun st => bindE_le (ih st) fun s => h _ s
  | scope c ih => exact fun st => ih st
  | _ => exact fun st => OLe.refl _

theorem exec_le (C : Cfg) : ∀ k, RLe (exec C k) (exec C (k + 1))
  | 0 => fun c st r h => by cases h
  | k + 1 => fun c st r h => execC_le (exec_le C k) c st r h

/-- A closed run. -/
theorem ans_run {C : Cfg} (k : Nat) {f : FuncId} {args : List AV} {r : AV} (h : fnV C (exec C k) f args = some r) : Ans C f args r := by
  refine ⟨k, fun j hj => ?_⟩
  induction j with
  | zero => obtain rfl : k = 0 := by omega
            exact h
  | succ j ih =>
    rcases Nat.lt_or_ge j k with hlt | hge
    · obtain rfl : k = j + 1 := by omega
      exact h
    · exact fnV_le (exec_le C j) f args r (ih hge)
end Vai
