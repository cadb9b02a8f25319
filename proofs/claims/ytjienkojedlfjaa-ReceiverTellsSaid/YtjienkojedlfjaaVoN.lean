import Derived.Test.YtjienkojedlfjaaVoG
namespace Vai
open Go
set_option linter.unusedVariables false
set_option linter.unusedSimpArgs false
theorem bcases {P : Prop} (b : Bool) (ht : b = true → P) (hf : b = false → P) : P := by
  cases b with
  | true => exact ht rfl
  | false => exact hf rfl
section
variable {C : Cfg} {c : Code} {f n id : Nat}
def lookM : List ((Nat × Nat) × Blk) → Nat × Nat → Option Blk
  | [], _ => none
  | (a, b) :: l, q => if q.1 = a.1 ∧ q.2 = a.2 then some b else lookM l q
theorem mkh_look (h : Mem) (q : Nat × Nat) (b : Blk) : ∀ m, lookM m q = some b → mkh m h q.1 q.2 = some b
  | [], hh => by cases hh
  | (a, c) :: l, hh => by
    unfold lookM at hh
    unfold mkh
    split at hh
    · rename_i hq; rw [if_pos hq]; exact hh
    · rename_i hq; rw [if_neg hq]; exact mkh_look h q b l hh
theorem At.less {l0 l1 : List (Nat × AV)} {m0 m1 : List ((Nat × Nat) × Blk)} {g : List (Nat × Nat)} {s : St} (a : At l1 m1 g s)
    (hl : l0.map (fun p => look l1 p.1) = l0.map (fun p => some p.2)) (hm : m0.map (fun p => lookM m1 p.1) = m0.map (fun p => some p.2)) : At l0 m0 g s := by
  refine ⟨List.map_congr_left fun p hp => ?_, List.map_congr_left fun p hp => ?_, a.gn⟩
  · have h2 : look l1 p.1 = some p.2 := by
      obtain ⟨i, hi⟩ := List.getElem?_of_mem hp
      have h3 := congrArg (fun l => l[i]?) hl
      simp only [List.getElem?_map, hi, Option.map_some, Option.some.injEq] at h3
      exact h3
    have h3 : mks l1 s.sl = s.sl := mk_self a.sl
    have h4 := congrFun h3 p.1
    rw [mk_look, h2] at h4
    exact h4.symm
  · have h2 : lookM m1 p.1 = some p.2 := by
      obtain ⟨i, hi⟩ := List.getElem?_of_mem hp
      have h3 := congrArg (fun l => l[i]?) hm
      simp only [List.getElem?_map, hi, Option.map_some, Option.some.injEq] at h3
      exact h3
    have h3 : mkh m1 s.hp = s.hp := mkh_self a.hp
    have h4 := congrFun (congrFun h3 p.1.1) p.1.2
    rw [mkh_look s.hp p.1 p.2 m1 h2] at h4
    exact h4.symm
theorem Goto.eqs {l0 : List (Nat × AV)} {m0 : List ((Nat × Nat) × Blk)} {g0 : List (Nat × Nat)} {e : E} {l1 l2 : List Nat → List (Nat × AV)} {m1 m2 : List Nat → List ((Nat × Nat) × Blk)} {g1 : List (Nat × Nat)}
    (h : Goto C c l0 m0 g0 e l1 m1 g1) (hl : ∀ Gs, (l2 Gs).map (fun p => look (l1 Gs) p.1) = (l2 Gs).map (fun p => some p.2)) (hm : ∀ Gs, (m2 Gs).map (fun p => lookM (m1 Gs) p.1) = (m2 Gs).map (fun p => some p.2)) : Goto C c l0 m0 g0 e l2 m2 g1 := fun st hst => by
  obtain ⟨s, Gs, a, hev⟩ := h st hst
  exact ⟨s, Gs, a.less (hl Gs) (hm Gs), hev⟩
inductive TurnK (C : Cfg) (c : Code) (f n id : Nat) {α : Type} (L : α → List (Nat × AV)) (M : α → List ((Nat × Nat) × Blk)) (K : α → List (Nat × Nat)) (Inv : α → Prop) (l0 : List (Nat × AV)) (m0 : List ((Nat × Nat) × Blk)) (g0 : List (Nat × Nat)) (r : AV) : Prop where
  | next (fn : List Nat → α) (inv : ∀ Gs, Inv (fn Gs)) (g1 : List (Nat × Nat)) (hk : ∀ Gs, K (fn Gs) = g1) (go : Goto C c l0 m0 g0 .normal (fun Gs => L (fn Gs)) (fun Gs => M (fn Gs)) g1)
  | stop (l1 : List Nat → List (Nat × AV)) (m1 : List Nat → List ((Nat × Nat) × Blk)) (g1 : List (Nat × Nat)) (go : Goto C c l0 m0 g0 (.exit id) l1 m1 g1) (fr : ∀ Gs, FromL C f (n + 1) (l1 Gs) (m1 Gs) g1 r)
  | ret (l1 : List Nat → List (Nat × AV)) (m1 : List Nat → List ((Nat × Nat) × Blk)) (g1 : List (Nat × Nat)) (go : Goto C c l0 m0 g0 .ret l1 m1 g1) (fi : ∀ Gs σ h g, finV C f (some (.ret, ⟨mks (l1 Gs) σ, mkh (m1 Gs) h, mkg g1 g⟩)) = some r)
inductive Turn (C : Cfg) (c : Code) (f n id : Nat) (g0 : List (Nat × Nat)) {α : Type} (L : α → List (Nat × AV)) (M : α → List ((Nat × Nat) × Blk)) (Inv : α → Prop) (l0 : List (Nat × AV)) (m0 : List ((Nat × Nat) × Blk)) (r : AV) : Prop where
  | next (fn : List Nat → α) (inv : ∀ Gs, Inv (fn Gs)) (go : Goto C c l0 m0 g0 .normal (fun Gs => L (fn Gs)) (fun Gs => M (fn Gs)) g0)
  | stop (l1 : List Nat → List (Nat × AV)) (m1 : List Nat → List ((Nat × Nat) × Blk)) (g1 : List (Nat × Nat)) (go : Goto C c l0 m0 g0 (.exit id) l1 m1 g1) (fr : ∀ Gs, FromL C f (n + 1) (l1 Gs) (m1 Gs) g1 r)
  | ret (l1 : List Nat → List (Nat × AV)) (m1 : List Nat → List ((Nat × Nat) × Blk)) (g1 : List (Nat × Nat)) (go : Goto C c l0 m0 g0 .ret l1 m1 g1) (fi : ∀ Gs σ h g, finV C f (some (.ret, ⟨mks (l1 Gs) σ, mkh (m1 Gs) h, mkg g1 g⟩)) = some r)
def seqs : List Code → Code
  | [] => .skip
  | [c] => c
  | c :: l => .seq c (seqs l)
def piece (c : Code) (i n : Nat) : Code := seqs (((flat c).drop i).take n)
theorem execC_seqs (C : Cfg) (rc : Rec) : ∀ (l : List Code) (st : St), execC C rc (seqs l) st = execL C rc l st
  | [], st => rfl
  | [c], st => by
    show execC C rc c st = bindE (execC C rc c st) _
    exact (bindE_normal _).symm
  | c :: d :: l, st => by
    show bindE (execC C rc c st) (execC C rc (seqs (d :: l))) = bindE (execC C rc c st) (execL C rc (d :: l))
    congr 1
    funext s
    exact execC_seqs C rc (d :: l) s
theorem exec_seqs (C : Cfg) (k : Nat) (l : List Code) (st : St) : exec C (k + 1) (seqs l) st = execL C (exec C k) l st := execC_seqs C _ l st
end
def sub : Code → List Nat → Code
  | c, [] => c
  | .seq a b, 0 :: p => sub a p
  | .seq a b, _ :: p => sub b p
  | .cond _ a b, 0 :: p => sub a p
  | .cond _ a b, _ :: p => sub b p
  | .block _ c, _ :: p => sub c p
  | .loop c, _ :: p => sub c p
  | .scope c, _ :: p => sub c p
  | c, _ => c
end Vai
