/- Loops by the states they go through. -/
import Derived.Test.YtjienkojedlfjaaVoG
namespace Vai
open Go
set_option linter.unusedVariables false
set_option linter.unusedSimpArgs false

theorem bcases {P : Prop} (b : Bool) (ht : b = true → P) (hf : b = false → P) : P := by
  cases b with
  | true => exact ht rfl
  | false => exact hf rfl
theorem regoto {p P : Prop} (h : p) (k : p → P) : P := k h

section
variable {C : Cfg} {c : Code} {f n id : Nat}

/-- A block that is named. -/
def lookM : List ((Nat × Nat) × Blk) → Nat × Nat → Option Blk
  | [], _ => none
  | (a, b) :: l, q => if q.1 = a.1 ∧ q.2 = a.2 then some b else lookM l q
theorem mkh_look (h : Mem) (q : Nat × Nat) (b : Blk) : ∀ m, lookM m q = some b → mkh m h q.1 q.2 = some b
  | [], hh => by cases hh
  | (a, c) :: l, hh => by
    unfold lookM at hh
    unfold mkh
    split at hh
    · rename_i hq; rw [if_pos hq]; exact hh
    · rename_i hq; rw [if_neg hq]; exact mkh_look h q b l hh
/-- Some of what is named. -/
theorem At.less {l0 l1 : List (Nat × AV)} {m0 m1 : List ((Nat × Nat) × Blk)} {g : List (Nat × Nat)} {s : St} (a : At l1 m1 g s)
    (hl : l0.map (fun p => look l1 p.1) = l0.map (fun p => some p.2)) (hm : m0.map (fun p => lookM m1 p.1) = m0.map (fun p => some p.2)) : At l0 m0 g s := by
  refine ⟨List.map_congr_left fun p hp => ?_, List.map_congr_left fun p hp => ?_, a.gn⟩
  · have h2 : look l1 p.1 = some p.2 := by
      obtain ⟨i, hi⟩ := List.getElem?_of_mem hp
      have h3 := congrArg (fun l => l[i]?) hl
      simp only [List.getElem?_map, hi, Option.map_some, Option.some.injEq] at h3
      exact h3
    have h3 : mks l1 s.sl = s.sl := mk_self a.sl
    have h4 := congrFun h3 p.1
    rw [mk_look, h2] at h4
    exact h4.symm
  · have h2 : lookM m1 p.1 = some p.2 := by
      obtain ⟨i, hi⟩ := List.getElem?_of_mem hp
      have h3 := congrArg (fun l => l[i]?) hm
      simp only [List.getElem?_map, hi, Option.map_some, Option.some.injEq] at h3
      exact h3
    have h3 : mkh m1 s.hp = s.hp := mkh_self a.hp
    have h4 := congrFun (congrFun h3 p.1.1) p.1.2
    rw [mkh_look s.hp p.1 p.2 m1 h2] at h4
    exact h4.symm
theorem FromL.more {l0 l1 : List (Nat × AV)} {m0 m1 : List ((Nat × Nat) × Blk)} {g : List (Nat × Nat)} {r : AV} (h : FromL C f n l0 m0 g r)
    (hl : l0.map (fun p => look l1 p.1) = l0.map (fun p => some p.2)) (hm : m0.map (fun p => lookM m1 p.1) = m0.map (fun p => some p.2)) : FromL C f n l1 m1 g r :=
  fun st hst => h st (hst.less hl hm)
/-- The same, told otherwise. -/
theorem Goto.eqs {l0 : List (Nat × AV)} {m0 : List ((Nat × Nat) × Blk)} {g0 : List (Nat × Nat)} {e : E} {l1 l2 : List Nat → List (Nat × AV)} {m1 m2 : List Nat → List ((Nat × Nat) × Blk)} {g1 : List (Nat × Nat)}
    (h : Goto C c l0 m0 g0 e l1 m1 g1) (hl : ∀ Gs, (l2 Gs).map (fun p => look (l1 Gs) p.1) = (l2 Gs).map (fun p => some p.2)) (hm : ∀ Gs, (m2 Gs).map (fun p => lookM (m1 Gs) p.1) = (m2 Gs).map (fun p => some p.2)) : Goto C c l0 m0 g0 e l2 m2 g1 := fun st hst => by
  obtain ⟨s, Gs, a, hev⟩ := h st hst
  exact ⟨s, Gs, a.less (hl Gs) (hm Gs), hev⟩

/-- One round of a loop at the n-th piece of a function's body. -/
inductive TurnK (C : Cfg) (c : Code) (f n id : Nat) {α : Type} (L : α → List (Nat × AV)) (M : α → List ((Nat × Nat) × Blk)) (K : α → List (Nat × Nat)) (Inv : α → Prop) (l0 : List (Nat × AV)) (m0 : List ((Nat × Nat) × Blk)) (g0 : List (Nat × Nat)) (r : AV) : Prop where
  | next (fn : List Nat → α) (inv : ∀ Gs, Inv (fn Gs)) (g1 : List (Nat × Nat)) (hk : ∀ Gs, K (fn Gs) = g1) (go : Goto C c l0 m0 g0 .normal (fun Gs => L (fn Gs)) (fun Gs => M (fn Gs)) g1)
  | stop (l1 : List Nat → List (Nat × AV)) (m1 : List Nat → List ((Nat × Nat) × Blk)) (g1 : List (Nat × Nat)) (go : Goto C c l0 m0 g0 (.exit id) l1 m1 g1) (fr : ∀ Gs, FromL C f (n + 1) (l1 Gs) (m1 Gs) g1 r)
  | ret (l1 : List Nat → List (Nat × AV)) (m1 : List Nat → List ((Nat × Nat) × Blk)) (g1 : List (Nat × Nat)) (go : Goto C c l0 m0 g0 .ret l1 m1 g1) (fi : ∀ Gs σ h g, finV C f (some (.ret, ⟨mks (l1 Gs) σ, mkh (m1 Gs) h, mkg g1 g⟩)) = some r)

theorem At.self {l : List (Nat × AV)} {m : List ((Nat × Nat) × Blk)} {g : List (Nat × Nat)} {s : St} (h : At l m g s) : (⟨mks l s.sl, mkh m s.hp, mkg g s.gn⟩ : St) = s := by
  rw [mk_self h.sl, mkh_self h.hp, mkg_self h.gn]

/-- A loop that goes on, by a measure. -/
theorem FromL.roundsK {r : AV} {α : Type} (L : α → List (Nat × AV)) (M : α → List ((Nat × Nat) × Blk)) (K : α → List (Nat × Nat)) (Inv : α → Prop) (N : α → Nat)
    (hb : (bodyL C.P f)[n]? = some (.block id (.loop c)))
    (turn : ∀ a, Inv a → TurnK C c f n id L M K (fun b => Inv b ∧ N b < N a) (L a) (M a) (K a) r) : ∀ a, Inv a → FromL C f n (L a) (M a) (K a) r := by
  obtain ⟨hn, hc⟩ := List.getElem?_eq_some_iff.1 hb
  have hd : (bodyL C.P f).drop n = .block id (.loop c) :: (bodyL C.P f).drop (n + 1) := by
    rw [List.drop_eq_getElem_cons hn, hc]
  -- the loop alone
  have key : ∀ (m : Nat) (a : α), N a < m → Inv a → ∀ st, At (L a) (M a) (K a) st → ∃ e s, (Ev fun k => exec C k (.loop c) st = some (e, s)) ∧
      ((e = .exit id ∧ Ev fun k => finV C f (execL C (exec C k) ((bodyL C.P f).drop (n + 1)) s) = some r) ∨ (e = .ret ∧ finV C f (some (.ret, s)) = some r)) := by
    intro m
    induction m with
    | zero => intro a ha; omega
    | succ m ih =>
      intro a ha hi st hst
      cases turn a hi with
      | next fn inv g1 hk go =>
        obtain ⟨s1, Gs1, a1, h1⟩ := go st hst
        rw [← hk Gs1] at a1
        obtain ⟨e, s, h2, h3⟩ := ih (fn Gs1) (by have := (inv Gs1).2; omega) (inv Gs1).1 s1 a1
        refine ⟨e, s, Ev.succ (((h1.pred).and h2).imp fun k hk => ?_), h3⟩
        have h4 : execC C (exec C k) c st = _ := hk.1
        show execC C (exec C k) (.loop c) _ = _
        simp only [execC, h4, bindE]
        exact hk.2
      | stop l1 m1 g1 go fr =>
        obtain ⟨s1, Gs1, a1, h1⟩ := go st hst
        refine ⟨_, s1, Ev.succ (h1.pred.imp fun k hk => ?_), .inl ⟨rfl, fr Gs1 s1 a1⟩⟩
        have h4 : execC C (exec C k) c st = _ := hk
        show execC C (exec C k) (.loop c) _ = _
        simp only [execC, h4, bindE]
      | ret l1 m1 g1 go fi =>
        obtain ⟨s1, Gs1, a1, h1⟩ := go st hst
        refine ⟨_, s1, Ev.succ (h1.pred.imp fun k hk => ?_), .inr ⟨rfl, ?_⟩⟩
        · have h4 : execC C (exec C k) c st = _ := hk
          show execC C (exec C k) (.loop c) _ = _
          simp only [execC, h4, bindE]
        · have := fi Gs1 s1.sl s1.hp s1.gn
          rw [a1.self] at this
          exact this
  intro a hi st hst
  obtain ⟨e, s, h1, h2⟩ := key (N a + 1) a (by omega) hi st hst
  rcases h2 with ⟨rfl, h2⟩ | ⟨rfl, h2⟩
  · refine ((h1.pred).and h2).imp fun k hk => ?_
    have h4 : execC C (exec C k) (.loop c) st = some (.exit id, s) := hk.1
    rw [hd]
    show finV C f (bindE (leave id (execC C (exec C k) (.loop c) st)) _) = _
    rw [h4]
    simp only [leave, if_true, bindE]
    exact hk.2
  · refine (h1.pred).imp fun k hk => ?_
    have h4 : execC C (exec C k) (.loop c) st = some (.ret, s) := hk
    rw [hd]
    show finV C f (bindE (leave id (execC C (exec C k) (.loop c) st)) _) = _
    rw [h4]
    exact h2

/-- One round, where no counters are named anew. -/
inductive Turn (C : Cfg) (c : Code) (f n id : Nat) (g0 : List (Nat × Nat)) {α : Type} (L : α → List (Nat × AV)) (M : α → List ((Nat × Nat) × Blk)) (Inv : α → Prop) (l0 : List (Nat × AV)) (m0 : List ((Nat × Nat) × Blk)) (r : AV) : Prop where
  | next (fn : List Nat → α) (inv : ∀ Gs, Inv (fn Gs)) (go : Goto C c l0 m0 g0 .normal (fun Gs => L (fn Gs)) (fun Gs => M (fn Gs)) g0)
  | stop (l1 : List Nat → List (Nat × AV)) (m1 : List Nat → List ((Nat × Nat) × Blk)) (g1 : List (Nat × Nat)) (go : Goto C c l0 m0 g0 (.exit id) l1 m1 g1) (fr : ∀ Gs, FromL C f (n + 1) (l1 Gs) (m1 Gs) g1 r)
  | ret (l1 : List Nat → List (Nat × AV)) (m1 : List Nat → List ((Nat × Nat) × Blk)) (g1 : List (Nat × Nat)) (go : Goto C c l0 m0 g0 .ret l1 m1 g1) (fi : ∀ Gs σ h g, finV C f (some (.ret, ⟨mks (l1 Gs) σ, mkh (m1 Gs) h, mkg g1 g⟩)) = some r)

/-- A loop that goes on, by a measure; the counters stay. -/
theorem FromL.rounds {r : AV} {g0 : List (Nat × Nat)} {α : Type} (L : α → List (Nat × AV)) (M : α → List ((Nat × Nat) × Blk)) (Inv : α → Prop) (N : α → Nat)
    (hb : (bodyL C.P f)[n]? = some (.block id (.loop c)))
    (turn : ∀ a, Inv a → Turn C c f n id g0 L M (fun b => Inv b ∧ N b < N a) (L a) (M a) r) : ∀ a, Inv a → FromL C f n (L a) (M a) g0 r :=
  FromL.roundsK L M (fun _ => g0) Inv N hb fun a ha => match turn a ha with
    | .next fn inv go => .next fn inv g0 (fun _ => rfl) go
    | .stop l1 m1 g1 go fr => .stop l1 m1 g1 go fr
    | .ret l1 m1 g1 go fi => .ret l1 m1 g1 go fi

/-- A loop inside, to a state that is told: by a measure. -/
theorem LoopTo.rounds {e : E} {g0 g2 : List (Nat × Nat)} {α : Type} (L : α → List (Nat × AV)) (M : α → List ((Nat × Nat) × Blk)) (Inv : α → Prop) (N : α → Nat)
    {l2 : List Nat → List (Nat × AV)} {m2 : List Nat → List ((Nat × Nat) × Blk)}
    (turn : ∀ a, Inv a → (∃ fn : List Nat → α, (∀ Gs, Inv (fn Gs) ∧ N (fn Gs) < N a) ∧ Goto C c (L a) (M a) g0 .normal (fun Gs => L (fn Gs)) (fun Gs => M (fn Gs)) g0) ∨ (e ≠ .normal ∧ Goto C c (L a) (M a) g0 e l2 m2 g2)) :
    ∀ a, Inv a → LoopTo C c (L a) (M a) g0 e l2 m2 g2 := by
  have key : ∀ (m : Nat) (a : α), N a < m → Inv a → LoopTo C c (L a) (M a) g0 e l2 m2 g2 := by
    intro m
    induction m with
    | zero => intro a ha; omega
    | succ m ih =>
      intro a ha hi
      rcases turn a hi with ⟨fn, inv, go⟩ | ⟨he, go⟩
      · exact LoopTo.step go fun Gs => ih (fn Gs) (by have := (inv Gs).2; omega) (inv Gs).1
      · exact LoopTo.stop he go
  exact fun a hi => key (N a + 1) a (by omega) hi
/-- Some of the pieces of a code. -/
def seqs : List Code → Code
  | [] => .skip
  | [c] => c
  | c :: l => .seq c (seqs l)
def piece (c : Code) (i n : Nat) : Code := seqs (((flat c).drop i).take n)
theorem execC_seqs (C : Cfg) (rc : Rec) : ∀ (l : List Code) (st : St), execC C rc (seqs l) st = execL C rc l st
  | [], st => rfl
  | [c], st => by
    show execC C rc c st = bindE (execC C rc c st) _
    exact (bindE_normal _).symm
  | c :: d :: l, st => by
    show bindE (execC C rc c st) (execC C rc (seqs (d :: l))) = bindE (execC C rc c st) (execL C rc (d :: l))
    congr 1
    funext s
    exact execC_seqs C rc (d :: l) s
theorem exec_seqs (C : Cfg) (k : Nat) (l : List Code) (st : St) : exec C (k + 1) (seqs l) st = execL C (exec C k) l st := execC_seqs C _ l st
theorem Goto.two {e : E} {a b : List Code} {l0 : List (Nat × AV)} {m0 : List ((Nat × Nat) × Blk)} {g0 g1 g2 : List (Nat × Nat)} {l1 l2 : List Nat → List (Nat × AV)} {m1 m2 : List Nat → List ((Nat × Nat) × Blk)}
    (h1 : Goto C (seqs a) l0 m0 g0 .normal l1 m1 g1) (h2 : ∀ Gs, Goto C (seqs b) (l1 Gs) (m1 Gs) g1 e l2 m2 g2) : Goto C (seqs (a ++ b)) l0 m0 g0 e l2 m2 g2 := fun st hst => by
  obtain ⟨s1, Gs1, a1, k1⟩ := h1 st hst
  obtain ⟨s2, Gs2, a2, k2⟩ := h2 Gs1 s1 a1
  refine ⟨s2, Gs2, a2, Ev.succ ((k1.pred.and k2.pred).imp fun k hk => ?_)⟩
  obtain ⟨q1, q2⟩ := hk
  rw [exec_seqs] at q1 q2 ⊢
  rw [execL_append, q1]
  exact q2
/-- Left in the first half. -/
theorem Goto.out {e : E} {a b : List Code} {l0 : List (Nat × AV)} {m0 : List ((Nat × Nat) × Blk)} {g0 g1 : List (Nat × Nat)} {l1 : List Nat → List (Nat × AV)} {m1 : List Nat → List ((Nat × Nat) × Blk)}
    (h1 : Goto C (seqs a) l0 m0 g0 e l1 m1 g1) (he : e ≠ .normal) : Goto C (seqs (a ++ b)) l0 m0 g0 e l1 m1 g1 := fun st hst => by
  obtain ⟨s1, Gs1, a1, k1⟩ := h1 st hst
  refine ⟨s1, Gs1, a1, Ev.succ (k1.pred.imp fun k hk => ?_)⟩
  rw [exec_seqs] at hk ⊢
  rw [execL_append, hk]
  cases e <;> first | rfl | exact absurd rfl he
theorem Goto.block {e : E} {i : Nat} {l0 : List (Nat × AV)} {m0 : List ((Nat × Nat) × Blk)} {g0 g1 : List (Nat × Nat)} {l1 : List Nat → List (Nat × AV)} {m1 : List Nat → List ((Nat × Nat) × Blk)}
    (h : Goto C c l0 m0 g0 .normal l1 m1 g1) : Goto C (.block i c) l0 m0 g0 .normal l1 m1 g1 := fun st hst => by
  obtain ⟨s1, Gs1, a1, k1⟩ := h st hst
  refine ⟨s1, Gs1, a1, Ev.succ (k1.pred.imp fun k hk => ?_)⟩
  have h4 : execC C (exec C k) c st = _ := hk
  show leave i (execC C (exec C k) c st) = _
  rw [h4]; rfl
theorem Goto.flat {e : E} {l0 : List (Nat × AV)} {m0 : List ((Nat × Nat) × Blk)} {g0 g1 : List (Nat × Nat)} {l1 : List Nat → List (Nat × AV)} {m1 : List Nat → List ((Nat × Nat) × Blk)}
    (h : Goto C (seqs (flat c)) l0 m0 g0 e l1 m1 g1) : Goto C c l0 m0 g0 e l1 m1 g1 := fun st hst => by
  obtain ⟨s1, Gs1, a1, k1⟩ := h st hst
  refine ⟨s1, Gs1, a1, Ev.succ (k1.pred.imp fun k hk => ?_)⟩
  rw [exec_seqs] at hk
  show execC C (exec C k) c st = _
  rw [execC_flat]; exact hk
end
/-- A part of a code: 0 and 1 lead to the halves, 0 into blocks and loops. -/
def sub : Code → List Nat → Code
  | c, [] => c
  | .seq a b, 0 :: p => sub a p
  | .seq a b, _ :: p => sub b p
  | .cond _ a b, 0 :: p => sub a p
  | .cond _ a b, _ :: p => sub b p
  | .block _ c, _ :: p => sub c p
  | .loop c, _ :: p => sub c p
  | .scope c, _ :: p => sub c p
  | c, _ => c
end Vai
