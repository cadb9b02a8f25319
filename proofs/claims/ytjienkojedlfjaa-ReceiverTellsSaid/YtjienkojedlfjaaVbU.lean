import Derived.Test.YtjienkojedlfjaaVbT
set_option linter.unusedSectionVars false
namespace Vai
open Go
set_option linter.unusedVariables false
set_option linter.unusedSimpArgs false
structure Fam (P : Program) where
  f : FuncId
  ι : Type
  pre : ι → Prop
  args : ι → List AV
  res : ι → AV
  ok : ∀ i, pre i → FnOk P f (args i) (res i)
  inj : ∀ i j, args i = args j → res i = res j
structure MFam (P : Program) where
  f : FuncId
  ι : Type
  pre : ι → Prop
  args : ι → List AV
  bs : ι → List (Option CB)
  res : ι → AV
  bs' : ι → List (Option CB)
  ok : ∀ i, pre i → MFn P f (args i) (bs i) (res i) (bs' i)
  inj : ∀ i j, args i = args j → bs i = bs j → res i = res j ∧ bs' i = bs' j
section
variable {P : Program}
noncomputable def envV : List (Fam P) → FuncId → List AV → Option AV
  | [], _, _ => none
  | F :: l, f, as => if f = F.f then @dite _ (∃ i, F.pre i ∧ as = F.args i) (Classical.propDecidable _) (fun h => some (F.res h.choose)) (fun _ => envV l f as) else envV l f as
noncomputable def envM : List (MFam P) → FuncId → List AV → List (Option CB) → Option (AV × List (Option CB))
  | [], _, _, _ => none
  | F :: l, f, as, bs => if f = F.f then @dite _ (∃ i, F.pre i ∧ as = F.args i ∧ bs = F.bs i) (Classical.propDecidable _) (fun h => some (F.res h.choose, F.bs' h.choose)) (fun _ => envM l f as bs) else envM l f as bs
theorem envV_ok : ∀ (l : List (Fam P)) {f : FuncId} {as : List AV} {r : AV}, envV l f as = some r → FnOk P f as r
  | [], f, as, r, h => by cases h
  | F :: l, f, as, r, h => by
    unfold envV at h
    split at h
    · rename_i hf
      split at h
      · rename_i hx
        have h0 := F.ok _ hx.choose_spec.1
        rw [← hx.choose_spec.2, ← hf] at h0
        cases h
        exact h0
      · exact envV_ok l h
    · exact envV_ok l h
theorem envM_ok : ∀ (l : List (MFam P)) {f : FuncId} {as : List AV} {bs : List (Option CB)} {r : AV × List (Option CB)}, envM l f as bs = some r → MFn P f as bs r.1 r.2
  | [], f, as, bs, r, h => by cases h
  | F :: l, f, as, bs, r, h => by
    unfold envM at h
    split at h
    · rename_i hf
      split at h
      · rename_i hx
        have h0 := F.ok _ hx.choose_spec.1
        rw [← hx.choose_spec.2.1, ← hx.choose_spec.2.2, ← hf] at h0
        cases h
        exact h0
      · exact envM_ok l h
    · exact envM_ok l h
theorem envV_at (F : Fam P) (i : F.ι) (hp : F.pre i) : ∀ (l r : List (Fam P)), (l.all fun G => G.f != F.f) = true → envV (l ++ F :: r) F.f (F.args i) = some (F.res i)
  | [], r, _ => by
    show envV (F :: r) F.f (F.args i) = _
    unfold envV
    have hx : ∃ j, F.pre j ∧ F.args i = F.args j := ⟨i, hp, rfl⟩
    rw [if_pos rfl, dif_pos hx, F.inj i _ hx.choose_spec.2]
  | G :: l, r, h => by
    rw [List.all_cons, Bool.and_eq_true, bne_iff_ne] at h
    show envV (G :: (l ++ F :: r)) F.f (F.args i) = _
    unfold envV
    rw [if_neg fun e => h.1 e.symm]
    exact envV_at F i hp l r h.2
theorem envM_at (F : MFam P) (i : F.ι) (hp : F.pre i) : ∀ (l r : List (MFam P)), (l.all fun G => G.f != F.f) = true → envM (l ++ F :: r) F.f (F.args i) (F.bs i) = some (F.res i, F.bs' i)
  | [], r, _ => by
    show envM (F :: r) F.f (F.args i) (F.bs i) = _
    unfold envM
    have hx : ∃ j, F.pre j ∧ F.args i = F.args j ∧ F.bs i = F.bs j := ⟨i, hp, rfl, rfl⟩
    obtain ⟨e1, e2⟩ := F.inj i _ hx.choose_spec.2.1 hx.choose_spec.2.2
    rw [if_pos rfl, dif_pos hx, e1, e2]
  | G :: l, r, h => by
    rw [List.all_cons, Bool.and_eq_true, bne_iff_ne] at h
    show envM (G :: (l ++ F :: r)) F.f (F.args i) (F.bs i) = _
    unfold envM
    rw [if_neg fun e => h.1 e.symm]
    exact envM_at F i hp l r h.2
def HasV (V : EV) (F : Fam P) : Prop := ∀ i, F.pre i → V F.f (F.args i) = some (F.res i)
def HasM (M : EM) (F : MFam P) : Prop := ∀ i, F.pre i → M F.f (F.args i) (F.bs i) = some (F.res i, F.bs' i)
theorem hasV {l : List (Fam P)} {F : Fam P} (n : Nat) (h : l[n]? = some F) (ha : ((l.take n).all fun G => G.f != F.f) = true) : HasV (envV l) F := fun i hp => by
  have hn : n < l.length := by rw [List.getElem?_eq_some_iff] at h; exact h.1
  have e : l = l.take n ++ F :: l.drop (n + 1) := by
    conv => lhs; rw [← List.take_append_drop n l]
    rw [List.drop_eq_getElem_cons hn]
    rw [List.getElem?_eq_getElem hn] at h
    rw [Option.some.inj h]
  rw [e]
  exact envV_at F i hp _ _ ha
theorem hasM {l : List (MFam P)} {F : MFam P} (n : Nat) (h : l[n]? = some F) (ha : ((l.take n).all fun G => G.f != F.f) = true) : HasM (envM l) F := fun i hp => by
  have hn : n < l.length := by rw [List.getElem?_eq_some_iff] at h; exact h.1
  have e : l = l.take n ++ F :: l.drop (n + 1) := by
    conv => lhs; rw [← List.take_append_drop n l]
    rw [List.drop_eq_getElem_cons hn]
    rw [List.getElem?_eq_getElem hn] at h
    rw [Option.some.inj h]
  rw [e]
  exact envM_at F i hp _ _ ha
noncomputable def dnV (P : Program) (f : FuncId) (exts : List Nat) (mems : List (Nat × List (Pt × List BPt))) (pts : List (Nat × List Nat)) (V : EV) (M : EM) : Dn := { C := mkC P f exts [] mems V M, f, pts }
noncomputable def dnM (P : Program) (f : FuncId) (exts : List Nat) (mems : List (Nat × List (Pt × List BPt))) (pts : List (Nat × List Nat)) (ns : List Bool) (V : EV) (M : EM) : Dn := { C := mkC P f exts [] mems V M, f, pts, mem := some ns }
theorem ext_mk {f : FuncId} {exts : List Nat} {mems : List (Nat × List (Pt × List BPt))} (l : List (Fam P)) (m : List (MFam P)) : ExtOk (mkC P f exts [] mems (envV l) (envM m)) := by
  refine ⟨fun f g xs r hg h => ?_, fun f z b h => ?_, fun f g xs bs r hg h => ?_⟩
  · simp only [mkC] at hg
    split at hg
    · cases hg; exact envV_ok l h
    · cases hg
  · simp [mkC] at h
  · simp only [mkC] at hg
    split at hg
    · cases hg; exact envM_ok m h
    · cases hg
theorem fn_mk {f : FuncId} {exts : List Nat} {mems : List (Nat × List (Pt × List BPt))} {pts : List (Nat × List Nat)} (l : List (Fam P)) (m : List (MFam P)) (hp : progStat (mkC P f exts [] mems (envV l) (envM m)) = true) (hm : P.follows .mixedOrders = true) (hb : ((P.funcs[f]?).bind (·.body)).isSome = true)
    {args : List AV} {r : AV} (h : (dnV P f exts mems pts (envV l) (envM m)).From 0 ⟨args, []⟩ = some (r, [])) : FnOk P f args r :=
  fn_ok (D := dnV P f exts mems pts (envV l) (envM m)) rfl (progOk_of hp) (ext_mk l m) hm (by simp [dnV, mkC]) hb h
theorem mfn_mk {f : FuncId} {exts : List Nat} {mems : List (Nat × List (Pt × List BPt))} {pts : List (Nat × List Nat)} {ns : List Bool} (l : List (Fam P)) (m : List (MFam P)) (hp : progStat (mkC P f exts [] mems (envV l) (envM m)) = true) (hm : P.follows .mixedOrders = true) (hb : ((P.funcs[f]?).bind (·.body)).isSome = true)
    {args : List AV} {bs : List (Option CB)} {r : AV} {bs' : List (Option CB)} (hn : ns.length = bs.length) (h : (dnM P f exts mems pts ns (envV l) (envM m)).From 0 ⟨args, bs⟩ = some (r, bs')) (h1 : bs.length ≤ bs'.length) (h2 : bsOk bs' = true) : MFn P f args bs r bs' :=
  mfn_ok (D := dnM P f exts mems pts ns (envV l) (envM m)) rfl (progOk_of hp) (ext_mk l m) hm (by simp [dnM, mkC]) hb hn h h1 h2
noncomputable def dnVc (P : Program) (f : FuncId) (exts : List Nat) (clns : List (Nat × (Nat × Nat))) (mems : List (Nat × List (Pt × List BPt))) (pts : List (Nat × List Nat)) (V : EV) (M : EM) : Dn := { C := mkC P f exts clns mems V M, f, pts }
noncomputable def dnMc (P : Program) (f : FuncId) (exts : List Nat) (clns : List (Nat × (Nat × Nat))) (mems : List (Nat × List (Pt × List BPt))) (pts : List (Nat × List Nat)) (ns : List Bool) (V : EV) (M : EM) : Dn := { C := mkC P f exts clns mems V M, f, pts, mem := some ns }
theorem ext_mkc {f : FuncId} {exts : List Nat} {clns : List (Nat × (Nat × Nat))} {mems : List (Nat × List (Pt × List BPt))} (l : List (Fam P)) (m : List (MFam P)) (hc : ∀ q ∈ clns, ClnOk P q.1 q.2.1 q.2.2) : ExtOk (mkC P f exts clns mems (envV l) (envM m)) := by
  refine ⟨fun f g xs r hg h => ?_, fun f z b h => ?_, fun f g xs bs r hg h => ?_⟩
  · simp only [mkC] at hg
    split at hg
    · cases hg; exact envV_ok l h
    · cases hg
  · simp only [mkC, Option.map_eq_some_iff] at h
    obtain ⟨q, hq, e⟩ := h
    have := hc q (List.mem_of_find?_eq_some hq)
    have h2 := List.find?_some hq
    rw [beq_iff_eq] at h2
    rw [e, h2] at this
    exact this
  · simp only [mkC] at hg
    split at hg
    · cases hg; exact envM_ok m h
    · cases hg
theorem fn_mkc {f : FuncId} {exts : List Nat} {clns : List (Nat × (Nat × Nat))} {mems : List (Nat × List (Pt × List BPt))} {pts : List (Nat × List Nat)} (l : List (Fam P)) (m : List (MFam P)) (hc : ∀ q ∈ clns, ClnOk P q.1 q.2.1 q.2.2) (hp : progStat (mkC P f exts clns mems (envV l) (envM m)) = true) (hm : P.follows .mixedOrders = true) (hb : ((P.funcs[f]?).bind (·.body)).isSome = true)
    {args : List AV} {r : AV} (h : (dnVc P f exts clns mems pts (envV l) (envM m)).From 0 ⟨args, []⟩ = some (r, [])) : FnOk P f args r :=
  fn_ok (D := dnVc P f exts clns mems pts (envV l) (envM m)) rfl (progOk_of hp) (ext_mkc l m hc) hm (by simp [dnVc, mkC]) hb h
theorem mfn_mkc {f : FuncId} {exts : List Nat} {clns : List (Nat × (Nat × Nat))} {mems : List (Nat × List (Pt × List BPt))} {pts : List (Nat × List Nat)} {ns : List Bool} (l : List (Fam P)) (m : List (MFam P)) (hc : ∀ q ∈ clns, ClnOk P q.1 q.2.1 q.2.2) (hp : progStat (mkC P f exts clns mems (envV l) (envM m)) = true) (hm : P.follows .mixedOrders = true) (hb : ((P.funcs[f]?).bind (·.body)).isSome = true)
    {args : List AV} {bs : List (Option CB)} {r : AV} {bs' : List (Option CB)} (hn : ns.length = bs.length) (h : (dnMc P f exts clns mems pts ns (envV l) (envM m)).From 0 ⟨args, bs⟩ = some (r, bs')) (h1 : bs.length ≤ bs'.length) (h2 : bsOk bs' = true) : MFn P f args bs r bs' :=
  mfn_ok (D := dnMc P f exts clns mems pts ns (envV l) (envM m)) rfl (progOk_of hp) (ext_mkc l m hc) hm (by simp [dnMc, mkC]) hb hn h h1 h2
end
end Vai
