import Derived.Test.YtjienkojedlfjaaVoO
import Derived.Test.YtjienkojedlfjaaVoN
namespace Vai
open Go Go.RowKit
set_option linter.unusedVariables false
set_option linter.unusedSimpArgs false
theorem wpOp_in0 {P : Program} {ops : Array Oper} {i : Nat} {a : Act} {w : World} {K : Act → World → Prop} {Q : Exit → Act → World → Prop} (hd : noDef ops = true) (rd : Option Nat) (k : Nat)
    (h : wpOp P ops (fun _ _ _ => False) i K a w) : wpOpIn (FQ rd) k P ops Q i K a w := by
  unfold wpOp at h
  unfold wpOpIn
  cases ho : ops[i]? with
  | none => simp only [ho] at h ⊢; exact h
  | some o =>
    simp only [ho] at h ⊢
    split
    · rename_i hw
      rw [if_pos hw] at h
      rcases h with h | ⟨_, _, _, h⟩
      · exact opwp_in (noDef_at hd ho) rd k (opwp_Q h)
      · exact h.elim
    · rename_i hw
      rw [if_neg hw] at h
      exact ⟨fun _ _ => trivial, h⟩
theorem iopsIn_ok {C : Cfg} {rc : Rec} (hrc : CodeOk C rc) (hP : ProgOk C) (hX : ExtOk C) {ops : Array Oper} {m n : Nat} (hd : dstOk m ops = true) (hmn : m ≤ n) (hn : noDef ops = true) {w0 : Base} {Q : Exit → Act → World → Prop} {st' : St} {rest : List Nat} (rd : Option Nat) (kk : Nat) :
    ∀ (l : List Oper) (k : Nat) (st : St) (w : World) (ro : RO) (σ : Map) (a : Act), (∀ j, j < l.length → l[j]? = ops[k + j]?) → iops C rc ops l st = some st' → HRep w0 w ro σ st.hp st.gn → SRep w0 ro σ n st.sl a →
      (∀ a' w', After w0 ro σ n st' a' w' → wpOpsIn (FQ rd) kk C.P ops Q rest a' w') → wpOpsIn (FQ rd) kk C.P ops Q (List.range' k l.length ++ rest) a w := by
  intro l
  induction l with
  | nil =>
    intro k st w ro σ a _ h hh hs hQ
    simp only [iops, Option.some.injEq] at h
    subst h
    exact hQ _ _ ⟨ro, σ, Ext.refl ro σ, hh, hs⟩
  | cons o l ih =>
    intro k st w ro σ a hat h hh hs hQ
    simp only [iops, Option.bind_eq_some_iff] at h
    obtain ⟨s, h1, h2⟩ := h
    have hk : ops[k]? = some o := by have := hat 0 (by simp); simpa using this.symm
    rw [List.length_cons, List.range'_succ, List.cons_append, wpOpsIn_cons]
    refine wpOp_in0 hn rd kk (stepG_ok hrc hP hX hk h1 hh hs (fun x hx => Nat.lt_of_lt_of_le (dstOk_at hd hk x hx) hmn) (fun a' w' ⟨ro', σ', he, hh', hs'⟩ => ?_))
    refine ih (k + 1) s w' ro' σ' a' (fun j hj => ?_) h2 hh' hs' (fun a2 w2 ⟨r2, s2, e2, h3, h4⟩ => hQ a2 w2 ⟨r2, s2, he.trans e2, h3, h4⟩)
    have := hat (j + 1) (by simp; omega)
    simpa [Nat.add_assoc, Nat.add_comm 1 j] using this
theorem iops_other {C : Cfg} {rc : Rec} {ops ops' : Array Oper} : ∀ (l : List Oper) (st : St), (∀ o ∈ l, ∀ j w, o.guard = some (j, w) → ops'[j]? = ops[j]?) → iops C rc ops' l st = iops C rc ops l st
  | [], st, _ => rfl
  | o :: l, st, h => by
    have e : stepG C rc ops' o st = stepG C rc ops o st := by
      unfold stepG
      cases hg : o.guard with
      | none => rfl
      | some p => obtain ⟨j, w⟩ := p; simp only [h o (List.mem_cons_self ..) j w hg]
    unfold iops
    rw [e]
    congr 1
    funext s
    exact iops_other l s fun o ho => h o (List.mem_cons_of_mem _ ho)
theorem yield_region {C : Cfg} (hP : ProgOk C) (hX : ExtOk C) (hm : C.P.follows .mixedOrders = true) {ops : Array Oper} {id m n k l : Nat} (hd : dstOk m ops = true) (hmn : m ≤ n) (hn : noDef ops = true) (hsz : ops.size = 11)
    (hgu : ((ops.extract 0 8).toList.all fun o => match o.guard with | none => true | some (j, _) => decide (j < 8)) = true)
    {t5 t6 t7 t8 t9 t10 ty : Nat} {bb : Bool} {ats : Array TypeId} (o5 : (ops[5]?).bind (·.dst) = some t5)
    (o8 : (ops[8]?).map (fun o => (o.dst, o.op, o.guard)) = some (some t8, .call ⟨.value (.tmp t6), #[.tmp t7, .const (.bool bb)], ats⟩, some (5, true)))
    (o9 : (ops[9]?).map (fun o => (o.dst, o.op, o.guard)) = some (some t9, .unOp .not ty (.tmp t8), some (5, true)))
    (o10 : (ops[10]?).map (fun o => (o.dst, o.op, o.guard)) = some (some t10, .pick (.tmp t5) (.tmp t9) (.const (.bool false)), none))
    (hne : t8 ≠ t5 ∧ t9 ≠ t5 ∧ t8 < n ∧ t9 < n) {st st' : St} (hex : exec C k (.region id (ops.extract 0 8) false) st = some (.normal, st')) (h5 : st'.sl t5 = .bool true) (h6 : st'.sl t6 = .yld l)
    {w0 : Base} {w : World} {ro : RO} {σ : Map} {a : Act} (hh : HRep w0 w ro σ st.hp st.gn) (hs : SRep w0 ro σ n st.sl a) {Q : Exit → Act → World → Prop}
    (hY : ∀ a' w', After w0 ro σ n st' a' w' → Yields1 C.P l #[a'.tmps.getD t7 Go.undef, .bool bb] w' fun e W' => ∃ b, e = .returned (.bool b) ∧ Q .normal (((a'.put (some t8) (.bool b)).put (some t9) (.bool (!b))).put (some t10) (.bool (!b))) W') :
    (Code.region id ops false).wp C.P Q a w := by
  refine (wpIn_wide (n := 0)).1 (wpIn_region ?_)
  obtain ⟨kk, rfl⟩ : ∃ kk, k = kk + 1 := by
    cases k with
    | zero => simp [exec] at hex
    | succ kk => exact ⟨kk, rfl⟩
  have hio : iops C (exec C kk) ops (ops.extract 0 8).toList st = some st' := by
    have h : execC C (exec C kk) (.region id (ops.extract 0 8) false) st = some (.normal, st') := hex
    simp only [execC, Option.bind_eq_some_iff] at h
    obtain ⟨s, h1, h⟩ := h
    simp only [Bool.false_and, Bool.false_eq_true, if_false, Option.some.injEq, Prod.mk.injEq, true_and] at h
    subst h
    rw [← h1]
    refine (iops_other _ _ fun o ho j w hg => ?_).symm
    have := List.all_eq_true.1 hgu o ho
    rw [hg] at this
    have hj : j < 8 := by simpa using this
    rw [Array.getElem?_extract]
    simp; omega
  have hlen : (ops.extract 0 8).toList.length = 8 := by simp; omega
  have hrange : List.range ops.size = List.range' 0 (ops.extract 0 8).toList.length ++ [8, 9, 10] := by rw [hlen, hsz]; rfl
  rw [hrange]
  refine iopsIn_ok (exec_ok hP hX hm kk) hP hX hd hmn hn none 0 _ 0 st w ro σ a (fun j hj => ?_) hio hh hs ?_
  · rw [hlen] at hj
    rw [Array.getElem?_toList, Array.getElem?_extract]
    simp; omega
  intro a' w' haft
  obtain ⟨ro', σ', he, hh', hs'⟩ := haft
  have hy5 : yielded ops a'.tmps 5 = some true := (yield_at hs' o5).1 true h5
  have hv5 : a'.tmps[t5]? = some (.bool true) := by
    unfold yielded at hy5
    rw [o5] at hy5
    simp only [Option.bind_some] at hy5
    split at hy5
    · rename_i b hb; cases hy5; exact hb
    · cases hy5
  have h6' : a'.tmps.getD t6 Go.undef = .func (.yield l) #[] #[] := by
    have := hs'.at_ t6
    rw [h6] at this
    generalize a'.tmps.getD t6 Go.undef = x at this
    cases this with
    | free h => cases h
    | yld => rfl
  rw [Option.map_eq_some_iff] at o8 o9 o10
  obtain ⟨p8, q8, r8⟩ := o8
  obtain ⟨p9, q9, r9⟩ := o9
  obtain ⟨p10, q10, r10⟩ := o10
  obtain ⟨d8, op8, y8, ps8, af8, g8⟩ := p8
  obtain ⟨d9, op9, y9, ps9, af9, g9⟩ := p9
  obtain ⟨d10, op10, y10, ps10, af10, g10⟩ := p10
  simp only [Prod.mk.injEq] at r8 r9 r10
  obtain ⟨rfl, rfl, rfl⟩ := r8
  obtain ⟨rfl, rfl, rfl⟩ := r9
  obtain ⟨rfl, rfl, rfl⟩ := r10
  obtain ⟨fn, tmps, assign, body, hy, hr⟩ := hY a' w' ⟨ro', σ', he, hh', hs'⟩
  rw [wpOpsIn_cons]
  unfold wpOpIn
  simp only [q8]
  rw [if_pos (by simp [Region.wanted, hy5])]
  refine ⟨fun _ _ => trivial, ?_⟩
  have hrun : (execOp a'.eval (⟨some t8, .call ⟨.value (.tmp t6), #[.tmp t7, .const (.bool bb)], ats⟩, y8, ps8, af8, some (5, true)⟩ : Oper)).run C.P w' = .ok (.round l fn tmps assign body) w' := by
    have e6 : a'.eval (.tmp t6) = .func (.yield l) #[] #[] := h6'
    have e7 : a'.eval (.tmp t7) = a'.tmps.getD t7 Go.undef := rfl
    have e8 : a'.eval (.const (.bool bb)) = .bool bb := rfl
    have hy2 := hy
    rw [Array.getD_eq_getD_getElem?] at hy2
    simp [execOp, resolve, e6, e7, e8, Deferred.ofValue, invoke, hy2]
  rw [Oper.semAt_none, hrun, Oper.uponIn_round]
  refine ⟨fun h0 => by simp [Fence.wide] at h0, hr.mono fun e W' hR => ?_⟩
  obtain ⟨b, rfl, hq⟩ := hR
  show wpOpsIn (FQ none) 0 C.P ops Q [9, 10] (a'.put (some t8) (.bool b)) W'
  have s8 : (a'.put (some t8) (.bool b)).tmps.size = n := by simp [Act.put, hs'.size]
  have v8 : (a'.put (some t8) (.bool b)).eval (.tmp t8) = .bool b := by
    simp [Act.put, Act.eval, Array.getD_eq_getD_getElem?, Array.getElem?_setIfInBounds_self_of_lt (show t8 < a'.tmps.size by rw [hs'.size]; exact hne.2.2.1)]
  have y8' : yielded ops (a'.put (some t8) (.bool b)).tmps 5 = some true := by
    unfold yielded
    rw [o5]
    simp only [Option.bind_some, Act.put]
    rw [Array.getElem?_setIfInBounds_ne hne.1, hv5]
  rw [wpOpsIn_cons]
  unfold wpOpIn
  simp only [q9]
  rw [if_pos (by simp [Region.wanted, y8'])]
  refine ⟨fun _ _ => trivial, ?_⟩
  have hrun9 : (execOp (a'.put (some t8) (.bool b)).eval (⟨some t9, .unOp .not ty (.tmp t8), y9, ps9, af9, some (5, true)⟩ : Oper)).run C.P W' = .ok (.value (.bool (!b))) W' := by
    simp [execOp, v8, Op.unary]
  rw [Oper.semAt_none, hrun9, Oper.uponIn_value]
  show wpOpsIn (FQ none) 0 C.P ops Q [10] ((a'.put (some t8) (.bool b)).put (some t9) (.bool (!b))) W'
  have hv9 : ((a'.put (some t8) (.bool b)).put (some t9) (.bool (!b))).eval (.tmp t9) = .bool (!b) := by
    simp [Act.put, Act.eval, Array.getD_eq_getD_getElem?, Array.getElem?_setIfInBounds_self_of_lt (show t9 < (a'.tmps.setIfInBounds t8 (.bool b)).size by simp [hs'.size]; exact hne.2.2.2)]
  have hv5' : ((a'.put (some t8) (.bool b)).put (some t9) (.bool (!b))).eval (.tmp t5) = .bool true := by
    simp [Act.put, Act.eval, Array.getD_eq_getD_getElem?, Array.getElem?_setIfInBounds_ne hne.1, Array.getElem?_setIfInBounds_ne hne.2.1, hv5]
  rw [wpOpsIn_cons]
  unfold wpOpIn
  simp only [q10]
  rw [if_pos (by simp [Region.wanted])]
  refine ⟨fun _ _ => trivial, ?_⟩
  have hrun10 : (execOp ((a'.put (some t8) (.bool b)).put (some t9) (.bool (!b))).eval (⟨some t10, .pick (.tmp t5) (.tmp t9) (.const (.bool false)), y10, ps10, af10, none⟩ : Oper)).run C.P W' = .ok (.value (.bool (!b))) W' := by
    simp [execOp, hv5', hv9, asBool]
  rw [Oper.semAt_none, hrun10, Oper.uponIn_value]
  exact hq
theorem wpF_any {C : Cfg} (hP : ProgOk C) (hX : ExtOk C) (hm : C.P.follows .mixedOrders = true) {k m n : Nat} (hmn : m ≤ n) {rest : List Code} {w0 : Base} {Q : Exit → Act → World → Prop} {s : St} {e : E} :
    ∀ (pre : List Code) (st : St) (w : World) (ro : RO) (σ : Map) (a : Act), (∀ x ∈ pre, codeStat C m x = true) → execL C (exec C k) pre st = some (e, s) → HRep w0 w ro σ st.hp st.gn → SRep w0 ro σ n st.sl a →
      (∀ a' w', After w0 ro σ n s a' w' → Exit.then (wpF C.P rest Q) Q e.toExit a' w') → wpF C.P (pre ++ rest) Q a w
  | [], st, w, ro, σ, a, _, h, hh, hs, hQ => by
    simp only [execL, Option.some.injEq, Prod.mk.injEq] at h
    obtain ⟨rfl, rfl⟩ := h
    exact hQ _ _ ⟨ro, σ, Ext.refl ro σ, hh, hs⟩
  | c :: pre, st, w, ro, σ, a, hst, h, hh, hs, hQ => by
    rcases bindE_some h with ⟨s1, h1, h2⟩ | ⟨hne, h1⟩
    · refine wp_mono (exec_ok hP hX hm (k + 1) c m n st s1 .normal w0 w ro σ a h1 (hst c (List.mem_cons_self ..)) hmn hh hs) (fun x a' w' ⟨hx, ro', σ', he, hh', hs'⟩ => ?_)
      subst hx
      exact wpF_any hP hX hm hmn pre s1 w' ro' σ' a' (fun x hx => hst x (List.mem_cons_of_mem _ hx)) h2 hh' hs' (fun a2 w2 h2 => hQ a2 w2 (h2.trans he))
    · refine wp_mono (exec_ok hP hX hm (k + 1) c m n st s e w0 w ro σ a h1 (hst c (List.mem_cons_self ..)) hmn hh hs) (fun x a' w' ⟨hx, haft⟩ => ?_)
      subst hx
      have := hQ _ _ haft
      cases e with
      | normal => exact absurd rfl hne
      | exit i => exact this
      | ret => exact this
theorem wpF_goto {C : Cfg} (hP : ProgOk C) (hX : ExtOk C) (hm : C.P.follows .mixedOrders = true) {m n : Nat} (hmn : m ≤ n) {pre rest : List Code} {w0 : Base} {Q : Exit → Act → World → Prop} {e : E}
    {l0 : List (Nat × AV)} {m0 : List ((Nat × Nat) × Blk)} {g0 g1 : List (Nat × Nat)} {l1 : List Nat → List (Nat × AV)} {m1 : List Nat → List ((Nat × Nat) × Blk)} (hg : Goto C (seqs pre) l0 m0 g0 e l1 m1 g1)
    (hst : ∀ x ∈ pre, codeStat C m x = true) {st : St} (hat : At l0 m0 g0 st) {w : World} {ro : RO} {σ : Map} {a : Act} (hh : HRep w0 w ro σ st.hp st.gn) (hs : SRep w0 ro σ n st.sl a)
    (hQ : ∀ s Gs a' w', At (l1 Gs) (m1 Gs) g1 s → After w0 ro σ n s a' w' → Exit.then (wpF C.P rest Q) Q e.toExit a' w') : wpF C.P (pre ++ rest) Q a w := by
  obtain ⟨s, Gs, ha, k0, hev⟩ := hg st hat
  have h1 : exec C (k0 + 1) (seqs pre) st = some (e, s) := hev (k0 + 1) (by omega)
  rw [exec_seqs] at h1
  exact wpF_any hP hX hm hmn pre st w ro σ a hst h1 hh hs (fun a' w' haft => hQ s Gs a' w' ha haft)
theorem rnds_ev {C : Cfg} {A B : Code} {ps : List Nat} {sl : Nat → AV} {outs : List (List AV)} (R : Nat → St → Prop)
    (step : ∀ i x s, outs[i]? = some x → R i s → x.length = ps.length ∧ ∃ s', R (i + 1) s' ∧ Ev fun k => exec C k (.seq A B) { s with sl := putL sl ps x } = some (.normal, s')) :
    ∀ (n i : Nat) (s : St), i + n = outs.length → R i s → ∃ s', R outs.length s' ∧ Ev fun k => rnds (execC C (exec C k) A) (execC C (exec C k) B) ps sl (outs.drop i) s = some (.normal, { s' with sl := sl })
  | 0, i, s, hi, h => by
    obtain rfl : i = outs.length := by omega
    exact ⟨s, h, Ev.of fun k => by rw [List.drop_length]; rfl⟩
  | n + 1, i, s, hi, h => by
    have hlt : i < outs.length := by omega
    obtain ⟨hx, s1, h1, k0, hk0⟩ := step i _ s (List.getElem?_eq_getElem hlt) h
    obtain ⟨s2, h2, k1, hk1⟩ := rnds_ev R step n (i + 1) s1 (by omega) h1
    refine ⟨s2, h2, k0 + k1, fun k hk => ?_⟩
    have e1 : exec C (k + 1) (.seq A B) { s with sl := putL sl ps outs[i] } = some (.normal, s1) := hk0 (k + 1) (by omega)
    have e2 := hk1 k (by omega)
    have e1' : bindE (execC C (exec C k) A { s with sl := putL sl ps outs[i] }) (execC C (exec C k) B) = some (.normal, s1) := e1
    rcases bindE_some e1' with ⟨sa, ha, hb⟩ | ⟨hne, _⟩
    · show rnds (execC C (exec C k) A) (execC C (exec C k) B) ps sl (outs.drop i) s = _
      rw [List.drop_eq_getElem_cons hlt]
      unfold rnds
      rw [if_pos hx, ha]
      simp only [hb]
      exact e2
    · exact absurd rfl hne
theorem range_fnV {C : Cfg} (hP : ProgOk C) (hX : ExtOk C) (hm : C.P.follows .mixedOrders = true) {f : FuncId} {fn : Func} {c : Code} (hf : C.P.funcs[f]? = some fn) (hb : fn.body = some c) (hsk : C.skip f = false)
    {pre post : List Code} {id : Nat} {g : Operand} {ps : Array Tmp} {assign body : Code} (hflat : flatS c = pre ++ .block id (.rangeFunc g ps assign body) :: post)
    (hsa : codeStat C fn.ntmps assign = true) (hsb : codeStat C fn.ntmps body = true) (hfa : flatC assign = true) (hfb : flatC body = true) (hps : ∀ p ∈ ps.toList, p < fn.ntmps)
    {k j : Nat} {as : List AV} {st1 st2 : St} {e : E} {it : FuncId} {caps : List AV} {pr : List (AV × (Nat × Nat))} {outs : List (List AV)} {r : AV}
    (h1 : execL C (exec C k) pre { sl := fun i => as.getD i .undef, hp := fun _ _ => none, gn := fun _ => 0 } = some (.normal, st1))
    (hg : st1.ev g = .fn it [] caps) (hcap : caps.mapM (cptV st1.hp) = some pr) (hit : ItrOk C.P it (pr.map (·.1)) outs) (hen : ∀ args w, (callFunc it args).run C.P w = .ok (.enter it args) w)
    (hr : rnds (execC C (exec C j) assign) (execC C (exec C j) body) ps.toList st1.sl outs (st1.frz (pr.map (·.2))) = some (e, st2))
    (hfin : finV C f (bindE (leave id (some (e, { st2 with sl := st1.sl }))) (execL C (exec C k) post)) = some r) : FnOk C.P f as r := by
  unfold finV at hfin
  rw [hf] at hfin
  simp only at hfin
  split at hfin
  · rename_i s hs
    rw [Option.bind_eq_some_iff] at hfin
    obtain ⟨x, hx, hsn⟩ := hfin
    rw [Option.map_eq_some_iff] at hx
    obtain ⟨vs, hvs, rfl⟩ := hx
    exact range_fn hP hX hm hf hb hsk hflat hsa hsb hfa hfb hps h1 hg hcap hit hen hr hs (.inl rfl) hvs hsn
  · rename_i s hs
    rw [Option.bind_eq_some_iff] at hfin
    obtain ⟨x, hx, hsn⟩ := hfin
    rw [Option.map_eq_some_iff] at hx
    obtain ⟨vs, hvs, rfl⟩ := hx
    exact range_fn hP hX hm hf hb hsk hflat hsa hsb hfa hfb hps h1 hg hcap hit hen hr hs (.inr rfl) hvs hsn
  · cases hfin
theorem SRep.anew {w0 : Base} {ro : RO} {σ : Map} {n : Nat} {a : Act} (hn : a.tmps.size = n) (hd : a.defers = w0.ds) : ∀ (l : List (Nat × AV)), (∀ p ∈ l, RV ro σ p.2 (a.tmps.getD p.1 Go.undef)) → SRep w0 ro σ n (mks l fun _ => .unk) a := by
  intro l hl
  refine ⟨hn, fun d => ?_, hd⟩
  induction l with
  | nil => exact .unk _
  | cons p l ih =>
    obtain ⟨i, v⟩ := p
    unfold mks
    split
    · rename_i h; subst h; exact hl (d, v) (List.mem_cons_self ..)
    · exact ih fun p hp => hl p (List.mem_cons_of_mem _ hp)
theorem RV.yld_inv {ro ro' : RO} {σ σ' : Map} {l : Nat} {v : Value} (h : RV ro σ (.yld l) v) : RV ro' σ' (.yld l) v := by
  cases h with
  | free h => cases h
  | yld => exact .yld l
theorem RV.rptr_on {ro ro' : RO} {σ σ' : Map} {cs : List AV} {v : Value} (h : RV ro σ (.rptr cs) v) (hf : ∀ b, ro.F b → ro'.F b ∧ ro'.w.heap[b]? = ro.w.heap[b]?) : RV ro' σ' (.rptr cs) v := by
  obtain ⟨ad, V, rfl, hs, hF, hc, hV⟩ := h.rptr_inv
  exact .rptr V hs (fun h0 => (hf _ (hF h0)).1) (fun j hj => by rw [cell_of_blk (hf _ (hF (by omega))).2]; exact hc j hj) (fun j u hu => (hV j u hu).mono hf)
theorem RV.free_on {ro ro' : RO} {σ σ' : Map} {x : AV} {v : Value} (h : RV ro σ x v) (hx : x.free = true) (hf : ∀ b, ro.F b → ro'.F b ∧ ro'.w.heap[b]? = ro.w.heap[b]?) : RV ro' σ' x v := .free ((h.ofFree hx).mono hf)
end Vai
