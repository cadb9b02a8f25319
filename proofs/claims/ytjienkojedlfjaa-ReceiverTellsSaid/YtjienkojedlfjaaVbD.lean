import Derived.Test.YtjienkojedlfjaaVbC
namespace Vai
open Go Go.RowKit
set_option linter.unusedVariables false
set_option linter.unusedSimpArgs false
def predsOf (o : Oper) (acc : List (List Nat)) : List Nat := ((o.after.toList.filter (Region.binds .any)).flatMap fun e => e.on :: acc.getD e.on []).eraseDups
theorem clos_spec : ∀ (l : List Oper) (acc : List (List Nat)), (clos l acc).length = acc.length + l.length ∧ (∀ k, k < acc.length → (clos l acc)[k]? = acc[k]?) ∧
    ∀ m o, l[m]? = some o → (clos l acc)[acc.length + m]? = some (predsOf o ((clos l acc).take (acc.length + m)))
  | [], acc => ⟨rfl, fun _ _ => rfl, fun m o h => by simp at h⟩
  | o :: l, acc => by
    obtain ⟨h1, h2, h3⟩ := clos_spec l (acc ++ [predsOf o acc])
    have e : clos (o :: l) acc = clos l (acc ++ [predsOf o acc]) := rfl
    rw [e]
    simp only [List.length_append, List.length_cons, List.length_nil] at h1 h2 h3
    have pre : ∀ k, k < acc.length → (clos l (acc ++ [predsOf o acc]))[k]? = acc[k]? := fun k hk => by
      rw [h2 k (by omega), List.getElem?_append_left hk]
    refine ⟨by simp only [List.length_cons]; omega, pre, fun m q hm => ?_⟩
    cases m with
    | zero =>
      simp only [List.getElem?_cons_zero, Option.some.injEq] at hm
      subst hm
      rw [Nat.add_zero, h2 acc.length (by omega), List.getElem?_append_right (Nat.le_refl _)]
      simp only [Nat.sub_self, List.getElem?_cons_zero, Option.some.injEq]
      congr 1
      apply List.ext_getElem?
      intro k
      rw [List.getElem?_take]
      split
      · rename_i hk; rw [pre k hk]
      · rename_i hk; exact List.getElem?_eq_none (by omega)
    | succ m =>
      have := h3 m q (by simpa using hm)
      rw [show acc.length + (0 + 1) + m = acc.length + (m + 1) by omega] at this
      exact this
theorem clos_mem {ops : Array Oper} {i : Nat} {o : Oper} (hi : ops[i]? = some o) {j : Nat} (hj : j ∈ (clos ops.toList []).getD i []) :
    ∃ e ∈ o.after, Region.binds .any e = true ∧ (e.on = j ∨ (e.on < i ∧ j ∈ (clos ops.toList []).getD e.on [])) := by
  obtain ⟨h1, h2, h3⟩ := clos_spec ops.toList []
  have h := h3 i o (by simpa using hi)
  simp only [List.length_nil, Nat.zero_add] at h
  rw [List.getD_eq_getElem?_getD, h, Option.getD_some, predsOf, List.mem_eraseDups, List.mem_flatMap] at hj
  obtain ⟨e, he, hj⟩ := hj
  rw [List.mem_filter] at he
  refine ⟨e, by simpa using he.1, he.2, ?_⟩
  rcases List.mem_cons.1 hj with hj | hj
  · exact .inl hj.symm
  · right
    rw [List.getD_eq_getElem?_getD, List.getElem?_take] at hj
    split at hj
    · rename_i hlt
      refine ⟨hlt, ?_⟩
      rw [List.getD_eq_getElem?_getD]
      exact hj
    · simp at hj
theorem clos_edge {ops : Array Oper} {i : Nat} {o : Oper} (hi : ops[i]? = some o) {j : Nat} (h : edge o j = true) : j ∈ (clos ops.toList []).getD i [] := by
  obtain ⟨h1, h2, h3⟩ := clos_spec ops.toList []
  have hc := h3 i o (by simpa using hi)
  simp only [List.length_nil, Nat.zero_add] at hc
  rw [List.getD_eq_getElem?_getD, hc, Option.getD_some, predsOf, List.mem_eraseDups, List.mem_flatMap]
  unfold edge at h
  obtain ⟨e, he, hb⟩ := Array.any_eq_true'.1 h
  simp only [Bool.and_eq_true, beq_iff_eq] at hb
  exact ⟨e, List.mem_filter.2 ⟨by simpa using he, hb.1⟩, by rw [hb.2]; exact List.mem_cons_self⟩
def runI (C : Cfg) (rc : Rec) (ops : Array Oper) : List Nat → St → Option St
  | [], st => some st
  | i :: l, st => match ops[i]? with
    | none => none
    | some o => (stepG C rc ops o st).bind (runI C rc ops l)
theorem runI_iops {C : Cfg} {rc : Rec} {ops : Array Oper} : ∀ (l : List Oper) (k : Nat) (st : St), (∀ j, j < l.length → ops[k + j]? = l[j]?) → runI C rc ops (List.range' k l.length) st = iops C rc ops l st
  | [], k, st, _ => rfl
  | o :: l, k, st, h => by
    have h0 : ops[k]? = some o := by have := h 0 (by simp); simpa using this
    rw [List.length_cons, List.range'_succ]
    simp only [runI, h0, iops]
    congr 1
    funext s
    refine runI_iops l (k + 1) s (fun j hj => ?_)
    have := h (j + 1) (by simp; omega)
    simpa [Nat.add_assoc, Nat.add_comm 1 j] using this
theorem runI_keeps {C : Cfg} {rc : Rec} {ops : Array Oper} {t : Nat} : ∀ (l : List Nat) (st fin : St), (∀ m ∈ l, ∀ o, ops[m]? = some o → o.dst ≠ some t) → runI C rc ops l st = some fin → fin.sl t = st.sl t
  | [], st, fin, _, h => by simp only [runI, Option.some.injEq] at h; subst h; rfl
  | i :: l, st, fin, hm, h => by
    simp only [runI] at h
    split at h
    · cases h
    · rename_i o ho
      simp only [Option.bind_eq_some_iff] at h
      obtain ⟨s, h1, h2⟩ := h
      rw [runI_keeps l s fin (fun m hm' => hm m (List.mem_cons_of_mem _ hm')) h2]
      exact stepG_sl h1 (hm i List.mem_cons_self o ho)
theorem yield_at {w0 : Base} {ro : RO} {σ : Map} {n : Nat} {sl : Nat → AV} {a : Act} (hs : SRep w0 ro σ n sl a) {ops : Array Oper} {j t : Nat} (ht : (ops[j]?).bind (·.dst) = some t) :
    (∀ b, sl t = .bool b → yielded ops a.tmps j = some b) ∧ (sl t = .undef → yielded ops a.tmps j = none) := by
  have h := hs.at_ t
  unfold yielded
  rw [ht]
  simp only [Option.bind_some]
  rw [Array.getD_eq_getD_getElem?] at h
  refine ⟨fun b hb => ?_, fun hb => ?_⟩
  · rw [hb] at h
    have := h.bool_inv
    cases hv : a.tmps[t]? with
    | none => rw [hv] at this; simp [Go.undef] at this
    | some v => rw [hv] at this; simp at this; subst this; rfl
  · rw [hb] at h
    cases hv : a.tmps[t]? with
    | none => rfl
    | some v =>
      rw [hv] at h
      simp only [Option.getD_some] at h
      cases h with
      | undef => rfl
      | free h => cases h
theorem stepG_ok {C : Cfg} {rc : Rec} (hrc : CodeOk C rc) (hP : ProgOk C) (hX : ExtOk C) {ops : Array Oper} {i : Nat} {o : Oper} (hi : ops[i]? = some o) {st st' : St} (h : stepG C rc ops o st = some st') {w0 : Base} {w : World} {ro : RO} {σ : Map} {n : Nat} {a : Act}
    (hh : HRep w0 w ro σ st.hp st.gn) (hs : SRep w0 ro σ n st.sl a) (hd : ∀ x, o.dst = some x → x < n) {K : Act → World → Prop} {Q : Exit → Act → World → Prop} (hK : ∀ a' w', After w0 ro σ n st' a' w' → K a' w') : wpOp C.P ops Q i K a w := by
  have off : ∀ {st'}, some (st.putO o.dst .undef) = some st' → (∀ a' w', After w0 ro σ n st' a' w' → K a' w') → K (a.put o.dst Go.undef) w := by
    intro st' h hK
    simp only [Option.some.injEq] at h
    subst h
    exact hK _ _ ⟨ro, σ, Ext.refl ro σ, HRep.putO hh _ _, SRep.put hs hd .undef⟩
  unfold wpOp
  simp only [hi]
  unfold stepG at h
  split at h
  · rename_i hg
    rw [if_pos (by simp [Region.wanted, hg])]
    exact .inl (step_ok hrc hP hX h hh hs hd hK)
  · rename_i j want hg
    split at h
    · cases h
    · rename_i t ht
      obtain ⟨y1, y2⟩ := yield_at hs ht
      split at h
      · rename_i b hb
        have hy := y1 b hb
        split at h
        · rename_i hbw
          rw [if_pos (by simp [Region.wanted, hg, hy, hbw])]
          exact .inl (step_ok hrc hP hX h hh hs hd hK)
        · rename_i hbw
          rw [if_neg (by simp [Region.wanted, hg, hy, hbw])]
          exact off h hK
      · rename_i hb
        have hy := y2 hb
        rw [if_neg (by simp [Region.wanted, hg, hy])]
        exact off h hK
      · cases h
theorem dstOk_at {n : Nat} {ops : Array Oper} (h : dstOk n ops = true) {i : Nat} {o : Oper} (hi : ops[i]? = some o) : ∀ x, o.dst = some x → x < n := by
  intro x hx
  unfold dstOk at h
  rw [List.all_eq_true] at h
  have := h o (by simpa using List.mem_of_getElem? (show ops.toList[i]? = some o by simpa using hi))
  simpa [hx] using this
def Rep (n : Nat) (st : St) : Prop := ∃ (w0 : Base) (w : World) (ro : RO) (σ : Map) (a : Act), HRep w0 w ro σ st.hp st.gn ∧ SRep w0 ro σ n st.sl a
theorem wpOp_ex {P : Program} {ops : Array Oper} {i : Nat} {K : Act → World → Prop} {a : Act} {w : World} (h : wpOp P ops (fun _ _ _ => False) i K a w) : ∃ a' w', K a' w' := by
  unfold wpOp at h
  split at h
  · exact ⟨a, w, h⟩
  · rename_i o ho
    split at h
    · rcases h with h | ⟨_, a0, w0, h⟩
      · unfold Oper.wp at h
        generalize (execOp a.eval o).run P w = r at h
        cases r with
        | ok n w' =>
          cases n <;> simp only [Oper.upon] at h <;> try exact ⟨_, _, h⟩
          · obtain ⟨e, w'', fr, hR, _⟩ := h []
            cases e with
            | returned v => exact ⟨_, _, hR⟩
            | panicked c => exact hR.elim
            | outgrown => obtain ⟨a0, w0, hR⟩ := hR; exact hR.elim
          · obtain ⟨v, w'', hR, _⟩ := h default []
            exact ⟨_, _, hR⟩
        | halt x w' => cases x <;> simp only [Oper.upon] at h
      · exact h.elim
    · exact ⟨_, _, h⟩
theorem Rep.step {C : Cfg} {rc : Rec} (hrc : CodeOk C rc) (hP : ProgOk C) (hX : ExtOk C) {ops : Array Oper} {i : Nat} {o : Oper} (hi : ops[i]? = some o) {st st' : St} (h : stepG C rc ops o st = some st') {n : Nat} (hd : ∀ x, o.dst = some x → x < n) (hr : Rep n st) : Rep n st' := by
  obtain ⟨w0, w, ro, σ, a, hh, hs⟩ := hr
  obtain ⟨a', w', ro', σ', _, hh', hs'⟩ := wpOp_ex (stepG_ok hrc hP hX hi h hh hs hd (fun a' w' h => h))
  exact ⟨w0, w', ro', σ', a', hh', hs'⟩
theorem dyn_pair {C : Cfg} {ops : Array Oper} {fin : St} (hdyn : dynOk C ops fin = true) {p q : Nat} {op oq : Oper} (hp : ops[p]? = some op) (hq : ops[q]? = some oq) (e1 : edge op q = false) (e2 : edge oq p = false) : DynAt C fin op oq := by
  unfold dynOk at hdyn
  rw [List.all_eq_true] at hdyn
  have h := hdyn (op, p) (List.mem_zipIdx_iff_getElem?.2 (by simpa using hp))
  have hqm : (oq, q) ∈ ops.toList.zipIdx := List.mem_zipIdx_iff_getElem?.2 (by simpa using hq)
  refine ⟨fun t a y t' a' ho hl => ?_, fun c s x t' a' ho hc ha hl => ?_⟩
  · simp only [ho] at h
    rw [List.all_eq_true] at h
    have := h _ hqm
    simpa [hl, e1, e2] using this
  · simp only [ho, hc] at h
    rw [List.all_eq_true] at h
    have := h _ hqm
    have hs : c.args.getD 0 (.const .nilFunc) = s := by
      have : c.args[0]? = some s := by rw [← Array.getElem?_toList, ha]; rfl
      rw [Array.getD_eq_getD_getElem?, this]; rfl
    simpa [hl, e1, e2, hs] using this
theorem noLater_at {ops : Array Oper} {k : Nat} {o : Oper} (h : noLater ops k o = true) {m : Nat} {q : Oper} (hm : ops[m]? = some q) (hk : k ≤ m) {t : Nat} (ht : t ∈ o.looksAt ops) : q.dst ≠ some t := by
  unfold noLater at h
  rw [List.all_eq_true] at h
  have := h m (List.mem_range.2 (Array.getElem?_eq_some_iff.1 hm).1)
  simp only [hm, Bool.or_eq_true, decide_eq_true_eq] at this
  rcases this with h1 | h1
  · omega
  · intro e
    rw [e] at h1
    simp at h1
    exact h1 ht
theorem front {C : Cfg} {rc : Rec} (hrc : CodeOk C rc) (hP : ProgOk C) (hX : ExtOk C) {ops : Array Oper} {n : Nat} (hd : dstOk n ops = true) {fin : St} (hdyn : dynOk C ops fin = true) (hone : ∀ (k : Nat) (o : Oper), ops[k]? = some o → OneOk C.P o) {i : Nat} {oi : Oper} (hi : ops[i]? = some oi) (l2 : List Nat) :
    ∀ (l1 : List Nat) (st : St), Rep n st → (l1 ++ i :: l2).Pairwise (· < ·) → (∀ j ∈ l1, ∀ oj, ops[j]? = some oj → okPair C ops j oj i oi = true ∧ edge oj i = false ∧ edge oi j = false) → runI C rc ops (l1 ++ i :: l2) st = some fin →
      ∃ s1, stepG C rc ops oi st = some s1 ∧ runI C rc ops (l1 ++ l2) s1 = some fin
  | [], st, _, _, _, h => by
    simp only [List.nil_append, runI, hi, Option.bind_eq_some_iff] at h
    exact h
  | j :: l1, st, hr, hp, hj, h => by
    simp only [List.cons_append, runI] at h
    split at h
    · cases h
    · rename_i oj hoj
      simp only [Option.bind_eq_some_iff] at h
      obtain ⟨sj, h1, h2⟩ := h
      rw [List.cons_append, List.pairwise_cons] at hp
      obtain ⟨s2, h3, h4⟩ := front hrc hP hX hd hdyn hone hi l2 l1 sj (hr.step hrc hP hX hoj h1 (dstOk_at hd hoj)) hp.2 (fun k hk => hj k (List.mem_cons_of_mem _ hk)) h2
      obtain ⟨hpair, e1, e2⟩ := hj j List.mem_cons_self oj hoj
      obtain ⟨w0, w, ro, σ, a, hh, hs⟩ := hr
      unfold okPair at hpair
      simp only [Bool.and_eq_true] at hpair
      obtain ⟨hap, hcls⟩ := hpair
      have hk : okK (kls C oj.op) (kls C oi.op) = 1 ∨ (okK (kls C oj.op) (kls C oi.op) = 2 ∧ DynAt C st oj oi ∧ DynAt C st oi oj) := by
        split at hcls
        · rename_i he; exact .inl he
        · rename_i he
          simp only [Bool.and_eq_true] at hcls
          have hrun : runI C rc ops (j :: (l1 ++ i :: l2)) st = some fin := by
            simp only [runI, hoj, h1, Option.bind_some]; exact h2
          have kj : ∀ t ∈ oj.looksAt ops, fin.sl t = st.sl t := fun t ht => runI_keeps _ _ _ (fun m hm o ho => noLater_at hcls.1 ho (by
            rcases List.mem_cons.1 hm with rfl | hm
            · exact Nat.le_refl _
            · exact Nat.le_of_lt (hp.1 m hm)) ht) hrun
          have ki : ∀ t ∈ oi.looksAt ops, fin.sl t = st.sl t := fun t ht => runI_keeps _ _ _ (fun m hm o ho => by
            have early : m ∈ j :: l1 → o.dst ≠ some t := fun hm e => by
              have hpr := (hj m hm o ho).1
              unfold okPair at hpr
              simp only [Bool.and_eq_true] at hpr
              exact (Oper.apart_spec hpr.1).1 t e ht
            rcases List.mem_cons.1 hm with rfl | hm
            · exact early List.mem_cons_self
            · rcases List.mem_append.1 hm with hm | hm
              · exact early (List.mem_cons_of_mem _ hm)
              · refine noLater_at hcls.2 ho ?_ ht
                have hp2 := (List.pairwise_append.1 hp.2).2.1
                rcases List.mem_cons.1 hm with rfl | hm
                · exact Nat.le_refl _
                · exact Nat.le_of_lt ((List.pairwise_cons.1 hp2).1 m hm)) hrun
          have ej : ∀ x ∈ oj.op.operands, fin.ev x = st.ev x := fun x hx => Agree.ev (ops := ops) (o := oj) (fun t ht => kj t ht) hx
          have ei : ∀ x ∈ oi.op.operands, fin.ev x = st.ev x := fun x hx => Agree.ev (ops := ops) (o := oi) (fun t ht => ki t ht) hx
          have tr : ∀ {p q : Oper}, (∀ x ∈ p.op.operands, fin.ev x = st.ev x) → (∀ x ∈ q.op.operands, fin.ev x = st.ev x) → DynAt C fin p q → DynAt C st p q := by
            intro p q hp hq ⟨d1, d2⟩
            refine ⟨fun t a y t' a' ho hl => ?_, fun c s x t' a' ho hc ha hl => ?_⟩
            · rw [← hp a (by rw [ho]; simp [Op.operands]), ← hq a' (by rw [hl]; simp [Op.operands])]
              exact d1 t a y t' a' ho hl
            · have hs0 : s ∈ c.args := by
                have : s ∈ c.args.toList := by rw [ha]; simp
                simpa using this
              rw [← hp s (by rw [ho]; simp [Op.operands, Call.operands, hs0]), ← hq a' (by rw [hl]; simp [Op.operands])]
              exact d2 c s x t' a' ho hc ha hl
          exact .inr ⟨he, tr ej ei (dyn_pair hdyn hoj hi e1 e2), tr ei ej (dyn_pair hdyn hi hoj e2 e1)⟩
        · cases hcls
      obtain ⟨s1', h5, h6⟩ := swap (hone j oj hoj) (hone i oi hi) hap h1 h3 hh hs hk
      refine ⟨s1', h5, ?_⟩
      simp only [List.cons_append, runI, hoj, h6, Option.bind_some]
      exact h4
theorem iops_ok {C : Cfg} {rc : Rec} (hrc : CodeOk C rc) (hP : ProgOk C) (hX : ExtOk C) {ops : Array Oper} {m n : Nat} (hd : dstOk m ops = true) (hmn : m ≤ n) {w0 : Base} {Q : Exit → Act → World → Prop} {st' : St} :
    ∀ (l : List Oper) (k : Nat) (st : St) (w : World) (ro : RO) (σ : Map) (a : Act), (∀ j, l[j]? = ops[k + j]?) → iops C rc ops l st = some st' → HRep w0 w ro σ st.hp st.gn → SRep w0 ro σ n st.sl a →
      (∀ a' w', After w0 ro σ n st' a' w' → Q .normal a' w') → wpOps C.P ops Q (List.range' k l.length) a w := by
  intro l
  induction l with
  | nil =>
    intro k st w ro σ a _ h hh hs hQ
    simp only [iops, Option.some.injEq] at h
    subst h
    exact hQ _ _ ⟨ro, σ, Ext.refl ro σ, hh, hs⟩
  | cons o l ih =>
    intro k st w ro σ a hat h hh hs hQ
    simp only [iops, Option.bind_eq_some_iff] at h
    obtain ⟨s, h1, h2⟩ := h
    have hk : ops[k]? = some o := by have := hat 0; simpa using this.symm
    rw [List.length_cons, List.range'_succ, wpOps_cons]
    refine stepG_ok hrc hP hX hk h1 hh hs (fun x hx => Nat.lt_of_lt_of_le (dstOk_at hd hk x hx) hmn) (fun a' w' ⟨ro', σ', he, hh', hs'⟩ => ?_)
    refine ih (k + 1) s w' ro' σ' a' (fun j => ?_) h2 hh' hs' (fun a2 w2 ⟨r2, s2, e2, h3, h4⟩ => hQ a2 w2 ⟨r2, s2, he.trans e2, h3, h4⟩)
    have := hat (j + 1)
    simpa [Nat.add_assoc, Nat.add_comm 1 j] using this
theorem region_ok {C : Cfg} {rc : Rec} (hrc : CodeOk C rc) (hP : ProgOk C) (hX : ExtOk C) {ops : Array Oper} {id m n : Nat} {st st' : St} (h : iops C rc ops ops.toList st = some st') (hd : dstOk m ops = true) (hmn : m ≤ n) {w0 : Base} {w : World} {ro : RO} {σ : Map} {a : Act}
    (hh : HRep w0 w ro σ st.hp st.gn) (hs : SRep w0 ro σ n st.sl a) {Q : Exit → Act → World → Prop} (hQ : ∀ a' w', After w0 ro σ n st' a' w' → Q .normal a' w') : (Code.region id ops false).wp C.P Q a w := by
  refine wp_region ?_
  have := iops_ok hrc hP hX hd hmn (Q := Q) ops.toList 0 st w ro σ a (fun j => by simp) h hh hs hQ
  rw [Array.length_toList] at this
  rw [List.range_eq_range']
  exact this
def rem (ops : Array Oper) (listed : Array Bool) : List Nat := (List.range ops.size).filter fun k => !listed.getD k true
theorem rem_set {ops : Array Oper} {listed : Array Bool} {i : Nat} (hi : i ∈ rem ops listed) :
    ∃ l1 l2, rem ops listed = l1 ++ i :: l2 ∧ rem ops (listed.setIfInBounds i true) = l1 ++ l2 := by
  have hnd : (rem ops listed).Nodup := (List.nodup_range).filter _
  obtain ⟨l1, l2, he⟩ := List.append_of_mem hi
  refine ⟨l1, l2, he, ?_⟩
  have h1 : rem ops (listed.setIfInBounds i true) = (rem ops listed).filter (fun k => !(k == i)) := by
    unfold rem
    rw [List.filter_filter]
    apply List.filter_congr
    intro k hk
    by_cases hki : k = i
    · subst hki
      have : (listed.setIfInBounds k true).getD k true = true := by
        by_cases hlt : k < listed.size
        · simp [Array.getD_eq_getD_getElem?, hlt]
        · simp [Array.getD_eq_getD_getElem?, hlt]
      simp [this]
    · rw [getD_set_ne true (fun e => hki e.symm)]
      simp [hki]
  rw [h1, he]
  rw [he, List.nodup_append, List.nodup_cons] at hnd
  rw [List.filter_append, List.filter_cons]
  have f1 : l1.filter (fun k => !(k == i)) = l1 := List.filter_eq_self.2 (fun k hk => by
    have : k ≠ i := fun e => hnd.2.2 k hk i List.mem_cons_self e
    simpa using this)
  have f2 : l2.filter (fun k => !(k == i)) = l2 := List.filter_eq_self.2 (fun k hk => by
    have : k ≠ i := fun e => hnd.2.1.1 (e ▸ hk)
    simpa using this)
  rw [f1, f2]
  simp
theorem rem_sorted (ops : Array Oper) (listed : Array Bool) : (rem ops listed).Pairwise (· < ·) := List.Pairwise.filter _ List.pairwise_lt_range
theorem any_ok {C : Cfg} {rc : Rec} (hrc : CodeOk C rc) (hP : ProgOk C) (hX : ExtOk C) {ops : Array Oper} {m n : Nat} (hd : dstOk m ops = true) (hmn : m ≤ n) (hst : okStat C ops = true) {fin : St} (hdyn : dynOk C ops fin = true) {w0 : Base} {Q : Exit → Act → World → Prop} :
    ∀ (fuel : Nat) (listed : Array Bool) (st : St) (w : World) (ro : RO) (σ : Map) (a : Act), (rem ops listed).length = fuel → listed.size = ops.size →
      (∀ k o, ops[k]? = some o → listed.getD k true = true → ∀ e ∈ o.after, Region.binds .any e = true → listed.getD e.on false = true) →
      runI C rc ops (rem ops listed) st = some fin → HRep w0 w ro σ st.hp st.gn → SRep w0 ro σ n st.sl a → (∀ a' w', After w0 ro σ n fin a' w' → Q .normal a' w') → wpAny C.P .any ops Q fuel listed a w := by
  have hdn : dstOk n ops = true := by
    unfold dstOk at hd ⊢
    rw [List.all_eq_true] at hd ⊢
    intro o ho
    have := hd o ho
    split at this
    · simp only [decide_eq_true_eq] at this ⊢; exact Nat.lt_of_lt_of_le this hmn
    · rfl
  have stat : ∀ i o, ops[i]? = some o → (∀ e ∈ o.after, Region.binds .any e = true → e.on < i) ∧ OneOk C.P o ∧ ∀ j oj, j < i → ops[j]? = some oj → j ∈ (clos ops.toList []).getD i [] ∨ okPair C ops j oj i o = true := by
    intro i o hi
    unfold okStat at hst
    rw [List.all_eq_true] at hst
    have := hst i (List.mem_range.2 (Array.getElem?_eq_some_iff.1 hi).1)
    simp only [hi, Bool.and_eq_true] at this
    refine ⟨fun e he hb => ?_, fun t a ho ht => ?_, fun j oj hj hoj => ?_⟩
    · have h1 := Array.all_eq_true_iff_forall_mem.1 this.1.1 e he
      simpa [hb] using h1
    · have h1 := this.1.2
      simpa [oneLoad, ho, ht] using h1
    · have h1 := List.all_eq_true.1 this.2 j (List.mem_range.2 hj)
      simpa [hoj] using h1
  have inRem : ∀ {listed : Array Bool} {i : Nat}, i ∈ rem ops listed ↔ i < ops.size ∧ listed.getD i true = false := by
    intro listed i
    simp [rem, List.mem_filter]
  intro fuel
  induction fuel with
  | zero =>
    intro listed st w ro σ a hlen hsz hinv hrun hh hs hQ
    have h0 : rem ops listed = [] := List.length_eq_zero_iff.1 hlen
    rw [h0] at hrun
    simp only [runI, Option.some.injEq] at hrun
    subst hrun
    refine ⟨?_, hQ _ _ ⟨ro, σ, Ext.refl ro σ, hh, hs⟩⟩
    rw [List.eq_nil_iff_forall_not_mem]
    intro i hi
    obtain ⟨h1, o, ho, _⟩ := mem_ready.1 hi
    have : i ∈ rem ops listed := inRem.2 ⟨(Array.getElem?_eq_some_iff.1 ho).1, h1⟩
    rw [h0] at this
    cases this
  | succ fuel ih =>
    intro listed st w ro σ a hlen hsz hinv hrun hh hs hQ
    have down : ∀ i, ∀ o, ops[i]? = some o → (∀ e ∈ o.after, Region.binds .any e = true → listed.getD e.on false = true) → ∀ j ∈ (clos ops.toList []).getD i [], listed.getD j false = true := by
      intro i
      induction i using Nat.strongRecOn with
      | _ i ihi =>
        intro o ho hb j hj
        obtain ⟨e, he, hbe, hc⟩ := clos_mem ho hj
        rcases hc with rfl | ⟨hlt, hc⟩
        · exact hb e he hbe
        · have hon := hb e he hbe
          have hlt2 : e.on < ops.size := by have := (Array.getElem?_eq_some_iff.1 ho).1; omega
          refine ihi e.on hlt _ (Array.getElem?_eq_getElem hlt2) (hinv e.on _ (Array.getElem?_eq_getElem hlt2) ?_) j hc
          simp only [Array.getD_eq_getD_getElem?, show e.on < listed.size by omega, Array.getElem?_eq_getElem, Option.getD_some] at hon ⊢
          exact hon
    refine ⟨fun hr => ?_, fun i hi => ?_⟩
    ·
      cases hl : rem ops listed with
      | nil => rw [hl] at hlen; simp at hlen
      | cons k l =>
        have hk : k ∈ rem ops listed := by rw [hl]; exact List.mem_cons_self
        obtain ⟨hk1, hk2⟩ := inRem.1 hk
        have hok : ops[k]? = some ops[k] := Array.getElem?_eq_getElem hk1
        have : k ∈ Region.ready .any ops listed := mem_ready.2 ⟨hk2, _, hok, fun e he hb => by
          have hlt := (stat k _ hok).1 e he hb
          have hnot : e.on ∉ rem ops listed := fun hm => by
            have hs := rem_sorted ops listed
            rw [hl] at hm hs
            rcases List.mem_cons.1 hm with h1 | h1
            · omega
            · have := (List.pairwise_cons.1 hs).1 _ h1; omega
          have hlt2 : e.on < listed.size := by omega
          by_cases hc : listed.getD e.on true = false
          · exact absurd (inRem.2 ⟨by omega, hc⟩) hnot
          · simp only [Array.getD_eq_getD_getElem?, hlt2, Array.getElem?_eq_getElem, Option.getD_some, Bool.not_eq_false] at hc ⊢
            exact hc⟩
        rw [hr] at this
        cases this
    · obtain ⟨hi1, oi, hoi, hie⟩ := mem_ready.1 hi
      have him : i ∈ rem ops listed := inRem.2 ⟨(Array.getElem?_eq_some_iff.1 hoi).1, hi1⟩
      obtain ⟨l1, l2, he, he2⟩ := rem_set him
      have hsort := rem_sorted ops listed
      rw [he] at hsort hrun
      obtain ⟨s1, h1, h2⟩ := front hrc hP hX hdn hdyn (fun k o ho => (stat k o ho).2.1) hoi l2 l1 st ⟨w0, w, ro, σ, a, hh, hs⟩ hsort (fun j hj oj hoj => by
        have hlt : j < i := (List.pairwise_append.1 hsort).2.2 j hj i List.mem_cons_self
        have hjm : j ∈ rem ops listed := by rw [he]; exact List.mem_append_left _ hj
        have hju := (inRem.1 hjm).2
        have hjs : j < listed.size := by have := (inRem.1 hjm).1; omega
        have notl : ¬ (listed.getD j false = true) := by
          simp only [Array.getD_eq_getD_getElem?, hjs, Array.getElem?_eq_getElem, Option.getD_some] at hju ⊢
          simp [hju]
        have nc : j ∉ (clos ops.toList []).getD i [] := fun hc => notl (down i oi hoi hie j hc)
        refine ⟨((stat i oi hoi).2.2 j oj hlt hoj).resolve_left nc, ?_, ?_⟩
        · cases hb : edge oj i with
          | false => rfl
          | true =>
            unfold edge at hb
            obtain ⟨e, hem, heb⟩ := Array.any_eq_true'.1 hb
            simp only [Bool.and_eq_true, beq_iff_eq] at heb
            have := (stat j oj hoj).1 e hem heb.1
            omega
        · cases hb : edge oi j with
          | false => rfl
          | true => exact absurd (clos_edge hoi hb) nc) hrun
      refine stepG_ok hrc hP hX hoi h1 hh hs (fun x hx => Nat.lt_of_lt_of_le (dstOk_at hd hoi x hx) hmn) (fun a' w' ⟨ro', σ', hee, hh', hs'⟩ => ?_)
      refine ih (listed.setIfInBounds i true) s1 w' ro' σ' a' ?_ (by simp [hsz]) ?_ (by rw [he2]; exact h2) hh' hs' (fun a2 w2 ⟨r2, s2, e2, h3, h4⟩ => hQ a2 w2 ⟨r2, s2, hee.trans e2, h3, h4⟩)
      · rw [he] at hlen
        rw [he2]
        simp at hlen ⊢
        omega
      · intro k o ho hk e hem hb
        by_cases hki : k = i
        · subst hki
          rw [hoi] at ho
          simp only [Option.some.injEq] at ho
          subst ho
          exact getD_set_true (hie e hem hb)
        · rw [getD_set_ne true (fun e => hki e.symm)] at hk
          exact getD_set_true (hinv k o ho hk e hem hb)
theorem draw_ok {C : Cfg} {rc : Rec} (hrc : CodeOk C rc) (hP : ProgOk C) (hX : ExtOk C) (hm : C.P.follows .mixedOrders = true) {ops : Array Oper} {id m n : Nat} {st st' : St} (h : iops C rc ops ops.toList st = some st') (hd : dstOk m ops = true) (hmn : m ≤ n)
    (hst : okStat C ops = true) (hdyn : dynOk C ops st' = true) {w0 : Base} {w : World} {ro : RO} {σ : Map} {a : Act}
    (hh : HRep w0 w ro σ st.hp st.gn) (hs : SRep w0 ro σ n st.sl a) {Q : Exit → Act → World → Prop} (hQ : ∀ a' w', After w0 ro σ n st' a' w' → Q .normal a' w') : (Code.region id ops true).wp C.P Q a w := by
  refine wp_region_any hm ?_
  have hrem : rem ops (Array.replicate ops.size false) = List.range ops.size := by
    unfold rem
    rw [List.filter_eq_self]
    intro k hk
    have hlt := List.mem_range.1 hk
    simp [Array.getD_eq_getD_getElem?, hlt]
  have hh' : HRep w0 { w with drawn := w.drawn + 1 } ro σ st.hp st.gn := by
    refine ⟨⟨hh.below.os, hh.below.tape, hh.below.output, hh.below.size, hh.below.block⟩, hh.fr, hh.sub, hh.fn, hh.lt, fun s g B hB => ?_, hh.own, hh.frz, hh.inj, hh.hid, hh.dis, hh.oh⟩
    obtain ⟨l, hl, hb⟩ := hh.blk s g B hB
    exact ⟨l, hl, hb.mono (Ext.refl ro σ) (fun _ _ _ _ => rfl)⟩
  refine any_ok hrc hP hX hd hmn hst hdyn ops.size _ st _ ro σ a (by rw [hrem, List.length_range]) (by simp) (fun k o ho hk => ?_) ?_ hh' hs hQ
  · have hlt := (Array.getElem?_eq_some_iff.1 ho).1
    simp [Array.getD_eq_getD_getElem?, hlt] at hk
  · rw [hrem, List.range_eq_range']
    have := runI_iops (C := C) (rc := rc) (ops := ops) ops.toList 0 st (fun j hj => by simp)
    rw [Array.length_toList] at this
    rw [this, h]
end Vai
