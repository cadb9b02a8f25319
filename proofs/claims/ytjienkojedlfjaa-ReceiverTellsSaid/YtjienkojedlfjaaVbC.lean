import Derived.Test.YtjienkojedlfjaaVbB
namespace Vai
open Go Go.RowKit
set_option linter.unusedVariables false
set_option linter.unusedSimpArgs false
theorem loadV_frz {P : Program} {hp : Hp} (l : List (Nat × Nat)) (t : TypeId) (x : AV) : loadV P (frzH l hp) t x = loadV P hp t x := by
  unfold loadV
  cases tagg P t <;> try rfl
  simp only [Option.bind_some]
  cases tsz P t <;> try rfl
  simp only [Option.bind_some]
  cases x <;> try rfl
  rename_i s g i off
  simp only [frzH]
  cases hp s g with
  | none => rfl
  | some B =>
    simp only [Option.map_some, Option.bind_some]
    split <;> rfl
theorem pick_splice {ag : Bool} {z o : Nat} {cs vs : List AV} {off : Nat} (h : off + vs.length ≤ cs.length) (hne : off + vs.length ≤ o ∨ o + z ≤ off) (hz : ag = false → z = 1 ∨ off + vs.length ≤ o ∨ o < off) : pick ag z o (splice cs off vs) = pick ag z o cs := by
  unfold pick
  have hl := splice_length h
  cases ag with
  | true =>
    simp only [if_true, hl]
    split
    · congr 2
      apply List.ext_getElem?
      intro j
      rw [List.getElem?_take, List.getElem?_take]
      split
      · rw [List.getElem?_drop, List.getElem?_drop, splice_at h]
        split
        · rename_i hj _; omega
        · rfl
      · rfl
    · rfl
  | false =>
    simp only [Bool.false_eq_true, if_false]
    rw [splice_at h]
    split
    · have := hz rfl; omega
    · rfl
theorem loadV_store {P : Program} {w0 : Base} {w : World} {ro : RO} {σ : Map} {hp : Hp} {gn : Gn} (hh : HRep w0 w ro σ hp gn) {x y a : AV} {vx vy va : Value} (hx : RV ro σ x vx) (hy : RV ro σ y vy) (ha : RV ro σ a va) {t t' : TypeId} {r : AV × Hp × Gn} (h : sR P t x y hp gn = some r)
    (hap : apartRW P x t a t' = true) (hz1 : tagg P t' = some false → tsz P t' = some 1) : loadV P r.2.1 t' a = loadV P hp t' a := by
  unfold sR storeStep at h
  cases hz : tsz P t with
  | none => rw [hz] at h; simp at h
  | some z =>
    rw [hz] at h
    simp only [Option.bind_some] at h
    cases x <;> try (simp at h; done)
    rename_i s g i off
    clear hx
    simp only [Option.map_eq_some_iff, Option.bind_eq_some_iff, bare] at h
    obtain ⟨st1, ⟨B, hB, q, hq, h⟩, rfl⟩ := h
    split at h
    · rename_i hc
      simp only [Option.some.injEq] at h
      subst h
      simp only [Bool.and_eq_true, decide_eq_true_eq, Bool.not_eq_true'] at hc
      obtain ⟨⟨⟨⟨_, hyok⟩, hyl⟩, hle⟩, _⟩ := hc
      cases a <;> try rfl
      rename_i s' g' i' o'
      obtain ⟨b2, sz2, N2, hσ2, rfl⟩ := ha.ptr_inv
      show loadV P (fun p p2 => if p = s ∧ p2 = g then some ⟨B.es.set i (q.re (splice q.cells off y.cells)), false⟩ else hp p p2) t' (.ptr s' g' i' o') = _
      simp only [loadV]
      cases hag : tagg P t' with
      | none => rfl
      | some ag =>
        simp only [Option.bind_some]
        cases hz' : tsz P t' with
        | none => rfl
        | some z' =>
          simp only [Option.bind_some]
          by_cases hk : s' = s ∧ g' = g
          · obtain ⟨rfl, rfl⟩ := hk
            rw [if_pos ⟨rfl, rfl⟩, hB]
            simp only [Option.bind_some]
            by_cases hi : i' = i
            · subst hi
              have hlt : i' < B.es.length := (List.getElem?_eq_some_iff.1 hq).1
              rw [List.getElem?_set_self hlt, hq]
              simp only [Option.bind_some]
              obtain ⟨l, hl, hblk⟩ := hh.blk _ _ _ hB
              cases l with
              | virt =>
                have : B.es = [] := hblk
                rw [this] at hlt; simp at hlt
              | real b sz N =>
                obtain ⟨arr, et, fz, h1, h2, h3, h4, h5, h6, h7⟩ := hblk
                have hyc := hy.cells hyok
                have hno : ∀ c ∈ splice q.cells off y.cells, ∀ l, c ≠ .agg l := by
                  intro c hc l
                  obtain ⟨j, hj⟩ := List.getElem?_of_mem hc
                  rw [splice_at (by rw [hyl]; exact hle)] at hj
                  split at hj
                  · have hjl : j - off < y.cells.length := (List.getElem?_eq_some_iff.1 hj).1
                    have hv : vy.cells[j - off]? = some (vy.cells[j - off]'(by rw [← hyc.1]; exact hjl)) := Array.getElem?_eq_getElem _
                    exact (hyc.2.2 _ _ _ hj hv).noAgg (hyc.2.1 _ _ hv) l
                  · obtain ⟨v, _, hv1, hv2⟩ := h7 i' q j c hq hj
                    exact hv2.noAgg hv1 l
                rw [re_cells (splice_length (by rw [hyl]; exact hle)) hno]
                simp only [apartRW, hz, hz', beq_self_eq_true, Bool.not_true, Bool.false_or, Bool.or_eq_true, decide_eq_true_eq] at hap
                refine pick_splice (by rw [hyl]; exact hle) (by rw [hyl]; exact hap) (fun he => ?_)
                subst he
                left
                have := hz1 hag
                rw [hz'] at this
                simpa using this
            · rw [List.getElem?_set_ne (Ne.symm hi)]
          · rw [if_neg hk]
    · cases h
theorem loadV_append {P : Program} {w0 : Base} {w : World} {ro : RO} {σ : Map} {hp : Hp} {gn : Gn} (hh : HRep w0 w ro σ hp gn) {a s x : AV} {va : Value} (ha : RV ro σ a va) {d t1 t2 : Nat} {r : AV × Hp × Gn} (h : aR P d t1 t2 s x hp gn = some r)
    (hap : apartRK s a = true) (t' : TypeId) : loadV P r.2.1 t' a = loadV P hp t' a := by
  cases a <;> try rfl
  rename_i s' g' i' o'
  obtain ⟨b2, sz2, N2, hσ2, rfl⟩ := ha.ptr_inv
  have hlt := hh.lt _ _ _ hσ2
  have hkey : r.2.1 s' g' = hp s' g' := by
    unfold aR appendStep at h
    simp only [Option.map_eq_some_iff, Option.bind_eq_some_iff] at h
    obtain ⟨s1, ⟨e, he, z, hz, b, hb, zv, hzv, news, hn, p, hp', h⟩, rfl⟩ := h
    split at h
    · simp only [Option.some.injEq] at h
      subst h
      have hbase : p.2.gn = gn ∧ p.2.hp s' g' = hp s' g' := by
        unfold appBase at hp'
        split at hp'
        · simp only [Option.some.injEq] at hp'; subst hp'; exact ⟨rfl, rfl⟩
        · simp only [Option.some.injEq] at hp'; subst hp'; exact ⟨rfl, rfl⟩
        · rename_i z0 a0 g0 len
          split at hp'
          · simp only [Option.bind_eq_some_iff] at hp'
            obtain ⟨B, hB, hp'⟩ := hp'
            split at hp'
            · cases hp'
            · simp only [Option.some.injEq] at hp'
              subst hp'
              refine ⟨rfl, ?_⟩
              show (if s' = a0 ∧ g' = g0 then none else hp s' g') = hp s' g'
              rw [if_neg]
              rintro ⟨rfl, rfl⟩
              simp [apartRK] at hap
          · cases hp'
        · cases hp'
      show (if s' = d ∧ g' = p.2.gn d then _ else p.2.hp s' g') = hp s' g'
      rw [hbase.1, hbase.2, if_neg]
      rintro ⟨rfl, rfl⟩
      omega
    · cases h
  simp only [loadV, hkey]
def Comm (Rj Ri : Act1) (hp : Hp) (gn : Gn) : Prop :=
  ∀ v1 h1 g1 v2 h2 g2, Rj hp gn = some (v1, h1, g1) → Ri h1 g1 = some (v2, h2, g2) → ∃ h1' g1', Ri hp gn = some (v2, h1', g1') ∧ Rj h1' g1' = some (v1, h2, g2)
theorem comm_x_left {d : Nat} {es : List AV} {v : Nat → AV} {R : Act1} {hp : Hp} {gn : Gn} (h : Beside d R hp gn) : Comm (xR d es v) R hp gn := by
  intro v1 h1 g1 v2 h2 g2 e1 e2
  simp only [xR, Option.some.injEq, Prod.mk.injEq] at e1
  obtain ⟨rfl, rfl, rfl⟩ := e1
  obtain ⟨hb, hg⟩ := h (some ⟨es, false⟩)
  rw [hb] at e2
  simp only [Option.map_eq_some_iff, Prod.mk.injEq] at e2
  obtain ⟨r, hr, rfl, rfl, rfl⟩ := e2
  refine ⟨r.2.1, r.2.2, hr, ?_⟩
  simp only [xR, hg r hr]
theorem comm_x_right {d : Nat} {es : List AV} {v : Nat → AV} {R : Act1} {hp : Hp} {gn : Gn} (h : Beside d R hp gn) : Comm R (xR d es v) hp gn := by
  intro v1 h1 g1 v2 h2 g2 e1 e2
  obtain ⟨hb, hg⟩ := h (some ⟨es, false⟩)
  have := hg _ e1
  simp only at this
  simp only [xR, Option.some.injEq, Prod.mk.injEq, this] at e2
  obtain ⟨rfl, rfl, rfl⟩ := e2
  refine ⟨_, _, rfl, ?_⟩
  rw [hb, e1]
  rfl
theorem comm_p_left {v : AV} {R : Act1} {hp : Hp} {gn : Gn} : Comm (pR v) R hp gn := by
  intro v1 h1 g1 v2 h2 g2 e1 e2
  simp only [pR, Option.some.injEq, Prod.mk.injEq] at e1
  obtain ⟨rfl, rfl, rfl⟩ := e1
  exact ⟨h2, g2, e2, rfl⟩
theorem comm_p_right {v : AV} {R : Act1} {hp : Hp} {gn : Gn} : Comm R (pR v) hp gn := by
  intro v1 h1 g1 v2 h2 g2 e1 e2
  simp only [pR, Option.some.injEq, Prod.mk.injEq] at e2
  obtain ⟨rfl, rfl, rfl⟩ := e2
  exact ⟨hp, gn, rfl, e1⟩
theorem comm_l_left {P : Program} {t : TypeId} {x : AV} {R : Act1} {hp : Hp} {gn : Gn} (h : ∀ r, R hp gn = some r → loadV P r.2.1 t x = loadV P hp t x) : Comm (lR P t x) R hp gn := by
  intro v1 h1 g1 v2 h2 g2 e1 e2
  simp only [lR, Option.map_eq_some_iff, Prod.mk.injEq] at e1
  obtain ⟨q, hq, rfl, rfl, rfl⟩ := e1
  refine ⟨h2, g2, e2, ?_⟩
  have := h _ e2
  simp only at this
  simp only [lR, this, hq, Option.map_some]
theorem comm_l_right {P : Program} {t : TypeId} {x : AV} {R : Act1} {hp : Hp} {gn : Gn} (h : ∀ r, R hp gn = some r → loadV P r.2.1 t x = loadV P hp t x) : Comm R (lR P t x) hp gn := by
  intro v1 h1 g1 v2 h2 g2 e1 e2
  have := h _ e1
  simp only at this
  simp only [lR, this, Option.map_eq_some_iff, Prod.mk.injEq] at e2
  obtain ⟨q, hq, rfl, rfl, rfl⟩ := e2
  exact ⟨hp, gn, by simp only [lR, hq, Option.map_some], e1⟩
theorem conts_frz {hp : Hp} (l : List (Nat × Nat)) (x : AV) : conts (frzH l hp) x = conts hp x := by
  cases x <;> try rfl
  rename_i e s g lo len
  simp only [conts, frzH]
  cases hp s g with
  | none => rfl
  | some B =>
    simp only [Option.map_some, Option.bind_some]
    by_cases h : l.contains (s, g) = true
    · rw [if_pos h]
    · rw [if_neg h]
theorem snap_frz {hp : Hp} (l : List (Nat × Nat)) : ∀ (n : Nat), snap (frzH l hp) n = snap hp n
  | 0 => by funext x; rfl
  | n + 1 => by
    funext x
    unfold snap
    split
    · rfl
    · split
      · rw [snap_frz l n]
      · rw [conts_frz, snap_frz l n]
      · rfl
theorem refs_frz {hp : Hp} (l : List (Nat × Nat)) : ∀ (n : Nat), refs (frzH l hp) n = refs hp n
  | 0 => by funext x; rfl
  | n + 1 => by
    funext x
    unfold refs
    split
    · rfl
    · split
      · rw [refs_frz l n]
      · rw [conts_frz, refs_frz l n]
      · rfl
def FrzOk (F : Hp → Option (AV × List (Nat × Nat))) : Prop := ∀ l hp, F (frzH l hp) = F hp
theorem fnF_frz {C : Cfg} {rc : Rec} {f : FuncId} {args : List AV} : FrzOk (fnF C rc f args) := fun l hp => by
  unfold fnF
  rw [snap_frz, refs_frz]
theorem bsF_frz {x : AV} : FrzOk (bsF x) := fun l hp => by
  unfold bsF
  rw [conts_frz]
theorem arrF_frz {P : Program} {n e : Nat} {lo hi : Option AV} {x : AV} : FrzOk (arrF P n e lo hi x) := fun l hp => by
  unfold arrF
  cases x <;> try rfl
  rename_i s g i off
  simp only [frzH]
  cases hp s g with
  | none => rfl
  | some B =>
    simp only [Option.map_some, Option.bind_some]
    by_cases h : l.contains (s, g) = true
    · rw [if_pos h]
    · rw [if_neg h]
theorem frz_frz {hp : Hp} (a b : List (Nat × Nat)) : frzH a (frzH b hp) = frzH b (frzH a hp) := by
  funext x y
  simp only [frzH]
  cases hp x y with
  | none => rfl
  | some B =>
    simp only [Option.map_some]
    generalize a.contains (x, y) = p
    generalize b.contains (x, y) = q
    cases p <;> cases q <;> rfl
theorem comm_c {F G : Hp → Option (AV × List (Nat × Nat))} (hF : FrzOk F) (hG : FrzOk G) {hp : Hp} {gn : Gn} : Comm (cR F) (cR G) hp gn := by
  intro v1 h1 g1 v2 h2 g2 e1 e2
  simp only [cR, Option.map_eq_some_iff, Prod.mk.injEq] at e1 e2
  obtain ⟨q, hq, rfl, rfl, rfl⟩ := e1
  obtain ⟨r, hr, rfl, rfl, rfl⟩ := e2
  rw [hG] at hr
  refine ⟨frzH r.2 hp, gn, by simp only [cR, hr, Option.map_some], ?_⟩
  show (F (frzH r.2 hp)).map _ = _
  rw [hF, hq, Option.map_some, frz_frz]
theorem c_keeps {P : Program} {F : Hp → Option (AV × List (Nat × Nat))} {hp : Hp} {gn : Gn} (t : TypeId) (x : AV) : ∀ r, cR F hp gn = some r → loadV P r.2.1 t x = loadV P hp t x := by
  intro r hr
  simp only [cR, Option.map_eq_some_iff] at hr
  obtain ⟨q, _, rfl⟩ := hr
  exact loadV_frz _ _ _
theorem l_keeps {P : Program} {t' : TypeId} {y : AV} {hp : Hp} {gn : Gn} (t : TypeId) (x : AV) : ∀ r, lR P t' y hp gn = some r → loadV P r.2.1 t x = loadV P hp t x := by
  intro r hr
  simp only [lR, Option.map_eq_some_iff] at hr
  obtain ⟨q, _, rfl⟩ := hr
  rfl
theorem n_keeps {P : Program} {w0 : Base} {w : World} {ro : RO} {σ : Map} {hp : Hp} {gn : Gn} (hh : HRep w0 w ro σ hp gn) {a : AV} {va : Value} (ha : RV ro σ a va) {z by_ d : Nat} {x : AV} (t : TypeId) : ∀ r, nR z by_ d x hp gn = some r → loadV P r.2.1 t a = loadV P hp t a := by
  intro r hr
  simp only [nR, Option.bind_eq_some_iff] at hr
  obtain ⟨xs, _, hr⟩ := hr
  split at hr
  · simp only [Option.some.injEq] at hr
    subst hr
    exact loadV_on (addH_on hh d _) ha t
  · cases hr
def DynAt (C : Cfg) (st : St) (p q : Oper) : Prop :=
  (∀ t a y t' a', p.op = .store t a y → q.op = .load t' a' → apartRW C.P (st.ev a) t (st.ev a') t' = true) ∧
  (∀ c s x t' a', p.op = .call c → c.callee = .builtin .append → c.args.toList = [s, x] → q.op = .load t' a' → apartRK (st.ev s) (st.ev a') = true)
def OneOk (P : Program) (o : Oper) : Prop := ∀ t a, o.op = .load t a → tagg P t = some false → tsz P t = some 1
theorem kinds_comm {C : Cfg} {rc : Rec} {oj oi : Oper} (h1j : OneOk C.P oj) (h1i : OneOk C.P oi) {st : St} {Rj Ri : Act1} (kj : Kind C rc oj st Rj) (ki : Kind C rc oi st Ri) {w0 : Base} {w : World} {ro : RO} {σ : Map} {n : Nat} {a : Act} (hh : HRep w0 w ro σ st.hp st.gn) (hs : SRep w0 ro σ n st.sl a)
    (hd : ∀ d, oj.dst = some d → oi.dst ≠ some d) (hk : okK (kls C oj.op) (kls C oi.op) = 1 ∨ (okK (kls C oj.op) (kls C oi.op) = 2 ∧ DynAt C st oj oi ∧ DynAt C st oi oj)) : Comm Rj Ri st.hp st.gn := by
  have hev : ∀ x, RV ro σ (st.ev x) (a.eval x) := fun x => ev_rep hs x
  have l6 : kls C oj.op ≠ 0 → kls C oi.op ≠ 6 := fun h e => by
    rw [e] at hk
    have : okK (kls C oj.op) 6 = 0 := by revert h; generalize kls C oj.op = x; intro h; unfold okK; split <;> simp_all
    rw [this] at hk; simp at hk
  have r6 : kls C oi.op ≠ 0 → kls C oj.op ≠ 6 := fun h e => by
    rw [e] at hk
    have : okK 6 (kls C oi.op) = 0 := by revert h; generalize kls C oi.op = x; intro h; unfold okK; split <;> simp_all
    rw [this] at hk; simp at hk
  cases kj with
  | p v => exact comm_p_left
  | x es v hkj hdj => exact comm_x_left (kind_beside ki hh hs (hd _ hdj) (l6 (by rw [hkj]; decide)))
  | @l tj xj hoj =>
    have kj := show kls C oj.op = 1 by rw [hoj]; rfl
    cases ki with
    | p v => exact comm_p_right
    | x es v hki hdi => exact comm_x_right (kind_beside (Kind.l (C := C) (rc := rc) hoj) hh hs (fun e => hd _ e hdi) (by rw [kj]; decide))
    | @l ti xi hoi =>
      have ki := show kls C oi.op = 1 by rw [hoi]; rfl
      rw [kj, ki] at hk
      exact comm_l_left (l_keeps _ _)
    | @f fi asi hki =>
      have ki := hki
      rw [kj, ki] at hk
      exact comm_l_left (c_keeps _ _)
    | @b xi hki =>
      have ki := hki
      rw [kj, ki] at hk
      exact comm_l_left (c_keeps _ _)
    | @v xi ni ei loi hii hki =>
      have ki := hki
      rw [kj, ki] at hk
      exact comm_l_left (c_keeps _ _)
    | @s ti xi yi hoi =>
      have ki := show kls C oi.op = 4 by rw [hoi]; rfl
      rw [kj, ki] at hk
      rcases hk with hk | ⟨_, _, hk⟩
      · simp [okK] at hk
      · exact comm_l_left (fun r hr => loadV_store hh (hev _) (hev _) (hev _) hr (hk.1 _ _ _ _ _ hoi hoj) (h1j tj _ hoj))
    | @a di ui vi si xi ci hoi hci hai hdi =>
      have ki := show kls C oi.op = 5 by rw [hoi]; simp [kls, hci]
      rw [kj, ki] at hk
      rcases hk with hk | ⟨_, _, hk⟩
      · simp [okK] at hk
      · exact comm_l_left (fun r hr => loadV_append hh (hev _) hr (hk.2 _ _ _ _ _ hoi hci hai hoj) tj)
    | @n di xi zi byi hki hdi =>
      have ki := hki
      rw [kj, ki] at hk
      exact comm_l_left (n_keeps hh (hev _) _)
    | o Ri hki =>
      have ki := hki
      rw [kj, ki] at hk
      simp [okK] at hk
  | @f fj asj hkj =>
    have kj := hkj
    cases ki with
    | p v => exact comm_p_right
    | x es v hki hdi => exact comm_x_right (kind_beside (Kind.f (C := C) (rc := rc) hkj) hh hs (fun e => hd _ e hdi) (by rw [kj]; decide))
    | @l ti xi hoi =>
      have ki := show kls C oi.op = 1 by rw [hoi]; rfl
      rw [kj, ki] at hk
      exact comm_l_right (c_keeps _ _)
    | @f fi asi hki =>
      have ki := hki
      rw [kj, ki] at hk
      exact comm_c fnF_frz fnF_frz
    | @b xi hki =>
      have ki := hki
      rw [kj, ki] at hk
      exact comm_c fnF_frz bsF_frz
    | @v xi ni ei loi hii hki =>
      have ki := hki
      rw [kj, ki] at hk
      exact comm_c fnF_frz arrF_frz
    | @s ti xi yi hoi =>
      have ki := show kls C oi.op = 4 by rw [hoi]; rfl
      rw [kj, ki] at hk
      simp [okK] at hk
    | @a di ui vi si xi ci hoi hci hai hdi =>
      have ki := show kls C oi.op = 5 by rw [hoi]; simp [kls, hci]
      rw [kj, ki] at hk
      simp [okK] at hk
    | @n di xi zi byi hki hdi =>
      have ki := hki
      rw [kj, ki] at hk
      simp [okK] at hk
    | o Ri hki =>
      have ki := hki
      rw [kj, ki] at hk
      simp [okK] at hk
  | @b xj hkj =>
    have kj := hkj
    cases ki with
    | p v => exact comm_p_right
    | x es v hki hdi => exact comm_x_right (kind_beside (Kind.b (C := C) (rc := rc) hkj) hh hs (fun e => hd _ e hdi) (by rw [kj]; decide))
    | @l ti xi hoi =>
      have ki := show kls C oi.op = 1 by rw [hoi]; rfl
      rw [kj, ki] at hk
      exact comm_l_right (c_keeps _ _)
    | @f fi asi hki =>
      have ki := hki
      rw [kj, ki] at hk
      exact comm_c bsF_frz fnF_frz
    | @b xi hki =>
      have ki := hki
      rw [kj, ki] at hk
      exact comm_c bsF_frz bsF_frz
    | @v xi ni ei loi hii hki =>
      have ki := hki
      rw [kj, ki] at hk
      exact comm_c bsF_frz arrF_frz
    | @s ti xi yi hoi =>
      have ki := show kls C oi.op = 4 by rw [hoi]; rfl
      rw [kj, ki] at hk
      simp [okK] at hk
    | @a di ui vi si xi ci hoi hci hai hdi =>
      have ki := show kls C oi.op = 5 by rw [hoi]; simp [kls, hci]
      rw [kj, ki] at hk
      simp [okK] at hk
    | @n di xi zi byi hki hdi =>
      have ki := hki
      rw [kj, ki] at hk
      simp [okK] at hk
    | o Ri hki =>
      have ki := hki
      rw [kj, ki] at hk
      simp [okK] at hk
  | @v xj nj ej loj hij hkj =>
    have kj := hkj
    cases ki with
    | p v => exact comm_p_right
    | x es v hki hdi => exact comm_x_right (kind_beside (Kind.v (C := C) (rc := rc) hkj) hh hs (fun e => hd _ e hdi) (by rw [kj]; decide))
    | @l ti xi hoi =>
      have ki := show kls C oi.op = 1 by rw [hoi]; rfl
      rw [kj, ki] at hk
      exact comm_l_right (c_keeps _ _)
    | @f fi asi hki =>
      have ki := hki
      rw [kj, ki] at hk
      exact comm_c arrF_frz fnF_frz
    | @b xi hki =>
      have ki := hki
      rw [kj, ki] at hk
      exact comm_c arrF_frz bsF_frz
    | @v xi ni ei loi hii hki =>
      have ki := hki
      rw [kj, ki] at hk
      exact comm_c arrF_frz arrF_frz
    | @s ti xi yi hoi =>
      have ki := show kls C oi.op = 4 by rw [hoi]; rfl
      rw [kj, ki] at hk
      simp [okK] at hk
    | @a di ui vi si xi ci hoi hci hai hdi =>
      have ki := show kls C oi.op = 5 by rw [hoi]; simp [kls, hci]
      rw [kj, ki] at hk
      simp [okK] at hk
    | @n di xi zi byi hki hdi =>
      have ki := hki
      rw [kj, ki] at hk
      simp [okK] at hk
    | o Ri hki =>
      have ki := hki
      rw [kj, ki] at hk
      simp [okK] at hk
  | @s tj xj yj hoj =>
    have kj := show kls C oj.op = 4 by rw [hoj]; rfl
    cases ki with
    | p v => exact comm_p_right
    | x es v hki hdi => exact comm_x_right (kind_beside (Kind.s (C := C) (rc := rc) hoj) hh hs (fun e => hd _ e hdi) (by rw [kj]; decide))
    | @l ti xi hoi =>
      have ki := show kls C oi.op = 1 by rw [hoi]; rfl
      rw [kj, ki] at hk
      rcases hk with hk | ⟨_, hk, _⟩
      · simp [okK] at hk
      · exact comm_l_right (fun r hr => loadV_store hh (hev _) (hev _) (hev _) hr (hk.1 _ _ _ _ _ hoj hoi) (h1i ti _ hoi))
    | @f fi asi hki =>
      have ki := hki
      rw [kj, ki] at hk
      simp [okK] at hk
    | @b xi hki =>
      have ki := hki
      rw [kj, ki] at hk
      simp [okK] at hk
    | @v xi ni ei loi hii hki =>
      have ki := hki
      rw [kj, ki] at hk
      simp [okK] at hk
    | @s ti xi yi hoi =>
      have ki := show kls C oi.op = 4 by rw [hoi]; rfl
      rw [kj, ki] at hk
      simp [okK] at hk
    | @a di ui vi si xi ci hoi hci hai hdi =>
      have ki := show kls C oi.op = 5 by rw [hoi]; simp [kls, hci]
      rw [kj, ki] at hk
      simp [okK] at hk
    | @n di xi zi byi hki hdi =>
      have ki := hki
      rw [kj, ki] at hk
      simp [okK] at hk
    | o Ri hki =>
      have ki := hki
      rw [kj, ki] at hk
      simp [okK] at hk
  | @a dj uj vj sj xj cj hoj hcj haj hdj =>
    have kj := show kls C oj.op = 5 by rw [hoj]; simp [kls, hcj]
    cases ki with
    | p v => exact comm_p_right
    | x es v hki hdi => exact comm_x_right (kind_beside (Kind.a (C := C) (rc := rc) hoj hcj haj hdj) hh hs (fun e => hd _ e hdi) (by rw [kj]; decide))
    | @l ti xi hoi =>
      have ki := show kls C oi.op = 1 by rw [hoi]; rfl
      rw [kj, ki] at hk
      rcases hk with hk | ⟨_, hk, _⟩
      · simp [okK] at hk
      · exact comm_l_right (fun r hr => loadV_append hh (hev _) hr (hk.2 _ _ _ _ _ hoj hcj haj hoi) ti)
    | @f fi asi hki =>
      have ki := hki
      rw [kj, ki] at hk
      simp [okK] at hk
    | @b xi hki =>
      have ki := hki
      rw [kj, ki] at hk
      simp [okK] at hk
    | @v xi ni ei loi hii hki =>
      have ki := hki
      rw [kj, ki] at hk
      simp [okK] at hk
    | @s ti xi yi hoi =>
      have ki := show kls C oi.op = 4 by rw [hoi]; rfl
      rw [kj, ki] at hk
      simp [okK] at hk
    | @a di ui vi si xi ci hoi hci hai hdi =>
      have ki := show kls C oi.op = 5 by rw [hoi]; simp [kls, hci]
      rw [kj, ki] at hk
      simp [okK] at hk
    | @n di xi zi byi hki hdi =>
      have ki := hki
      rw [kj, ki] at hk
      simp [okK] at hk
    | o Ri hki =>
      have ki := hki
      rw [kj, ki] at hk
      simp [okK] at hk
  | @n dj xj zj byj hkj hdj =>
    have kj := hkj
    cases ki with
    | p v => exact comm_p_right
    | x es v hki hdi => exact comm_x_right (kind_beside (Kind.n (C := C) (rc := rc) zj byj hkj hdj) hh hs (fun e => hd _ e hdi) (by rw [kj]; decide))
    | @l ti xi hoi =>
      have ki := show kls C oi.op = 1 by rw [hoi]; rfl
      rw [kj, ki] at hk
      exact comm_l_right (n_keeps hh (hev _) _)
    | @f fi asi hki =>
      have ki := hki
      rw [kj, ki] at hk
      simp [okK] at hk
    | @b xi hki =>
      have ki := hki
      rw [kj, ki] at hk
      simp [okK] at hk
    | @v xi ni ei loi hii hki =>
      have ki := hki
      rw [kj, ki] at hk
      simp [okK] at hk
    | @s ti xi yi hoi =>
      have ki := show kls C oi.op = 4 by rw [hoi]; rfl
      rw [kj, ki] at hk
      simp [okK] at hk
    | @a di ui vi si xi ci hoi hci hai hdi =>
      have ki := show kls C oi.op = 5 by rw [hoi]; simp [kls, hci]
      rw [kj, ki] at hk
      simp [okK] at hk
    | @n di xi zi byi hki hdi =>
      have ki := hki
      rw [kj, ki] at hk
      simp [okK] at hk
    | o Ri hki =>
      have ki := hki
      rw [kj, ki] at hk
      simp [okK] at hk
  | o Rj hkj =>
    have kj := hkj
    cases ki with
    | p v => exact comm_p_right
    | x es v hki hdi => exact absurd kj (r6 (by rw [hki]; decide))
    | @l ti xi hoi =>
      have ki := show kls C oi.op = 1 by rw [hoi]; rfl
      rw [kj, ki] at hk
      simp [okK] at hk
    | @f fi asi hki =>
      have ki := hki
      rw [kj, ki] at hk
      simp [okK] at hk
    | @b xi hki =>
      have ki := hki
      rw [kj, ki] at hk
      simp [okK] at hk
    | @v xi ni ei loi hii hki =>
      have ki := hki
      rw [kj, ki] at hk
      simp [okK] at hk
    | @s ti xi yi hoi =>
      have ki := show kls C oi.op = 4 by rw [hoi]; rfl
      rw [kj, ki] at hk
      simp [okK] at hk
    | @a di ui vi si xi ci hoi hci hai hdi =>
      have ki := show kls C oi.op = 5 by rw [hoi]; simp [kls, hci]
      rw [kj, ki] at hk
      simp [okK] at hk
    | @n di xi zi byi hki hdi =>
      have ki := hki
      rw [kj, ki] at hk
      simp [okK] at hk
    | o Ri hki =>
      have ki := hki
      rw [kj, ki] at hk
      simp [okK] at hk
theorem put2 {st : St} {dj di : Option Nat} {v1 v2 : AV} {h1 h2 h3 : Hp} {g1 g2 g3 : Gn} (hd : ∀ d, dj = some d → di ≠ some d) :
    (((st.mem h1 g1).putO dj v1).mem h2 g2).putO di v2 = (((st.mem h3 g3).putO di v2).mem h2 g2).putO dj v1 := by
  cases dj with
  | none => cases di <;> rfl
  | some a =>
    cases di with
    | none => rfl
    | some b =>
      have hne : a ≠ b := fun e => hd a rfl (by rw [e])
      simp only [St.putO, St.put, St.mem]
      congr 1
      funext x
      by_cases h1 : x = a
      · subst h1; rw [if_neg hne, if_pos rfl, if_pos rfl]
      · by_cases h2 : x = b
        · rw [if_pos h2, if_neg h1, if_pos h2]
        · rw [if_neg h2, if_neg h1, if_neg h1, if_neg h2]
theorem swap {C : Cfg} {rc : Rec} {ops : Array Oper} {oj oi : Oper} (h1j : OneOk C.P oj) (h1i : OneOk C.P oi) (hap : oj.apart ops oi = true) {st s1 s2 : St} (ej : stepG C rc ops oj st = some s1) (ei : stepG C rc ops oi s1 = some s2)
    {w0 : Base} {w : World} {ro : RO} {σ : Map} {n : Nat} {a : Act} (hh : HRep w0 w ro σ st.hp st.gn) (hs : SRep w0 ro σ n st.sl a)
    (hk : okK (kls C oj.op) (kls C oi.op) = 1 ∨ (okK (kls C oj.op) (kls C oi.op) = 2 ∧ DynAt C st oj oi ∧ DynAt C st oi oj)) :
    ∃ s1', stepG C rc ops oi st = some s1' ∧ stepG C rc ops oj s1' = some s2 := by
  obtain ⟨a1, a2, a3⟩ := Oper.apart_spec hap
  have ag1 : Agree ops oi st s1 := fun t ht => stepG_sl ej (fun e => a1 t e ht)
  have main : ∀ Rj Ri, Loc1 C rc ops oj st Rj → Loc1 C rc ops oi st Ri → Comm Rj Ri st.hp st.gn → ∃ s1', stepG C rc ops oi st = some s1' ∧ stepG C rc ops oj s1' = some s2 := by
    intro Rj Ri lj li hc
    have e1 := lj st (Agree.refl ops oj st)
    rw [ej] at e1
    have e1 := e1.symm
    simp only [Option.map_eq_some_iff] at e1
    obtain ⟨⟨v1, h1, g1⟩, r1, rfl⟩ := e1
    have e2 := li _ ag1
    rw [ei] at e2
    have e2 := e2.symm
    simp only [Option.map_eq_some_iff, putO_hp, putO_gn] at e2
    obtain ⟨⟨v2, h2, g2⟩, r2, rfl⟩ := e2
    obtain ⟨h1', g1', r3, r4⟩ := hc _ _ _ _ _ _ r1 r2
    have e3 := li st (Agree.refl ops oi st)
    rw [r3] at e3
    refine ⟨_, e3, ?_⟩
    have ag2 : Agree ops oj st ((st.mem h1' g1').putO oi.dst v2) := fun t ht => putO_sl (fun e => a3 t e ht)
    have e4 := lj _ ag2
    simp only [Option.map_some, putO_hp, putO_gn] at e4 ⊢
    rw [e4]
    have : Rj (st.mem h1' g1').hp (st.mem h1' g1').gn = some (v1, h2, g2) := r4
    rw [this]
    simp only [Option.map_some, Option.some.injEq]
    exact (put2 a2).symm
  obtain ⟨Rj, kj, lj⟩ := stepG_kind (st := st) ej (Agree.refl ops oj st)
  obtain ⟨Ri, ki, li⟩ := stepG_kind (st := st) ei ag1
  exact main Rj Ri lj li (kinds_comm h1j h1i kj ki hh hs a2 hk)
end Vai
