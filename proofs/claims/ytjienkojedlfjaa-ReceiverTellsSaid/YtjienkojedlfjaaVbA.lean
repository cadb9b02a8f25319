import Derived.Test.YtjienkojedlfjaaVb7
namespace Vai
open Go Go.RowKit
set_option linter.unusedVariables false
set_option linter.unusedSimpArgs false
abbrev Gn := Nat → Nat
abbrev Act1 := Hp → Gn → Option (AV × Hp × Gn)
def Agree (ops : Array Oper) (o : Oper) (st st2 : St) : Prop := ∀ t, t ∈ o.looksAt ops → st2.sl t = st.sl t
theorem Agree.refl (ops : Array Oper) (o : Oper) (st : St) : Agree ops o st st := fun _ _ => rfl
theorem Agree.symm {ops : Array Oper} {o : Oper} {st st2 : St} (h : Agree ops o st st2) : Agree ops o st2 st := fun t ht => (h t ht).symm
theorem Agree.trans {ops : Array Oper} {o : Oper} {st st2 st3 : St} (h : Agree ops o st st2) (k : Agree ops o st2 st3) : Agree ops o st st3 := fun t ht => (k t ht).trans (h t ht)
theorem Agree.ev {ops : Array Oper} {o : Oper} {st st2 : St} (h : Agree ops o st st2) {x : Operand} (hx : x ∈ o.op.operands) : st2.ev x = st.ev x := by
  cases x with
  | tmp t => exact h t (List.mem_append_left _ (List.mem_filterMap.2 ⟨.tmp t, by simpa using hx, rfl⟩))
  | const v => rfl
  | global g => rfl
  | func f => rfl
def Loc1 (C : Cfg) (rc : Rec) (ops : Array Oper) (o : Oper) (st : St) (R : Act1) : Prop :=
  ∀ st2, Agree ops o st st2 → stepG C rc ops o st2 = (R st2.hp st2.gn).map fun r => (st2.mem r.2.1 r.2.2).putO o.dst r.1
theorem pureV_congr {P : Program} {ρ ρ' : Operand → AV} {op : Op} (h : ∀ x ∈ op.operands, ρ x = ρ' x) : pureV P ρ op = pureV P ρ' op := by
  have fold : ∀ (f : AV → AV → Option AV) (l : List Operand) (a : AV), (∀ x ∈ l, ρ x = ρ' x) → l.foldlM (fun a b => f a (ρ b)) a = l.foldlM (fun a b => f a (ρ' b)) a := by
    intro f l
    induction l with
    | nil => intro a _; rfl
    | cons x l ih =>
      intro a hx
      simp only [List.foldlM_cons]
      rw [hx x (by simp)]
      congr 1
      funext b
      exact ih b (fun y hy => hx y (by simp [hy]))
  cases op <;> simp only [Op.operands] at h <;> simp only [pureV]
  case build t ps =>
    have : (ps.toList.map fun p => (p.1, ρ p.2)) = (ps.toList.map fun p => (p.1, ρ' p.2)) := List.map_congr_left fun p hp => by rw [h p.2 (by simpa using ⟨p.1, by simpa using hp⟩)]
    rw [this]
  case makeFunc fn first caps =>
    cases fn <;> try rfl
    have : caps.toList.map ρ = caps.toList.map ρ' := List.map_congr_left fun x hx => h x (by simp [show x ∈ caps by simpa using hx])
    have this2 : first.toList.map ρ = first.toList.map ρ' := List.map_congr_left fun x hx => h x (by simp [show x ∈ first by simpa using hx])
    simp only [this, this2]
  case slice t x lo hi mx =>
    cases lo <;> cases hi <;> cases mx <;> simp_all
  case call c =>
    have ha : ∀ x ∈ c.args.toList, ρ x = ρ' x := fun x hx => h x (by simp [Call.operands, show x ∈ c.args by simpa using hx])
    split
    · split
      · rename_i x t hx ht; rw [ha x (by rw [hx]; simp)]
      · rfl
    · split
      · rename_i x t hx ht; rw [ha x (by rw [hx]; simp)]
      · rfl
    · split
      · rename_i x rest hx
        rw [ha x (by rw [hx]; simp)]
        exact fold minV rest _ (fun y hy => ha y (by rw [hx]; simp [hy]))
      · rfl
    · split
      · rename_i x rest hx
        rw [ha x (by rw [hx]; simp)]
        exact fold maxV rest _ (fun y hy => ha y (by rw [hx]; simp [hy]))
      · rfl
    · rfl
  all_goals (first | rfl | (simp_all; done))
def addH (d g : Nat) (b : Option Blk) (hp : Hp) : Hp := fun x y => if x = d ∧ y = g then b else hp x y
def addG (d g : Nat) (gn : Gn) : Gn := fun x => if x = d then g + 1 else gn x
def frzH (l : List (Nat × Nat)) (hp : Hp) : Hp := fun x y => (hp x y).map fun b => if l.contains (x, y) then { b with fr := true } else b
def bare (hp : Hp) (gn : Gn) : St := ⟨fun _ => .undef, hp, gn⟩
def pR (v : AV) : Act1 := fun hp gn => some (v, hp, gn)
def lR (P : Program) (t : TypeId) (x : AV) : Act1 := fun hp gn => (loadV P hp t x).map fun v => (v, hp, gn)
def xR (d : Nat) (es : List AV) (v : Nat → AV) : Act1 := fun hp gn => some (v (gn d), addH d (gn d) (some ⟨es, false⟩) hp, addG d (gn d) gn)
def cR (F : Hp → Option (AV × List (Nat × Nat))) : Act1 := fun hp gn => (F hp).map fun r => (r.1, frzH r.2 hp, gn)
def sR (P : Program) (t : TypeId) (x y : AV) : Act1 := fun hp gn => (storeStep P t x y (bare hp gn)).map fun s => (.undef, s.hp, s.gn)
def aR (P : Program) (d t1 t2 : Nat) (s x : AV) : Act1 := fun hp gn => (appendStep P d t1 t2 s x (bare hp gn)).map fun r => (r.sl d, r.hp, r.gn)
def nR (z by_ d : Nat) (x : AV) : Act1 := fun hp gn => (conts hp x).bind fun xs => if 0 < z ∧ xs.all (fun x => x.ok && x.cells.length = z) ∧ xs.length * by_ ≤ 140737488355328 ∧ xs.length ≤ 140737488355328 then
  some (.sl z d (gn d) 0 xs.length, addH d (gn d) (some ⟨xs, false⟩) hp, addG d (gn d) gn) else none
def fnF (C : Cfg) (rc : Rec) (f : FuncId) (args : List AV) : Hp → Option (AV × List (Nat × Nat)) := fun hp =>
  (args.mapM (snap hp DEEP)).bind fun as => (fnV C rc f as).map fun v => (v, v.led (args.flatMap (refs hp DEEP)))
def bsF (x : AV) : Hp → Option (AV × List (Nat × Nat)) := fun hp => (conts hp x).bind fun xs => (xs.mapM byteV).map fun bs => (.str ⟨bs.toArray⟩, [])
inductive Kind (C : Cfg) (rc : Rec) (o : Oper) (st : St) : Act1 → Prop
  | p (v : AV) : Kind C rc o st (pR v)
  | l {t : TypeId} {a : Operand} (ho : o.op = .load t a) : Kind C rc o st (lR C.P t (st.ev a))
  | x {d : Nat} (es : List AV) (v : Nat → AV) (hk : kls C o.op = 2) (hd : o.dst = some d) : Kind C rc o st (xR d es v)
  | f {f : FuncId} {args : List Operand} (hk : kls C o.op = 3) : Kind C rc o st (cR (fnF C rc f (args.map st.ev)))
  | b {x : Operand} (hk : kls C o.op = 3) : Kind C rc o st (cR (bsF (st.ev x)))
  | v {x : Operand} {n e : Nat} {lo hi : Option AV} (hk : kls C o.op = 3) : Kind C rc o st (cR (arrF C.P n e lo hi (st.ev x)))
  | s {t : TypeId} {a y : Operand} (ho : o.op = .store t a y) : Kind C rc o st (sR C.P t (st.ev a) (st.ev y))
  | a {d t1 t2 : Nat} {s x : Operand} {c : Call} (ho : o.op = .call c) (hc : c.callee = .builtin .append) (ha : c.args.toList = [s, x]) (hd : o.dst = some d) : Kind C rc o st (aR C.P d t1 t2 (st.ev s) (st.ev x))
  | n {d : Nat} {x : Operand} (z by_ : Nat) (hk : kls C o.op = 7) (hd : o.dst = some d) : Kind C rc o st (nR z by_ d (st.ev x))
  | o (R : Act1) (hk : kls C o.op = 6) : Kind C rc o st R
def valAt (s : St) : Option Nat → AV
  | some d => s.sl d
  | none => .undef
theorem putO_self {s st : St} {d : Option Nat} {v : AV} : (st.mem (s.putO d v).hp (s.putO d v).gn).putO d (valAt (s.putO d v) d) = (st.mem s.hp s.gn).putO d v := by
  cases d with
  | none => rfl
  | some d => simp only [St.putO, valAt, St.put, if_true]
theorem cloneStep_eq {z by_ d : Nat} {x : AV} (st : St) : cloneStep z by_ (some d) [x] st = (nR z by_ d x st.hp st.gn).map fun r => (st.mem r.2.1 r.2.2).putO (some d) r.1 := by
  unfold cloneStep nR
  simp only
  cases conts st.hp x with
  | none => rfl
  | some xs =>
    simp only [Option.bind_some]
    split <;> rfl
theorem cloneStep_mem {z by_ : Nat} {dst : Option Nat} {args : List AV} (st : St) :
    cloneStep z by_ dst args st = (cloneStep z by_ dst args (bare st.hp st.gn)).map fun s => (st.mem s.hp s.gn).putO dst (valAt s dst) := by
  cases dst with
  | none => unfold cloneStep; rfl
  | some d =>
    match args with
    | [] => rfl
    | _ :: _ :: _ => rfl
    | [x] =>
      rw [cloneStep_eq st, cloneStep_eq (bare st.hp st.gn)]
      show Option.map _ (nR z by_ d x st.hp st.gn) = Option.map _ (Option.map _ (nR z by_ d x st.hp st.gn))
      cases nR z by_ d x st.hp st.gn with
      | none => rfl
      | some r => simp only [Option.map_some, putO_self] <;> rfl
theorem callStep_mem {C : Cfg} {rc : Rec} {dst : Option Nat} {f : FuncId} {args : List AV} (st : St) :
    callStep C rc dst f args st = (callStep C rc dst f args (bare st.hp st.gn)).map fun s => (st.mem s.hp s.gn).putO dst (valAt s dst) := by
  unfold callStep
  split
  · exact cloneStep_mem st
  split
  · show Option.map _ (callF C rc f args st.hp st.gn) = Option.map _ (Option.map _ (callF C rc f args st.hp st.gn))
    cases callF C rc f args st.hp st.gn with
    | none => rfl
    | some r => simp only [Option.map_some, putO_self] <;> rfl
  · split
    · show Option.bind (args.mapM (snap st.hp DEEP)) _ = Option.map _ (Option.bind (args.mapM (snap st.hp DEEP)) _)
      cases args.mapM (snap st.hp DEEP) with
      | none => rfl
      | some as =>
        simp only [Option.bind_some]
        cases fnV C rc f as with
        | none => rfl
        | some v => simp only [Option.map_some, putO_self] <;> rfl
    · rfl
theorem copyStep_mem {P : Program} {dst : Option Nat} {t : TypeId} {s x : AV} (st : St) :
    copyStep P dst t s x st = (copyStep P dst t s x (bare st.hp st.gn)).map fun q => (st.mem q.hp q.gn).putO dst (valAt q dst) := by
  unfold copyStep
  cases s <;> try rfl
  rename_i z a g lo len
  simp only
  split
  · show Option.bind (conts st.hp x) _ = Option.map _ (Option.bind (conts st.hp x) _)
    cases conts st.hp x with
    | none => rfl
    | some xs =>
      simp only [Option.bind_some]
      show Option.bind (st.hp a g) _ = Option.map _ (Option.bind (st.hp a g) _)
      cases st.hp a g with
      | none => rfl
      | some B =>
        simp only [Option.bind_some]
        split
        · rfl
        · simp only [Option.map_some, putO_self] <;> rfl
  · rfl
theorem frzH_nil (hp : Hp) : frzH [] hp = hp := by
  funext x y
  simp only [frzH, List.contains_nil, Bool.false_eq_true, if_false]
  cases hp x y <;> rfl
theorem storeStep_mem {P : Program} {t : TypeId} {x y : AV} (st : St) : storeStep P t x y st = (storeStep P t x y (bare st.hp st.gn)).map fun s => st.mem s.hp s.gn := by
  unfold storeStep
  cases tsz P t with
  | none => rfl
  | some z =>
    simp only [Option.bind_some]
    cases x <;> try rfl
    rename_i s g i off
    show Option.bind (st.hp s g) _ = Option.map _ (Option.bind (st.hp s g) _)
    cases st.hp s g with
    | none => rfl
    | some B =>
      simp only [Option.bind_some]
      cases B.es[i]? with
      | none => rfl
      | some q =>
        simp only [Option.bind_some]
        split <;> rfl
theorem appBase_mem {P : Program} {e : TypeId} {s : AV} (st : St) : appBase P e st s = (appBase P e (bare st.hp st.gn) s).map fun r => (r.1, st.mem r.2.hp r.2.gn) := by
  unfold appBase
  cases s <;> try rfl
  rename_i z a g lo len
  cases lo with
  | succ lo => rfl
  | zero =>
    simp only
    split
    · show Option.bind (st.hp a g) _ = Option.map _ (Option.bind (st.hp a g) _)
      cases st.hp a g with
      | none => rfl
      | some B =>
        simp only [Option.bind_some]
        split <;> rfl
    · rfl
theorem appendStep_mem {P : Program} {d t1 t2 : Nat} {s x : AV} (st : St) : appendStep P d t1 t2 s x st = (appendStep P d t1 t2 s x (bare st.hp st.gn)).map fun r => (st.mem r.hp r.gn).putO (some d) (r.sl d) := by
  unfold appendStep
  cases tsl P t1 <;> try rfl
  rename_i e
  simp only [Option.bind_some]
  cases tsz P e <;> try rfl
  rename_i z
  simp only [Option.bind_some]
  cases tby P e <;> try rfl
  rename_i b
  simp only [Option.bind_some]
  cases tzero P e <;> try rfl
  rename_i zv
  simp only [Option.bind_some]
  have hn : appNews P e t2 st x = appNews P e t2 (bare st.hp st.gn) x := rfl
  rw [hn]
  cases appNews P e t2 (bare st.hp st.gn) x <;> try rfl
  rename_i news
  simp only [Option.bind_some]
  rw [appBase_mem st]
  cases hb : appBase P e (bare st.hp st.gn) s with
  | none => rfl
  | some r =>
    simp only [Option.map_some, Option.bind_some]
    have hg : r.2.gn = st.gn := by
      unfold appBase at hb
      split at hb
      · simp only [Option.some.injEq] at hb; subst hb; rfl
      · simp only [Option.some.injEq] at hb; subst hb; rfl
      · split at hb
        · simp only [Option.bind_eq_some_iff] at hb
          obtain ⟨B, hB, hb⟩ := hb
          split at hb
          · cases hb
          · simp only [Option.some.injEq] at hb; subst hb; rfl
        · cases hb
      · cases hb
    split
    · simp only [Option.map_some, Option.some.injEq]
      show St.put _ _ _ = St.put _ _ _
      simp only [St.put, if_true, bare, St.mem, St.new]
      rfl
    · rfl
theorem rowStep_mem {d : Option Nat} {es : List AV} {z : Nat} {st st' : St} (h : rowStep d es z st = some st') :
    ∃ x, d = some x ∧ ∀ st2, rowStep d es z st2 = some ((st2.mem (addH x (st2.gn x) (some ⟨es, false⟩) st2.hp) (addG x (st2.gn x) st2.gn)).putO d (.sl z x (st2.gn x) 0 es.length)) := by
  unfold rowStep at h ⊢
  split at h
  · rename_i x
    split at h
    · rename_i hc
      refine ⟨x, rfl, fun st2 => ?_⟩
      rw [if_pos hc]
      rfl
    · cases h
  · cases h
theorem newStep_mem {d : Option Nat} {e : AV} {z : Nat} {st st' : St} (h : newStep d e z st = some st') :
    ∃ x, d = some x ∧ ∀ st2, newStep d e z st2 = some ((st2.mem (addH x (st2.gn x) (some ⟨[e], false⟩) st2.hp) (addG x (st2.gn x) st2.gn)).putO d (.ptr x (st2.gn x) 0 0)) := by
  unfold newStep at h ⊢
  split at h
  · rename_i x
    split at h
    · rename_i hc
      refine ⟨x, rfl, fun st2 => ?_⟩
      rw [if_pos hc]
      rfl
    · cases h
  · cases h
theorem step_kind {C : Cfg} {rc : Rec} {o : Oper} {s s' st : St} (h : step C rc o s = some s') (hev : ∀ x ∈ o.op.operands, s.ev x = st.ev x) :
    ∃ R, Kind C rc o st R ∧ ∀ st2 : St, (∀ x ∈ o.op.operands, st2.ev x = st.ev x) → step C rc o st2 = (R st2.hp st2.gn).map fun r => (st2.mem r.2.1 r.2.2).putO o.dst r.1 := by
  obtain ⟨dst, op, ty, pos, aft, gd⟩ := o
  simp only at h hev
  have pure_ : ∀ (st2 : St), (∀ x ∈ op.operands, st2.ev x = st.ev x) → pureV C.P st2.ev op = pureV C.P st.ev op := fun st2 h2 => pureV_congr h2
  have hp : ∀ {r : AV}, pureV C.P s.ev op = some r → (∀ st2 : St, (∀ x ∈ op.operands, st2.ev x = st.ev x) → step C rc ⟨dst, op, ty, pos, aft, gd⟩ st2 = (pureV C.P st2.ev op).map (st2.putO dst)) →
      ∃ R, Kind C rc ⟨dst, op, ty, pos, aft, gd⟩ st R ∧ ∀ st2 : St, (∀ x ∈ op.operands, st2.ev x = st.ev x) → step C rc ⟨dst, op, ty, pos, aft, gd⟩ st2 = (R st2.hp st2.gn).map fun r => (st2.mem r.2.1 r.2.2).putO dst r.1 := by
    intro r hr hst
    refine ⟨pR r, .p r, fun st2 h2 => ?_⟩
    rw [hst st2 h2, pure_ st2 h2, ← pure_ s hev, hr]
    rfl
  cases op with
  | load t a =>
    refine ⟨_, .l rfl, fun st2 h2 => ?_⟩
    simp only [step, lR]
    rw [h2 a (by simp [Op.operands])]
    cases loadV C.P st2.hp t (st.ev a) <;> rfl
  | alloc t =>
    simp only [step, Option.bind_eq_some_iff] at h
    obtain ⟨z, hz, n, hn, h⟩ := h
    obtain ⟨x, rfl, hx⟩ := newStep_mem h
    refine ⟨xR x [z] (fun g => .ptr x g 0 0), .x _ _ rfl rfl, fun st2 h2 => ?_⟩
    simp only [step, hz, hn, Option.bind_some]
    rw [hx st2]; rfl
  | box t a =>
    simp only [step, Option.bind_eq_some_iff] at h
    obtain ⟨n, hn, h⟩ := h
    obtain ⟨x, rfl, hx⟩ := newStep_mem h
    refine ⟨xR x [s.ev a] (fun g => .ptr x g 0 0), .x _ _ rfl rfl, fun st2 h2 => ?_⟩
    simp only [step, hn, Option.bind_some]
    rw [h2 a (by simp [Op.operands]), ← hev a (by simp [Op.operands]), hx st2]; rfl
  | buildSlice t len parts =>
    simp only [step, Option.bind_eq_some_iff] at h
    obtain ⟨e, he, z, hz, zv, hzv, h⟩ := h
    split at h
    · rename_i hc
      obtain ⟨x, rfl, hx⟩ := rowStep_mem h
      refine ⟨xR x (parts.toList.map fun p => s.ev p.2) (fun g => .sl z x g 0 (parts.toList.map fun p => s.ev p.2).length), .x _ _ rfl rfl, fun st2 h2 => ?_⟩
      simp only [step, he, hz, hzv, Option.bind_some]
      rw [if_pos hc]
      have : (parts.toList.map fun p => st2.ev p.2) = (parts.toList.map fun p => s.ev p.2) := List.map_congr_left fun p hp => by
        have hm : p.2 ∈ Op.operands (.buildSlice t len parts) := by simpa [Op.operands] using ⟨p.1, by simpa using hp⟩
        rw [h2 _ hm, hev _ hm]
      rw [this, hx st2]; rfl
    · cases h
  | makeSlice t n c =>
    simp only [step, Option.bind_eq_some_iff] at h
    obtain ⟨e, he, z, hz, by_, hby, zv, hzv, i, hi, j, hj, h⟩ := h
    split at h
    · rename_i hc
      obtain ⟨x, rfl, hx⟩ := rowStep_mem h
      refine ⟨xR x (List.replicate i.toNat zv) (fun g => .sl z x g 0 (List.replicate i.toNat zv).length), .x _ _ rfl rfl, fun st2 h2 => ?_⟩
      have h2n : st2.ev n = s.ev n := by rw [h2 n (by simp [Op.operands]), hev n (by simp [Op.operands])]
      have h2c : st2.ev c = s.ev c := by rw [h2 c (by simp [Op.operands]), hev c (by simp [Op.operands])]
      simp only [step, he, hz, hby, hzv, h2n, h2c, hi, hj, Option.bind_some]
      rw [if_pos hc, hx st2]; rfl
    · cases h
  | store t a y =>
    refine ⟨_, .s rfl, fun st2 h2 => ?_⟩
    simp only [step, sR]
    rw [h2 a (by simp [Op.operands]), h2 y (by simp [Op.operands]), storeStep_mem st2]
    cases storeStep C.P t (st.ev a) (st.ev y) (bare st2.hp st2.gn) <;> rfl
  | slice t x lo hi mx =>
    simp only [step] at h
    cases ht : tarr C.P t with
    | none =>
      simp only [ht, Option.map_eq_some_iff] at h
      obtain ⟨r, hr, rfl⟩ := h
      exact hp hr (fun st2 h2 => by simp only [step, ht])
    | some p =>
      obtain ⟨n, e⟩ := p
      simp only [ht] at h
      split at h
      · rename_i hmx
        have ol : ∀ (st2 : St), (∀ y ∈ Op.operands (.slice t x lo hi mx), st2.ev y = st.ev y) → lo.map st2.ev = lo.map st.ev ∧ hi.map st2.ev = hi.map st.ev ∧ st2.ev x = st.ev x := by
          intro st2 h2
          refine ⟨?_, ?_, h2 x (by simp [Op.operands])⟩
          · cases lo with
            | none => rfl
            | some y => simp only [Option.map_some, h2 y (by simp [Op.operands])]
          · cases hi with
            | none => rfl
            | some y => simp only [Option.map_some, h2 y (by simp [Op.operands])]
        refine ⟨_, .v (x := x) (n := n) (e := e) (lo := lo.map st.ev) (hi := hi.map st.ev) (by simp [kls, ht]), fun st2 h2 => ?_⟩
        obtain ⟨e1, e2, e3⟩ := ol st2 h2
        simp only [step, ht]
        rw [if_pos hmx, e1, e2, e3]
        simp only [cR, Option.map_map]
        rfl
      · cases h
  | convert cs cd a =>
    have ha : a ∈ Op.operands (.convert cs cd a) := by simp [Op.operands]
    simp only [step] at h
    split at h
    · rename_i b hb
      split at h
      · rename_i hd
        simp only [Option.map_eq_some_iff] at h
        obtain ⟨r, hr, rfl⟩ := h
        refine hp hr (fun st2 h2 => ?_)
        have : st2.ev a = .str b := by rw [h2 a ha, ← hev a ha, hb]
        simp only [step, this]
        rw [if_pos hd]
      · rename_i hd
        simp only [Option.bind_eq_some_iff] at h
        obtain ⟨e, he, h⟩ := h
        split at h
        · rename_i hc
          obtain ⟨x, rfl, hx⟩ := rowStep_mem h
          have hcs : (tsl C.P cs).isSome = false := by simp [tsl, tstr_some hc.2.2]
          refine ⟨xR x (b.data.toList.map fun b => .int .u8 b.toNat) (fun g => .sl 1 x g 0 (b.data.toList.map fun b => AV.int .u8 b.toNat).length), .x _ _ (by simp [kls, he, hcs]) rfl, fun st2 h2 => ?_⟩
          have : st2.ev a = .str b := by rw [h2 a ha, ← hev a ha, hb]
          simp only [step, this]
          rw [if_neg hd]
          simp only [he, Option.bind_some]
          rw [if_pos hc, hx st2]; rfl
        · cases h
    · rename_i k n hb
      simp only [Option.map_eq_some_iff] at h
      obtain ⟨r, hr, rfl⟩ := h
      refine hp hr (fun st2 h2 => ?_)
      have : st2.ev a = .int k n := by rw [h2 a ha, ← hev a ha, hb]
      simp only [step, this]
    · rename_i hn1 hn2
      have hst : s.ev a = st.ev a := hev a ha
      rw [hst] at hn1 hn2
      by_cases hcd : (tsl C.P cd).isSome = true
      · rw [if_pos hcd] at h
        split at h
        · rename_i hc
          refine ⟨fun hp gn => if cs = cd ∧ (tsl C.P cd).bind (tint C.P) = some .u8 ∧ ownRow hp (st.ev a) = true then some (st.ev a, hp, gn) else none, .o _ (by
            have : (tsl C.P cs).isSome = true := by rw [hc.1]; exact hcd
            simp [kls, hcd, this]), fun st2 h2 => ?_⟩
          simp only [step, h2 a ha]
          generalize st.ev a = y at hn1 hn2 ⊢
          have main : (if (tsl C.P cd).isSome = true then (if cs = cd ∧ (tsl C.P cd).bind (tint C.P) = some .u8 ∧ ownRow st2.hp y = true then some (st2.putO dst y) else none) else (tsl C.P cs).bind fun e => if tint C.P e = some .u8 ∧ tsz C.P e = some 1 ∧ tstr C.P cd = true then (conts st2.hp y).bind fun xs => (xs.mapM byteV).map fun bs => st2.putO dst (.str ⟨bs.toArray⟩) else none) =
              Option.map (fun r => (st2.mem r.2.1 r.2.2).putO dst r.1) (if cs = cd ∧ (tsl C.P cd).bind (tint C.P) = some .u8 ∧ ownRow st2.hp y = true then some (y, st2.hp, st2.gn) else none) := by
            rw [if_pos hcd]
            split <;> rfl
          cases y <;> first | exact absurd rfl (hn1 _) | exact absurd rfl (hn2 _ _) | exact main
        · cases h
      rw [if_neg hcd] at h
      simp only [Option.bind_eq_some_iff] at h
      obtain ⟨e, he, h⟩ := h
      split at h
      · rename_i hc
        have hu := tstr_some hc.2.2
        have hcd' : (tsl C.P cd).isSome = false := by simpa using hcd
        refine ⟨_, .b (x := a) (by simp [kls, he, hcd']), fun st2 h2 => ?_⟩
        simp only [step, h2 a ha]
        have main : ∀ y, (if (tsl C.P cd).isSome = true then (if cs = cd ∧ (tsl C.P cd).bind (tint C.P) = some .u8 ∧ ownRow st2.hp y = true then some (st2.putO dst y) else none) else Option.bind (tsl C.P cs) fun e => if tint C.P e = some .u8 ∧ tsz C.P e = some 1 ∧ tstr C.P cd = true then (conts st2.hp y).bind fun xs => (xs.mapM byteV).map fun bs => st2.putO dst (.str ⟨bs.toArray⟩) else none) =
            Option.map (fun r => (st2.mem r.2.1 r.2.2).putO dst r.1) (cR (bsF y) st2.hp st2.gn) := by
          intro y
          rw [if_neg hcd]
          simp only [he, Option.bind_some]
          rw [if_pos hc]
          simp only [cR, bsF]
          cases conts st2.hp y with
          | none => rfl
          | some xs =>
            simp only [Option.bind_some]
            cases xs.mapM byteV with
            | none => rfl
            | some bs =>
              simp only [Option.map_some, frzH_nil]
              rfl
        generalize st.ev a = y at hn1 hn2 ⊢
        cases y <;> first | exact absurd rfl (hn1 _) | exact absurd rfl (hn2 _ _) | exact main _
      · cases h
  | call c =>
    obtain ⟨callee, args, argTypes⟩ := c
    have hargs : ∀ (st2 : St), (∀ x ∈ Op.operands (.call ⟨callee, args, argTypes⟩), st2.ev x = st.ev x) → args.toList.map st2.ev = args.toList.map st.ev := fun st2 h2 =>
      List.map_congr_left fun x hx => h2 x (by simp [Op.operands, Call.operands, show x ∈ args by simpa using hx])
    cases callee with
    | value f =>
      have hfo : f ∈ Op.operands (.call ⟨.value f, args, argTypes⟩) := by simp [Op.operands, Call.operands]
      have gen : kls C (.call ⟨.value f, args, argTypes⟩) = 6 → ∃ R, Kind C rc ⟨dst, .call ⟨.value f, args, argTypes⟩, ty, pos, aft, gd⟩ st R ∧ ∀ st2 : St, (∀ x ∈ Op.operands (.call ⟨.value f, args, argTypes⟩), st2.ev x = st.ev x) →
          step C rc ⟨dst, .call ⟨.value f, args, argTypes⟩, ty, pos, aft, gd⟩ st2 = (R st2.hp st2.gn).map fun r => (st2.mem r.2.1 r.2.2).putO dst r.1 := by
        intro hk
        simp only [step] at h
        split at h
        · rename_i g fst caps hg
          refine ⟨fun hp gn => (callStep C rc dst g (fst ++ args.toList.map st.ev ++ caps) (bare hp gn)).map fun q => (valAt q dst, q.hp, q.gn), .o _ hk, fun st2 h2 => ?_⟩
          have : st2.ev f = .fn g fst caps := by rw [h2 f hfo, ← hev f hfo, hg]
          simp only [step, this]
          rw [hargs st2 h2, callStep_mem st2, Option.map_map]
          rfl
        · cases h
      cases f with
      | func g =>
        by_cases hcl : (C.cln g).isSome = true
        · obtain ⟨p, hcp⟩ := Option.isSome_iff_exists.1 hcl
          have hcs : ∀ (l : List AV) (q : St), callStep C rc dst g l q = cloneStep p.1 p.2 dst l q := fun l q => by unfold callStep; rw [hcp]
          have e1 : s.ev (.func g) = .fn g [] [] := rfl
          simp only [step, e1, List.append_nil, List.nil_append, hcs] at h
          rw [hargs s hev] at h
          unfold cloneStep at h
          split at h
          · rename_i d x heq
            have hax : ∃ a, args.toList = [a] ∧ st.ev a = x := by
              match hl : args.toList, heq with
              | [a], heq => simp at heq; exact ⟨a, rfl, heq⟩
            obtain ⟨a, hal, rfl⟩ := hax
            refine ⟨_, .n (x := a) p.1 p.2 (by simp [kls, hcl]) rfl, fun st2 h2 => ?_⟩
            have e2 : st2.ev (.func g) = .fn g [] [] := rfl
            simp only [step, e2, List.append_nil, List.nil_append, hcs]
            rw [hargs st2 h2, hal]
            exact cloneStep_eq st2
          · cases h
        by_cases hi : C.inl g = true
        · exact gen (by simp [kls, hi, hcl])
        have hcn : C.cln g = none := by simpa using hcl
        · refine ⟨_, .f (f := g) (args := args.toList) (by simp [kls, hi, hcl]), fun st2 h2 => ?_⟩
          have e2 : st2.ev (.func g) = .fn g [] [] := rfl
          simp only [step, e2, List.append_nil, List.nil_append, callStep, hcn]
          rw [if_neg hi, hargs st2 h2]
          have hpl : (args.toList.map st.ev).all AV.plain = true := by
            have e1 : s.ev (.func g) = .fn g [] [] := rfl
            simp only [step, e1, List.append_nil, List.nil_append, callStep, hcn] at h
            rw [if_neg hi, hargs s hev] at h
            split at h
            · assumption
            · cases h
          rw [if_pos hpl]
          simp only [cR, fnF]
          cases (args.toList.map st.ev).mapM (snap st2.hp DEEP) with
          | none => rfl
          | some as =>
            simp only [Option.bind_some]
            cases fnV C rc g as <;> rfl
      | tmp t => exact gen (by simp [kls])
      | const v => exact gen (by simp [kls])
      | global g => exact gen (by simp [kls])
    | invoke r m =>
      simp only [step, Option.map_eq_some_iff] at h
      obtain ⟨r', hr, rfl⟩ := h
      exact hp hr (fun st2 h2 => by simp only [step])
    | builtin b =>
      by_cases hb : b = .append
      · subst hb
        simp only [step] at h
        split at h
        · rename_i d s0 x0 t1 t2 ha ht
          refine ⟨aR C.P d t1 t2 (st.ev s0) (st.ev x0), .a rfl rfl ha rfl, fun st2 h2 => ?_⟩
          simp only [step, ha, ht]
          have hs0 : s0 ∈ args := by have : s0 ∈ args.toList := by rw [ha]; simp
                                     simpa using this
          have hx0 : x0 ∈ args := by have : x0 ∈ args.toList := by rw [ha]; simp
                                     simpa using this
          rw [h2 s0 (by simp [Op.operands, Call.operands, hs0]), h2 x0 (by simp [Op.operands, Call.operands, hx0]), appendStep_mem st2]
          simp only [aR, Option.map_map]
          rfl
        · cases h
      · by_cases hb2 : b = .copy
        · subst hb2
          simp only [step] at h
          split at h
          · rename_i s0 x0 t1 t2 ha ht
            refine ⟨fun hp gn => (copyStep C.P dst t1 (st.ev s0) (st.ev x0) (bare hp gn)).map fun q => (valAt q dst, q.hp, q.gn), .o _ (by simp [kls]), fun st2 h2 => ?_⟩
            simp only [step, ha, ht]
            have hs0 : s0 ∈ args := by have : s0 ∈ args.toList := by rw [ha]; simp
                                       simpa using this
            have hx0 : x0 ∈ args := by have : x0 ∈ args.toList := by rw [ha]; simp
                                       simpa using this
            rw [h2 s0 (by simp [Op.operands, Call.operands, hs0]), h2 x0 (by simp [Op.operands, Call.operands, hx0]), copyStep_mem st2, Option.map_map]
            rfl
          · cases h
        · have hs : ∀ st2 : St, step C rc ⟨dst, .call ⟨.builtin b, args, argTypes⟩, ty, pos, aft, gd⟩ st2 = (pureV C.P st2.ev (.call ⟨.builtin b, args, argTypes⟩)).map (st2.putO dst) := by
            intro st2
            cases b <;> first | rfl | exact absurd rfl hb | exact absurd rfl hb2
          rw [hs s] at h
          simp only [Option.map_eq_some_iff] at h
          obtain ⟨r', hr, rfl⟩ := h
          exact hp hr (fun st2 h2 => hs st2)
  | _ =>
    simp only [step, Option.map_eq_some_iff] at h
    obtain ⟨r, hr, rfl⟩ := h
    exact hp hr (fun st2 h2 => by simp only [step])
theorem putO_sl {s : St} {d : Option Nat} {v : AV} {t : Nat} (h : d ≠ some t) : (s.putO d v).sl t = s.sl t := by
  cases d with
  | none => rfl
  | some d => simp only [St.putO, St.put]; rw [if_neg (fun e => h (by rw [e]))]
theorem step_sl {C : Cfg} {rc : Rec} {o : Oper} {st st' : St} (h : step C rc o st = some st') {t : Nat} (ht : o.dst ≠ some t) : st'.sl t = st.sl t := by
  obtain ⟨R, _, hR⟩ := step_kind (st := st) h (fun _ _ => rfl)
  have := hR st (fun _ _ => rfl)
  rw [h] at this
  have := this.symm
  simp only [Option.map_eq_some_iff] at this
  obtain ⟨r, _, rfl⟩ := this
  exact putO_sl ht
theorem stepG_sl {C : Cfg} {rc : Rec} {ops : Array Oper} {o : Oper} {st st' : St} (h : stepG C rc ops o st = some st') {t : Nat} (ht : o.dst ≠ some t) : st'.sl t = st.sl t := by
  unfold stepG at h
  split at h
  · exact step_sl h ht
  · split at h
    · cases h
    · split at h
      · split at h
        · exact step_sl h ht
        · simp only [Option.some.injEq] at h; subst h; exact putO_sl ht
      · simp only [Option.some.injEq] at h; subst h; exact putO_sl ht
      · cases h
theorem stepG_kind {C : Cfg} {rc : Rec} {ops : Array Oper} {o : Oper} {s s' st : St} (h : stepG C rc ops o s = some s') (ha : Agree ops o st s) :
    ∃ R, Kind C rc o st R ∧ Loc1 C rc ops o st R := by
  have hev : ∀ x ∈ o.op.operands, s.ev x = st.ev x := fun x hx => ha.ev hx
  have hgs : ∀ {j w t}, o.guard = some (j, w) → (ops[j]?).bind (·.dst) = some t → t ∈ o.looksAt ops := by
    intro j w t hg ht
    simp [Oper.looksAt, hg, ht]
  unfold stepG at h
  split at h
  · rename_i hg
    obtain ⟨R, h1, h2⟩ := step_kind (st := st) h hev
    refine ⟨R, h1, fun st2 h3 => ?_⟩
    unfold stepG
    rw [hg]
    exact h2 st2 (fun x hx => h3.ev hx)
  · rename_i j want hg
    split at h
    · cases h
    · rename_i t ht
      have hin := hgs hg ht
      have off : ∀ {b}, s.sl t = b → (∀ st2 : St, st2.sl t = b → stepG C rc ops o st2 = some (st2.putO o.dst .undef)) → ∃ R, Kind C rc o st R ∧ Loc1 C rc ops o st R := by
        intro b hb h2
        refine ⟨pR .undef, .p _, fun st2 h3 => ?_⟩
        rw [h2 st2 (by rw [h3 t hin, ← ha t hin, hb])]
        rfl
      split at h
      · rename_i b hb
        split at h
        · rename_i hbw
          obtain ⟨R, h1, h2⟩ := step_kind (st := st) h hev
          refine ⟨R, h1, fun st2 h3 => ?_⟩
          unfold stepG
          rw [hg]
          have : st2.sl t = .bool b := by rw [h3 t hin, ← ha t hin, hb]
          simp only [ht, this, if_pos hbw]
          exact h2 st2 (fun x hx => h3.ev hx)
        · rename_i hbw
          refine off hb (fun st2 h2 => ?_)
          unfold stepG
          rw [hg]
          simp only [ht, h2, if_neg hbw]
      · rename_i hb
        refine off hb (fun st2 h2 => ?_)
        unfold stepG
        rw [hg]
        simp only [ht, h2]
      · cases h
end Vai
