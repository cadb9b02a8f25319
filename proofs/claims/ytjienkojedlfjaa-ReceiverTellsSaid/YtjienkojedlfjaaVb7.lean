import Derived.Test.YtjienkojedlfjaaVbE
namespace Vai
open Go Go.RowKit
set_option linter.unusedVariables false
set_option linter.unusedSimpArgs false
def Goes (P : Program) (f : FuncId) (vals : Array Value) (w : World) (R : Value → World → Prop) : Prop :=
  ((callFunc f vals).run P w = .ok (.enter f vals) w ∧ Calls P f vals w (fun e w' => ∃ v, e = .returned v ∧ R v w')) ∨
  ∃ v w', (callFunc f vals).run P w = .ok (.value v) w' ∧ R v w'
theorem Goes.mono {P : Program} {f : FuncId} {vals : Array Value} {w : World} {R R' : Value → World → Prop} (h : Goes P f vals w R) (hR : ∀ v w', R v w' → R' v w') : Goes P f vals w R' := by
  rcases h with ⟨h1, h2⟩ | ⟨v, w', h1, h2⟩
  · exact .inl ⟨h1, Calls.mono h2 (fun e w' ⟨v, he, hr⟩ => ⟨v, he, hR v w' hr⟩)⟩
  · exact .inr ⟨v, w', h1, hR _ _ h2⟩
def RFs (ro : RO) (as : List AV) (vals : Array Value) : Prop := as.length = vals.size ∧ ∀ (j : Nat) (a : AV) (v : Value), as[j]? = some a → vals[j]? = some v → RF ro a v
def RVs (ro : RO) (σ : Map) (as : List AV) (vals : Array Value) : Prop := as.length = vals.size ∧ ∀ (j : Nat) (a : AV) (v : Value), as[j]? = some a → vals[j]? = some v → RV ro σ a v
def FnOk (P : Program) (f : FuncId) (as : List AV) (r : AV) : Prop :=
  ∀ (w : World) (F : Nat → Prop) (vals : Array Value), (∀ b, F b → b < w.heap.size) → RFs ⟨w, F⟩ as vals →
    Goes P f vals w (fun v w' => Below w.heap.size w w' ∧ RR ⟨w', fun b => F b ∨ (w.heap.size ≤ b ∧ b < w'.heap.size)⟩ r v)
def ClnOk (P : Program) (f : FuncId) (z by_ : Nat) : Prop :=
  ∀ (w0 : Base) (w : World) (ro : RO) (σ : Map) (hp : Hp) (gn : Nat → Nat) (x : AV) (v : Value) (xs : List AV) (d : Nat), HRep w0 w ro σ hp gn → RV ro σ x v → conts hp x = some xs → (∀ y ∈ xs, y.cells.length = z ∧ y.ok = true) → 0 < z →
    xs.length * by_ ≤ 140737488355328 → xs.length ≤ 140737488355328 → Goes P f #[v] w (fun u w' => ∃ ro' σ', Ext ro ro' σ σ' ∧
      HRep w0 w' ro' σ' (fun a y => if a = d ∧ y = gn d then some ⟨xs, false⟩ else hp a y) (fun a => if a = d then gn d + 1 else gn a) ∧ RV ro' σ' (.sl z d (gn d) 0 xs.length) u)
def MFn (P : Program) (f : FuncId) (args : List AV) (bs : List (Option CB)) (r : AV) (bs' : List (Option CB)) : Prop :=
  bs.length ≤ bs'.length ∧ bsOk bs' = true ∧ ∀ (w0 : Base) (w : World) (ro : RO) (σ : Map) (vals : Array Value), w0.ds = [] → HRep w0 w ro σ (mkHp bs) mkGn → RVs ro σ args vals →
    Goes P f vals w (fun v w' => ∃ ro' σ', ExtO bs.length ro ro' σ σ' ∧ HRep w0 w' ro' σ' (mkHp bs') mkGn ∧ RV ro' σ' r v)
def ExtOk (C : Cfg) : Prop := (∀ f g as r, C.ext f = some g → g as = some r → FnOk C.P f as r) ∧ (∀ f z by_, C.cln f = some (z, by_) → ClnOk C.P f z by_) ∧ ∀ f g as bs r, C.mem f = some g → g as bs = some r → MFn C.P f as bs r.1 r.2
def CodeOk (C : Cfg) (rc : Rec) : Prop :=
  ∀ (c : Code) (m n : Nat) (st st' : St) (e : E) (w0 : Base) (w : World) (ro : RO) (σ : Map) (a : Act), rc c st = some (e, st') → codeStat C m c = true → m ≤ n →
    HRep w0 w ro σ st.hp st.gn → SRep w0 ro σ n st.sl a → c.wp C.P (fun x a' w' => x = e.toExit ∧ After w0 ro σ n st' a' w') a w
def ProgOk (C : Cfg) : Prop := ∀ f fn c, C.skip f = false → C.P.funcs[f]? = some fn → fn.body = some c → codeStat C fn.ntmps c = true ∧ (fn.name == "runtime.NumGoroutine") = false
theorem progOk_of {C : Cfg} (h : progStat C = true) : ProgOk C := by
  intro f fn c hs hf hb
  unfold progStat at h
  rw [List.all_eq_true] at h
  have := h f (List.mem_range.2 (Array.getElem?_eq_some_iff.1 hf).1)
  simpa [hs, hf, hb] using this
def resM (a : Act) : ResultVar → Sem Value
  | .tmp t => pure (a.tmps.getD t Go.undef)
  | .cell p t => do loadVar t (← asAddr (a.tmps.getD p Go.undef))
theorem resV_run {P : Program} {w0 : Base} {w : World} {ro : RO} {σ : Map} {n : Nat} {st : St} {a : Act} (hh : HRep w0 w ro σ st.hp st.gn) (hs : SRep w0 ro σ n st.sl a) {r : ResultVar} {x : AV} (h : resV P st r = some x) :
    ∃ v, (resM a r).run P w = .ok v w ∧ RV ro σ x v := by
  cases r with
  | tmp t =>
    simp only [resV, Option.some.injEq] at h
    subst h
    exact ⟨_, rfl, hs.at_ t⟩
  | cell p t =>
    obtain ⟨u, hu, hr⟩ := loadV_run (P := P) hh h (hs.at_ p)
    refine ⟨u, ?_, hr⟩
    have hp := hs.at_ p
    simp only [resV, loadV, Option.bind_eq_some_iff] at h
    obtain ⟨ag, _, z, _, h⟩ := h
    simp only [resM, Sem.run_bind]
    generalize a.tmps.getD p Go.undef = q at *
    split at h
    · rename_i cs he
      rw [he] at hp
      obtain ⟨ad, V, rfl, _⟩ := hp.rptr_inv
      simpa [Instr.loadAt, Instr.sureAddr, asAddr] using hu
    · rename_i s g i off he
      rw [he] at hp
      obtain ⟨b, sz, N, _, rfl⟩ := hp.ptr_inv
      simpa [Instr.loadAt, Instr.sureAddr, asAddr] using hu
    · cases h
theorem results_eq (fn : Func) (a : Act) : results fn a.tmps = (fn.results.mapM (resM a) >>= fun vs => pure (if h : vs.size = 1 then vs[0] else .tuple vs)) := by
  have : ∃ f : ResultVar → Sem Value, f = resM a ∧ results fn a.tmps = (fn.results.mapM f >>= fun vs => pure (if h : vs.size = 1 then vs[0] else .tuple vs)) := ⟨_, funext (fun r => by cases r <;> rfl), rfl⟩
  obtain ⟨f, rfl, h⟩ := this
  exact h
theorem results_run {P : Program} {w0 : Base} {w : World} {ro : RO} {σ : Map} {n : Nat} {st : St} {a : Act} (hh : HRep w0 w ro σ st.hp st.gn) (hs : SRep w0 ro σ n st.sl a) {fn : Func} {vs : List AV}
    (h : fn.results.toList.mapM (resV P st) = some vs) : ∃ v, (results fn a.tmps).run P w = .ok v w ∧ RV ro σ (resT vs) v := by
  have key : ∀ (l : List ResultVar) (vs : List AV), l.mapM (resV P st) = some vs → ∃ us : List Value, (l.mapM (resM a)).run P w = .ok us w ∧ vs.length = us.length ∧
      ∀ (j : Nat) (x : AV) (v : Value), vs[j]? = some x → us[j]? = some v → RV ro σ x v := by
    intro l
    induction l with
    | nil => intro vs h; simp at h; subst h; exact ⟨[], rfl, rfl, by simp⟩
    | cons r l ih =>
      intro vs h
      simp only [List.mapM_cons, Option.bind_eq_bind, Option.bind_eq_some_iff, Option.pure_def, Option.some.injEq] at h
      obtain ⟨x, hx, xs, hxs, rfl⟩ := h
      obtain ⟨v, hv, hr⟩ := resV_run hh hs hx
      obtain ⟨us, hu, hl, hat⟩ := ih xs hxs
      refine ⟨v :: us, ?_, by simp [hl], fun j x' v' hx' hv' => ?_⟩
      · rw [List.mapM_cons, Sem.run_bind, hv, Result.andThen_ok, Sem.run_bind, hu]
        rfl
      · cases j with
        | zero => simp at hx' hv'; subst hx'; subst hv'; exact hr
        | succ j => exact hat j x' v' (by simpa using hx') (by simpa using hv')
  obtain ⟨us, hu, hl, hat⟩ := key _ _ h
  have hrun : (results fn a.tmps).run P w = .ok (if h : us.toArray.size = 1 then us.toArray[0] else .tuple us.toArray) w := by
    rw [results_eq, Array.mapM_eq_mapM_toList, Sem.run_bind, map_eq_pure_bind, Sem.run_bind, hu]
    rfl
  refine ⟨_, hrun, ?_⟩
  match vs, us, hl, hat with
  | [x], [u], _, hat => exact hat 0 x u rfl rfl
  | [], [], _, _ => exact .tup rfl (by simp)
  | x :: y :: vs, u :: v :: us, hl, hat =>
    rw [dif_neg (by simp)]
    exact .tup (by simpa using hl) (fun j a b ha hb => hat j a b ha (by simpa using hb))
theorem SRep.enter {w0 : Base} (h0 : w0.ds = []) {ro : RO} {σ : Map} {as : List AV} {vals : Array Value} (h : RVs ro σ as vals) (m : Nat) :
    SRep w0 ro σ (vals.size + (m - vals.size)) (fun i => as.getD i .undef) { tmps := vals ++ Array.replicate (m - vals.size) Go.undef, defers := [] } := by
  refine ⟨by simp, fun d => ?_, h0.symm⟩
  simp only [List.getD_eq_getElem?_getD, Array.getD_eq_getD_getElem?]
  by_cases hd : d < vals.size
  · have h1 : vals[d]? = some (vals[d]) := Array.getElem?_eq_getElem hd
    have h2 : as[d]? = some (as[d]'(by rw [h.1]; exact hd)) := List.getElem?_eq_getElem _
    rw [Array.getElem?_append_left hd, h1, h2]
    exact h.2 d _ _ h2 h1
  · rw [Array.getElem?_append_right (by omega), List.getElem?_eq_none (by rw [h.1]; omega)]
    simp only [Option.getD_none, Array.getElem?_replicate]
    split <;> exact .undef
theorem callFunc_enter {P : Program} {f : FuncId} {fn : Func} {c : Code} (hf : P.funcs[f]? = some fn) (hb : fn.body = some c) (hn : (fn.name == "runtime.NumGoroutine") = false) (vals : Array Value) (w : World) :
    (callFunc f vals).run P w = .ok (.enter f vals) w := by
  simp [callFunc, hf, hb, show fn.name ≠ "runtime.NumGoroutine" by simpa using hn]
theorem memF_run {P : Program} {f : FuncId} {g : List AV → List (Option CB) → Option (AV × List (Option CB))} (hM : ∀ as bs r, g as bs = some r → MFn P f as bs r.1 r.2) {args : List AV} {hp hp' : Hp} {gn gn' : Nat → Nat} {x : AV} (h : memF g args hp gn = some (x, hp', gn'))
    {w0 : Base} {w : World} {ro : RO} {σ : Map} (hh : HRep w0 w ro σ hp gn) {vals : Array Value} (ha : RVs ro σ args vals) :
    Goes P f vals w (fun v w' => ∃ ro' σ', Ext ro ro' σ σ' ∧ HRep w0 w' ro' σ' hp' gn' ∧ RV ro' σ' x v) := by
  unfold memF at h
  simp only at h
  generalize hN : keysOf hp (refsA.refsL args) = N at h
  split at h
  · rename_i hdist
    simp only [Option.bind_eq_some_iff] at h
    obtain ⟨us, hus, bs, hbs, h⟩ := h
    split at h
    · rename_i hok
      simp only [Bool.and_eq_true] at hok
      simp only [Option.bind_eq_some_iff] at h
      obtain ⟨⟨r, bs'⟩, hr, h⟩ := h
      split at h
      · rename_i hlen
        simp only [Option.bind_eq_some_iff, Option.map_eq_some_iff, Prod.mk.injEq] at h
        obtain ⟨x', hx', cs, hcs, rfl, rfl, rfl⟩ := h
        obtain ⟨hl1, hok', hgo⟩ := hM us bs (r, bs') hr
        obtain ⟨hbl, hat⟩ := renB_at hbs
        obtain ⟨hcl, hcat⟩ := backB_at hcs
        simp only at hlen hok' hgo hx' hcl hcat
        let σc : Map := fun s g l => ∃ i k, N[i]? = some k ∧ s = BIG + i ∧ g = 0 ∧ σ k.1.1 k.1.2 l
        let Hc : Nat → Prop := fun b => w0.H b ∨ ∃ s g B sz N', hp s g = some B ∧ B.fr = false ∧ (∀ k ∈ N, k.1 ≠ (s, g)) ∧ σ s g (.real b sz N')
        let wc : Base := ⟨w0.w, w0.F, [], Hc, w⟩
        have hφ : ∀ s g p l, ((ixK N s g 0).map fun i => (BIG + i, 0)) = some p → σ s g l → σc p.1 p.2 l := by
          intro s g p l hp hl
          simp only [Option.map_eq_some_iff] at hp
          obtain ⟨q, hq, rfl⟩ := hp
          obtain ⟨j, k, rfl, hj, rfl, rfl⟩ := ixK_at hq
          exact ⟨j, k, hj, by simp, rfl, hl⟩
        have key : ∀ s g B, mkHp bs s g = some B → ∃ i k B0 b, N[i]? = some k ∧ s = BIG + i ∧ g = 0 ∧ hp k.1.1 k.1.2 = some B0 ∧ B = ⟨b.es, B0.fr⟩ ∧ bs[i]? = some (some b) ∧ b.pt = k.2 ∧
            (k.2 = true → renA.renL (fun s g => (ixK N s g 0).map fun i => (BIG + i, 0)) B0.es = some b.es) ∧ (k.2 = false → b.es = B0.es) := by
          intro s g B hB
          obtain ⟨i, b, rfl, rfl, hb, rfl⟩ := mkHp_at hB
          obtain ⟨k, B0, h1, h2, h3, h4, h5, h6⟩ := hat i b hb
          exact ⟨i, k, B0, b, h1, rfl, rfl, h2, by rw [h3], hb, h4, h5, h6⟩
        have loc : ∀ i k l, N[i]? = some k → σc (BIG + i) 0 l → σ k.1.1 k.1.2 l := by
          rintro i k l hi ⟨j, q, hj, e, _, hl⟩
          have e : j = i := by omega
          subst e
          rw [hi] at hj
          cases hj
          exact hl
        have lt0 : ∀ {s g B b sz N}, hp s g = some B → σ s g (.real b sz N) → b < w.heap.size := by
          intro s g B b sz N hB hσ
          obtain ⟨l', hl', hb⟩ := hh.blk _ _ _ hB
          obtain rfl := hh.fn _ _ _ _ hl' hσ
          exact hb.lt
        have hc : HRep wc w ro σc (mkHp bs) mkGn := by
          refine ⟨hh.below, hh.fr, hh.sub, ?_, ?_, ?_, ?_, ?_, ?_, ?_, ?_, ?_⟩
          · rintro s g l l' ⟨i, k, hi, rfl, rfl, h1⟩ ⟨j, q, hj, e, _, h2⟩
            have e : j = i := by omega
            subst e
            rw [hi] at hj
            cases hj
            exact hh.fn _ _ _ _ h1 h2
          · rintro s g l ⟨i, k, hi, rfl, rfl, h1⟩
            simp [mkGn]
          · intro s g B hB
            obtain ⟨i, k, B0, b, hi, rfl, rfl, hB0, rfl, hb, hpt, h1, h2⟩ := key s g B hB
            obtain ⟨l, hσ, hblk⟩ := hh.blk _ _ _ hB0
            refine ⟨l, ⟨i, k, hi, rfl, rfl, hσ⟩, ?_⟩
            cases hk2 : k.2 with
            | true => exact hblk.ren hφ (.inl (h1 hk2))
            | false =>
              have he := h2 hk2
              exact hblk.ren hφ (.inr ⟨he, by rw [← he]; exact bsOk_at hok.2 hb (by rw [hpt, hk2])⟩)
          · intro s g B b sz NN hB hfr hσ
            obtain ⟨i, k, B0, c, hi, rfl, rfl, hB0, rfl, _⟩ := key s g B hB
            exact hh.own _ _ _ _ _ _ hB0 hfr (loc _ _ _ hi hσ)
          · intro s g B b sz NN hB hfr hσ
            obtain ⟨i, k, B0, c, hi, rfl, rfl, hB0, rfl, _⟩ := key s g B hB
            exact hh.frz _ _ _ _ _ _ hB0 hfr (loc _ _ _ hi hσ)
          · intro s g B s' g' B' b sz NN sz' NN' hB hB' hfr hσ hσ'
            obtain ⟨i, k, B0, c, hi, rfl, rfl, hB0, rfl, _⟩ := key s g B hB
            obtain ⟨j, q, B1, d, hj, rfl, rfl, hB1, rfl, _⟩ := key s' g' B' hB'
            obtain ⟨e1, e2⟩ := hh.inj _ _ _ _ _ _ _ _ _ _ _ hB0 hB1 hfr (loc _ _ _ hi hσ) (loc _ _ _ hj hσ')
            have : i = j := distK_inj hdist hi hj (Prod.ext e1 e2)
            subst this
            exact ⟨rfl, rfl⟩
          · intro b hb
            rcases hb with hb | ⟨s, g, B, sz, N', hB, _, _, hσ⟩
            · exact ⟨(hh.hid b hb).1, rfl⟩
            · exact ⟨lt0 hB hσ, rfl⟩
          · intro b hF hb
            rcases hb with hb | ⟨s, g, B, sz, N', hB, hfr, _, hσ⟩
            · exact hh.dis b hF hb
            · exact (hh.own _ _ _ _ _ _ hB hfr hσ).1 hF
          · intro s g B b sz NN hB hfr hσ hb
            obtain ⟨i, k, B0, c, hi, rfl, rfl, hB0, rfl, _⟩ := key s g B hB
            rcases hb with hb | ⟨s', g', B', sz', N', hB', hfr', hne, hσ'⟩
            · exact hh.oh _ _ _ _ _ _ hB0 hfr (loc _ _ _ hi hσ) hb
            · obtain ⟨e1, e2⟩ := hh.inj _ _ _ _ _ _ _ _ _ _ _ hB0 hB' hfr (loc _ _ _ hi hσ) hσ'
              exact hne k (List.mem_of_getElem? hi) (Prod.ext e1 e2)
        have hargs : RVs ro σc us vals := ⟨by rw [(renL_at hus).1]; exact ha.1, fun j y v hy hv => by
          obtain ⟨c, hc', hr'⟩ := renL_at' hus hy
          exact renA_rep hφ (ha.2 j c v hc' hv) y hr'⟩
        refine (hgo wc w ro σc vals rfl hc hargs).mono (fun v w' ⟨ro', σ', he, h', hrv⟩ => ?_)
        let σ2 : Map := fun s g l => σ s g l ∨ (s = NB ∧ gn NB ≤ g ∧ N.length + (g - gn NB) < bs'.length ∧ σ' (BIG + (N.length + (g - gn NB))) 0 l)
        have old : ∀ i k l, N[i]? = some k → σ' (BIG + i) 0 l → σ k.1.1 k.1.2 l := by
          intro i k l hi hl
          have hilt : i < N.length := (List.getElem?_eq_some_iff.1 hi).1
          obtain ⟨b, hb⟩ := allS_at hok.1 (i := i) (by omega)
          obtain ⟨k', B0, h1, h2, _⟩ := hat i b hb
          rw [hi] at h1
          cases h1
          obtain ⟨l0, hl0, _⟩ := hh.blk _ _ _ h2
          have := he.s i l0 (by omega) ⟨i, k, hi, rfl, rfl, hl0⟩
          rw [h'.fn _ _ _ _ hl this]
          exact hl0
        have hψ : ∀ s g p l, keyAt N NB (gn NB) bs'.length s g = some p → σ' s g l → σ2 p.1 p.2 l := by
          intro s g p l hp hl
          obtain ⟨rfl, i, rfl, hc⟩ := keyAt_some hp
          rcases hc with ⟨q, hq, rfl⟩ | ⟨h1, h2, rfl⟩
          · exact .inl (old i q l hq hl)
          · refine .inr ⟨rfl, Nat.le_add_right _ _, ?_, ?_⟩
            · show N.length + (gn NB + (i - N.length) - gn NB) < bs'.length
              omega
            · show σ' (BIG + (N.length + (gn NB + (i - N.length) - gn NB))) 0 l
              rw [show N.length + (gn NB + (i - N.length) - gn NB) = i by omega]
              exact hl
        have e : Ext ro ro' σ σ2 := ⟨he.f, fun s g l hl => .inl hl⟩
        have place : ∀ s g B, laidH N (gn NB) cs hp s g = some B → (∃ i, mkHp bs' (BIG + i) 0 = some ⟨(((bs'[i]?).getD none).getD ⟨[], false, false⟩).es, B.fr⟩ ∧ i < bs'.length ∧ (∀ l, σ2 s g l ↔ σ' (BIG + i) 0 l) ∧
              (∃ b, bs'[i]? = some (some b) ∧ (renA.renL (keyAt N NB (gn NB) bs'.length) b.es = some B.es ∨ (B.es = b.es ∧ gNo b.es = true))) ∧ ((∃ k, N[i]? = some k ∧ k.1 = (s, g)) ∨ (N.length ≤ i ∧ s = NB ∧ g = gn NB + (i - N.length)))) ∨
              (hp s g = some B ∧ (∀ k ∈ N, k.1 ≠ (s, g)) ∧ ¬ (s = NB ∧ gn NB ≤ g)) := by
          intro s g B hB
          have mk : ∀ i, ((cs[i]?).getD none).map (fun b => (⟨b.es, b.fr⟩ : Blk)) = some B → i < bs'.length ∧ mkHp bs' (BIG + i) 0 = some ⟨(((bs'[i]?).getD none).getD ⟨[], false, false⟩).es, B.fr⟩ ∧
              (∃ b, bs'[i]? = some (some b) ∧ (renA.renL (keyAt N NB (gn NB) bs'.length) b.es = some B.es ∨ (B.es = b.es ∧ gNo b.es = true))) := by
            intro i hi
            cases hc' : cs[i]? with
            | none => rw [hc'] at hi; cases hi
            | some o =>
              cases o with
              | none => rw [hc'] at hi; cases hi
              | some c =>
                rw [hc'] at hi
                simp only [Option.getD_some, Option.map_some, Option.some.injEq] at hi
                subst hi
                obtain ⟨b, hb, h3, h4, h5⟩ := hcat i c hc'
                have hlt : i < bs'.length := (List.getElem?_eq_some_iff.1 hb).1
                refine ⟨hlt, ?_, b, hb, ?_⟩
                · unfold mkHp
                  rw [if_pos ⟨rfl, by omega⟩, show BIG + i - BIG = i by omega, hb]
                  simp [h3]
                · cases hpt : b.pt with
                  | true => exact .inl (h4 hpt)
                  | false => exact .inr ⟨h5 hpt, bsOk_at hok' hb hpt⟩
          unfold laidH at hB
          split at hB
          · rename_i i hi
            obtain ⟨j, k, rfl, hj, hk1, hk2⟩ := ixK_at hi
            rw [Nat.zero_add] at hB
            obtain ⟨h1, h2, h3⟩ := mk j hB
            refine .inl ⟨j, h2, h1, fun l => ⟨fun hl => ?_, fun hl => ?_⟩, h3, .inl ⟨k, hj, Prod.ext hk1 hk2⟩⟩
            · rcases hl with hl | ⟨rfl, hg, _, _⟩
              · exact he.s j l (by have := (List.getElem?_eq_some_iff.1 hj).1; omega) ⟨j, k, hj, rfl, rfl, by rw [hk1, hk2]; exact hl⟩
              · have hjl : j < N.length := (List.getElem?_eq_some_iff.1 hj).1
                obtain ⟨b, hb⟩ := allS_at hok.1 (i := j) (by omega)
                obtain ⟨k', B0, e1, e2, _⟩ := hat j b hb
                rw [hj] at e1
                cases e1
                obtain ⟨l0, hl0, _⟩ := hh.blk _ _ _ e2
                have := hh.lt _ _ _ hl0
                rw [hk1, hk2] at this
                omega
            · have := old j k l hj hl
              rw [hk1, hk2] at this
              exact .inl this
          · rename_i hn
            split at hB
            · rename_i hc'
              obtain ⟨rfl, hge⟩ := hc'
              obtain ⟨h1, h2, h3⟩ := mk _ hB
              refine .inl ⟨N.length + (g - gn NB), h2, h1, fun l => ⟨fun hl => ?_, fun hl => .inr ⟨rfl, hge, h1, hl⟩⟩, h3, .inr ⟨by omega, rfl, by omega⟩⟩
              rcases hl with hl | ⟨_, _, _, hl⟩
              · have := hh.lt _ _ _ hl; omega
              · exact hl
            · rename_i hc'
              exact .inr ⟨hB, ixK_none hn, hc'⟩
        have oldl : ∀ s g l, σ2 s g l → ¬ (s = NB ∧ gn NB ≤ g) → σ s g l := by
          intro s g l hl hne
          rcases hl with hl | ⟨h1, h2, _⟩
          · exact hl
          · exact absurd ⟨h1, h2⟩ hne
        have same : ∀ s g B b sz NN, hp s g = some B → (∀ k ∈ N, k.1 ≠ (s, g)) → σ s g (.real b sz NN) → w'.heap[b]? = w.heap[b]? ∧ (B.fr = false → Hc b) ∧ (B.fr = true → ro'.F b) := by
          intro s g B b sz NN hB hne hσ
          cases hfr : B.fr with
          | true =>
            have hF := hh.frz _ _ _ _ _ _ hB hfr hσ
            obtain ⟨f1, f2⟩ := he.f b hF
            exact ⟨((h'.fr b f1).2.trans f2).trans (hh.fr b hF).2.symm, fun h => (by cases h), fun _ => f1⟩
          | false =>
            have hH : Hc b := .inr ⟨s, g, B, sz, NN, hB, hfr, hne, hσ⟩
            exact ⟨(h'.hid b hH).2, fun _ => hH, fun h => (by cases h)⟩
        refine ⟨ro', σ2, e, ⟨h'.below, h'.fr, h'.sub, ?_, ?_, ?_, ?_, ?_, ?_, ?_, ?_, ?_⟩, renA_rep hψ hrv x' hx'⟩
        · intro s g l l' h1 h2
          rcases h1 with h1 | ⟨e1, e2, e3, h1⟩ <;> rcases h2 with h2 | ⟨f1, f2, f3, h2⟩
          · exact hh.fn _ _ _ _ h1 h2
          · subst f1; have := hh.lt _ _ _ h1; omega
          · subst e1; have := hh.lt _ _ _ h2; omega
          · exact h'.fn _ _ _ _ h1 h2
        · intro s g l h1
          rcases h1 with h1 | ⟨rfl, e2, e3, h1⟩
          · have := hh.lt _ _ _ h1
            show g < if s = NB then gn NB + (bs'.length - N.length) else gn s
            split
            · subst_vars; omega
            · exact this
          · show g < if NB = NB then gn NB + (bs'.length - N.length) else gn NB
            rw [if_pos rfl]; omega
        · intro s g B hB
          rcases place s g B hB with ⟨i, h1, h2, h3, ⟨b, hb, h4⟩, _⟩ | ⟨h1, h2, h3⟩
          · obtain ⟨l, hl, hblk⟩ := h'.blk _ _ _ h1
            rw [hb] at hblk
            exact ⟨l, (h3 l).2 hl, hblk.ren hψ h4⟩
          · obtain ⟨l, hl, hblk⟩ := hh.blk _ _ _ h1
            refine ⟨l, .inl hl, hblk.mono e (fun b sz NN hl' => ?_)⟩
            subst hl'
            exact (same _ _ _ _ _ _ h1 h2 hl).1
        · intro s g B b sz NN hB hfr hσ
          rcases place s g B hB with ⟨i, h1, h2, h3, _, _⟩ | ⟨h1, h2, h3⟩
          · exact h'.own _ _ _ _ _ _ h1 hfr ((h3 _).1 hσ)
          · have hσ0 := oldl _ _ _ hσ h3
            exact ⟨fun hF => h'.dis b hF ((same _ _ _ _ _ _ h1 h2 hσ0).2.1 hfr), (hh.own _ _ _ _ _ _ h1 hfr hσ0).2⟩
        · intro s g B b sz NN hB hfr hσ
          rcases place s g B hB with ⟨i, h1, h2, h3, _, _⟩ | ⟨h1, h2, h3⟩
          · exact h'.frz _ _ _ _ _ _ h1 hfr ((h3 _).1 hσ)
          · exact (same _ _ _ _ _ _ h1 h2 (oldl _ _ _ hσ h3)).2.2 hfr
        · intro s g B s2 g2 B2 b sz NN sz2 NN2 hB hB2 hfr hσ hσ2
          rcases place s g B hB with ⟨i, h1, h2, h3, _, hi⟩ | ⟨h1, h2, h3⟩ <;> rcases place s2 g2 B2 hB2 with ⟨j, f1, f2, f3, _, hj⟩ | ⟨f1, f2, f3⟩
          · obtain ⟨e1, _⟩ := h'.inj _ _ _ _ _ _ _ _ _ _ _ h1 f1 hfr ((h3 _).1 hσ) ((f3 _).1 hσ2)
            have e1 : i = j := by omega
            subst e1
            rcases hi with ⟨k, hk, ek⟩ | ⟨n1, n2, n3⟩ <;> rcases hj with ⟨q, hq, eq⟩ | ⟨m1, m2, m3⟩
            · rw [hk] at hq; cases hq
              rw [ek] at eq
              exact ⟨congrArg Prod.fst eq, congrArg Prod.snd eq⟩
            · have := (List.getElem?_eq_some_iff.1 hk).1; omega
            · have := (List.getElem?_eq_some_iff.1 hq).1; omega
            · exact ⟨by rw [n2, m2], by rw [n3, m3]⟩
          · have hs2 := same _ _ _ _ _ _ f1 f2 (oldl _ _ _ hσ2 f3)
            cases hfr2 : B2.fr with
            | false => exact absurd (hs2.2.1 hfr2) (h'.oh _ _ _ _ _ _ h1 hfr ((h3 _).1 hσ))
            | true => exact absurd (hs2.2.2 hfr2) (h'.own _ _ _ _ _ _ h1 hfr ((h3 _).1 hσ)).1
          · have hs1 := (same _ _ _ _ _ _ h1 h2 (oldl _ _ _ hσ h3)).2.1 hfr
            cases hfr2 : B2.fr with
            | false => exact absurd hs1 (h'.oh _ _ _ _ _ _ f1 hfr2 ((f3 _).1 hσ2))
            | true => exact absurd hs1 (h'.dis b (h'.frz _ _ _ _ _ _ f1 hfr2 ((f3 _).1 hσ2)))
          · exact hh.inj _ _ _ _ _ _ _ _ _ _ _ h1 f1 hfr (oldl _ _ _ hσ h3) (oldl _ _ _ hσ2 f3)
        · intro b hb
          obtain ⟨h1, h2⟩ := h'.hid b (.inl hb)
          exact ⟨h1, h2.trans (hh.hid b hb).2⟩
        · intro b hF hb
          exact h'.dis b hF (.inl hb)
        · intro s g B b sz NN hB hfr hσ hb
          rcases place s g B hB with ⟨i, h1, h2, h3, _, hi⟩ | ⟨h1, h2, h3⟩
          · exact h'.oh _ _ _ _ _ _ h1 hfr ((h3 _).1 hσ) (.inl hb)
          · exact hh.oh _ _ _ _ _ _ h1 hfr (oldl _ _ _ hσ h3) hb
      · cases h
    · cases h
  · cases h
theorem callF_run {C : Cfg} {rc : Rec} (hrc : CodeOk C rc) (hP : ProgOk C) (hX : ExtOk C) {f : FuncId} {args : List AV} {hp hp' : Hp} {gn gn' : Nat → Nat} {x : AV} (h : callF C rc f args hp gn = some (x, hp', gn'))
    {w0 : Base} {w : World} {ro : RO} {σ : Map} (hh : HRep w0 w ro σ hp gn) {vals : Array Value} (ha : RVs ro σ args vals) :
    Goes C.P f vals w (fun v w' => ∃ ro' σ', Ext ro ro' σ σ' ∧ HRep w0 w' ro' σ' hp' gn' ∧ RV ro' σ' x v) := by
  unfold callF at h
  split at h
  · rename_i g hg
    exact memF_run (fun as bs r hr => hX.2.2 f g as bs r hg hr) h hh ha
  split at h
  · cases h
  · rename_i hsk
    have hsk : C.skip f = false := by simpa using hsk
    split at h
    · cases h
    · rename_i fn hf
      split at h
      · cases h
      · rename_i c hb
        obtain ⟨hst, hnm⟩ := hP f fn c hsk hf hb
        refine .inl ⟨callFunc_enter hf hb hnm vals w, calls_of_wp hf hb ?_⟩
        have hn : fn.ntmps ≤ vals.size + (fn.ntmps - vals.size) := by omega
        have main : ∀ (e : E) (s : St), rc c { sl := fun i => args.getD i .undef, hp, gn } = some (e, s) → (e = .normal ∨ e = .ret) → Option.map (fun vs => (resT vs, s.hp, s.gn)) (List.mapM (resV C.P s) fn.results.toList) = some (x, hp', gn') →
            Code.wp C.P c (bodyPost C.P fn (fun e w' => ∃ v, e = .returned v ∧ ∃ ro' σ', Ext ro ro' σ σ' ∧ HRep w0 w' ro' σ' hp' gn' ∧ RV ro' σ' x v)) { tmps := vals ++ Array.replicate (fn.ntmps - vals.size) Go.undef, defers := [] } w := by
          intro e s hr he hm
          simp only [Option.map_eq_some_iff, Prod.mk.injEq] at hm
          obtain ⟨vs, hvs, rfl, rfl, rfl⟩ := hm
          refine wp_mono (hrc c fn.ntmps _ _ s e ⟨w0.w, w0.F, [], w0.H, w0.hw⟩ w ro σ _ hr hst hn (hh.on []) (SRep.enter rfl ha fn.ntmps)) (fun x a' w' ⟨hx, ro', σ', he', hh', hs'⟩ => ?_)
          obtain ⟨v, hv, hrv⟩ := results_run hh' hs' hvs
          have : bodyPost C.P fn (fun e w' => ∃ v, e = .returned v ∧ ∃ ro' σ', Ext ro ro' σ σ' ∧ HRep w0 w' ro' σ' s.hp s.gn ∧ RV ro' σ' (resT vs) v) .normal a' w' := ⟨hs'.nodef, v, hv, v, rfl, ro', σ', he', hh'.on w0.ds, hrv⟩
          rcases he with rfl | rfl
          · subst hx; exact this
          · subst hx; exact this
        split at h
        · rename_i s hr; exact main _ s hr (.inl rfl) h
        · rename_i s hr; exact main _ s hr (.inr rfl) h
        · cases h
theorem FnOk.args {C : Cfg} {f : FuncId} {as : List AV} {r : AV} (h : FnOk C.P f (C.args f as) r) : FnOk C.P f as r := by
  unfold Cfg.args at h
  split at h
  · intro w F vals hF ha
    refine h w F vals hF ⟨by rw [List.length_map]; exact ha.1, fun j a v h1 h2 => ?_⟩
    rw [List.getElem?_map, Option.map_eq_some_iff] at h1
    obtain ⟨x, hx, rfl⟩ := h1
    exact (ha.2 j x v hx h2).norm
  · exact h
theorem semF_ok {C : Cfg} {rc : Rec} (hrc : CodeOk C rc) (hP : ProgOk C) (hX : ExtOk C) {f : FuncId} {as : List AV} {r : AV} (h : semF C rc f as = some r) : FnOk C.P f as r := by
  intro w F vals hF ha
  unfold semF at h
  simp only [Option.bind_eq_some_iff] at h
  obtain ⟨⟨x, hp', gn'⟩, hc, h⟩ := h
  refine (callF_run hrc hP hX hc (HRep.start hF) (ro := ⟨w, F⟩) (σ := fun _ _ _ => False) ⟨ha.1, fun j a v h1 h2 => .free (ha.2 j a v h1 h2)⟩).mono (fun v w' ⟨ro', σ', he, hh, hr⟩ => ⟨hh.below, ?_⟩)
  refine snapR_rep hh (fun b hb => ?_) (fun s g B b sz N hB hσ => ?_) h hr
  · rcases hh.sub b hb with h1 | h1
    · exact .inl h1
    · exact .inr ⟨h1, (hh.fr b hb).1⟩
  · obtain ⟨l, hl, hblk⟩ := hh.blk _ _ _ hB
    obtain rfl := hh.fn _ _ _ _ hl hσ
    by_cases hfr : B.fr = true
    · have hb := hh.frz _ _ _ _ _ _ hB hfr hσ
      rcases hh.sub b hb with h1 | h1
      · exact .inl h1
      · exact .inr ⟨h1, hblk.lt⟩
    · exact .inr ⟨(hh.own _ _ _ _ _ _ hB (by simpa using hfr) hσ).2, hblk.lt⟩
theorem fnV_ok {C : Cfg} {rc : Rec} (hrc : CodeOk C rc) (hP : ProgOk C) (hX : ExtOk C) {f : FuncId} {as : List AV} {r : AV} (h : fnV C rc f as = some r) : FnOk C.P f as r := by
  unfold fnV at h
  split at h
  · rename_i g hg; exact hX.1 f g as r hg h
  · exact FnOk.args (semF_ok hrc hP hX h)
theorem callStep_run {C : Cfg} {rc : Rec} (hrc : CodeOk C rc) (hP : ProgOk C) (hX : ExtOk C) {dst : Option Nat} {f : FuncId} {args : List AV} {st st' : St} (h : callStep C rc dst f args st = some st')
    {w0 : Base} {w : World} {ro : RO} {σ : Map} {n : Nat} {a : Act} (hh : HRep w0 w ro σ st.hp st.gn) (hs : SRep w0 ro σ n st.sl a) (hd : ∀ x, dst = some x → x < n) {vals : Array Value} (ha : RVs ro σ args vals) :
    Goes C.P f vals w (fun v w' => After w0 ro σ n st' (a.put dst v) w') := by
  unfold callStep at h
  split at h
  · rename_i p hp
    obtain ⟨z, by_⟩ := p
    unfold cloneStep at h
    split at h
    · rename_i d x
      simp only [Option.bind_eq_some_iff] at h
      obtain ⟨xs, hxs, h⟩ := h
      split at h
      · rename_i hc
        simp only [Option.some.injEq] at h
        subst h
        obtain ⟨v, rfl⟩ : ∃ v, vals = #[v] := by
          have h1 := ha.1
          obtain ⟨l⟩ := vals
          match l, h1 with
          | [v], _ => exact ⟨v, rfl⟩
        have hx : RV ro σ x v := ha.2 0 x v rfl rfl
        have hall : ∀ y ∈ xs, y.cells.length = z ∧ y.ok = true := fun y hy => by
          have := List.all_eq_true.1 hc.2.1 y hy
          simp only [Bool.and_eq_true, decide_eq_true_eq] at this
          exact ⟨this.2, this.1⟩
        exact (hX.2.1 f z by_ hp w0 w ro σ st.hp st.gn x v xs d hh hx hxs hall hc.1 hc.2.2.1 hc.2.2.2).mono (fun u w' ⟨ro', σ', he, hh', hr⟩ =>
          ⟨ro', σ', he, hh', SRep.put (s := st.new d xs) (d := some d) (hs.mono he) hd hr⟩)
      · cases h
    · cases h
  split at h
  · simp only [Option.map_eq_some_iff] at h
    obtain ⟨⟨x, hp', gn'⟩, hc, rfl⟩ := h
    refine (callF_run hrc hP hX hc hh ha).mono (fun v w' ⟨ro', σ', he, hh', hr⟩ => ⟨ro', σ', he, ?_, ?_⟩)
    · exact HRep.putO (s := st.mem hp' gn') hh' _ _
    · exact SRep.put (s := st.mem hp' gn') (hs.mono he) hd hr
  · split at h
    · simp only [Option.bind_eq_some_iff, Option.map_eq_some_iff] at h
      obtain ⟨as, has, r, hr, rfl⟩ := h
      obtain ⟨hlen, hat⟩ := mapM_at has
      obtain ⟨hf, hfe⟩ := hh.freeze (args.flatMap (refs st.hp DEEP))
      have hrf : RFs ⟨w, fun b => ro.F b ∨ Led st.hp σ (args.flatMap (refs st.hp DEEP)) b⟩ as vals := by
        refine ⟨by rw [← hlen]; exact ha.1, fun j y v hy hv => ?_⟩
        obtain ⟨x, hx, hsn⟩ := hat j y hy
        exact (snap_rep hh (fun b hb => .inl hb) _ _ _ _ hsn (ha.2 j x v hx hv) (fun b hb => .inr (hb.mono (fun p hp => List.mem_flatMap.2 ⟨x, List.mem_of_getElem? hx, hp⟩)))).1
      refine (fnV_ok hrc hP hX hr w _ vals (fun b hb => (hf.fr b hb).1) hrf).mono (fun v w' ⟨hb, hrr⟩ => ?_)
      unfold AV.led
      split
      · rename_i hfl
        obtain ⟨hf0, hfe0⟩ := hh.freeze []
        obtain ⟨h1, h2⟩ := hf0.onward hb
        have e := hfe0.trans h2
        exact ⟨_, σ, e, HRep.putO h1 _ _, SRep.put (s := st.frz _) (hs.mono e) hd (hrr.flat hfl).rv⟩
      · obtain ⟨h1, h2⟩ := hf.onward hb
        have e := hfe.trans h2
        exact ⟨_, σ, e, HRep.putO h1 _ _, SRep.put (s := st.frz _) (hs.mono e) hd hrr.rv⟩
    · cases h
theorem wp_goes {P : Program} {o : Oper} {a : Act} {w : World} {f : FuncId} {vals : Array Value} {R : Value → World → Prop} {K : Act → World → Prop} {Q : Exit → Act → World → Prop} (he : (execOp a.eval o).run P w = (callFunc f vals).run P w)
    (h : Goes P f vals w R) (hk : ∀ v w', R v w' → K (a.put o.dst v) w') : o.wp P a w K Q := by
  unfold Oper.wp
  rw [he]
  rcases h with ⟨h1, h2⟩ | ⟨v, w', h1, h2⟩
  · rw [h1]
    simp only [Oper.upon]
    exact Calls.mono h2 (fun e w' ⟨v, hv, hr⟩ => by subst hv; exact hk v w' hr)
  · rw [h1]
    exact hk v w' h2
theorem same_run {P : Program} {w0 : Base} {w : World} {ro : RO} {σ : Map} {n : Nat} {st : St} {a : Act} (hh : HRep w0 w ro σ st.hp st.gn) (hs : SRep w0 ro σ n st.sl a) {y : AV} {v : Value} (ho : ownRow st.hp y = true) (hy : RV ro σ y v) {s e : TypeId}
    (h1 : P.underlying s = some (.slice e)) (h2 : P.underlying e = some (.int .u8)) : ∃ w', (convert s s v).run P w = .ok v w' ∧ HRep w0 w' ro σ st.hp st.gn ∧ RV ro σ y v := by
  unfold ownRow at ho
  split at ho
  · rename_i z a' g lo len
    split at ho
    · rename_i B hB
      simp only [Bool.and_eq_true, Bool.not_eq_true', List.isEmpty_eq_false_iff] at ho
      obtain ⟨hfr, hne⟩ := ho
      obtain ⟨l, hlσ, hblk⟩ := hh.blk _ _ _ hB
      rcases hy.sl_inv with ⟨hσ, rfl, rfl, A', rfl⟩ | ⟨b, N, c, hσ, hnc, hN, rfl⟩
      · obtain rfl := hh.fn _ _ _ _ hlσ hσ
        exact absurd hblk hne
      · obtain rfl := hh.fn _ _ _ _ hlσ hσ
        obtain ⟨arr, et, fz, k1, k2, k3, k4, k5, k6, k7⟩ := hblk
        have hrun : ∀ w', (Sem.run P (markStringish ⟨b, lo * z, none⟩) w = .ok () w') → (convert s s (.slice (some ⟨b, lo * z, none⟩) len c)).run P w = .ok (.slice (some ⟨b, lo * z, none⟩) len c) w' := by
          intro w' hw
          simp [convert, run_underlying h1, run_underlying h2, hw]
        cases hsh : w.shape? b with
        | none =>
          exact ⟨w, hrun w (by simp [markStringish, hsh]), hh, hy⟩
        | some p =>
          obtain ⟨p1, m⟩ := p
          have hm : m = N := by
            unfold World.shape? at hsh
            rw [k1] at hsh
            simp at hsh
            omega
          subst hm
          refine ⟨w.freeze ⟨b, m, none⟩ 1, hrun _ (by simp [markStringish, hsh]), ?_, hy⟩
          have hheap : ∀ k, k ≠ b → (w.freeze ⟨b, m, none⟩ 1).heap[k]? = w.heap[k]? := fun k hk => by
            simp only [World.freeze, Nat.one_ne_zero, if_false, Array.getElem?_modify]
            rw [if_neg (fun e => hk e.symm)]
          have hsz : (w.freeze ⟨b, m, none⟩ 1).heap.size = w.heap.size := by simp [World.freeze]
          have hself : (w.freeze ⟨b, m, none⟩ 1).heap[b]? = some (.cells arr et (if fz.1 == fz.2 then (m, m + 1) else (min fz.1 m, max fz.2 (m + 1)))) := by
            simp only [World.freeze, Nat.one_ne_zero, if_false, Array.getElem?_modify, if_true, k1, Option.map_some]
          have hg : w.grownBy (w.freeze ⟨b, m, none⟩ 1) (some b) := ⟨rfl, rfl, rfl, by rw [hsz]; exact Nat.le_refl _, fun k hk hne => hheap k (fun e => hne (by rw [e]))⟩
          have := hh.turn hB hfr hσ (es := B.es) hg ⟨arr, et, _, hself, k2, ?_, k4, k5, k6, k7⟩
          · have e : (fun x y => if x = a' ∧ y = g then some ⟨B.es, false⟩ else st.hp x y) = st.hp := by
              funext x y
              split
              · rename_i hc; rw [hc.1, hc.2, hB]; obtain ⟨es, fr⟩ := B; simp at hfr; subst hfr; rfl
              · rfl
            rw [e] at this
            exact this
          · rcases k3 with k3 | k3
            · simp only [k3, beq_self_eq_true, if_true]
              exact .inr ⟨Nat.le_refl _, by simp⟩
            · right
              split
              · exact ⟨Nat.le_refl _, by simp⟩
              · simp only; omega
    · cases ho
  · cases ho
theorem step_ok {C : Cfg} {rc : Rec} (hrc : CodeOk C rc) (hP : ProgOk C) (hX : ExtOk C) {o : Oper} {st st' : St} (h : step C rc o st = some st') {w0 : Base} {w : World} {ro : RO} {σ : Map} {n : Nat} {a : Act}
    (hh : HRep w0 w ro σ st.hp st.gn) (hs : SRep w0 ro σ n st.sl a) (hd : ∀ x, o.dst = some x → x < n) {K : Act → World → Prop} {Q : Exit → Act → World → Prop} (hK : ∀ a' w', After w0 ro σ n st' a' w' → K a' w') : o.wp C.P a w K Q := by
  obtain ⟨dst, op, ty, pos, aft, gd⟩ := o
  have hev : ∀ x, RV ro σ (st.ev x) (a.eval x) := fun x => ev_rep hs x
  have hpure : ∀ {op : Op}, Option.map (st.putO dst) (pureV C.P st.ev op) = some st' → Oper.wp C.P ⟨dst, op, ty, pos, aft, gd⟩ a w K Q := by
    intro op h
    simp only [Option.map_eq_some_iff] at h
    obtain ⟨r, hr, rfl⟩ := h
    obtain ⟨v, hv, hrv⟩ := pureV_run (o := ⟨dst, op, ty, pos, aft, gd⟩) hev (fun _ => rfl) hr w
    exact wp_value hv (hK _ _ ⟨ro, σ, Ext.refl ro σ, HRep.putO hh _ _, SRep.put hs hd hrv⟩)
  unfold step at h
  simp only at h hd
  split at h
  · rename_i t x
    simp only [Option.map_eq_some_iff] at h
    obtain ⟨r, hr, rfl⟩ := h
    obtain ⟨v, hv, hrv⟩ := loadV_run (P := C.P) hh hr (hev x)
    exact wp_value (v := v) (w' := w) (by simp [execOp, hv]) (hK _ _ ⟨ro, σ, Ext.refl ro σ, HRep.putO hh _ _, SRep.put hs hd hrv⟩)
  · rename_i t
    simp only [Option.bind_eq_some_iff] at h
    obtain ⟨z, hz, m, hm, h⟩ := h
    obtain ⟨i, zv, hi, hiz, hrz, hzrun⟩ := tzero_rep (ro := ro) (σ := σ) hz
    exact wp_value (v := .pointer (some ⟨w.heap.size, 0, none⟩)) (w' := w.alloc (.cells zv.cells t)) (by simp [execOp, Instr.alloc, hzrun, newVar, newRow]) (hK _ _ (newStep_run hh hs hd hrz h t))
  · rename_i t x
    simp only [Option.bind_eq_some_iff] at h
    obtain ⟨m, hm, h⟩ := h
    exact wp_value (v := .pointer (some ⟨w.heap.size, 0, none⟩)) (w' := w.alloc (.cells (a.eval x).cells t)) (by simp [execOp, Instr.box, newVar, newRow]) (hK _ _ (newStep_run hh hs hd (hev x) h t))
  · rename_i t len parts
    simp only [Option.bind_eq_some_iff] at h
    obtain ⟨e, he, z, hz, zv, hzv, h⟩ := h
    split at h
    · rename_i hc
      obtain ⟨v, w', hv, haft⟩ := buildSlice_run (P := C.P) hh hs hd he hz hzv hc.1 hc.2.1 hc.2.2.1 hc.2.2.2 h
      exact wp_value (v := v) (w' := w') (by simp only [execOp, Sem.run_bind]; rw [hv]; rfl) (hK _ _ haft)
    · cases h
  · rename_i t x y
    simp only [Option.bind_eq_some_iff] at h
    obtain ⟨e, he, z, hz, by_, hb, zv, hzv, i, hi, j, hj, h⟩ := h
    split at h
    · rename_i hc
      obtain ⟨rfl, h0, h1, h2, hzo, hzl⟩ := hc
      obtain ⟨k1, hk1⟩ := asI_inv hi (hev x)
      obtain ⟨k2, hk2⟩ := asI_inv hj (hev y)
      obtain ⟨v, w', hv, haft⟩ := makeSlice_run (P := C.P) (k1 := k1) (k2 := k2) hh hs hd he hz hb hzv h0 h1 h2 h hzo hzl
      exact wp_value (v := v) (w' := w') (by simp only [execOp, hk1, hk2, Sem.run_bind]; rw [hv]; rfl) (hK _ _ haft)
    · cases h
  · rename_i t x lo hi mx
    split at h
    · rename_i n' e ht
      split at h
      · rename_i hmx
        obtain rfl : mx = none := by simpa using hmx
        simp only [Option.map_eq_some_iff] at h
        obtain ⟨r, hr, rfl⟩ := h
        obtain ⟨u, hu, hru⟩ := arr_run (P := C.P) hh ht (hev x) (or_map hev lo) (or_map hev hi) hr
        obtain ⟨hf, hfe⟩ := hh.freeze r.2
        exact wp_value (v := u) (w' := w) (by simp [execOp, hu]) (hK _ _ ⟨_, σ, hfe, HRep.putO hf _ _, SRep.put (s := st.frz r.2) (hs.mono hfe) hd (.free hru)⟩)
      · cases h
    · exact hpure h
  · rename_i t x y
    simp only [Option.map_eq_some_iff] at h
    obtain ⟨s1, h1, rfl⟩ := h
    obtain ⟨w', hv, ro', σ', he, hh', hs'⟩ := storeStep_run hh hs (hev x) (hev y) h1
    exact wp_skip' (w' := w') (by simp [execOp, hv]) (hK _ _ ⟨ro', σ', he, HRep.putO hh' _ _, SRep.put hs' hd .undef⟩)
  · rename_i s d x
    split at h
    · rename_i b hb
      split at h
      · exact hpure h
      · simp only [Option.bind_eq_some_iff] at h
        obtain ⟨e, he, h⟩ := h
        split at h
        · rename_i hc
          have hx := hev x
          rw [hb] at hx
          obtain ⟨v, w', hv, haft⟩ := toBytes_run (P := C.P) hh hs hd (tstr_some hc.2.2) (tsl_some he) (tint_some hc.1) h
          exact wp_value (v := v) (w' := w') (by simp [execOp, hx.str_inv, hv]) (hK _ _ haft)
        · cases h
    · exact hpure h
    · split at h
      · rename_i hds
        split at h
        · rename_i hc
          obtain ⟨rfl, hc1, hc2⟩ := hc
          obtain ⟨e, he⟩ := Option.isSome_iff_exists.1 hds
          rw [he] at hc1
          simp only [Option.bind_some] at hc1
          simp only [Option.some.injEq] at h
          subst h
          obtain ⟨w', hv, hh', hr⟩ := same_run (P := C.P) hh hs hc2 (hev x) (tsl_some he) (tint_some hc1)
          exact wp_value (v := a.eval x) (w' := w') (by simp [execOp, hv]) (hK _ _ ⟨ro, σ, Ext.refl ro σ, HRep.putO hh' _ _, SRep.put hs hd hr⟩)
        · cases h
      simp only [Option.bind_eq_some_iff] at h
      obtain ⟨e, he, h⟩ := h
      split at h
      · rename_i hc
        simp only [Option.bind_eq_some_iff, Option.map_eq_some_iff] at h
        obtain ⟨xs, hxs, bs, hbs, rfl⟩ := h
        have hv := toStr_run (P := C.P) hh (hev x) (tsl_some he) (tint_some hc.1) (tstr_some hc.2.2) hxs hbs
        exact wp_value (v := .string ⟨bs.toArray⟩) (w' := w) (by simp [execOp, hv]) (hK _ _ ⟨ro, σ, Ext.refl ro σ, HRep.putO hh _ _, SRep.put hs hd (.free (.str _))⟩)
      · cases h
  · rename_i c
    obtain ⟨callee, args, argTypes⟩ := c
    split at h
    · rename_i f hcal
      simp only at hcal
      subst hcal
      split at h
      · rename_i g fst caps hfn
        have hf := hev f
        rw [hfn] at hf
        obtain ⟨uf, us, hu, ⟨hl0, hat0⟩, hl, hat⟩ := hf.fn_inv
        refine wp_goes (f := g) (vals := uf ++ args.map a.eval ++ us) ?_ (callStep_run hrc hP hX h hh hs hd ⟨by simp [hl, hl0], at_append (by simp [hl0]) (at_append hl0 hat0 (at_map hev args)) hat⟩) (fun v w' h => hK _ _ h)
        · simp [execOp, resolve, hu, Deferred.ofValue, invoke]
      · cases h
    · rename_i hcal
      simp only at hcal
      subst hcal
      split at h
      · rename_i d s x t1 t2 hargs hts
        simp only at hargs hts
        obtain rfl : args = #[s, x] := by rw [← Array.toArray_toList (xs := args), hargs]
        obtain rfl : argTypes = #[t1, t2] := by rw [← Array.toArray_toList (xs := argTypes), hts]
        obtain ⟨v, w', hv, haft⟩ := appendStep_run (P := C.P) (ty := ty) hh hs (hd d rfl) (hev s) (hev x) h
        exact wp_value (v := v) (w' := w') (by simp [execOp, resolve, invoke, builtin, hv]) (hK _ _ haft)
      · cases h
    · rename_i hcal
      simp only at hcal
      subst hcal
      split at h
      · rename_i s x t1 t2 hargs hts
        simp only at hargs hts
        obtain rfl : args = #[s, x] := by rw [← Array.toArray_toList (xs := args), hargs]
        obtain rfl : argTypes = #[t1, t2] := by rw [← Array.toArray_toList (xs := argTypes), hts]
        obtain ⟨v, w', hv, haft⟩ := copyStep_run (P := C.P) (ty := ty) (t2 := t2) hh hs hd (hev s) (hev x) h
        exact wp_value (v := v) (w' := w') (by simp [execOp, resolve, invoke, builtin, hv]) (hK _ _ haft)
      · cases h
    · exact hpure h
  · exact hpure h
end Vai
