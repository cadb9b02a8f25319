import Derived.Test.YtjienkojedlfjaaVoI
namespace Vai
open Go Go.RowKit
set_option linter.unusedVariables false
set_option linter.unusedSimpArgs false
def keeps (G : Nat → Prop) (W W' : World) : Prop := ∀ b, G b → W'.heap[b]? = W.heap[b]?
def Yields1 (P : Program) (l : Nat) (xs : Array Value) (W : World) (R : Ending → World → Prop) : Prop :=
  ∃ fn tmps assign body, (Instr.yield l xs).run P W = .ok (.round l fn tmps assign body) W ∧ RoundIn Fence.wide 0 P l fn tmps assign body W R
def ItrOk (P : Program) (f : FuncId) (as : List AV) (outs : List (List AV)) : Prop :=
  ∀ (w : World) (F : Nat → Prop) (vals : Array Value) (l : Nat) (J : Nat → (Nat → Prop) → World → Prop) (Jx : World → Prop),
    (∀ b, F b → b < w.heap.size) → RVs ⟨w, F⟩ (fun _ _ _ => False) as vals →
    (∀ i G W W', J i G W → Below W.heap.size W W' → J i (fun b => G b ∨ (W.heap.size ≤ b ∧ b < W'.heap.size)) W') →
    (∀ W W', Jx W → Below W.heap.size W W' → Jx W') →
    (∀ i G W x xs, J i G W → outs[i]? = some x → RFs ⟨W, G⟩ x xs → Yields1 P l xs W fun e W' => ∃ b, e = .returned (.bool b) ∧ keeps G W W' ∧ (if b = true then J (i + 1) G W' else Jx W')) →
    J 0 F w →
    Calls P f (#[.func (.yield l) #[] #[]] ++ vals) w fun e W' => ∃ v, e = .returned v ∧ ((∃ G, J outs.length G W') ∨ Jx W')
def cptV (hp : Hp) : AV → Option (AV × (Nat × Nat))
  | .ptr s g i off => (hp s g).bind fun B => (B.es[i]?).bind fun x => if (x.cells.drop off).all AV.free then some (.rptr (x.cells.drop off), (s, g)) else none
  | _ => none
def putL (sl : Nat → AV) : List Nat → List AV → Nat → AV
  | p :: ps, v :: vs => putL (fun i => if i = p then v else sl i) ps vs
  | _, _ => sl
def rnds (fa fb : St → Option (E × St)) (ps : List Nat) (sl : Nat → AV) : List (List AV) → St → Option (E × St)
  | [], s => some (.normal, { s with sl := sl })
  | x :: xs, s => if x.length = ps.length then
      match fa { s with sl := putL sl ps x } with
      | some (.normal, s1) => match fb s1 with
        | some (.normal, s2) => rnds fa fb ps sl xs s2
        | some (e, s2) => some (e, { s2 with sl := sl })
        | none => none
      | _ => none
    else none
abbrev markD (D : Nat) : Deferred := { target := .collected D, args := #[] }
def codeE : E → Code
  | .normal => .skip
  | .exit i => .exit i
  | .ret => .ret
theorem params_rep {w0 : Base} {ro : RO} {σ : Map} {n : Nat} : ∀ (ps : List Nat) (x : List AV) (xs : List Value) (sl : Nat → AV) (tmps : Array Value), (∀ p ∈ ps, p < n) → x.length = xs.length → tmps.size = n →
    (∀ d, RV ro σ (sl d) (tmps.getD d Go.undef)) → (∀ (j : Nat) (u : AV) (v : Value), x[j]? = some u → xs[j]? = some v → RV ro σ u v) →
    ((ps.zip xs).foldl (fun t (p : Nat × Value) => t.setIfInBounds p.1 p.2) tmps).size = n ∧ ∀ d, RV ro σ (putL sl ps x d) (((ps.zip xs).foldl (fun t (p : Nat × Value) => t.setIfInBounds p.1 p.2) tmps).getD d Go.undef)
  | [], x, xs, sl, tmps, _, _, hn, h, _ => ⟨hn, by cases x <;> exact h⟩
  | p :: ps, [], [], sl, tmps, _, _, hn, h, _ => ⟨hn, h⟩
  | p :: ps, [], _ :: _, _, _, _, hl, _, _, _ => by cases hl
  | p :: ps, _ :: _, [], _, _, _, hl, _, _, _ => by cases hl
  | p :: ps, u :: x, v :: xs, sl, tmps, hp, hl, hn, h, hv => by
    have h0 : RV ro σ u v := hv 0 u v rfl rfl
    refine params_rep (w0 := w0) ps x xs (fun i => if i = p then u else sl i) (tmps.setIfInBounds p v) (fun q hq => hp q (List.mem_cons_of_mem _ hq)) (by simpa using hl) (by simpa using hn) (fun d => ?_) (fun j a b ha hb => hv (j + 1) a b (by simpa using ha) (by simpa using hb))
    have hlt := hp p (List.mem_cons_self ..)
    simp only [Array.getD_eq_getD_getElem?]
    by_cases hd : d = p
    · subst hd
      rw [if_pos rfl, Array.getElem?_setIfInBounds_self_of_lt (by omega)]
      exact h0
    · rw [if_neg hd, Array.getElem?_setIfInBounds_ne (Ne.symm hd), ← Array.getD_eq_getD_getElem?]
      exact h d
theorem Ext.drop {ro ro2 : RO} {σ σ2 : Map} {w0 : Base} {w1 w' : World} {hp : Hp} {gn : Nat → Nat} {l : Nat} (h : Ext ro ro2 σ σ2) (hh : HRep w0 w1 ro2 σ2 hp gn) (hne : ∀ b, ro.F b → b ≠ l) (hg : w1.grownBy w' (some l)) :
    Ext ro ⟨w', fun b => ro2.F b ∧ b ≠ l⟩ σ σ2 :=
  ⟨fun b hb => ⟨⟨(h.f b hb).1, hne b hb⟩, ((hg.block b (hh.fr b (h.f b hb).1).1 (fun e => hne b hb (by cases e; rfl))).trans (hh.fr b (h.f b hb).1).2).trans (h.f b hb).2⟩, h.s⟩
theorem grown_put (W : World) (l : Nat) (o : Obj) : W.grownBy (W.putObj l o) (some l) :=
  ⟨rfl, rfl, rfl, by simp, fun k _ hk => World.putObj_heap_other (fun e => hk (by rw [e]))⟩
theorem caps_rep {w0 : Base} {w : World} {ro : RO} {σ : Map} {hp : Hp} {gn : Nat → Nat} (hh : HRep w0 w ro σ hp gn) {F : Nat → Prop} (hF : ∀ b, ro.F b → F b) :
    ∀ {caps : List AV} {pr : List (AV × (Nat × Nat))} {vs : Array Value}, caps.mapM (cptV hp) = some pr → (∀ b, Led hp σ (pr.map (·.2)) b → F b) → RVs ro σ caps vs → RVs ⟨w, F⟩ (fun _ _ _ => False) (pr.map (·.1)) vs := by
  intro caps pr vs h hL hr
  obtain ⟨hlen, hat⟩ := mapM_at h
  refine ⟨by rw [List.length_map, ← hlen]; exact hr.1, fun j u v hu hv => ?_⟩
  rw [List.getElem?_map, Option.map_eq_some_iff] at hu
  obtain ⟨p, hp', rfl⟩ := hu
  obtain ⟨c, hc, hcv⟩ := hat j p hp'
  have hrv := hr.2 j c v hc hv
  unfold cptV at hcv
  split at hcv
  · rename_i s g i off
    simp only [Option.bind_eq_some_iff] at hcv
    obtain ⟨B, hB, x, hx, hcv⟩ := hcv
    split at hcv
    · rename_i hall
      simp only [Option.some.injEq] at hcv
      subst hcv
      obtain ⟨b, sz, N, hσ, rfl⟩ := hrv.ptr_inv
      obtain ⟨l, hl, hblk⟩ := hh.blk _ _ _ hB
      obtain rfl := hh.fn _ _ _ _ hl hσ
      obtain ⟨V, h1, h2⟩ := hblk.read hx
      have hFb : F b := hL b ⟨s, g, B, sz, N, List.mem_map.2 ⟨_, List.mem_of_getElem? hp', rfl⟩, hB, hσ⟩
      refine .rptr (fun j => V (off + j)) rfl (fun _ => hFb) (fun j hj => ?_) (fun j u hu => ?_)
      · have := h1 (off + j) (by simp at hj; omega)
        rw [add_plain'] at this ⊢
        rw [Nat.add_assoc]
        exact this
      · have hf : u.free = true := List.all_eq_true.1 hall u (List.mem_of_getElem? hu)
        rw [List.getElem?_drop] at hu
        exact ((h2 _ _ hu).ofFree hf).mono (fun b hb => ⟨hF b hb, (hh.fr b hb).2⟩)
    · cases hcv
  · cases hcv
structure JI (w0 : Base) (ro : RO) (σ : Map) (D l : Nat) (W : World) (lp : Loop) (hp : Hp) (gn : Nat → Nat) (ro' : RO) (σ' : Map) : Prop where
  ext : Ext ro ro' σ σ'
  rep : HRep w0 W ro' σ' hp gn
  dF : ro'.F D
  dW : ro'.w.heap[D]? = some (.deferred (some []))
  lF : ¬ ro'.F l
  lW : W.heap[l]? = some (.loop lp)
theorem JI.onward {w0 : Base} {ro : RO} {σ : Map} {D l : Nat} {W W' : World} {lp : Loop} {hp : Hp} {gn : Nat → Nat} {ro' : RO} {σ' : Map} (h : JI w0 ro σ D l W lp hp gn ro' σ') (hb : Below W.heap.size W W') :
    JI w0 ro σ D l W' lp hp gn ⟨W', fun b => ro'.F b ∨ (W.heap.size ≤ b ∧ b < W'.heap.size)⟩ σ' := by
  have hlt : l < W.heap.size := (Array.getElem?_eq_some_iff.1 h.lW).1
  obtain ⟨h1, h2⟩ := h.rep.onward hb
  exact ⟨h.ext.trans h2, h1, .inl h.dF, ((h2.f _ h.dF).2).trans h.dW, fun hF => hF.elim h.lF (fun hF => by omega), (hb.block l hlt).trans h.lW⟩
theorem range_ok {C : Cfg} (hP : ProgOk C) (hX : ExtOk C) (hm : C.P.follows .mixedOrders = true) {g : Operand} {ps : Array Tmp} {assign body : Code} {m n : Nat} (hsa : codeStat C m assign = true) (hsb : codeStat C m body = true)
    (hfa : flatC assign = true) (hfb : flatC body = true) (hmn : m ≤ n) (hps : ∀ p ∈ ps.toList, p < n) {j : Nat} {st st' : St} {e : E} {it : FuncId} {caps : List AV} {pr : List (AV × (Nat × Nat))} {outs : List (List AV)}
    (hg : st.ev g = .fn it [] caps) (hcap : caps.mapM (cptV st.hp) = some pr) (hit : ItrOk C.P it (pr.map (·.1)) outs) (hen : ∀ args w, (callFunc it args).run C.P w = .ok (.enter it args) w)
    (hr : rnds (execC C (exec C j) assign) (execC C (exec C j) body) ps.toList st.sl outs (st.frz (pr.map (·.2))) = some (e, st'))
    {w0 : Base} {w : World} {ro : RO} {σ : Map} {a : Act} (hh : HRep w0 w ro σ st.hp st.gn) (hH : ∀ b, ¬ w0.H b) (hs : SRep w0 ro σ n st.sl a) :
    (Code.rangeFunc g ps assign body).wp C.P (fun x a' w' => x = e.toExit ∧ a' = { a with defers := markD w.heap.size :: a.defers } ∧ ∃ ro' σ', Ext ro ro' σ σ' ∧ HRep w0 w' ro' σ' st'.hp st'.gn ∧
      ro'.F w.heap.size ∧ ro'.w.heap[w.heap.size]? = some (.deferred (some []))) a w := by
  obtain ⟨hfz, hfe⟩ := hh.freeze (pr.map (·.2))
  have hgv := ev_rep hs g
  rw [hg] at hgv
  obtain ⟨vf, lb, hgl, ⟨hl0, _⟩, hl1, hat1⟩ := hgv.fn_inv
  obtain rfl : vf = #[] := Array.size_eq_zero_iff.1 (by simpa using hl0.symm)
  have hcr := caps_rep hh (F := fun b => ro.F b ∨ Led st.hp σ (pr.map (·.2)) b) (fun b hb => .inl hb) hcap (fun b hb => .inr hb) ⟨hl1, hat1⟩
  generalize hF' : (fun b => ro.F b ∨ Led st.hp σ (pr.map (·.2)) b) = F' at *
  have hwF : ∀ b, F' b → b < w.heap.size := fun b hb => (hfz.fr b hb).1
  refine (wpIn_wide (n := 0)).1 (wpIn_rangeFunc ?_)
  intro fn hfn
  obtain ⟨rec, hrec⟩ : ∃ rec : LoopState → Option Code → Loop, rec = fun st pe => { state := st, pending := pe, fn, tmps := a.tmps, params := ps, assign, body, defers := w.heap.size } := ⟨_, rfl⟩
  obtain ⟨W1, hW1⟩ : ∃ W1, (w.alloc (.deferred (some []))).alloc (.loop (rec .ready none)) = W1 := ⟨_, rfl⟩
  have hL1 : W1.heap[w.heap.size + 1]? = some (.loop (rec .ready none)) := by
    rw [← hW1]; have := World.alloc_heap_new (w.alloc (.deferred (some []))) (.loop (rec .ready none)); rwa [World.size_alloc] at this
  have hK1 : W1.heap[w.heap.size]? = some (.deferred (some [])) := by
    rw [← hW1]; exact (Below.heap_alloc _ _ _ (by simp)).trans (World.alloc_heap_new w _)
  have hb1 : Below w.heap.size w W1 := by
    rw [← hW1]; exact ((Below.refl _ w).alloc (Nat.le_refl _) _).alloc (by simp) _
  have hW1s : W1.heap.size = w.heap.size + 2 := by rw [← hW1]; simp
  refine ⟨w.heap.size + 1, [markD w.heap.size], W1, { target := .fn (.func it) lb, args := #[.func (.yield (w.heap.size + 1)) #[] #[]] }, W1, it,
    #[.func (.yield (w.heap.size + 1)) #[] #[]] ++ lb, W1, ?_, ?_, fun _ _ => trivial, ?_, fun h0 => by simp [Fence.wide] at h0, ?_⟩
  · rw [← hW1, hrec]; exact run_enterLoop_outer _ _ _ _ _
  · simp only [resolve, hgl]
    simp [go_sem]
  · simp [invoke, go_sem, hen]
  refine callsIn_wide.2 ?_
  obtain ⟨l, hl⟩ : ∃ l, l = w.heap.size + 1 := ⟨_, rfl⟩
  rw [← hl] at hL1 ⊢
  have hw0l : w0.w.heap.size ≤ l := by have := hh.below.size; omega
  obtain ⟨hg1, he1⟩ := hfz.grow hH hb1 (X := fun b => b = w.heap.size) (fun b hb => by subst hb; exact ⟨by omega, hh.below.size, .inl (Nat.le_refl _)⟩)
  have key : ∀ {i : Nat} {G : Nat → Prop} {W : World} {x : List AV} {xs : Array Value} {s : St} {ro' : RO} {σ' : Map}, rnds (execC C (exec C j) assign) (execC C (exec C j) body) ps.toList st.sl (outs.drop i) s = some (e, st') →
      JI w0 ro σ w.heap.size l W (rec .ready none) s.hp s.gn ro' σ' → (∀ b, G b → ro'.F b) → outs[i]? = some x → RFs ⟨W, G⟩ x xs →
      Yields1 C.P l xs W fun e' W' => ∃ b, e' = .returned (.bool b) ∧ keeps G W W' ∧ (if b = true then
        (∃ s ro' σ', rnds (execC C (exec C j) assign) (execC C (exec C j) body) ps.toList st.sl (outs.drop (i + 1)) s = some (e, st') ∧ JI w0 ro σ w.heap.size l W' (rec .ready none) s.hp s.gn ro' σ' ∧ ∀ b, G b → ro'.F b)
        else (e ≠ .normal ∧ ∃ ro' σ', JI w0 ro σ w.heap.size l W' (rec .done (some (codeE e))) st'.hp st'.gn ro' σ')) := by
    intro i G W x xs s ro' σ' k1 k hG hx hxs
    have hlt : l < W.heap.size := (Array.getElem?_eq_some_iff.1 k.lW).1
    have hdr : outs.drop i = x :: outs.drop (i + 1) := by
      obtain ⟨h1, h2⟩ := List.getElem?_eq_some_iff.1 hx
      rw [List.drop_eq_getElem_cons h1, h2]
    rw [hdr] at k1
    unfold rnds at k1
    split at k1
    · rename_i hxl
      split at k1
      · rename_i s1 hfa1
        have hxz : xs.size = ps.size := by rw [← hxs.1, hxl, Array.length_toList]
        have hy := run_yield (P := C.P) (args := xs) k.lW (by rw [hrec]; exact hxz)
        rw [hrec] at hy
        refine ⟨fn, _, assign, body, hy, roundIn_of_wpIn hfn ?_⟩
        obtain ⟨g1, e1⟩ := k.rep.grow hH (Below.refl _ W) (X := fun b => b = l) (fun b hb => by subst hb; exact ⟨hlt, hw0l, .inr (fun arr t fz h => by rw [k.lW] at h; cases h)⟩)
        have hsr : SRep ⟨w0.w, w0.F, [], w0.H, w0.hw⟩ ⟨W, fun b => ro'.F b ∨ b = l⟩ σ' n (putL st.sl ps.toList x) { tmps := (ps.zip xs).foldl (fun t (p, v) => t.setIfInBounds p v) a.tmps, defers := [] } := by
          have hs' := hs.mono (k.ext.trans e1)
          have := params_rep (w0 := w0) (ro := ⟨W, fun b => ro'.F b ∨ b = l⟩) (σ := σ') (n := n) ps.toList x xs.toList st.sl a.tmps hps (by rw [hxs.1, Array.length_toList]) hs'.size hs'.at_ (fun j u v hu hv => by
            have h1 := hxs.2 j u v hu (by simpa using hv)
            exact .free (RF.mono (ro := ⟨W, G⟩) (ro' := ⟨W, fun b => ro'.F b ∨ b = l⟩) (fun b hb => ⟨Or.inl (hG b hb), rfl⟩) h1))
          rw [← Array.toList_zip, Array.foldl_toList] at this
          exact ⟨this.1, this.2, rfl⟩
        have hA := execIn_ok hP hX hm j l 0 assign m n hsa hfa hmn { s with sl := putL st.sl ps.toList x } s1 .normal ⟨w0.w, w0.F, [], w0.H, w0.hw⟩ W ⟨W, fun b => ro'.F b ∨ b = l⟩ σ' _ hfa1 (g1.on []) hsr
        refine wpIn_mono hA (fun x2 a2 w2 ⟨hx2, ro2, σ2, e2, g2, s2⟩ => ?_)
        subst hx2
        have hl2 : w2.heap[l]? = some (.loop (rec .ready none)) := (g2.fr l (e2.f l (.inr rfl)).1).2.trans ((e2.f l (.inr rfl)).2.trans k.lW)
        refine ⟨_, run_beginRound hl2 (by rw [hrec]), ?_⟩
        have hlt2 : l < w2.heap.size := (Array.getElem?_eq_some_iff.1 hl2).1
        have nc2 : ∀ arr t fz, w2.heap[l]? ≠ some (.cells arr t fz) := fun arr t fz h => by rw [hl2] at h; cases h
        have gp := grown_put w2 l (.loop { rec .ready none with state := .busy })
        obtain ⟨g3, rv3⟩ := g2.drop hH nc2 hw0l gp
        have e3 := Ext.drop ((Ext.trans e1 e2 : Ext ro' ro2 σ' σ2)) g2 (fun b hb he => k.lF (by rw [← he]; exact hb)) gp
        have hl3 : (w2.putObj l (.loop { rec .ready none with state := .busy })).heap[l]? = some (.loop { rec .ready none with state := .busy }) := World.putObj_heap_same hlt2
        generalize w2.putObj l (.loop { rec .ready none with state := .busy }) = w3 at *
        have hlt3 : l < w3.heap.size := (Array.getElem?_eq_some_iff.1 hl3).1
        obtain ⟨g4, e4⟩ := g3.grow hH (Below.refl _ w3) (X := fun b => b = l) (fun b hb => by subst hb; exact ⟨hlt3, hw0l, .inr (fun arr t fz h => by rw [hl3] at h; cases h)⟩)
        have s4 : SRep ⟨w0.w, w0.F, [], w0.H, w0.hw⟩ _ σ2 n s1.sl a2 := SRep.mono e4 ⟨s2.size, fun d => rv3 (s2.at_ d), s2.nodef⟩
        have fin : ∀ (jump : Option Code) (s5 : St) (w5 : World) (ro5 : RO) (σ5 : Map), Ext ⟨w3, fun b => (ro2.F b ∧ b ≠ l) ∨ b = l⟩ ro5 σ2 σ5 → HRep ⟨w0.w, w0.F, [], w0.H, w0.hw⟩ w5 ro5 σ5 s5.hp s5.gn →
            (Instr.endRound l jump).run C.P w5 = .ok (.bool jump.isNone) (w5.putObj l (.loop (rec (if jump.isNone then .ready else .done) jump))) ∧
            keeps G W (w5.putObj l (.loop (rec (if jump.isNone then .ready else .done) jump))) ∧
            ∃ ro6, JI w0 ro σ w.heap.size l (w5.putObj l (.loop (rec (if jump.isNone then .ready else .done) jump))) (rec (if jump.isNone then .ready else .done) jump) s5.hp s5.gn ro6 σ5 ∧ ∀ b, G b → ro6.F b := by
          intro jump s5 w5 ro5 σ5 e5 g5
          have hl5 : w5.heap[l]? = some (.loop { rec .ready none with state := .busy }) := (g5.fr l (e5.f l (.inr rfl)).1).2.trans ((e5.f l (.inr rfl)).2.trans hl3)
          have hlt5 : l < w5.heap.size := (Array.getElem?_eq_some_iff.1 hl5).1
          have hrun := run_endRound (P := C.P) jump hl5
          rw [hrec] at hrun ⊢
          simp only at hrun ⊢
          have nc5 : ∀ arr t fz, w5.heap[l]? ≠ some (.cells arr t fz) := fun arr t fz h => by rw [hl5] at h; cases h
          have gp5 := grown_put w5 l (.loop { state := if jump.isNone = true then LoopState.ready else LoopState.done, pending := jump, fn, tmps := a.tmps, params := ps, assign, body, defers := w.heap.size })
          obtain ⟨g6, _⟩ := g5.drop hH nc5 hw0l gp5
          have e6 := Ext.drop ((Ext.trans e3 (Ext.trans e4 e5) : Ext ro' ro5 σ' σ5)) g5 (fun b hb he => k.lF (by rw [← he]; exact hb)) gp5
          have hl6 := World.putObj_heap_same (w := w5) (o := .loop { state := if jump.isNone = true then LoopState.ready else LoopState.done, pending := jump, fn, tmps := a.tmps, params := ps, assign, body, defers := w.heap.size }) hlt5
          refine ⟨hrun, fun b hb => ?_, ⟨_, _⟩, ⟨k.ext.trans e6, g6.on w0.ds, (e6.f _ k.dF).1, (e6.f _ k.dF).2.trans k.dW, fun hF => hF.2 rfl, hl6⟩, fun b hb => (e6.f b (hG b hb)).1⟩
          exact (g6.fr b (e6.f b (hG b hb)).1).2.trans ((e6.f b (hG b hb)).2.trans (k.rep.fr b (hG b hb)).2.symm)
        split at k1
        · rename_i s5 hfb5
          have hB := execIn_ok hP hX hm j l 0 body m n hsb hfb hmn s1 s5 .normal ⟨w0.w, w0.F, [], w0.H, w0.hw⟩ w3 _ σ2 _ hfb5 g4 s4
          refine wpIn_mono hB (fun x5 a5 w5 ⟨hx5, ro5, σ5, e5, g5, s5'⟩ => ?_)
          subst hx5
          obtain ⟨f1, f2, ro6, f3, f4⟩ := fin none s5 w5 ro5 σ5 e5 g5
          exact ⟨_, _, f1, true, rfl, f2, by rw [if_pos rfl]; exact ⟨s5, ro6, σ5, k1, f3, f4⟩⟩
        · rename_i e5 s5 hne hfb5
          simp only [Option.some.injEq, Prod.mk.injEq] at k1
          obtain ⟨rfl, rfl⟩ := k1
          have hne' : e5 ≠ .normal := fun h => hne h
          have hB := execIn_ok hP hX hm j l 0 body m n hsb hfb hmn s1 s5 e5 ⟨w0.w, w0.F, [], w0.H, w0.hw⟩ w3 _ σ2 _ hfb5 g4 s4
          refine wpIn_mono hB (fun x5 a5 w5 ⟨hx5, ro5, σ5, he5, g5, s5'⟩ => ?_)
          subst hx5
          cases e5 with
          | normal => exact absurd rfl hne'
          | exit id =>
            obtain ⟨f1, f2, ro6, f3, f4⟩ := fin (some (.exit id)) s5 w5 ro5 σ5 he5 g5
            exact ⟨_, _, f1, false, rfl, f2, by rw [if_neg (by simp)]; exact ⟨hne', ro6, σ5, f3⟩⟩
          | ret =>
            obtain ⟨f1, f2, ro6, f3, f4⟩ := fin (some .ret) s5 w5 ro5 σ5 he5 g5
            exact ⟨_, _, f1, false, rfl, f2, by rw [if_neg (by simp)]; exact ⟨hne', ro6, σ5, f3⟩⟩
        · cases k1
      · cases k1
    · cases k1
  refine (hit W1 F' lb l
    (fun i G W => ∃ s ro' σ', rnds (execC C (exec C j) assign) (execC C (exec C j) body) ps.toList st.sl (outs.drop i) s = some (e, st') ∧ JI w0 ro σ w.heap.size l W (rec .ready none) s.hp s.gn ro' σ' ∧ ∀ b, G b → ro'.F b)
    (fun W => e ≠ .normal ∧ ∃ ro' σ', JI w0 ro σ w.heap.size l W (rec .done (some (codeE e))) st'.hp st'.gn ro' σ')
    (fun b hb => by have := hwF b hb; omega) ?_ ?_ ?_ ?_ ?_).mono ?_
  · refine ⟨hcr.1, fun j u v hu hv => RV.mono (ro := ⟨w, F'⟩) (ro' := ⟨W1, F'⟩) (σ := fun _ _ _ => False) ⟨fun b hb => ⟨hb, hb1.block b (hwF b hb)⟩, fun _ _ _ h => h⟩ (hcr.2 j u v hu hv)⟩
  · rintro i G W W' ⟨s, ro', σ', k1, k2, k3⟩ hb
    exact ⟨s, _, σ', k1, k2.onward hb, fun b hb => hb.imp (k3 b) id⟩
  · rintro W W' ⟨hne, ro', σ', k2⟩ hb
    exact ⟨hne, _, σ', k2.onward hb⟩
  · rintro i G W x xs ⟨s, ro', σ', k1, k2, k3⟩ hx hxs
    exact key k1 k2 k3 hx hxs
  · exact ⟨_, _, σ, hr, ⟨hfe.trans he1, hg1, .inr rfl, hK1, fun hF => by
      rcases hF with hF | hF
      · have := hwF l hF; omega
      · omega, hL1⟩, fun b hb => .inl hb⟩
  ·
    rintro e' W2 ⟨v, rfl, h⟩
    have out : ∀ (st2 : LoopState) (pe : Option Code) (ro' : RO) (σ' : Map), st2 ≠ .busy → JI w0 ro σ w.heap.size l W2 (rec st2 pe) st'.hp st'.gn ro' σ' →
        ∃ W3, (Instr.endLoop l).run C.P W2 = .ok pe W3 ∧ ∃ ro' σ', Ext ro ro' σ σ' ∧ HRep w0 W3 ro' σ' st'.hp st'.gn ∧ ro'.F w.heap.size ∧ ro'.w.heap[w.heap.size]? = some (.deferred (some [])) := by
      intro st2 pe ro' σ' hnb k
      have hrun := run_endLoop (P := C.P) k.lW (by rw [hrec]; exact hnb)
      have hpe : (rec st2 pe).pending = pe := by rw [hrec]
      rw [hpe] at hrun
      generalize hW3 : W2.putObj l _ = W3 at hrun
      have gp : W2.grownBy W3 (some l) := by rw [← hW3]; exact grown_put W2 l _
      obtain ⟨g6, _⟩ := k.rep.drop hH (fun arr t fz h => by rw [k.lW] at h; cases h) hw0l gp
      have e6 := Ext.drop (Ext.refl ro' σ') k.rep (fun b hb he => k.lF (by rw [← he]; exact hb)) gp
      exact ⟨_, hrun, _, σ', k.ext.trans e6, g6, (e6.f _ k.dF).1, (e6.f _ k.dF).2.trans k.dW⟩
    rcases h with ⟨G, s, ro', σ', k1, k2, _⟩ | ⟨hne, ro', σ', k2⟩
    · rw [List.drop_length] at k1
      simp only [rnds, Option.some.injEq, Prod.mk.injEq] at k1
      obtain ⟨rfl, rfl⟩ := k1
      obtain ⟨W3, h1, h2⟩ := out .ready none ro' σ' (by simp) k2
      exact ⟨none, W3, h1, rfl, rfl, h2⟩
    · obtain ⟨W3, h1, h2⟩ := out .done _ ro' σ' (by simp) k2
      refine ⟨_, W3, h1, ?_⟩
      cases e with
      | normal => exact absurd rfl hne
      | exit id => exact wpIn_exit ⟨rfl, rfl, h2⟩
      | ret => exact wpIn_ret ⟨rfl, rfl, h2⟩
end Vai
