import Derived.Test.YtjienkojedlfjaaVoG
namespace Vai
open Go Go.RowKit
set_option linter.unusedVariables false
set_option linter.unusedSimpArgs false
theorem RF.isFree {ro : RO} {x : AV} {v : Value} (h : RF ro x v) : x.free = true := by
  induction h with
  | @agg cs vs hl h1 _ ih =>
    simp only [AV.free]
    have : ∀ (l : List AV), (∀ c ∈ l, c.free = true) → AV.free.frees l = true := by
      intro l
      induction l with
      | nil => intro _; rfl
      | cons c l ih2 => intro hc; simp only [AV.free.frees, Bool.and_eq_true]; exact ⟨hc c (by simp), ih2 (fun d hd => hc d (by simp [hd]))⟩
    refine this cs (fun c hc => ?_)
    obtain ⟨j, hj⟩ := List.getElem?_of_mem hc
    have hlt : j < vs.size := by rw [← hl]; exact (List.getElem?_eq_some_iff.1 hj).1
    exact ih j c _ hj (Array.getElem?_eq_getElem hlt)
  | _ => rfl
theorem RV.cut {ro ro' : RO} {σ σ' σr : Map} (hσ : ∀ s g l l', σ s g l → σ' s g l' → σr s g l') {u : AV} {v : Value} (h : RV ro σ u v) : ∀ v', RV ro' σ' u v' → RV ro' σr u v' := by
  induction h with
  | free h => exact fun v' h' => .free (h'.ofFree h.isFree)
  | @agg cs vs hl h1 h ih =>
    intro v' h'
    obtain ⟨vs', rfl, hl', h1', h2'⟩ := h'.agg_inv
    refine .agg hl' h1' (fun j u q hu hq => ?_)
    have hlt : j < vs.size := by rw [← hl]; exact (List.getElem?_eq_some_iff.1 hu).1
    exact ih j u _ hu (Array.getElem?_eq_getElem hlt) q (h2' j u q hu hq)
  | sl0 h =>
    intro v' h'
    cases h' with
    | free hf => cases hf
    | sl0 h2 => exact .sl0 (hσ _ _ _ _ h h2)
    | sl h2 a b => exact .sl (hσ _ _ _ _ h h2) a b
  | sl h k1 k2 =>
    intro v' h'
    cases h' with
    | free hf => cases hf
    | sl0 h2 => exact .sl0 (hσ _ _ _ _ h h2)
    | sl h2 a b => exact .sl (hσ _ _ _ _ h h2) a b
  | ptr h =>
    intro v' h'
    cases h' with
    | free hf => cases hf
    | ptr h2 => exact .ptr (hσ _ _ _ _ h h2)
  | rptr V hs hF hc hV =>
    intro v' h'
    cases h' with
    | free hf => cases hf
    | rptr V hs hF hc hV => exact .rptr V hs hF hc hV
  | @fn f fst caps vf vs hl0 h0 hl h ih0 ih =>
    intro v' h'
    obtain ⟨vf', vs', rfl, ⟨hl0', h0'⟩, hl', h2'⟩ := h'.fn_inv
    refine .fn hl0' (fun j u q hu hq => ?_) hl' (fun j u q hu hq => ?_)
    · have hlt : j < vf.size := by rw [← hl0]; exact (List.getElem?_eq_some_iff.1 hu).1
      exact ih0 j u _ hu (Array.getElem?_eq_getElem hlt) q (h0' j u q hu hq)
    · have hlt : j < vs.size := by rw [← hl]; exact (List.getElem?_eq_some_iff.1 hu).1
      exact ih j u _ hu (Array.getElem?_eq_getElem hlt) q (h2' j u q hu hq)
  | @tup cs vs hl h ih =>
    intro v' h'
    obtain ⟨vs', rfl, hl', h2'⟩ := h'.tup_inv
    refine .tup hl' (fun j u q hu hq => ?_)
    have hlt : j < vs.size := by rw [← hl]; exact (List.getElem?_eq_some_iff.1 hu).1
    exact ih j u _ hu (Array.getElem?_eq_getElem hlt) q (h2' j u q hu hq)
  | undef =>
    intro v' h'
    cases h' with
    | free hf => cases hf
    | undef => exact .undef
  | unk v => exact fun v' _ => .unk v'
  | yld l =>
    intro v' h'
    cases h' with
    | free hf => cases hf
    | yld l => exact .yld l
theorem HRep.rekey {w0 : Base} {w w' : World} {ro ro' : RO} {σ σ' : Map} {hp hp' : Hp} {gn gn' : Nat → Nat} (h : HRep w0 w ro σ hp gn) (h' : HRep w0 w' ro' σ' hp' gn') (he : Ext ro ro' σ σ') {s2 g2 : Nat} {xs : List AV}
    (hb : hp' s2 g2 = some ⟨xs, false⟩) (hold : ∀ s g, g < gn s → hp' s g = hp s g) (hg2 : gn s2 ≤ g2) (hxs : ∀ x ∈ xs, ∀ (j : Nat) (u : AV), x.cells[j]? = some u → ∃ v, RV ro σ u v) (d : Nat) :
    ∃ σ2, Ext ro ro' σ σ2 ∧ HRep w0 w' ro' σ2 (fun a y => if a = d ∧ y = gn d then some ⟨xs, false⟩ else hp a y) (fun a => if a = d then gn d + 1 else gn a) ∧ ∀ l, σ' s2 g2 l → σ2 d (gn d) l := by
  let σr : Map := fun s g l => σ' s g l ∧ g < gn s
  let σ2 : Map := fun s g l => σr s g l ∨ (s = d ∧ g = gn d ∧ σ' s2 g2 l)
  have up : ∀ s g l, σ s g l → σr s g l := fun s g l hs => ⟨he.s s g l hs, h.lt s g l hs⟩
  have hcut : ∀ s g l l', σ s g l → σ' s g l' → σ2 s g l' := fun s g l l' h1 h2 => .inl ⟨h2, h.lt s g l h1⟩
  have sep : ∀ {s g l}, σr s g l → ¬ (s = d ∧ g = gn d) := fun hs ⟨h1, h2⟩ => by subst h1; subst h2; exact absurd hs.2 (by omega)
  have live : ∀ {s g B}, (if s = d ∧ g = gn d then some ⟨xs, false⟩ else hp s g) = some B → (s = d ∧ g = gn d ∧ B = ⟨xs, false⟩) ∨ (¬ (s = d ∧ g = gn d) ∧ hp s g = some B ∧ hp' s g = some B ∧ g < gn s) := by
    intro s g B hh
    split at hh
    · rename_i hc
      simp only [Option.some.injEq] at hh
      exact .inl ⟨hc.1, hc.2, hh.symm⟩
    · rename_i hc
      obtain ⟨l, hl, _⟩ := h.blk _ _ _ hh
      have hlt := h.lt _ _ _ hl
      exact .inr ⟨hc, hh, by rw [hold s g hlt]; exact hh, hlt⟩
  have key : ∀ {s g l}, σ2 s g l → (s = d ∧ g = gn d → σ' s2 g2 l) ∧ (¬ (s = d ∧ g = gn d) → σ' s g l) := by
    intro s g l hs
    rcases hs with hs | ⟨h1, h2, hs⟩
    · exact ⟨fun hc => absurd hc (sep hs), fun _ => hs.1⟩
    · exact ⟨fun _ => hs, fun hc => absurd ⟨h1, h2⟩ hc⟩
  have cutB : ∀ {es : List AV} {l : Loc}, (∀ x ∈ es, ∀ (j : Nat) (u : AV), x.cells[j]? = some u → ∃ v, RV ro σ u v) → RBlk ro' σ' w' es l → RBlk ro' σ2 w' es l := by
    intro es l hes hblk
    cases l with
    | virt => exact hblk
    | real b sz N =>
      obtain ⟨arr, t, fz, h1, h2, h3, h4, h5, h6, h7⟩ := hblk
      refine ⟨arr, t, fz, h1, h2, h3, h4, h5, h6, fun i x j u hx hu => ?_⟩
      obtain ⟨v, hv, ho, hr⟩ := h7 i x j u hx hu
      obtain ⟨v0, hr0⟩ := hes x (List.mem_of_getElem? hx) j u hu
      exact ⟨v, hv, ho, hr0.cut hcut v hr⟩
  refine ⟨σ2, ⟨he.f, fun s g l hs => .inl (up s g l hs)⟩, ⟨h'.below, h'.fr, h'.sub, fun s g l l' h1 h2 => ?_, fun s g l h1 => ?_, fun s g B hh => ?_, fun s g B b sz N hh hfr h1 => ?_, fun s g B b sz N hh hfr h1 => ?_, fun s g B s' g' B' b sz N sz' N' hh hh' hfr h1 h2 => ?_, h'.hid, h'.dis, fun s g B b sz N hh hfr h1 => ?_⟩, fun l hl => .inr ⟨rfl, rfl, hl⟩⟩
  · by_cases hc : s = d ∧ g = gn d
    · exact h'.fn _ _ _ _ ((key h1).1 hc) ((key h2).1 hc)
    · exact h'.fn _ _ _ _ ((key h1).2 hc) ((key h2).2 hc)
  · rcases h1 with h1 | ⟨rfl, rfl, _⟩
    · have := h1.2
      split
      · subst_vars; omega
      · exact this
    · rw [if_pos rfl]; omega
  · rcases live hh with ⟨rfl, rfl, rfl⟩ | ⟨hc, ho, hn, hlt⟩
    · obtain ⟨l, hl, hblk⟩ := h'.blk _ _ _ hb
      exact ⟨l, .inr ⟨rfl, rfl, hl⟩, cutB hxs hblk⟩
    · obtain ⟨l, hl, hblk⟩ := h'.blk _ _ _ hn
      obtain ⟨l0, hl0, hblk0⟩ := h.blk _ _ _ ho
      refine ⟨l, .inl ⟨hl, hlt⟩, cutB (fun x hx j u hu => ?_) hblk⟩
      cases l0 with
      | virt => have : B.es = [] := hblk0; rw [this] at hx; cases hx
      | real b sz N =>
        obtain ⟨arr, t, fz, _, _, _, _, _, _, h7⟩ := hblk0
        obtain ⟨i, hi⟩ := List.getElem?_of_mem hx
        obtain ⟨v, _, _, hr⟩ := h7 i x j u hi hu
        exact ⟨v, hr⟩
  · rcases live hh with ⟨rfl, rfl, rfl⟩ | ⟨hc, ho, hn, hlt⟩
    · exact h'.own _ _ _ _ _ _ hb rfl ((key h1).1 ⟨rfl, rfl⟩)
    · exact h'.own _ _ _ _ _ _ hn hfr ((key h1).2 hc)
  · rcases live hh with ⟨rfl, rfl, rfl⟩ | ⟨hc, ho, hn, hlt⟩
    · cases hfr
    · exact h'.frz _ _ _ _ _ _ hn hfr ((key h1).2 hc)
  · rcases live hh with ⟨rfl, rfl, rfl⟩ | ⟨hc, ho, hn, hlt⟩ <;> rcases live hh' with ⟨rfl, rfl, rfl⟩ | ⟨hc', ho', hn', hlt'⟩
    · exact ⟨rfl, rfl⟩
    · obtain ⟨e1, e2⟩ := h'.inj _ _ _ _ _ _ _ _ _ _ _ hb hn' rfl ((key h1).1 ⟨rfl, rfl⟩) ((key h2).2 hc')
      subst e1; subst e2; omega
    · obtain ⟨e1, e2⟩ := h'.inj _ _ _ _ _ _ _ _ _ _ _ hn hb hfr ((key h1).2 hc) ((key h2).1 ⟨rfl, rfl⟩)
      subst e1; subst e2; omega
    · exact h'.inj _ _ _ _ _ _ _ _ _ _ _ hn hn' hfr ((key h1).2 hc) ((key h2).2 hc')
  · rcases live hh with ⟨rfl, rfl, rfl⟩ | ⟨hc, ho, hn, hlt⟩
    · exact h'.oh _ _ _ _ _ _ hb rfl ((key h1).1 ⟨rfl, rfl⟩)
    · exact h'.oh _ _ _ _ _ _ hn hfr ((key h1).2 hc)
def NotNil (x : AV) : Prop := x = .em ∨ (∃ y ys, x = .osl (y :: ys)) ∨ ∃ e s g lo n, x = .sl e s g lo (n + 1)
theorem clnOk_of {C : Cfg} (hP : ProgOk C) (hX : ExtOk C) (hm : C.P.follows .mixedOrders = true) {f : FuncId} {z by_ : Nat}
    (h1 : ∀ (x : AV) (hp : Hp) (gn : Nat → Nat) (xs : List AV), (∀ s g B, hp s g = some B → g < gn s) → NotNil x → conts hp x = some xs → (∀ y ∈ xs, y.cells.length = z ∧ y.ok = true) → xs.length * by_ ≤ 140737488355328 → xs.length ≤ 140737488355328 →
      ∃ k s2 g2 hp' gn', callF C (exec C k) f [x] hp gn = some (.sl z s2 g2 0 xs.length, hp', gn') ∧ hp' s2 g2 = some ⟨xs, false⟩ ∧ (∀ s g, g < gn s → hp' s g = hp s g) ∧ gn s2 ≤ g2)
    (h0 : ∀ (hp : Hp) (gn : Nat → Nat), ∃ k, callF C (exec C k) f [.nl] hp gn = some (.nl, hp, gn)) : ClnOk C.P f z by_ := by
  intro w0 w ro σ hp gn x v xs d hh hx hxs hall hz hb1 hb2
  have hrc := fun k => exec_ok hP hX hm k
  have hcells : ∀ y ∈ xs, ∀ (j : Nat) (u : AV), y.cells[j]? = some u → ∃ q, RV ro σ u q := by
    intro y hy j u hu
    obtain ⟨A, c, sz, V, _, _, _, _, hV⟩ := conts_rep hh hx hxs
    obtain ⟨i, hi⟩ := List.getElem?_of_mem hy
    exact ⟨_, hV i j y u hi hu⟩
  have some_ : ∀ x', NotNil x' → conts hp x' = some xs → RV ro σ x' v → Goes C.P f #[v] w (fun u w' => ∃ ro' σ', Ext ro ro' σ σ' ∧
      HRep w0 w' ro' σ' (fun a y => if a = d ∧ y = gn d then some ⟨xs, false⟩ else hp a y) (fun a => if a = d then gn d + 1 else gn a) ∧ RV ro' σ' (.sl z d (gn d) 0 xs.length) u) := by
    intro x' hn hc hr
    obtain ⟨k, s2, g2, hp', gn', hcall, hb, hold, hg⟩ := h1 x' hp gn xs (fun s g B hB => by obtain ⟨l, hl, _⟩ := hh.blk _ _ _ hB; exact hh.lt _ _ _ hl) hn hc hall hb1 hb2
    refine (callF_run (hrc k) hP hX hcall hh (ro := ro) (σ := σ) (vals := #[v]) ⟨rfl, fun j a q ha hq => ?_⟩).mono (fun u w' ⟨ro', σ', he, hh', hru⟩ => ?_)
    · match j, ha, hq with
      | 0, ha, hq => simp at ha hq; subst ha; subst hq; exact hr
    · obtain ⟨σ2, he2, hh2, hk⟩ := hh.rekey hh' he hb hold hg hcells d
      refine ⟨ro', σ2, he2, hh2, ?_⟩
      generalize hL : xs.length = L at hru ⊢
      cases hru with
      | free hf => cases hf
      | sl0 hσ => exact .sl0 (hk _ hσ)
      | sl hσ a b => exact .sl (hk _ hσ) a b
  by_cases hne : xs = []
  · subst hne
    obtain ⟨A, c, sz, V, rfl, hcc, hsz, hA, hV⟩ := conts_rep hh hx hxs
    cases A with
    | some a => exact some_ .em (.inl rfl) rfl (.free (.em a c))
    | none =>
      have hc0 : c = 0 := by
        unfold conts at hxs
        split at hxs
        · obtain ⟨A', c', _, _, e, hc, _⟩ := hx.osl_inv
          simp only [Value.slice.injEq] at e
          obtain ⟨rfl, _, rfl⟩ := e
          exact hc.2 rfl
        · obtain ⟨A', e⟩ := hx.nil_inv
          simp only [Value.slice.injEq] at e
          exact e.2.2
        · have e := hx.nl_inv
          simp only [Value.slice.injEq] at e
          exact e.2.2
        · obtain ⟨ad, c', e⟩ := hx.em_inv
          simp at e
        · rcases hx.sl_inv with ⟨_, _, _, A', e⟩ | ⟨b, N, c', _, _, _, e⟩
          · simp only [Value.slice.injEq] at e; exact e.2.2
          · simp at e
        · cases hxs
      subst hc0
      obtain ⟨k, hk⟩ := h0 hp gn
      refine (callF_run (hrc k) hP hX hk hh (ro := ro) (σ := σ) (vals := #[.slice none 0 0]) ⟨rfl, fun j a q ha hq => ?_⟩).mono (fun u w' ⟨ro', σ', he, hh', hru⟩ => ?_)
      · match j, ha, hq with
        | 0, ha, hq => simp at ha hq; subst ha; subst hq; exact .free .nl
      · obtain rfl := hru.nl_inv
        exact ⟨ro', _, he.trans (Map.add_ext ro' σ' d (gn d) .virt), hh'.addVirt d, .sl0 (Map.add_self σ' d (gn d) .virt)⟩
  · refine some_ x ?_ hxs hx
    unfold conts at hxs
    split at hxs
    · simp only [Option.some.injEq] at hxs
      subst hxs
      rename_i ys
      cases ys with
      | nil => exact absurd rfl hne
      | cons y ys => exact .inr (.inl ⟨y, ys, rfl⟩)
    · simp only [Option.some.injEq] at hxs; exact absurd hxs.symm hne
    · simp only [Option.some.injEq] at hxs; exact absurd hxs.symm hne
    · simp only [Option.some.injEq] at hxs; exact absurd hxs.symm hne
    · rename_i e s g lo len
      cases len with
      | zero =>
        simp only [Option.bind_eq_some_iff] at hxs
        obtain ⟨B, _, hxs⟩ := hxs
        split at hxs
        · simp only [Option.some.injEq] at hxs; subst hxs; simp at hne
        · cases hxs
      | succ n => exact .inr (.inr ⟨e, s, g, lo, n, rfl⟩)
    · cases hxs
theorem callF_of {C : Cfg} {ps : List Prop} (k : Nat) {f : FuncId} {args : List AV} {hp : Hp} {gn : Nat → Nat} (cs : List Ch) {r : AV} {hp' : Hp} {gn' : Nat → Nat} (h0 : All ps) (h : (callFG C (execG C k) f args hp gn cs).some? = some ((r, hp', gn'), ps)) : ∃ k, callF C (exec C k) f args hp gn = some (r, hp', gn') := by
  unfold GR.some? at h
  split at h
  · rename_i a cs' ps' h'
    simp only [Option.some.injEq, Prod.mk.injEq] at h
    obtain ⟨rfl, rfl⟩ := h
    exact (callFG_sd (execG_ok C k) f args hp gn _ _ _ _ h' h0).get
  · cases h
theorem clnOk_at {C : Cfg} (hP : ProgOk C) (hX : ExtOk C) (hm : C.P.follows .mixedOrders = true) {f : FuncId} {z by_ a b : Nat} (hab : a ≠ b)
    (h0 : ∀ (hp : Hp) (gn : Nat → Nat), ∃ k, callF C (exec C k) f [.nl] hp gn = some (.nl, hp, gn))
    (h1 : ∀ (x : AV) (hp : Hp) (gn : Nat → Nat) (xs : List AV), (∀ s g B, hp s g = some B → g < gn s) → NotNil x → conts hp x = some xs → (xs.all fun y => y.ok && y.cells.length = z) = true → (0 + xs.length) * by_ ≤ 140737488355328 ∧ 0 + xs.length ≤ 140737488355328 →
      ∃ k, callF C (exec C k) f [x] hp gn = some (.sl z b (gn b) 0 (0 + xs.length), (fun x y => if x = b ∧ y = gn b then some ⟨xs, false⟩ else if x = a ∧ y = gn a then none else if x = a ∧ y = gn a then some ⟨[], false⟩ else hp x y), (fun x => if x = b then gn b + 1 else if x = a then gn a + 1 else gn x))) : ClnOk C.P f z by_ := by
  refine clnOk_of hP hX hm (fun x hp gn xs hlt hn hc hall hb1 hb2 => ?_) h0
  have hall' : (xs.all fun y => y.ok && y.cells.length = z) = true := List.all_eq_true.2 fun y hy => by
    have := hall y hy
    simp [this.1, this.2]
  obtain ⟨k, hk⟩ := h1 x hp gn xs hlt hn hc hall' ⟨by rw [Nat.zero_add]; exact hb1, by rw [Nat.zero_add]; exact hb2⟩
  rw [Nat.zero_add] at hk
  refine ⟨k, b, gn b, _, _, hk, by simp, fun s g hg => ?_, Nat.le_refl _⟩
  show (if s = b ∧ g = gn b then _ else _) = _
  rw [if_neg (by rintro ⟨rfl, rfl⟩; omega), if_neg (by rintro ⟨rfl, rfl⟩; omega), if_neg (by rintro ⟨rfl, rfl⟩; omega)]
end Vai
