import Derived.Test.YtjienkojedlfjaaVb6
namespace Vai
open Go Go.RowKit
set_option linter.unusedVariables false
set_option linter.unusedSimpArgs false
theorem renL_at {φ : Nat → Nat → Option (Nat × Nat)} : ∀ {cs ys : List AV}, renA.renL φ cs = some ys → ys.length = cs.length ∧ ∀ (j : Nat) (c : AV), cs[j]? = some c → ∃ y, ys[j]? = some y ∧ renA φ c = some y
  | [], ys, h => by
    simp only [renA.renL, Option.some.injEq] at h
    subst h
    exact ⟨rfl, fun j c h => by simp at h⟩
  | c :: cs, ys, h => by
    simp only [renA.renL, Option.bind_eq_some_iff, Option.map_eq_some_iff] at h
    obtain ⟨a, ha, b, hb, rfl⟩ := h
    obtain ⟨h1, h2⟩ := renL_at hb
    refine ⟨by simp [h1], fun j d hd => ?_⟩
    cases j with
    | zero => simp at hd; subst hd; exact ⟨a, by simp, ha⟩
    | succ j => simpa using h2 j d (by simpa using hd)
theorem renL_at' {φ : Nat → Nat → Option (Nat × Nat)} {cs ys : List AV} (h : renA.renL φ cs = some ys) {j : Nat} {y : AV} (hy : ys[j]? = some y) : ∃ c, cs[j]? = some c ∧ renA φ c = some y := by
  obtain ⟨h1, h2⟩ := renL_at h
  have hlt : j < cs.length := by rw [← h1]; exact (List.getElem?_eq_some_iff.1 hy).1
  obtain ⟨z, hz, hr⟩ := h2 j _ (List.getElem?_eq_getElem hlt)
  rw [hy] at hz
  cases hz
  exact ⟨_, List.getElem?_eq_getElem hlt, hr⟩
theorem renA_free {ro : RO} {φ : Nat → Nat → Option (Nat × Nat)} {x : AV} {v : Value} (h : RF ro x v) : ∀ y, renA φ x = some y → y = x := by
  induction h with
  | agg hl h1 _ ih =>
    rename_i cs vs _
    intro y hy
    simp only [renA, Option.map_eq_some_iff] at hy
    obtain ⟨ys, hys, rfl⟩ := hy
    obtain ⟨e1, e2⟩ := renL_at hys
    congr 1
    refine List.ext_getElem? fun j => ?_
    cases hj : cs[j]? with
    | none => rw [List.getElem?_eq_none_iff] at hj ⊢; omega
    | some c =>
      obtain ⟨y, hy, hr⟩ := e2 j c hj
      have hlt : j < vs.size := by rw [← hl]; exact (List.getElem?_eq_some_iff.1 hj).1
      rw [hy, ih j c _ hj (Array.getElem?_eq_getElem hlt) y hr]
  | fn0 f => intro y hy; simp [renA, renA.renL] at hy; exact hy.symm
  | _ => intro y hy; simp only [renA, Option.some.injEq] at hy; exact hy.symm
theorem renA_cells {φ : Nat → Nat → Option (Nat × Nat)} {x y : AV} (h : renA φ x = some y) : y.cells.length = x.cells.length ∧ y.ok = x.ok ∧ ∀ (j : Nat) (u : AV), y.cells[j]? = some u → ∃ c, x.cells[j]? = some c ∧ renA φ c = some u := by
  have one : ∀ x y : AV, renA φ x = some y → x.cells = [x] → y.cells = [y] → y.ok = x.ok → y.cells.length = x.cells.length ∧ y.ok = x.ok ∧ ∀ (j : Nat) (u : AV), y.cells[j]? = some u → ∃ c, x.cells[j]? = some c ∧ renA φ c = some u := by
    intro x y h hx hy ho
    rw [hx, hy]
    refine ⟨rfl, ho, fun j u hu => ?_⟩
    cases j with
    | zero => simp at hu; subst hu; exact ⟨x, by simp, h⟩
    | succ j => simp at hu
  cases x with
  | agg cs =>
    have h0 := h
    simp only [renA, Option.map_eq_some_iff] at h
    obtain ⟨ys, hys, rfl⟩ := h
    exact ⟨(renL_at hys).1, rfl, fun j u hu => renL_at' hys hu⟩
  | sl e s g lo len =>
    have h0 := h
    simp only [renA, Option.map_eq_some_iff] at h
    obtain ⟨p, hp, rfl⟩ := h
    exact one _ _ h0 rfl rfl rfl
  | ptr s g i off =>
    have h0 := h
    simp only [renA, Option.map_eq_some_iff] at h
    obtain ⟨p, hp, rfl⟩ := h
    exact one _ _ h0 rfl rfl rfl
  | tup cs =>
    have h0 := h
    simp only [renA, Option.map_eq_some_iff] at h
    obtain ⟨p, hp, rfl⟩ := h
    exact one _ _ h0 rfl rfl rfl
  | fn f fst caps =>
    have h0 := h
    simp only [renA, Option.bind_eq_some_iff, Option.map_eq_some_iff] at h
    obtain ⟨p, hp, q, hq, rfl⟩ := h
    exact one _ _ h0 rfl rfl rfl
  | _ =>
    have h0 := h
    simp only [renA, Option.some.injEq] at h
    subst h
    exact one _ _ h0 rfl rfl rfl
theorem renA_rep {ro : RO} {σ σ' : Map} {φ : Nat → Nat → Option (Nat × Nat)} (hφ : ∀ s g p l, φ s g = some p → σ s g l → σ' p.1 p.2 l) {x : AV} {v : Value} (h : RV ro σ x v) : ∀ y, renA φ x = some y → RV ro σ' y v := by
  induction h with
  | free h => intro y hy; rw [renA_free h y hy]; exact .free h
  | agg hl h1 _ ih =>
    intro y hy
    simp only [renA, Option.map_eq_some_iff] at hy
    obtain ⟨ys, hys, rfl⟩ := hy
    refine .agg (by rw [(renL_at hys).1]; exact hl) h1 fun j u v hu hv => ?_
    obtain ⟨c, hc, hr⟩ := renL_at' hys hu
    exact ih j c v hc hv u hr
  | sl0 h =>
    intro y hy
    simp only [renA, Option.map_eq_some_iff] at hy
    obtain ⟨p, hp, rfl⟩ := hy
    exact .sl0 (hφ _ _ _ _ hp h)
  | sl h h1 h2 =>
    intro y hy
    simp only [renA, Option.map_eq_some_iff] at hy
    obtain ⟨p, hp, rfl⟩ := hy
    exact .sl (hφ _ _ _ _ hp h) h1 h2
  | ptr h =>
    intro y hy
    simp only [renA, Option.map_eq_some_iff] at hy
    obtain ⟨p, hp, rfl⟩ := hy
    exact .ptr (hφ _ _ _ _ hp h)
  | rptr V hs hF hc hV =>
    intro y hy
    simp only [renA, Option.some.injEq] at hy
    subst hy
    exact .rptr V hs hF hc hV
  | fn hl0 _ hl _ ih0 ih =>
    intro y hy
    simp only [renA, Option.bind_eq_some_iff, Option.map_eq_some_iff] at hy
    obtain ⟨a, ha, b, hb, rfl⟩ := hy
    refine .fn (by rw [(renL_at ha).1]; exact hl0) (fun j u v hu hv => ?_) (by rw [(renL_at hb).1]; exact hl) fun j u v hu hv => ?_
    · obtain ⟨c, hc, hr⟩ := renL_at' ha hu
      exact ih0 j c v hc hv u hr
    · obtain ⟨c, hc, hr⟩ := renL_at' hb hu
      exact ih j c v hc hv u hr
  | tup hl _ ih =>
    intro y hy
    simp only [renA, Option.map_eq_some_iff] at hy
    obtain ⟨ys, hys, rfl⟩ := hy
    refine .tup (by rw [(renL_at hys).1]; exact hl) fun j u v hu hv => ?_
    obtain ⟨c, hc, hr⟩ := renL_at' hys hu
    exact ih j c v hc hv u hr
  | undef => intro y hy; simp only [renA, Option.some.injEq] at hy; subst hy; exact .undef
  | unk v => intro y hy; simp only [renA, Option.some.injEq] at hy; subst hy; exact .unk v
  | yld l => intro y hy; simp only [renA, Option.some.injEq] at hy; subst hy; exact .yld l
theorem ixK_at : ∀ {N : List Key} {s g i q : Nat}, ixK N s g i = some q → ∃ j k, q = i + j ∧ N[j]? = some k ∧ k.1.1 = s ∧ k.1.2 = g
  | [], s, g, i, q, h => by simp [ixK] at h
  | k :: l, s, g, i, q, h => by
    unfold ixK at h
    split at h
    · rename_i hc
      simp only [Option.some.injEq] at h
      exact ⟨0, k, by omega, by simp, hc.1, hc.2⟩
    · obtain ⟨j, k', h1, h2, h3⟩ := ixK_at h
      exact ⟨j + 1, k', by omega, by simpa using h2, h3⟩
theorem hasK_of : ∀ {l : List Key} {q k : Key}, k ∈ l → k.1 = q.1 → hasK l q = true
  | a :: l, q, k, h, e => by
    unfold hasK
    rcases List.mem_cons.1 h with h | h
    · subst h; simp [e]
    · simp [hasK_of h e]
theorem distK_inj : ∀ {N : List Key} (h : distK N = true) {i j : Nat} {k q : Key}, N[i]? = some k → N[j]? = some q → k.1 = q.1 → i = j
  | a :: l, h, i, j, k, q, hi, hj, e => by
    simp only [distK, Bool.and_eq_true, Bool.not_eq_true'] at h
    cases i with
    | zero =>
      cases j with
      | zero => rfl
      | succ j =>
        simp at hi hj
        subst hi
        rw [hasK_of (List.mem_of_getElem? hj) e.symm] at h
        cases h.1
    | succ i =>
      cases j with
      | zero =>
        simp at hi hj
        subst hj
        rw [hasK_of (List.mem_of_getElem? hi) e] at h
        cases h.1
      | succ j => exact congrArg (· + 1) (distK_inj h.2 (i := i) (j := j) (k := k) (q := q) (by simpa using hi) (by simpa using hj) e)
theorem origs_at : ∀ (ns : List Bool) (i j : Nat), j < ns.length → ∃ b, (origs i ns)[j]? = some ((BIG + (i + j), 0), b)
  | b :: ns, i, 0, h => ⟨b, by simp [origs]⟩
  | b :: ns, i, j + 1, h => by
    obtain ⟨c, hc⟩ := origs_at ns (i + 1) j (by simpa using h)
    exact ⟨c, by
      rw [show i + (j + 1) = i + 1 + j by omega]
      exact hc⟩
theorem preK_at : ∀ {l m : List Key} (h : preK l m = true) {j : Nat} {k : Key}, l[j]? = some k → ∃ q, m[j]? = some q ∧ q.1 = k.1
  | [], m, h, j, k, hj => by simp at hj
  | a :: l, [], h, j, k, hj => by simp [preK] at h
  | a :: l, b :: m, h, j, k, hj => by
    simp only [preK, Bool.and_eq_true, beq_iff_eq] at h
    cases j with
    | zero => simp at hj; subst hj; exact ⟨b, by simp, Prod.ext h.1.1.symm h.1.2.symm⟩
    | succ j => simpa using preK_at h.2 (by simpa using hj)
theorem renB_at {hp : Mem} {φ : Nat → Nat → Option (Nat × Nat)} : ∀ {N : List Key} {bs : List (Option CB)}, renB hp φ N = some bs → bs.length = N.length ∧ ∀ (i : Nat) (b : CB), bs[i]? = some (some b) →
    ∃ k B, N[i]? = some k ∧ hp k.1.1 k.1.2 = some B ∧ b.fr = B.fr ∧ b.pt = k.2 ∧ (k.2 = true → renA.renL φ B.es = some b.es) ∧ (k.2 = false → b.es = B.es)
  | [], bs, h => by
    simp only [renB, Option.some.injEq] at h
    subst h
    exact ⟨rfl, fun i b h => by simp at h⟩
  | k :: l, bs, h => by
    simp only [renB, Option.bind_eq_some_iff, Option.map_eq_some_iff] at h
    obtain ⟨a, ha, cs, hcs, rfl⟩ := h
    obtain ⟨h1, h2⟩ := renB_at hcs
    refine ⟨by simp [h1], fun i b hb => ?_⟩
    cases i with
    | succ i => simpa using h2 i b (by simpa using hb)
    | zero =>
      simp at hb
      subst hb
      refine ⟨k, ?_⟩
      split at ha
      · simp at ha
      · rename_i B hB
        refine ⟨B, by simp, hB, ?_⟩
        split at ha
        · rename_i hk
          simp only [Option.map_eq_some_iff, Option.some.injEq] at ha
          obtain ⟨es, hes, rfl⟩ := ha
          exact ⟨rfl, hk.symm, fun _ => hes, fun h => by rw [hk] at h; cases h⟩
        · rename_i hk
          simp only [Option.some.injEq] at ha
          subst ha
          exact ⟨rfl, by simpa using hk, fun h => absurd h hk, fun _ => rfl⟩
theorem mkHp_at {bs : List (Option CB)} {s g : Nat} {B : Blk} (h : mkHp bs s g = some B) : ∃ i b, s = BIG + i ∧ g = 0 ∧ bs[i]? = some (some b) ∧ B = ⟨b.es, b.fr⟩ := by
  unfold mkHp at h
  split at h
  · rename_i hc
    simp only [Option.map_eq_some_iff] at h
    obtain ⟨b, hb, rfl⟩ := h
    refine ⟨s - BIG, b, by omega, hc.1, ?_, rfl⟩
    cases hq : bs[s - BIG]? with
    | none => rw [hq] at hb; cases hb
    | some c => rw [hq] at hb; simp at hb; rw [hb]
  · cases h
structure ExtO (n : Nat) (ro ro' : RO) (σ σ' : Map) : Prop where
  f : ∀ b, ro.F b → ro'.F b ∧ ro'.w.heap[b]? = ro.w.heap[b]?
  s : ∀ i l, i < n → σ (BIG + i) 0 l → σ' (BIG + i) 0 l
theorem ExtO.refl (n : Nat) (ro : RO) (σ : Map) : ExtO n ro ro σ σ := ⟨fun b h => ⟨h, rfl⟩, fun _ _ _ h => h⟩
theorem ExtO.trans {n : Nat} {r1 r2 r3 : RO} {s1 s2 s3 : Map} (h : ExtO n r1 r2 s1 s2) (k : ExtO n r2 r3 s2 s3) : ExtO n r1 r3 s1 s3 :=
  ⟨fun b hb => ⟨(k.f b (h.f b hb).1).1, ((k.f b (h.f b hb).1).2).trans (h.f b hb).2⟩, fun i l hi hl => k.s i l hi (h.s i l hi hl)⟩
theorem ExtO.of {n : Nat} {r1 r2 : RO} {s1 s2 : Map} (h : Ext r1 r2 s1 s2) : ExtO n r1 r2 s1 s2 := ⟨h.f, fun i l _ hl => h.s _ _ _ hl⟩
theorem allS_at : ∀ {bs : List (Option CB)} (h : allS bs = true) {i : Nat}, i < bs.length → ∃ b, bs[i]? = some (some b)
  | some b :: l, h, 0, _ => ⟨b, by simp⟩
  | some b :: l, h, i + 1, hi => by simpa using allS_at (bs := l) h (by simpa using hi)
theorem bsOk_at {bs : List (Option CB)} (h : bsOk bs = true) {i : Nat} {b : CB} (hb : bs[i]? = some (some b)) (hp : b.pt = false) : gNo b.es = true := by
  have := List.all_eq_true.1 h _ (List.mem_of_getElem? hb)
  simpa [hp] using this
theorem backB_at {φ : Nat → Nat → Option (Nat × Nat)} : ∀ {bs cs : List (Option CB)}, backB φ bs = some cs → cs.length = bs.length ∧ ∀ (i : Nat) (c : CB), cs[i]? = some (some c) →
    ∃ b, bs[i]? = some (some b) ∧ c.fr = b.fr ∧ (b.pt = true → renA.renL φ b.es = some c.es) ∧ (b.pt = false → c.es = b.es)
  | [], cs, h => by
    simp only [backB, Option.some.injEq] at h
    subst h
    exact ⟨rfl, fun i c h => by simp at h⟩
  | b :: l, cs, h => by
    simp only [backB, Option.bind_eq_some_iff, Option.map_eq_some_iff] at h
    obtain ⟨a, ha, ds, hds, rfl⟩ := h
    obtain ⟨h1, h2⟩ := backB_at hds
    refine ⟨by simp [h1], fun i c hc => ?_⟩
    cases i with
    | succ i => simpa using h2 i c (by simpa using hc)
    | zero =>
      simp at hc
      subst hc
      split at ha
      · simp at ha
      · rename_i b
        refine ⟨b, by simp, ?_⟩
        split at ha
        · rename_i hk
          simp only [Option.map_eq_some_iff, Option.some.injEq] at ha
          obtain ⟨es, hes, rfl⟩ := ha
          exact ⟨rfl, fun _ => hes, fun h => by rw [hk] at h; cases h⟩
        · rename_i hk
          simp only [Option.some.injEq] at ha
          subst ha
          exact ⟨rfl, fun h => absurd h hk, fun _ => rfl⟩
theorem ixK_none : ∀ {N : List Key} {s g i : Nat}, ixK N s g i = none → ∀ k ∈ N, k.1 ≠ (s, g)
  | [], s, g, i, h, k, hk => by simp at hk
  | a :: l, s, g, i, h, k, hk => by
    unfold ixK at h
    split at h
    · cases h
    · rename_i hc
      rcases List.mem_cons.1 hk with rfl | hk
      · intro e; exact hc ⟨by rw [e], by rw [e]⟩
      · exact ixK_none h k hk
theorem keyAt_some {N : List Key} {nb k m s g : Nat} {p : Nat × Nat} (h : keyAt N nb k m s g = some p) : g = 0 ∧ ∃ i, s = BIG + i ∧ ((∃ q, N[i]? = some q ∧ p = q.1) ∨ (N.length ≤ i ∧ i < m ∧ p = (nb, k + (i - N.length)))) := by
  unfold keyAt at h
  split at h
  · rename_i hc
    refine ⟨hc.1, s - BIG, by omega, ?_⟩
    split at h
    · rename_i q hq; exact .inl ⟨q, hq, (Option.some.inj h).symm⟩
    · rename_i hn
      split at h
      · rename_i hlt; exact .inr ⟨List.getElem?_eq_none_iff.1 hn, hlt, (Option.some.inj h).symm⟩
      · cases h
  · cases h
theorem RBlk.ren {ro : RO} {σ σ' : Map} {w : World} {φ : Nat → Nat → Option (Nat × Nat)} (hφ : ∀ s g p l, φ s g = some p → σ s g l → σ' p.1 p.2 l) {es es' : List AV} {l : Loc} (hblk : RBlk ro σ w es l)
    (h : renA.renL φ es = some es' ∨ (es' = es ∧ gNo es = true)) : RBlk ro σ' w es' l := by
  rcases h with hren | ⟨rfl, hno⟩
  · cases l with
    | virt =>
      have : es = [] := hblk
      rw [this] at hren
      simp only [renA.renL, Option.some.injEq] at hren
      exact hren.symm
    | real bb sz NN =>
      obtain ⟨arr, t, fz, g1, g2, g3, g4, g5, g6, g7⟩ := hblk
      refine ⟨arr, t, fz, g1, g2, g3, by rw [(renL_at hren).1]; exact g4, g5, fun x hx => ?_, fun i x j u hx hu => ?_⟩
      · obtain ⟨j, hj⟩ := List.getElem?_of_mem hx
        obtain ⟨c, hc, hr⟩ := renL_at' hren hj
        obtain ⟨e1, e2, _⟩ := renA_cells hr
        rw [e1, e2]
        exact g6 c (List.mem_of_getElem? hc)
      · obtain ⟨c, hc, hr⟩ := renL_at' hren hx
        obtain ⟨_, _, e3⟩ := renA_cells hr
        obtain ⟨c', hc', hr'⟩ := e3 j u hu
        obtain ⟨v, a1, a2, a3⟩ := g7 i c j c' hc hc'
        exact ⟨v, a1, a2, renA_rep hφ a3 u hr'⟩
  · cases l with
    | virt => exact hblk
    | real bb sz NN =>
      obtain ⟨arr, t, fz, g1, g2, g3, g4, g5, g6, g7⟩ := hblk
      refine ⟨arr, t, fz, g1, g2, g3, g4, g5, g6, fun i x j u hx hu => ?_⟩
      obtain ⟨v, a1, a2, a3⟩ := g7 i x j u hx hu
      exact ⟨v, a1, a2, .free (a3.ofFree (cells_free (List.all_eq_true.1 hno x (List.mem_of_getElem? hx)) hu))⟩
end Vai
