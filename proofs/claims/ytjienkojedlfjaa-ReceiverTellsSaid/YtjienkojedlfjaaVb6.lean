import Derived.Test.YtjienkojedlfjaaVb5
namespace Vai
open Go Go.RowKit
set_option linter.unusedVariables false
set_option linter.unusedSimpArgs false
theorem one_cells {v : Value} (h : v.oneCell' = true) : v.cells = #[v] := by
  cases v <;> first | rfl | simp [Value.oneCell'] at h
theorem RF.cellsOf {ro : RO} {x : AV} {v : Value} (h : RF ro x v) {j : Nat} {u : AV} {q : Value} (hu : x.cells[j]? = some u) (hq : v.cells[j]? = some q) : RF ro u q := by
  have one : ∀ (x : AV) (v : Value), x.cells = [x] → v.cells = #[v] → RF ro x v → x.cells[j]? = some u → v.cells[j]? = some q → RF ro u q := by
    intro x v hx hv h hu hq
    rw [hx] at hu
    rw [hv] at hq
    cases j with
    | zero => simp at hu hq; subst hu; subst hq; exact h
    | succ j => simp at hu
  cases h with
  | agg hl h1 h => exact h _ _ _ hu hq
  | int k n => exact one _ _ rfl rfl (.int k n) hu hq
  | bool b => exact one _ _ rfl rfl (.bool b) hu hq
  | str s => exact one _ _ rfl rfl (.str s) hu hq
  | nil A => exact one _ _ rfl rfl (.nil A) hu hq
  | nl => exact one _ _ rfl rfl .nl hu hq
  | em ad c => exact one _ _ rfl rfl (.em ad c) hu hq
  | nilptr => exact one _ _ rfl rfl .nilptr hu hq
  | nilfn => exact one _ _ rfl rfl .nilfn hu hq
  | fn0 f => exact one _ _ rfl rfl (.fn0 f) hu hq
  | osl V hc hsz hA hV => exact one _ _ rfl rfl (.osl V hc hsz hA hV) hu hq
theorem frees_mem : ∀ {cs : List AV}, AV.free.frees cs = true → ∀ {c : AV}, c ∈ cs → c.free = true
  | [], _, c, hc => by cases hc
  | d :: cs, h, c, hc => by
    simp only [AV.free.frees, Bool.and_eq_true] at h
    rcases List.mem_cons.1 hc with rfl | hc
    · exact h.1
    · exact frees_mem h.2 hc
theorem RV.ofFree {ro : RO} {σ : Map} {x : AV} {v : Value} (h : RV ro σ x v) : x.free = true → RF ro x v := by
  induction h with
  | free h => exact fun _ => h
  | agg hl h1 h ih => exact fun hf => .agg hl h1 (fun j u v hu hv => ih j u v hu hv (frees_mem (by simpa [AV.free] using hf) (List.mem_of_getElem? hu)))
  | sl0 h => intro hf; simp [AV.free] at hf
  | sl h h1 h2 => intro hf; simp [AV.free] at hf
  | ptr h => intro hf; simp [AV.free] at hf
  | rptr V hs hF hc hV => intro hf; simp [AV.free] at hf
  | @fn f fst caps vf vs hl0 h0 hl h ih0 ih =>
    intro hf
    match fst, caps, hf, hl0, hl with
    | [], [], _, hl0, hl =>
      obtain rfl : vf = #[] := Array.size_eq_zero_iff.1 (by simpa using hl0.symm)
      obtain rfl : vs = #[] := Array.size_eq_zero_iff.1 (by simpa using hl.symm)
      exact .fn0 f
    | _ :: _, _, hf, _, _ => simp [AV.free] at hf
    | [], _ :: _, hf, _, _ => simp [AV.free] at hf
  | tup hl h ih => intro hf; simp [AV.free] at hf
  | undef => intro hf; simp [AV.free] at hf
  | unk v => intro hf; simp [AV.free] at hf
  | yld l => intro hf; simp [AV.free] at hf
theorem free_ok {x : AV} (h : x.free = true) : x.ok = true := by cases x <;> simp_all [AV.free, AV.ok]
theorem mapM_at {α β : Type} {f : α → Option β} : ∀ {xs : List α} {ys : List β}, xs.mapM f = some ys → xs.length = ys.length ∧ ∀ (j : Nat) (y : β), ys[j]? = some y → ∃ x, xs[j]? = some x ∧ f x = some y
  | [], ys, h => by simp at h; subst h; exact ⟨rfl, by simp⟩
  | x :: xs, ys, h => by
    simp only [List.mapM_cons, Option.bind_eq_bind, Option.bind_eq_some_iff, Option.pure_def, Option.some.injEq] at h
    obtain ⟨b, hb, bs, hbs, rfl⟩ := h
    obtain ⟨hl, ha⟩ := mapM_at hbs
    refine ⟨by simp [hl], fun j y hy => ?_⟩
    cases j with
    | zero => simp at hy; subst hy; exact ⟨x, rfl, hb⟩
    | succ j => simpa using ha j y (by simpa using hy)
def Led (hp : Hp) (σ : Map) (l : List (Nat × Nat)) (b : Nat) : Prop := ∃ s g B sz N, (s, g) ∈ l ∧ hp s g = some B ∧ σ s g (.real b sz N)
theorem Led.mono {hp : Hp} {σ : Map} {l l' : List (Nat × Nat)} {b : Nat} (h : Led hp σ l b) (hl : ∀ p ∈ l, p ∈ l') : Led hp σ l' b := by
  obtain ⟨s, g, B, sz, N, h1, h2, h3⟩ := h
  exact ⟨s, g, B, sz, N, hl _ h1, h2, h3⟩
theorem snap_rep {w0 : Base} {w : World} {ro : RO} {σ : Map} {hp : Hp} {gn : Nat → Nat} (hh : HRep w0 w ro σ hp gn) {F : Nat → Prop} (hF : ∀ b, ro.F b → F b) :
    ∀ (n : Nat) (x y : AV) (v : Value), snap hp n x = some y → RV ro σ x v → (∀ b, Led hp σ (refs hp n x) b → F b) → RF ⟨w, F⟩ y v ∧ y.cells.length = x.cells.length ∧ y.ok = true := by
  have up : ∀ {x : AV} {v : Value}, RF ro x v → RF ⟨w, F⟩ x v := fun h => h.mono (fun b hb => ⟨hF b hb, (hh.fr b hb).2⟩)
  have fre : ∀ {x : AV} {v : Value}, x.free = true → RV ro σ x v → RF ⟨w, F⟩ x v ∧ x.cells.length = x.cells.length ∧ x.ok = true := fun hf hr => ⟨up (hr.ofFree hf), rfl, free_ok hf⟩
  intro n
  induction n with
  | zero =>
    intro x y v h hr _
    unfold snap at h
    split at h
    · rename_i hf
      simp only [Option.some.injEq] at h; subst h
      exact fre hf hr
    · cases h
  | succ n ih =>
    intro x y v h hr hled
    unfold snap at h
    split at h
    · rename_i hf
      simp only [Option.some.injEq] at h; subst h
      exact fre hf hr
    · rename_i hnf
      split at h
      · rename_i cs
        simp only [Option.map_eq_some_iff] at h
        obtain ⟨ys, hys, rfl⟩ := h
        obtain ⟨hlen, hat⟩ := mapM_at hys
        obtain ⟨vs, rfl, hl, h1, h2⟩ := hr.agg_inv
        refine ⟨.agg (by omega) h1 (fun j u q hu hq => ?_), hlen.symm, rfl⟩
        obtain ⟨c, hc, hs⟩ := hat j u hu
        refine (ih c u q hs (h2 j c q hc hq) (fun b hb => hled b (hb.mono (fun p hp' => ?_)))).1
        unfold refs
        rw [if_neg hnf]
        exact List.mem_flatMap.2 ⟨c, List.mem_of_getElem? hc, hp'⟩
      · rename_i e s g lo len
        simp only [Option.bind_eq_some_iff] at h
        obtain ⟨xs, hxs, h⟩ := h
        split at h
        · rename_i hall
          simp only [Option.map_eq_some_iff] at h
          obtain ⟨ys, hys, rfl⟩ := h
          obtain ⟨hlen, hat⟩ := mapM_at hys
          have hok : ∀ z ∈ xs, z.ok = true ∧ z.cells.length = e := fun z hz => by
            have := List.all_eq_true.1 hall z hz
            simpa using this
          obtain ⟨A, c, sz, V, rfl, hcc, hsz, hA, hV⟩ := conts_rep hh hr hxs
          have hse : xs ≠ [] → sz = e := fun hne => by
            obtain ⟨z, hz⟩ := List.exists_mem_of_ne_nil _ hne
            rw [← (hsz z hz).1, (hok z hz).2]
          have elem : ∀ (i : Nat) (x y : AV), xs[i]? = some x → ys[i]? = some y → snap hp n x = some y → y.cells.length = sz ∧ y.ok = true ∧ ∀ (j : Nat) (u : AV), y.cells[j]? = some u → RF ⟨w, F⟩ u (V i j) := by
            intro i x y hx hy hs
            have hne : xs ≠ [] := by intro e; rw [e] at hx; simp at hx
            obtain ⟨ad, hAd, hsp, hcell⟩ := hA hne
            have hlt : i < xs.length := (List.getElem?_eq_some_iff.1 hx).1
            have hmem := List.mem_of_getElem? hx
            have hled' : ∀ b, Led hp σ (refs hp n x) b → F b := fun b hb => hled b (hb.mono (fun p hp' => by
              unfold refs
              rw [if_neg hnf]
              refine List.mem_cons_of_mem _ (List.mem_flatMap.2 ⟨x, ?_, hp'⟩)
              rw [hxs]; exact hmem))
            have hcz := (hsz x hmem).1
            by_cases hag : ∃ cs, x = .agg cs
            · obtain ⟨cs, rfl⟩ := hag
              have hcs : cs.length = sz := hcz
              have hrx : RV ro σ (.agg cs) (.agg ((List.range sz).map (V i)).toArray) := by
                refine .agg (by simp [hcs]) (fun j q hq => ?_) (fun j u q hu hq => ?_)
                · simp only [List.getElem?_toArray, List.getElem?_map, Option.map_eq_some_iff] at hq
                  obtain ⟨k, hk, rfl⟩ := hq
                  obtain ⟨hlt', hkj⟩ := List.getElem?_eq_some_iff.1 hk
                  simp at hlt' hkj
                  exact (hcell i k hlt (by omega)).2
                · simp only [List.getElem?_toArray, List.getElem?_map, Option.map_eq_some_iff] at hq
                  obtain ⟨k, hk, rfl⟩ := hq
                  obtain ⟨hlt', hkj⟩ := List.getElem?_eq_some_iff.1 hk
                  simp at hlt' hkj
                  subst hkj
                  exact hV i j _ u hx hu
              obtain ⟨r1, r2, r3⟩ := ih _ y _ hs hrx hled'
              refine ⟨by rw [r2]; exact hcs, r3, fun j u hu => r1.cellsOf hu ?_⟩
              have hj : j < sz := by
                have := (List.getElem?_eq_some_iff.1 hu).1
                rw [r2] at this
                have h3 : (AV.agg cs).cells.length = cs.length := rfl
                omega
              simp [Value.cells, hj]
            · have hx1 : x.cells = [x] := by cases x <;> first | rfl | exact absurd ⟨_, rfl⟩ hag
              have hsz1 : sz = 1 := by rw [← hcz, hx1]; rfl
              have hrx : RV ro σ x (V i 0) := hV i 0 x x hx (by rw [hx1]; rfl)
              obtain ⟨r1, r2, r3⟩ := ih _ y _ hs hrx hled'
              refine ⟨by rw [r2]; exact hcz, r3, fun j u hu => ?_⟩
              have hj : j < 1 := by
                have := (List.getElem?_eq_some_iff.1 hu).1
                rw [r2, hx1] at this
                simpa using this
              obtain rfl : j = 0 := by omega
              exact r1.cellsOf hu (by rw [one_cells (hcell i 0 hlt (by omega)).2]; rfl)
          have elem' : ∀ (i : Nat) (y : AV), ys[i]? = some y → y.cells.length = sz ∧ y.ok = true ∧ ∀ (j : Nat) (u : AV), y.cells[j]? = some u → RF ⟨w, F⟩ u (V i j) := by
            intro i y hy
            obtain ⟨x, hx, hs⟩ := hat i y hy
            exact elem i x y hx hy hs
          refine ⟨?_, rfl, rfl⟩
          rw [hlen]
          refine .osl (sz := sz) V ⟨by rw [← hlen]; exact hcc, fun hn => by
            rcases hr.sl_inv with ⟨hσ, rfl, rfl, A', hv⟩ | ⟨b, N, c', hσ, hnc, hN, hv⟩
            · simp only [Value.slice.injEq] at hv; exact hv.2.2
            · simp only [Value.slice.injEq] at hv; rw [hn] at hv; cases hv.1⟩ (fun z hz => ?_) (fun hne => ?_) (fun i j y u hy hu => (elem' i y hy).2.2 j u hu)
          · obtain ⟨i, hi⟩ := List.getElem?_of_mem hz
            exact ⟨(elem' i z hi).1, (elem' i z hi).2.1⟩
          · have hne' : xs ≠ [] := by intro e; apply hne; rw [e] at hlen; exact List.length_eq_zero_iff.1 (by simpa using hlen.symm)
            obtain ⟨ad, hAd, hsp, hcell⟩ := hA hne'
            refine ⟨ad, hAd, hsp, fun _ => ?_, fun i j hi hj => hcell i j (by rw [hlen]; exact hi) hj⟩
            rcases hr.sl_inv with ⟨hσ, rfl, rfl, A', hv⟩ | ⟨b, N, c', hσ, hnc, hN, hv⟩
            · simp only [Value.slice.injEq] at hv
              exact absurd (List.length_eq_zero_iff.1 hv.2.1) hne'
            · simp only [Value.slice.injEq] at hv
              obtain ⟨hv1, _, _⟩ := hv
              rw [hAd] at hv1
              simp only [Option.some.injEq] at hv1
              subst hv1
              have hxs' := hxs
              simp only [conts, Option.bind_eq_some_iff] at hxs'
              obtain ⟨B, hB, _⟩ := hxs'
              refine hled b ⟨s, g, B, e, N, ?_, hB, hσ⟩
              unfold refs
              rw [if_neg hnf]
              exact List.mem_cons_self
        · cases h
      · cases h
theorem norms_at : ∀ (cs : List AV) (j : Nat), (AV.norm.norms cs)[j]? = (cs[j]?).map AV.norm
  | [], j => by simp [AV.norm.norms]
  | c :: cs, 0 => by simp [AV.norm.norms]
  | c :: cs, j + 1 => by simp [AV.norm.norms, norms_at cs j]
theorem norms_len : ∀ (cs : List AV), (AV.norm.norms cs).length = cs.length
  | [] => rfl
  | c :: cs => by simp [AV.norm.norms, norms_len cs]
theorem RF.norm {ro : RO} {x : AV} {v : Value} (h : RF ro x v) : RF ro x.norm v := by
  induction h with
  | int k n => exact .int k n
  | bool b => exact .bool b
  | str s => exact .str s
  | nil A => exact .osl (sz := 0) (xs := []) (fun _ _ => Go.undef) ⟨Nat.le_refl _, fun _ => rfl⟩ (by simp) (by simp) (by simp)
  | nl => exact .osl (sz := 0) (xs := []) (fun _ _ => Go.undef) ⟨Nat.le_refl _, fun _ => rfl⟩ (by simp) (by simp) (by simp)
  | em ad c => exact .osl (sz := 0) (xs := []) (fun _ _ => Go.undef) ⟨Nat.zero_le _, fun h => by cases h⟩ (by simp) (by simp) (by simp)
  | nilptr => exact .nilptr
  | nilfn => exact .nilfn
  | fn0 f => exact .fn0 f
  | agg hl h1 _ ih =>
    unfold AV.norm
    refine .agg (by rw [norms_len]; exact hl) h1 (fun j u v hu hv => ?_)
    rw [norms_at, Option.map_eq_some_iff] at hu
    obtain ⟨c, hc, rfl⟩ := hu
    exact ih j c v hc hv
  | osl V hc hsz hA hV _ => exact .osl V hc hsz hA hV
inductive RR (ro : RO) : AV → Value → Prop
  | one {x : AV} {v : Value} (h : RF ro x v) : RR ro x v
  | tup {cs : List AV} {vs : Array Value} (hl : cs.length = vs.size)
      (h : ∀ (j : Nat) (u : AV) (v : Value), cs[j]? = some u → vs[j]? = some v → RF ro u v) : RR ro (.tup cs) (.tuple vs)
theorem flats_at : ∀ {cs : List AV} {j : Nat} {u : AV}, AV.flat.flats cs = true → cs[j]? = some u → u.flat = true
  | [], j, u, _, h => by simp at h
  | c :: cs, 0, u, hf, h => by
    simp only [AV.flat.flats, Bool.and_eq_true] at hf
    simp only [List.getElem?_cons_zero, Option.some.injEq] at h
    rw [← h]; exact hf.1
  | c :: cs, j + 1, u, hf, h => by
    simp only [AV.flat.flats, Bool.and_eq_true] at hf
    rw [List.getElem?_cons_succ] at h
    exact flats_at hf.2 h
theorem RF.flat {ro ro' : RO} {x : AV} {v : Value} (h : RF ro x v) : x.flat = true → RF ro' x v := by
  induction h with
  | int k n => exact fun _ => .int k n
  | bool b => exact fun _ => .bool b
  | str s => exact fun _ => .str s
  | nilptr => exact fun _ => .nilptr
  | nilfn => exact fun _ => .nilfn
  | fn0 f => exact fun _ => .fn0 f
  | agg hl h1 h ih => exact fun hf => .agg hl h1 fun j u v hu hv => ih j u v hu hv (flats_at (by simpa [AV.flat] using hf) hu)
  | _ => intro hf; simp [AV.flat] at hf
theorem RR.flat {ro ro' : RO} {x : AV} {v : Value} (h : RR ro x v) (hf : x.flat = true) : RR ro' x v := by
  cases h with
  | one h => exact .one (h.flat hf)
  | tup hl h => exact .tup hl fun j u v hu hv => (h j u v hu hv).flat (flats_at (by simpa [AV.flat] using hf) hu)
theorem RR.rv {ro : RO} {σ : Map} {x : AV} {v : Value} (h : RR ro x v) : RV ro σ x v := by
  cases h with
  | one h => exact .free h
  | tup hl h => exact .tup hl (fun j u v hu hv => .free (h j u v hu hv))
theorem snapR_rep {w0 : Base} {w : World} {ro : RO} {σ : Map} {hp : Hp} {gn : Nat → Nat} (hh : HRep w0 w ro σ hp gn) {F : Nat → Prop} (hF : ∀ b, ro.F b → F b) (hL : ∀ s g B b sz N, hp s g = some B → σ s g (.real b sz N) → F b)
    {x y : AV} {v : Value} (h : snapR hp x = some y) (hr : RV ro σ x v) : RR ⟨w, F⟩ y v := by
  have hl : ∀ l b, Led hp σ l b → F b := fun l b ⟨s, g, B, sz, N, _, h2, h3⟩ => hL s g B b sz N h2 h3
  unfold snapR at h
  split at h
  · rename_i vs
    simp only [Option.map_eq_some_iff] at h
    obtain ⟨zs, ⟨ys, hys, rfl⟩, rfl⟩ := h
    obtain ⟨hlen, hat⟩ := mapM_at hys
    obtain ⟨us, rfl, hl', h2⟩ := hr.tup_inv
    refine .tup (by simp; omega) (fun j u q hu hq => ?_)
    simp only [List.getElem?_map, Option.map_eq_some_iff] at hu
    obtain ⟨z, hz, rfl⟩ := hu
    obtain ⟨c, hc, hs⟩ := hat j z hz
    exact (snap_rep hh hF _ _ _ _ hs (h2 j c q hc hq) (fun b => hl _ b)).1.norm
  · simp only [Option.map_eq_some_iff] at h
    obtain ⟨z, hz, rfl⟩ := h
    exact .one (snap_rep hh hF _ _ _ _ hz hr (fun b => hl _ b)).1.norm
theorem HRep.freeze {w0 : Base} {w : World} {ro : RO} {σ : Map} {st : St} (h : HRep w0 w ro σ st.hp st.gn) (l : List (Nat × Nat)) :
    HRep w0 w ⟨w, fun b => ro.F b ∨ Led st.hp σ l b⟩ σ (st.frz l).hp (st.frz l).gn ∧ Ext ro ⟨w, fun b => ro.F b ∨ Led st.hp σ l b⟩ σ σ := by
  have e : Ext ro ⟨w, fun b => ro.F b ∨ Led st.hp σ l b⟩ σ σ := ⟨fun b hb => ⟨.inl hb, (h.fr b hb).2⟩, fun _ _ _ h => h⟩
  have old : ∀ {s g B}, (st.frz l).hp s g = some B → ∃ B0, st.hp s g = some B0 ∧ B.es = B0.es ∧ ((s, g) ∈ l ∧ B.fr = true ∨ (s, g) ∉ l ∧ B.fr = B0.fr) := by
    intro s g B hB
    simp only [St.frz, Option.map_eq_some_iff] at hB
    obtain ⟨B0, h0, rfl⟩ := hB
    by_cases hc : l.contains (s, g) = true
    · rw [if_pos hc]; exact ⟨B0, h0, rfl, .inl ⟨by simpa using hc, rfl⟩⟩
    · rw [if_neg hc]; exact ⟨B0, h0, rfl, .inr ⟨by simpa using hc, rfl⟩⟩
  have lt : ∀ {s g B b sz N}, st.hp s g = some B → σ s g (.real b sz N) → b < w.heap.size := by
    intro s g B b sz N hB hσ
    obtain ⟨l', hl', hb⟩ := h.blk _ _ _ hB
    obtain rfl := h.fn _ _ _ _ hl' hσ
    exact hb.lt
  refine ⟨⟨h.below, fun b hb => ?_, fun b hb => ?_, h.fn, h.lt, fun s g B hB => ?_, fun s g B b sz N hB hfr hσ => ?_, fun s g B b sz N hB hfr hσ => ?_, fun s g B s' g' B' b sz N sz' N' hB hB' hfr hσ hσ' => ?_, h.hid, fun b hb => ?_, fun s g B b sz N hB hfr hσ => ?_⟩, e⟩
  · rcases hb with hb | ⟨s, g, B, sz, N, _, hB, hσ⟩
    · exact ⟨(h.fr b hb).1, rfl⟩
    · exact ⟨lt hB hσ, rfl⟩
  · rcases hb with hb | ⟨s, g, B, sz, N, _, hB, hσ⟩
    · exact h.sub b hb
    · by_cases hfr : B.fr = true
      · exact h.sub b (h.frz _ _ _ _ _ _ hB hfr hσ)
      · exact .inr (h.own _ _ _ _ _ _ hB (by simpa using hfr) hσ).2
  · obtain ⟨B0, h0, he, _⟩ := old hB
    obtain ⟨l', hl', hb⟩ := h.blk _ _ _ h0
    exact ⟨l', hl', by rw [he]; exact hb.mono e (fun _ _ _ _ => rfl)⟩
  · obtain ⟨B0, h0, he, hc⟩ := old hB
    rcases hc with ⟨_, hc⟩ | ⟨hnl, hc⟩
    · rw [hc] at hfr; cases hfr
    · obtain ⟨h1, h2⟩ := h.own _ _ _ _ _ _ h0 (by rw [← hc]; exact hfr) hσ
      refine ⟨fun hb => ?_, h2⟩
      rcases hb with hb | ⟨s', g', B', sz', N', hl', hB', hσ'⟩
      · exact h1 hb
      · obtain ⟨rfl, rfl⟩ := h.inj _ _ _ _ _ _ _ _ _ _ _ h0 hB' (by rw [← hc]; exact hfr) hσ hσ'
        exact hnl hl'
  · obtain ⟨B0, h0, he, hc⟩ := old hB
    rcases hc with ⟨hl', hc⟩ | ⟨hnl, hc⟩
    · exact .inr ⟨s, g, B0, sz, N, hl', h0, hσ⟩
    · exact .inl (h.frz _ _ _ _ _ _ h0 (by rw [← hc]; exact hfr) hσ)
  · obtain ⟨B0, h0, he, hc⟩ := old hB
    obtain ⟨B0', h0', _, _⟩ := old hB'
    rcases hc with ⟨_, hc⟩ | ⟨hnl, hc⟩
    · rw [hc] at hfr; cases hfr
    · exact h.inj _ _ _ _ _ _ _ _ _ _ _ h0 h0' (by rw [← hc]; exact hfr) hσ hσ'
  · rcases hb with hb | ⟨s, g, B, sz, N, _, hB, hσ⟩
    · exact h.dis b hb
    · by_cases hfr : B.fr = true
      · exact h.dis b (h.frz _ _ _ _ _ _ hB hfr hσ)
      · exact h.oh _ _ _ _ _ _ hB (by simpa using hfr) hσ
  · obtain ⟨B0, h0, he, hc⟩ := old hB
    rcases hc with ⟨_, hc⟩ | ⟨hnl, hc⟩
    · rw [hc] at hfr; cases hfr
    · exact h.oh _ _ _ _ _ _ h0 (by rw [← hc]; exact hfr) hσ
theorem HRep.onward {w0 : Base} {w w' : World} {ro : RO} {σ : Map} {hp : Hp} {gn : Nat → Nat} (h : HRep w0 w ro σ hp gn) (hb : Below w.heap.size w w') :
    HRep w0 w' ⟨w', fun b => ro.F b ∨ (w.heap.size ≤ b ∧ b < w'.heap.size)⟩ σ hp gn ∧ Ext ro ⟨w', fun b => ro.F b ∨ (w.heap.size ≤ b ∧ b < w'.heap.size)⟩ σ σ := by
  have e : Ext ro ⟨w', fun b => ro.F b ∨ (w.heap.size ≤ b ∧ b < w'.heap.size)⟩ σ σ := ⟨fun b hF => ⟨.inl hF, (hb.block b (h.fr b hF).1).trans (h.fr b hF).2⟩, fun _ _ _ h => h⟩
  have lt : ∀ {s g B b sz N}, hp s g = some B → σ s g (.real b sz N) → b < w.heap.size := by
    intro s g B b sz N hB hσ
    obtain ⟨l', hl', hb⟩ := h.blk _ _ _ hB
    obtain rfl := h.fn _ _ _ _ hl' hσ
    exact hb.lt
  refine ⟨⟨h.below.trans (hb.mono h.below.size), fun b hF => ?_, fun b hF => ?_, h.fn, h.lt, fun s g B hB => ?_, fun s g B b sz N hB hfr hσ => ?_, fun s g B b sz N hB hfr hσ => .inl (h.frz _ _ _ _ _ _ hB hfr hσ), h.inj, fun b hH => ?_, fun b hF hH => ?_, h.oh⟩, e⟩
  · rcases hF with hF | hF
    · exact ⟨Nat.lt_of_lt_of_le (h.fr b hF).1 hb.size, rfl⟩
    · exact ⟨hF.2, rfl⟩
  · rcases hF with hF | hF
    · exact h.sub b hF
    · exact .inr (Nat.le_trans h.below.size hF.1)
  · obtain ⟨l', hl', hblk⟩ := h.blk _ _ _ hB
    refine ⟨l', hl', hblk.mono e (fun b sz N he => ?_)⟩
    subst he
    exact hb.block b hblk.lt
  · obtain ⟨h1, h2⟩ := h.own _ _ _ _ _ _ hB hfr hσ
    exact ⟨fun hF => hF.elim h1 (fun hF => absurd (lt hB hσ) (by omega)), h2⟩
  · obtain ⟨h1, h2⟩ := h.hid b hH
    exact ⟨Nat.lt_of_lt_of_le h1 hb.size, (hb.block b h1).trans h2⟩
  · rcases hF with hF | hF
    · exact h.dis b hF hH
    · have := (h.hid b hH).1; omega
theorem HRep.start {w : World} {F : Nat → Prop} (hF : ∀ b, F b → b < w.heap.size) : HRep ⟨w, F, [], fun _ => False, w⟩ w ⟨w, F⟩ (fun _ _ _ => False) (fun _ _ => none) (fun _ => 0) :=
  ⟨Below.refl _ _, fun b hb => ⟨hF b hb, rfl⟩, fun b hb => .inl hb, fun _ _ _ _ h => h.elim, fun _ _ _ h => h.elim, fun _ _ _ h => (by cases h), fun _ _ _ _ _ _ h => (by cases h), fun _ _ _ _ _ _ h => (by cases h), (by intro s g B s' g' B' b sz N sz' N' h; cases h), fun _ h => h.elim, fun _ _ h => h.elim, fun _ _ _ _ _ _ h => (by cases h)⟩
theorem cells_free {y u : AV} {j : Nat} (h : y.free = true) (hj : y.cells[j]? = some u) : u.free = true := by
  by_cases hag : ∃ cs, y = .agg cs
  · obtain ⟨cs, rfl⟩ := hag
    exact frees_mem (by simpa [AV.free] using h) (List.mem_of_getElem? (show cs[j]? = some u from hj))
  · have hy1 : y.cells = [y] := by cases y <;> first | rfl | exact absurd ⟨_, rfl⟩ hag
    rw [hy1] at hj
    cases j with
    | zero => simp at hj; subst hj; exact h
    | succ j => simp at hj
theorem arr_run {P : Program} {w0 : Base} {w : World} {ro : RO} {σ : Map} {hp : Hp} {gn : Nat → Nat} (hh : HRep w0 w ro σ hp gn) {t n e : Nat} (ht : tarr P t = some (n, e)) {x : AV} {v : Value} (hx : RV ro σ x v) {lo hi : Option AV} {lo' hi' : Option Value}
    (hlo : OR ro σ lo lo') (hhi : OR ro σ hi hi') {r : AV × List (Nat × Nat)} (h : arrF P n e lo hi x hp = some r) :
    ∃ u, (Instr.sliceAt t v lo' hi' none).run P w = .ok u w ∧ RF ⟨w, fun b => ro.F b ∨ Led hp σ r.2 b⟩ r.1 u := by
  have hu := tarr_some ht
  simp only [arrF, Option.bind_eq_some_iff] at h
  obtain ⟨ag, hag, z, hz, hh', h2, l, h3, h⟩ := h
  obtain ⟨hb, hlh, hhn, _⟩ := bounds_run (P := P) (mx := none) (mx' := none) hlo hhi trivial (.inl rfl) (Nat.le_refl n) (by simp [bound]) h2 h3 false w
  simp only [Option.isSome_none, Bool.false_eq_true, if_false] at hb
  cases x <;> try (simp at h; done)
  rename_i s g i off
  obtain ⟨b, sz, N, hσ, rfl⟩ := hx.ptr_inv
  simp only [Option.bind_eq_some_iff] at h
  obtain ⟨B, hB, q, hq, es, hes, h⟩ := h
  split at h
  · rename_i hall
    simp only [Option.some.injEq] at h
    subst h
    obtain ⟨l', hl', hblk⟩ := hh.blk _ _ _ hB
    obtain rfl := hh.fn _ _ _ _ hl' hσ
    obtain ⟨V, hc1, hc2⟩ := hblk.read hq
    obtain ⟨hlen, hat⟩ := mapM_at hes
    rw [List.length_range] at hlen
    have hF : Led hp σ [(s, g)] b := ⟨s, g, B, sz, N, List.mem_singleton.2 rfl, hB, hσ⟩
    have hfz : ∀ y ∈ es, y.cells.length = z ∧ y.ok = true ∧ y.free = true := fun y hy => by
      have := List.all_eq_true.1 hall y hy
      simp only [Bool.and_eq_true, decide_eq_true_eq] at this
      exact ⟨this.2, free_ok this.1, this.1⟩
    refine ⟨.slice (some (if n = l then ⟨b, i * sz + off, none⟩ else (⟨b, i * sz + off, none⟩ : Addr).add (l * z))) (hh' - l) (n - l), by simp [Instr.sliceAt, run_underlying hu, Instr.sureAddr, hb, run_size hz], ?_⟩
    have cell : ∀ (k : Nat) (y : AV), es[k]? = some y → ∀ (j : Nat) (u : AV), y.cells[j]? = some u → q.cells[off + (k * z + j)]? = some u := by
      intro k y hy j u hj
      obtain ⟨k', hk', hp⟩ := hat k y hy
      have hk2 := List.getElem?_eq_some_iff.1 hk'
      obtain ⟨hlt, hk2⟩ := hk2
      simp at hlt hk2
      subst hk2
      unfold pick at hp
      cases ag with
      | true =>
        simp only [if_true] at hp
        split at hp
        · simp only [Option.some.injEq] at hp
          subst hp
          have hj' : ((q.cells.drop off).drop (k * z)).take z = (AV.agg (((q.cells.drop off).drop (k * z)).take z)).cells := rfl
          rw [← hj', List.getElem?_take] at hj
          split at hj
          · rw [List.getElem?_drop, List.getElem?_drop] at hj
            rw [← hj]
          · cases hj
        · cases hp
      | false =>
        simp only [Bool.false_eq_true, if_false, List.getElem?_drop] at hp
        have hlt2 : off + k * z < q.cells.length := (List.getElem?_eq_some_iff.1 hp).1
        have hno := (hc2 _ _ hp).noAgg (hc1 _ hlt2).2
        have hy1 : y.cells = [y] := by cases y <;> first | rfl | exact absurd rfl (hno _)
        rw [hy1] at hj
        cases j with
        | zero => simp at hj; subst hj; simpa using hp
        | succ j => simp at hj
    have hcut := RF.cut (ro := ⟨w, fun b => ro.F b ∨ Led hp σ [(s, g)] b⟩) (xs := es) (A := some ⟨b, i * sz + off, none⟩) (c := n) (sz := z) (fun k j => V (off + (k * z + j))) ⟨by omega, fun h => by cases h⟩ (fun y hy => ⟨(hfz y hy).1, (hfz y hy).2.1⟩)
      (fun _ => ⟨_, rfl, rfl, fun _ => .inr hF, fun k j hk hj => by
        have hy : es[k]? = some (es[k]) := List.getElem?_eq_getElem hk
        have hyl := (hfz _ (List.mem_of_getElem? hy)).1
        have := cell k _ hy j _ (List.getElem?_eq_getElem (by rw [hyl]; exact hj))
        have hlt := (List.getElem?_eq_some_iff.1 this).1
        have := hc1 _ hlt
        rw [add_plain'] at this ⊢
        rw [show i * sz + off + (k * z + j) = i * sz + (off + (k * z + j)) by omega]
        exact this⟩)
      (fun k j y u hy hj => by
        have h1 := (hc2 _ _ (cell k y hy j u hj)).ofFree (cells_free (hfz y (List.mem_of_getElem? hy)).2.2 hj)
        exact RF.mono (ro' := ⟨w, fun b => ro.F b ∨ Led hp σ [(s, g)] b⟩) (fun b hb => ⟨Or.inl hb, (hh.fr b hb).2⟩) h1)
      (l := l) (h := hh') (M := n) (n := z) hlh (by omega) (by omega) (Nat.le_refl _) (fun _ => rfl)
    have e : (if n = l then some (⟨b, i * sz + off, none⟩ : Addr) else (some (⟨b, i * sz + off, none⟩ : Addr)).map (·.add (l * z))) = some (if n = l then ⟨b, i * sz + off, none⟩ else (⟨b, i * sz + off, none⟩ : Addr).add (l * z)) := by split <;> rfl
    rw [e] at hcut
    exact hcut
  · cases h
end Vai
