import Derived.Test.YtjienkojedlfjaaVb2
namespace Vai
open Go Go.RowKit
set_option linter.unusedVariables false
set_option linter.unusedSimpArgs false
def Map.add (σ : Map) (d g : Nat) (l : Loc) : Map := fun s' g' l' => σ s' g' l' ∨ (s' = d ∧ g' = g ∧ l' = l)
theorem Map.add_ext (ro : RO) (σ : Map) (d g : Nat) (l : Loc) : Ext ro ro σ (σ.add d g l) := ⟨fun _ h => ⟨h, rfl⟩, fun _ _ _ h => .inl h⟩
theorem HRep.kill {w0 : Base} {w : World} {ro : RO} {σ : Map} {hp : Hp} {gn : Nat → Nat} (h : HRep w0 w ro σ hp gn) (a g : Nat) : HRep w0 w ro σ (fun x y => if x = a ∧ y = g then none else hp x y) gn := by
  have old : ∀ {s g' B}, (fun x y => if x = a ∧ y = g then none else hp x y) s g' = some B → hp s g' = some B := by
    intro s g' B hh
    simp only at hh
    split at hh
    · cases hh
    · exact hh
  exact ⟨h.below, h.fr, h.sub, h.fn, h.lt, fun s g B hh => h.blk s g B (old hh), fun s g B b sz N hh => h.own s g B b sz N (old hh), fun s g B b sz N hh => h.frz s g B b sz N (old hh),
    fun s g B s' g' B' b sz N sz' N' hh hh' => h.inj s g B s' g' B' b sz N sz' N' (old hh) (old hh'), h.hid, h.dis, fun s g B b sz N hh => h.oh s g B b sz N (old hh)⟩
theorem HRep.add {w0 : Base} {w w' : World} {ro : RO} {σ : Map} {hp : Hp} {gn : Nat → Nat} (h : HRep w0 w ro σ hp gn) {b sz N : Nat} {es : List AV} (d : Nat) (hg : w.grownBy w' (some b)) (hnF : ¬ ro.F b ∧ w0.w.heap.size ≤ b ∧ ¬ w0.H b)
    (hfree : ∀ s g B sz' N', hp s g = some B → ¬ σ s g (.real b sz' N')) (hr : RBlk ro σ w' es (.real b sz N)) :
    HRep w0 w' ro (σ.add d (gn d) (.real b sz N)) (fun x y => if x = d ∧ y = gn d then some ⟨es, false⟩ else hp x y) (fun x => if x = d then gn d + 1 else gn x) := by
  have hbase : w0.w.heap.size ≤ b := hnF.2.1
  have hb0 : w0.w.heap.size ≤ w.heap.size := h.below.size
  have e := Map.add_ext ro σ d (gn d) (.real b sz N)
  have sep : ∀ {s g l}, σ s g l → ¬ (s = d ∧ g = gn d) := fun hσ ⟨h1, h2⟩ => by subst h1; subst h2; exact absurd (h.lt _ _ _ hσ) (by omega)
  have uniq : ∀ {s g l l'}, (σ.add d (gn d) (.real b sz N)) s g l → (σ.add d (gn d) (.real b sz N)) s g l' → l = l' := by
    intro s g l l' h1 h2
    rcases h1 with h1 | ⟨h1, h1', rfl⟩ <;> rcases h2 with h2 | ⟨h2, h2', rfl⟩
    · exact h.fn _ _ _ _ h1 h2
    · exact absurd ⟨h2, h2'⟩ (sep h1)
    · exact absurd ⟨h1, h1'⟩ (sep h2)
    · rfl
  have live : ∀ {s g B}, (if s = d ∧ g = gn d then some ⟨es, false⟩ else hp s g) = some B → (s = d ∧ g = gn d ∧ B = ⟨es, false⟩) ∨ (¬ (s = d ∧ g = gn d) ∧ hp s g = some B) := by
    intro s g B hh
    split at hh
    · rename_i hc
      simp only [Option.some.injEq] at hh
      exact .inl ⟨hc.1, hc.2, hh.symm⟩
    · rename_i hc
      exact .inr ⟨hc, hh⟩
  have loc : ∀ {s g l}, (σ.add d (gn d) (.real b sz N)) s g l → ¬ (s = d ∧ g = gn d) → σ s g l := by
    intro s g l h1 hc
    rcases h1 with h1 | ⟨h1, h1', _⟩
    · exact h1
    · exact absurd ⟨h1, h1'⟩ hc
  refine ⟨h.below.grown hg hb0 (fun k hk => by simp at hk; omega), fun k hk => ?_, h.sub, fun s g l l' => uniq, fun s g l h1 => ?_, fun s g B hh => ?_, fun s g B b' sz' N' hh hfr h1 => ?_, fun s g B b' sz' N' hh hfr h1 => ?_, ?_, fun k hk => ?_, h.dis, fun s g B b' sz' N' hh hfr h1 => ?_⟩
  · obtain ⟨h1, h2⟩ := h.fr k hk
    have hne : k ≠ b := fun e => hnF.1 (e ▸ hk)
    exact ⟨Nat.lt_of_lt_of_le h1 hg.size, (hg.block k h1 (by simpa using hne)).trans h2⟩
  · rcases h1 with h1 | ⟨rfl, rfl, _⟩
    · have := h.lt _ _ _ h1
      split
      · subst_vars; omega
      · exact this
    · rw [if_pos rfl]; omega
  · rcases live hh with ⟨rfl, rfl, rfl⟩ | ⟨hc, hh⟩
    · exact ⟨_, .inr ⟨rfl, rfl, rfl⟩, hr.mono e (fun _ _ _ _ => rfl)⟩
    · obtain ⟨l, hσ, hb⟩ := h.blk s g B hh
      refine ⟨l, .inl hσ, hb.mono e (fun b' sz' N' hl => ?_)⟩
      subst hl
      exact hg.block b' hb.lt (by simp; intro e; subst e; exact hfree _ _ _ _ _ hh hσ)
  · rcases live hh with ⟨rfl, rfl, rfl⟩ | ⟨hc, hh⟩
    · have := uniq h1 (.inr ⟨rfl, rfl, rfl⟩)
      simp only [Loc.real.injEq] at this
      rw [this.1]; exact ⟨hnF.1, hnF.2.1⟩
    · exact h.own _ _ _ _ _ _ hh hfr (loc h1 hc)
  · rcases live hh with ⟨rfl, rfl, rfl⟩ | ⟨hc, hh⟩
    · cases hfr
    · exact h.frz _ _ _ _ _ _ hh hfr (loc h1 hc)
  · intro s g B s' g' B' b1 sz1 N1 sz2 N2 hh hh' hfr h1 h2
    rcases live hh with ⟨rfl, rfl, rfl⟩ | ⟨hc, k1⟩ <;> rcases live hh' with ⟨rfl, rfl, rfl⟩ | ⟨hc', k2⟩
    · exact ⟨rfl, rfl⟩
    · have := uniq h1 (.inr ⟨rfl, rfl, rfl⟩)
      simp only [Loc.real.injEq] at this
      rw [this.1] at h2
      exact absurd (loc h2 hc') (hfree _ _ _ _ _ k2)
    · have := uniq h2 (.inr ⟨rfl, rfl, rfl⟩)
      simp only [Loc.real.injEq] at this
      rw [this.1] at h1
      exact absurd (loc h1 hc) (hfree _ _ _ _ _ k1)
    · exact h.inj _ _ _ _ _ _ _ _ _ _ _ k1 k2 hfr (loc h1 hc) (loc h2 hc')
  · obtain ⟨h1, h2⟩ := h.hid k hk
    have hne : k ≠ b := fun e => hnF.2.2 (e ▸ hk)
    exact ⟨Nat.lt_of_lt_of_le h1 hg.size, (hg.block k h1 (by simpa using hne)).trans h2⟩
  · rcases live hh with ⟨rfl, rfl, rfl⟩ | ⟨hc, hh⟩
    · have := uniq h1 (.inr ⟨rfl, rfl, rfl⟩)
      simp only [Loc.real.injEq] at this
      rw [this.1]; exact hnF.2.2
    · exact h.oh _ _ _ _ _ _ hh hfr (loc h1 hc)
theorem HRep.addVirt {w0 : Base} {w : World} {ro : RO} {σ : Map} {hp : Hp} {gn : Nat → Nat} (h : HRep w0 w ro σ hp gn) (d : Nat) :
    HRep w0 w ro (σ.add d (gn d) .virt) (fun x y => if x = d ∧ y = gn d then some ⟨[], false⟩ else hp x y) (fun x => if x = d then gn d + 1 else gn x) := by
  have e := Map.add_ext ro σ d (gn d) .virt
  have sep : ∀ {s g l}, σ s g l → ¬ (s = d ∧ g = gn d) := fun hσ ⟨h1, h2⟩ => by subst h1; subst h2; exact absurd (h.lt _ _ _ hσ) (by omega)
  have real : ∀ {s g b sz N}, (σ.add d (gn d) .virt) s g (.real b sz N) → σ s g (.real b sz N) := by
    intro s g b sz N h1
    rcases h1 with h1 | ⟨_, _, h1⟩
    · exact h1
    · cases h1
  have live : ∀ {s g B}, (if s = d ∧ g = gn d then some ⟨[], false⟩ else hp s g) = some B → (s = d ∧ g = gn d ∧ B = ⟨[], false⟩) ∨ (¬ (s = d ∧ g = gn d) ∧ hp s g = some B) := by
    intro s g B hh
    split at hh
    · rename_i hc
      simp only [Option.some.injEq] at hh
      exact .inl ⟨hc.1, hc.2, hh.symm⟩
    · rename_i hc
      exact .inr ⟨hc, hh⟩
  have old : ∀ {s g B b sz N}, (if s = d ∧ g = gn d then some ⟨[], false⟩ else hp s g) = some B → (σ.add d (gn d) .virt) s g (.real b sz N) → hp s g = some B ∧ σ s g (.real b sz N) := by
    intro s g B b sz N hh h1
    rcases live hh with ⟨rfl, rfl, rfl⟩ | ⟨hc, hh⟩
    · exact absurd ⟨rfl, rfl⟩ (sep (real h1))
    · exact ⟨hh, real h1⟩
  refine ⟨h.below, h.fr, h.sub, fun s g l l' h1 h2 => ?_, fun s g l h1 => ?_, fun s g B hh => ?_, fun s g B b' sz' N' hh hfr h1 => h.own _ _ _ _ _ _ (old hh h1).1 hfr (old hh h1).2,
    fun s g B b' sz' N' hh hfr h1 => h.frz _ _ _ _ _ _ (old hh h1).1 hfr (old hh h1).2, fun s g B s' g' B' b1 sz1 N1 sz2 N2 hh hh' hfr h1 h2 => h.inj _ _ _ _ _ _ _ _ _ _ _ (old hh h1).1 (old hh' h2).1 hfr (old hh h1).2 (old hh' h2).2,
    h.hid, h.dis, fun s g B b' sz' N' hh hfr h1 => h.oh _ _ _ _ _ _ (old hh h1).1 hfr (old hh h1).2⟩
  · rcases h1 with h1 | ⟨h1, h1', rfl⟩ <;> rcases h2 with h2 | ⟨h2, h2', rfl⟩
    · exact h.fn _ _ _ _ h1 h2
    · exact absurd ⟨h2, h2'⟩ (sep h1)
    · exact absurd ⟨h1, h1'⟩ (sep h2)
    · rfl
  · rcases h1 with h1 | ⟨rfl, rfl, _⟩
    · have := h.lt _ _ _ h1
      split
      · subst_vars; omega
      · exact this
    · rw [if_pos rfl]; omega
  · rcases live hh with ⟨rfl, rfl, rfl⟩ | ⟨hc, hh⟩
    · exact ⟨.virt, .inr ⟨rfl, rfl, rfl⟩, rfl⟩
    · obtain ⟨l, hσ, hb⟩ := h.blk s g B hh
      exact ⟨l, .inl hσ, hb.mono e (fun _ _ _ _ => rfl)⟩
theorem HRep.turn {w0 : Base} {w w' : World} {ro : RO} {σ : Map} {hp : Hp} {gn : Nat → Nat} (h : HRep w0 w ro σ hp gn) {s g b sz N : Nat} {B : Blk} {es : List AV} (hB : hp s g = some B) (hfr : B.fr = false)
    (hσ : σ s g (.real b sz N)) (hg : w.grownBy w' (some b)) (hr : RBlk ro σ w' es (.real b sz N)) : HRep w0 w' ro σ (fun x y => if x = s ∧ y = g then some ⟨es, false⟩ else hp x y) gn := by
  have hnF := h.own _ _ _ _ _ _ hB hfr hσ
  have hbase : w0.w.heap.size ≤ b := hnF.2
  have live : ∀ {s' g' B'}, (if s' = s ∧ g' = g then some ⟨es, false⟩ else hp s' g') = some B' → (s' = s ∧ g' = g ∧ B' = ⟨es, false⟩) ∨ (¬ (s' = s ∧ g' = g) ∧ hp s' g' = some B') := by
    intro s' g' B' hh
    split at hh
    · rename_i hc
      simp only [Option.some.injEq] at hh
      exact .inl ⟨hc.1, hc.2, hh.symm⟩
    · rename_i hc
      exact .inr ⟨hc, hh⟩
  refine ⟨h.below.grown hg h.below.size (fun k hk => by simp at hk; omega), fun k hk => ?_, h.sub, h.fn, h.lt, fun s' g' B' hh => ?_, fun s' g' B' b' sz' N' hh hf h1 => ?_, fun s' g' B' b' sz' N' hh hf h1 => ?_, ?_, fun k hk => ?_, h.dis, fun s' g' B' b' sz' N' hh hf h1 => ?_⟩
  · obtain ⟨h1, h2⟩ := h.fr k hk
    have hne : k ≠ b := fun e => hnF.1 (e ▸ hk)
    exact ⟨Nat.lt_of_lt_of_le h1 hg.size, (hg.block k h1 (by simpa using hne)).trans h2⟩
  · rcases live hh with ⟨rfl, rfl, rfl⟩ | ⟨hc, hh⟩
    · exact ⟨_, hσ, hr⟩
    · obtain ⟨l, hσ', hb⟩ := h.blk _ _ _ hh
      refine ⟨l, hσ', hb.mono (Ext.refl ro σ) (fun b' sz' N' hl => ?_)⟩
      subst hl
      refine hg.block b' hb.lt (fun e => ?_)
      simp only [Option.some.injEq] at e
      subst e
      obtain ⟨a1, a2⟩ := h.inj _ _ _ _ _ _ _ _ _ _ _ hB hh hfr hσ hσ'
      exact hc ⟨a1.symm, a2.symm⟩
  · rcases live hh with ⟨rfl, rfl, rfl⟩ | ⟨hc, hh⟩
    · have := h.fn _ _ _ _ h1 hσ
      simp only [Loc.real.injEq] at this
      rw [this.1]; exact hnF
    · exact h.own _ _ _ _ _ _ hh hf h1
  · rcases live hh with ⟨rfl, rfl, rfl⟩ | ⟨hc, hh⟩
    · cases hf
    · exact h.frz _ _ _ _ _ _ hh hf h1
  · intro s1 g1 B1 s2 g2 B2 b1 sz1 N1 sz2 N2 hh hh' hf h1 h2
    rcases live hh with ⟨rfl, rfl, rfl⟩ | ⟨hc, k1⟩ <;> rcases live hh' with ⟨rfl, rfl, rfl⟩ | ⟨hc', k2⟩
    · exact ⟨rfl, rfl⟩
    · exact h.inj _ _ _ _ _ _ _ _ _ _ _ hB k2 hfr h1 h2
    · exact h.inj _ _ _ _ _ _ _ _ _ _ _ k1 hB hf h1 h2
    · exact h.inj _ _ _ _ _ _ _ _ _ _ _ k1 k2 hf h1 h2
  · obtain ⟨h1, h2⟩ := h.hid k hk
    have hne : k ≠ b := fun e => h.oh _ _ _ _ _ _ hB hfr hσ (e ▸ hk)
    exact ⟨Nat.lt_of_lt_of_le h1 hg.size, (hg.block k h1 (by simpa using hne)).trans h2⟩
  · rcases live hh with ⟨rfl, rfl, rfl⟩ | ⟨hc, hh⟩
    · have := h.fn _ _ _ _ h1 hσ
      simp only [Loc.real.injEq] at this
      rw [this.1]; exact h.oh _ _ _ _ _ _ hB hfr hσ
    · exact h.oh _ _ _ _ _ _ hh hf h1
theorem HRep.roCell {w0 : Base} {w : World} {ro : RO} {σ : Map} {hp : Hp} {gn : Nat → Nat} (h : HRep w0 w ro σ hp gn) {ad : Addr} (hF : ro.F ad.block) (n : Nat) : w.cell? (ad.add n) = ro.w.cell? (ad.add n) :=
  cell_of_blk (h.fr _ hF).2
theorem load_run {P : Program} {ro : RO} {σ : Map} {w : World} {cs : List AV} {ad : Addr} {V : Nat → Value} (hs : ad.spot = none)
    (hc : ∀ j : Nat, j < cs.length → w.cell? (ad.add j) = some (V j) ∧ (V j).oneCell' = true)
    (hV : ∀ (j : Nat) (u : AV), cs[j]? = some u → RV ro σ u (V j)) {ag : Bool} {z off : Nat} {x : AV} (h : pick ag z off cs = some x) {t : TypeId} (ht : tagg P t = some ag) (hz : tsz P t = some z) :
    ∃ v, (loadVar t (ad.add off)).run P w = .ok v w ∧ RV ro σ x v := by
  have hadd : ∀ j, (ad.add off).add j = ad.add (off + j) := fun j => by
    rw [addr_add ad hs, add_plain', addr_add ad hs, Nat.add_assoc]
  unfold pick at h
  cases ag with
  | true =>
    simp only [if_true] at h
    split at h
    · rename_i hle
      simp only [Option.some.injEq] at h
      subst h
      have hl := run_loadCells (P := P) w (ad.add off) z (fun j => V (off + j)) (fun j hj => by rw [hadd]; exact (hc _ (by omega)).1)
      refine ⟨.agg ((List.range z).map fun j => V (off + j)).toArray, by simp [loadVar, run_agg ht, run_size hz, hl], .agg (by simp; omega) (fun j v hv => ?_) (fun j u v hu hv => ?_)⟩
      · simp only [List.getElem?_toArray, List.getElem?_map, Option.map_eq_some_iff] at hv
        obtain ⟨k, hk, rfl⟩ := hv
        have hkj := List.getElem?_eq_some_iff.1 hk
        obtain ⟨hlt, hkj⟩ := hkj
        simp at hlt hkj
        exact (hc _ (by omega)).2
      · simp only [List.getElem?_toArray, List.getElem?_map, Option.map_eq_some_iff] at hv
        obtain ⟨k, hk, rfl⟩ := hv
        obtain ⟨hlt, hkj⟩ := List.getElem?_eq_some_iff.1 hk
        simp at hlt hkj
        subst hkj
        rw [List.getElem?_take, if_pos hlt, List.getElem?_drop] at hu
        exact hV _ _ hu
    · cases h
  | false =>
    simp only [Bool.false_eq_true, if_false] at h
    have hlt : off < cs.length := (List.getElem?_eq_some_iff.1 h).1
    refine ⟨V off, ?_, hV _ _ h⟩
    have := (hc off hlt).1
    simp only [loadVar, Sem.run_bind, run_agg ht, Result.andThen_ok, Bool.false_eq_true, if_false, run_load, this]
theorem RBlk.read {ro : RO} {σ : Map} {w : World} {es : List AV} {b sz N : Nat} (h : RBlk ro σ w es (.real b sz N)) {i : Nat} {x : AV} (hx : es[i]? = some x) :
    ∃ V : Nat → Value, (∀ j, j < x.cells.length → w.cell? ((⟨b, i * sz, none⟩ : Addr).add j) = some (V j) ∧ (V j).oneCell' = true) ∧ ∀ (j : Nat) (u : AV), x.cells[j]? = some u → RV ro σ u (V j) := by
  obtain ⟨arr, e, fz, h1, h2, h3, h4, h5, h6, h7⟩ := h
  refine ⟨fun j => arr.getD (i * sz + j) Go.undef, fun j hj => ?_, fun j u hu => ?_⟩
  · obtain ⟨v, hv, ho, _⟩ := h7 i x j _ hx (List.getElem?_eq_getElem hj)
    rw [add_plain']
    simp only [World.cell?, h1, Option.isSome_none, Bool.false_eq_true, if_false, Array.getD_eq_getD_getElem?, hv, Option.getD_some]
    exact ⟨trivial, ho⟩
  · obtain ⟨v, hv, ho, hr⟩ := h7 i x j _ hx hu
    simp only [Array.getD_eq_getD_getElem?, hv, Option.getD_some]
    exact hr
theorem loadV_run {P : Program} {w0 : Base} {w : World} {ro : RO} {σ : Map} {hp : Hp} {gn : Nat → Nat} (hh : HRep w0 w ro σ hp gn) {t : TypeId} {a x : AV} {v : Value} (h : loadV P hp t a = some x) (ha : RV ro σ a v) :
    ∃ u, (Instr.loadAt t v).run P w = .ok u w ∧ RV ro σ x u := by
  simp only [loadV, Option.bind_eq_some_iff] at h
  obtain ⟨ag, hag, z, hz, h⟩ := h
  split at h
  · rename_i cs
    obtain ⟨ad, V, rfl, hs, hF, hc, hV⟩ := ha.rptr_inv
    obtain ⟨u, hu, hr⟩ := load_run (P := P) (w := w) (σ := σ) hs (fun j hj => by rw [hh.roCell (hF (by omega))]; exact hc j hj) (fun j u hu => .free (hV j u hu)) h hag hz
    refine ⟨u, ?_, hr⟩
    rw [addr_add ad hs] at hu
    obtain ⟨b, o, sp⟩ := ad
    obtain rfl : sp = none := hs
    simpa [Instr.loadAt, Instr.sureAddr] using hu
  · rename_i s g i off
    obtain ⟨b, sz, N, hσ, rfl⟩ := ha.ptr_inv
    simp only [Option.bind_eq_some_iff] at h
    obtain ⟨B, hB, y, hy, h⟩ := h
    obtain ⟨l, hl, hb⟩ := hh.blk _ _ _ hB
    obtain rfl := hh.fn _ _ _ _ hl hσ
    obtain ⟨V, h1, h2⟩ := hb.read hy
    obtain ⟨u, hu, hr⟩ := load_run (P := P) (w := w) (ro := ro) (σ := σ) (ad := ⟨b, i * sz, none⟩) rfl h1 h2 h hag hz
    refine ⟨u, ?_, hr⟩
    rw [add_plain'] at hu
    simpa [Instr.loadAt, Instr.sureAddr] using hu
  · cases h
theorem freeNew {w0 : Base} {w : World} {ro : RO} {σ : Map} {hp : Hp} {gn : Nat → Nat} (h : HRep w0 w ro σ hp gn) {b : Nat} (hb : w.heap.size ≤ b) :
    (¬ ro.F b ∧ w0.w.heap.size ≤ b ∧ ¬ w0.H b) ∧ ∀ s g B sz' N', hp s g = some B → ¬ σ s g (.real b sz' N') := by
  refine ⟨⟨fun hF => absurd (h.fr b hF).1 (by omega), Nat.le_trans h.below.size hb, fun hF => absurd (h.hid b hF).1 (by omega)⟩, fun s g B sz' N' hh hσ => ?_⟩
  obtain ⟨l, hl, hb'⟩ := h.blk _ _ _ hh
  obtain rfl := h.fn _ _ _ _ hl hσ
  exact absurd hb'.lt (by omega)
theorem Map.add_self (σ : Map) (d g : Nat) (l : Loc) : (σ.add d g l) d g l := .inr ⟨rfl, rfl, rfl⟩
theorem cells_at {b : Nat} {xs : Array Value} {e : TypeId} (w : World) (h : w.heap.size = b) : (w.alloc (.cells xs e)).heap[b]? = some (.cells xs e (0, 0)) := by subst h; exact heap_alloc_new w _
theorem new_blk {w0 : Base} {w : World} {ro : RO} {σ : Map} {hp : Hp} {gn : Nat → Nat} (h : HRep w0 w ro σ hp gn) {x : AV} {v : Value} (hx : RV ro σ x v) (hok : x.ok = true) (hne : 0 < x.cells.length) (d : Nat) (e : TypeId) :
    HRep w0 (w.alloc (.cells v.cells e)) ro (σ.add d (gn d) (.real w.heap.size x.cells.length x.cells.length)) (fun a y => if a = d ∧ y = gn d then some ⟨[x], false⟩ else hp a y) (fun a => if a = d then gn d + 1 else gn a) := by
  obtain ⟨h1, h2⟩ := freeNew h (Nat.le_refl w.heap.size)
  obtain ⟨hl, ho, hr⟩ := hx.cells hok
  refine h.add d (World.grownBy_alloc w _ _) h1 h2 ⟨v.cells, e, (0, 0), cells_at w rfl, hl.symm, .inl rfl, by simp, hne, fun y hy => ?_, fun i y j u hy hu => ?_⟩
  · simp only [List.mem_singleton] at hy; subst hy; exact ⟨rfl, hok⟩
  · cases i with
    | succ i => simp at hy
    | zero =>
      simp at hy; subst hy
      have hlt : j < v.cells.size := by rw [← hl]; exact (List.getElem?_eq_some_iff.1 hu).1
      have hv : v.cells[j]? = some (v.cells[j]) := Array.getElem?_eq_getElem hlt
      exact ⟨_, by simp [hv], ho _ _ hv, hr _ _ _ hu hv⟩
def After (w0 : Base) (ro : RO) (σ : Map) (n : Nat) (st' : St) (a' : Act) (w' : World) : Prop :=
  ∃ ro' σ', Ext ro ro' σ σ' ∧ HRep w0 w' ro' σ' st'.hp st'.gn ∧ SRep w0 ro' σ' n st'.sl a'
theorem wp_value {P : Program} {o : Oper} {a : Act} {w w' : World} {v : Value} {K : Act → World → Prop} {Q : Exit → Act → World → Prop} (h : (execOp a.eval o).run P w = .ok (.value v) w') (hk : K (a.put o.dst v) w') : o.wp P a w K Q := by
  unfold Oper.wp; rw [h]; exact hk
theorem wp_skip' {P : Program} {o : Oper} {a : Act} {w w' : World} {K : Act → World → Prop} {Q : Exit → Act → World → Prop} (h : (execOp a.eval o).run P w = .ok .skip w') (hk : K (a.put o.dst Go.undef) w') : o.wp P a w K Q := by
  unfold Oper.wp; rw [h]; exact hk
theorem newStep_run {w0 : Base} {w : World} {ro : RO} {σ : Map} {n : Nat} {st st' : St} {a : Act} (hh : HRep w0 w ro σ st.hp st.gn) (hs : SRep w0 ro σ n st.sl a) {d : Option Nat} (hd : ∀ x, d = some x → x < n) {x : AV} {v : Value} {z : Nat}
    (hx : RV ro σ x v) (h : newStep d x z st = some st') (e : TypeId) : After w0 ro σ n st' (a.put d (.pointer (some ⟨w.heap.size, 0, none⟩))) (w.alloc (.cells v.cells e)) := by
  unfold newStep at h
  split at h
  · rename_i d
    split at h
    · rename_i hc
      simp only [Bool.and_eq_true, decide_eq_true_eq] at hc
      simp only [Option.some.injEq] at h
      subst h
      have e1 := Map.add_ext ro σ d (st.gn d) (.real w.heap.size x.cells.length x.cells.length)
      refine ⟨ro, _, e1, new_blk hh hx hc.1.1 (by omega) d e, SRep.put (s := st.new d [x]) (d := some d) (hs.mono e1) hd ?_⟩
      have := RV.ptr (ro := ro) (i := 0) (off := 0) (Map.add_self σ d (st.gn d) (.real w.heap.size x.cells.length x.cells.length))
      simpa using this
    · cases h
  · cases h
end Vai
