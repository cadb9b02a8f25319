import Derived.Test.YtjienkojedlfjaaVb1
namespace Vai
open Go Go.RowKit
set_option linter.unusedVariables false
set_option linter.unusedSimpArgs false
section inv
variable {ro : RO} {σ : Map} {v : Value}
theorem RV.int_inv {k : IntKind} {n : Int} (h : RV ro σ (.int k n) v) : v = .int k n := by
  cases h with | free h => cases h; rfl
theorem RV.bool_inv {b : Bool} (h : RV ro σ (.bool b) v) : v = .bool b := by
  cases h with | free h => cases h; rfl
theorem RV.str_inv {s : ByteArray} (h : RV ro σ (.str s) v) : v = .string s := by
  cases h with | free h => cases h; rfl
theorem RV.nil_inv (h : RV ro σ .nil v) : ∃ A, v = .slice A 0 0 := by
  cases h with | free h => cases h; exact ⟨_, rfl⟩
theorem RV.nl_inv (h : RV ro σ .nl v) : v = .slice none 0 0 := by
  cases h with | free h => cases h; rfl
theorem RV.em_inv (h : RV ro σ .em v) : ∃ ad c, v = .slice (some ad) 0 c := by
  cases h with | free h => cases h with | em ad c => exact ⟨ad, c, rfl⟩
theorem RV.agg_inv {cs : List AV} (h : RV ro σ (.agg cs) v) : ∃ vs, v = .agg vs ∧ cs.length = vs.size ∧ (∀ (j : Nat) (v : Value), vs[j]? = some v → v.oneCell' = true) ∧
    ∀ (j : Nat) (u : AV) (v : Value), cs[j]? = some u → vs[j]? = some v → RV ro σ u v := by
  cases h with
  | free h => cases h with | agg hl h1 h => exact ⟨_, rfl, hl, h1, fun j u v a b => .free (h j u v a b)⟩
  | agg hl h1 h => exact ⟨_, rfl, hl, h1, h⟩
theorem RV.tup_inv {cs : List AV} (h : RV ro σ (.tup cs) v) : ∃ vs, v = .tuple vs ∧ cs.length = vs.size ∧
    ∀ (j : Nat) (u : AV) (v : Value), cs[j]? = some u → vs[j]? = some v → RV ro σ u v := by
  cases h with
  | free h => cases h
  | tup hl h => exact ⟨_, rfl, hl, h⟩
theorem RV.fn_inv {f : FuncId} {fst cs : List AV} (h : RV ro σ (.fn f fst cs) v) : ∃ vf vs, v = .func (.func f) vf vs ∧ (fst.length = vf.size ∧
    ∀ (j : Nat) (u : AV) (v : Value), fst[j]? = some u → vf[j]? = some v → RV ro σ u v) ∧ cs.length = vs.size ∧
    ∀ (j : Nat) (u : AV) (v : Value), cs[j]? = some u → vs[j]? = some v → RV ro σ u v := by
  cases h with
  | free h => cases h with | fn0 => exact ⟨#[], #[], rfl, ⟨rfl, by simp⟩, rfl, by simp⟩
  | fn hl0 h0 hl h => exact ⟨_, _, rfl, ⟨hl0, h0⟩, hl, h⟩
theorem at_append {l1 l2 : List AV} {v1 v2 : Array Value} (hl : l1.length = v1.size) (h1 : ∀ (j : Nat) (u : AV) (v : Value), l1[j]? = some u → v1[j]? = some v → RV ro σ u v)
    (h2 : ∀ (j : Nat) (u : AV) (v : Value), l2[j]? = some u → v2[j]? = some v → RV ro σ u v) : ∀ (j : Nat) (u : AV) (v : Value), (l1 ++ l2)[j]? = some u → (v1 ++ v2)[j]? = some v → RV ro σ u v := by
  intro j u v hu hv
  by_cases hj : j < v1.size
  · rw [List.getElem?_append_left (by omega)] at hu
    rw [Array.getElem?_append_left hj] at hv
    exact h1 _ _ _ hu hv
  · rw [List.getElem?_append_right (by omega)] at hu
    rw [Array.getElem?_append_right (by omega)] at hv
    rw [hl] at hu
    exact h2 _ _ _ hu hv
theorem at_map {τ : Operand → Value} {ρ : Operand → AV} (hρ : ∀ x, RV ro σ (ρ x) (τ x)) (ar : Array Operand) : ∀ (j : Nat) (u : AV) (v : Value), (ar.toList.map ρ)[j]? = some u → (ar.map τ)[j]? = some v → RV ro σ u v := by
  intro j u v hu hv
  simp only [List.getElem?_map, Array.getElem?_toList, Option.map_eq_some_iff] at hu
  simp only [Array.getElem?_map, Option.map_eq_some_iff] at hv
  obtain ⟨a, ha, rfl⟩ := hu
  obtain ⟨b, hb, rfl⟩ := hv
  rw [ha] at hb
  simp only [Option.some.injEq] at hb
  subst hb
  exact hρ a
theorem RV.ptr_inv {s g i off : Nat} (h : RV ro σ (.ptr s g i off) v) : ∃ b sz N, σ s g (.real b sz N) ∧ v = .pointer (some ⟨b, i * sz + off, none⟩) := by
  cases h with
  | free h => cases h
  | ptr h => exact ⟨_, _, _, h, rfl⟩
theorem RV.rptr_inv {cs : List AV} (h : RV ro σ (.rptr cs) v) : ∃ (ad : Addr) (V : Nat → Value), v = .pointer (some ad) ∧ ad.spot = none ∧ (0 < cs.length → ro.F ad.block) ∧
    (∀ j : Nat, j < cs.length → ro.w.cell? (ad.add j) = some (V j) ∧ (V j).oneCell' = true) ∧ ∀ (j : Nat) (u : AV), cs[j]? = some u → RF ro u (V j) := by
  cases h with
  | free h => cases h
  | rptr V hs hF hc hV => exact ⟨_, V, rfl, hs, hF, hc, hV⟩
theorem RV.osl_inv {xs : List AV} (h : RV ro σ (.osl xs) v) : ∃ (A : Option Addr) (c sz : Nat) (V : Nat → Nat → Value), v = .slice A xs.length c ∧ (xs.length ≤ c ∧ (A = none → c = 0)) ∧
    (∀ x : AV, x ∈ xs → x.cells.length = sz ∧ x.ok = true) ∧
    (xs ≠ [] → ∃ ad : Addr, A = some ad ∧ ad.spot = none ∧ (0 < sz → ro.F ad.block) ∧ ∀ i j : Nat, i < xs.length → j < sz → ro.w.cell? (ad.add (i * sz + j)) = some (V i j) ∧ (V i j).oneCell' = true) ∧
    ∀ (i j : Nat) (x u : AV), xs[i]? = some x → x.cells[j]? = some u → RF ro u (V i j) := by
  cases h with
  | free h => cases h with | osl V hc hsz hA hV => exact ⟨_, _, _, V, rfl, hc, hsz, hA, hV⟩
theorem RV.sl_inv {e s g lo len : Nat} (h : RV ro σ (.sl e s g lo len) v) :
    (σ s g .virt ∧ lo = 0 ∧ len = 0 ∧ ∃ A, v = .slice A 0 0) ∨ ∃ b N c, σ s g (.real b e N) ∧ len ≤ c ∧ (lo + c) * e ≤ N ∧ v = .slice (some ⟨b, lo * e, none⟩) len c := by
  cases h with
  | free h => cases h
  | sl0 h => exact .inl ⟨h, rfl, rfl, _, rfl⟩
  | sl h h1 h2 => exact .inr ⟨_, _, _, h, h1, h2, rfl⟩
end inv
section ty
variable {P : Program} {t : TypeId}
theorem tsl_some {e : TypeId} (h : tsl P t = some e) : P.underlying t = some (.slice e) := by
  unfold tsl at h; split at h <;> simp_all
theorem tarr_some {n : Nat} {e : TypeId} (h : tarr P t = some (n, e)) : P.underlying t = some (.array n e) := by
  unfold tarr at h; split at h <;> simp_all
theorem tint_some {k : IntKind} (h : tint P t = some k) : P.underlying t = some (.int k) := by
  unfold tint at h; split at h <;> simp_all
theorem tstr_some (h : tstr P t = true) : P.underlying t = some .string := by
  unfold tstr at h; split at h <;> simp_all
theorem tbool_some (h : tbool P t = true) : P.underlying t = some .bool := by
  unfold tbool at h; split at h <;> simp_all
theorem run_size {n : Nat} (h : tsz P t = some n) (w : World) : (Go.sizeOf t).run P w = .ok n w := by
  unfold tsz at h
  cases hi : P.info? t with
  | none => simp [hi] at h
  | some i => simp [hi] at h; subst h; simp [Go.sizeOf, typeInfo, hi]
theorem run_info {n : Nat} (h : tby P t = some n) (w : World) : ∃ i, P.info? t = some i ∧ i.bytes = n ∧ (typeInfo t).run P w = .ok i w := by
  unfold tby at h
  cases hi : P.info? t with
  | none => simp [hi] at h
  | some i => simp [hi] at h; exact ⟨i, rfl, h, by simp [typeInfo, hi]⟩
theorem run_agg {b : Bool} (h : tagg P t = some b) (w : World) : (isAgg t).run P w = .ok b w := by
  unfold tagg at h
  cases hu : P.underlying t with
  | none => simp [hu] at h
  | some d =>
    simp [hu] at h
    subst h
    cases d <;> simp [isAgg, run_underlying hu]
theorem tfld_some {f n o : Nat} {b : Bool} (h : tfld P t f = some (o, n, b)) :
    ∃ (fs : Array Field) (fd : Field), P.underlying t = some (.struct fs) ∧ fs[f]? = some fd ∧ fd.offset = o ∧ tsz P fd.type = some n ∧ tagg P fd.type = some b := by
  unfold tfld at h
  cases hu : P.underlying t with
  | none => simp [hu] at h
  | some d =>
    cases d <;> simp only [hu] at h <;> try (exact absurd h (by simp))
    rename_i fs
    cases hf : fs[f]? with
    | none => simp [hf] at h
    | some fd =>
      simp only [hf] at h
      cases hz : tsz P fd.type <;> cases ha : tagg P fd.type <;> simp [hz, ha] at h
      obtain ⟨rfl, rfl, rfl⟩ := h
      exact ⟨fs, fd, rfl, hf, rfl, hz, ha⟩
end ty
theorem part_pick {P : Program} {ro : RO} {σ : Map} {cs : List AV} {vs : Array Value} (hl : cs.length = vs.size) (h1 : ∀ (j : Nat) (v : Value), vs[j]? = some v → v.oneCell' = true)
    (hr : ∀ (j : Nat) (u : AV) (v : Value), cs[j]? = some u → vs[j]? = some v → RV ro σ u v) {ag : Bool} {z off : Nat} {x : AV} (h : pick ag z off cs = some x)
    {t : TypeId} (ht : tagg P t = some ag) (hz : tsz P t = some z) (w : World) : ∃ v, (part t vs off).run P w = .ok v w ∧ RV ro σ x v := by
  unfold pick at h
  cases ag with
  | true =>
    simp only [if_true] at h
    split at h
    · rename_i hle
      simp only [Option.some.injEq] at h
      subst h
      refine ⟨.agg (vs.extract off (off + z)), by simp [part, run_agg ht, run_size hz], .agg (by simp; omega) (fun j v hv => ?_) (fun j u v hu hv => ?_)⟩
      · rw [Array.getElem?_extract] at hv
        split at hv
        · exact h1 _ _ hv
        · cases hv
      · rw [Array.getElem?_extract] at hv
        split at hv
        · rw [List.getElem?_take] at hu
          split at hu
          · rw [List.getElem?_drop] at hu
            exact hr _ _ _ hu hv
          · cases hu
        · cases hv
    · cases h
  | false =>
    simp only [Bool.false_eq_true, if_false] at h
    have hlt : off < cs.length := (List.getElem?_eq_some_iff.1 h).1
    have hv : vs[off]? = some (vs[off]'(by omega)) := Array.getElem?_eq_getElem (by omega)
    exact ⟨_, by simp only [part, Sem.run_bind, run_agg ht, Result.andThen_ok, Bool.false_eq_true, if_false, hv, Sem.run_pure], hr _ _ _ h hv⟩
theorem pickV_rep {ro : RO} {σ : Map} (t : Bool) {a b : AV} {u v : Value} (ha : RV ro σ a u) (hb : RV ro σ b v) : RV ro σ (pickV t a b) (if t then u else v) := by
  unfold pickV
  split
  · rw [ha.bool_inv, hb.bool_inv]; cases t <;> exact .free (.bool _)
  · cases t <;> assumption
theorem eqFs_run {P : Program} {ro : RO} {σ : Map} {d : Nat} {f : TypeId → AV → AV → Option Bool}
    (ih : ∀ (t : TypeId) (x y : AV) (u v : Value) (r : Bool), f t x y = some r → RV ro σ x u → RV ro σ y v → ∀ w, (Op.equalIn d t u v).run P w = .ok r w)
    {xs ys : List AV} {us vs : Array Value} (hlx : xs.length = us.size) (h1x : ∀ (j : Nat) (v : Value), us[j]? = some v → v.oneCell' = true)
    (hx : ∀ (j : Nat) (u : AV) (v : Value), xs[j]? = some u → us[j]? = some v → RV ro σ u v) (hly : ys.length = vs.size) (h1y : ∀ (j : Nat) (v : Value), vs[j]? = some v → v.oneCell' = true)
    (hy : ∀ (j : Nat) (u : AV) (v : Value), ys[j]? = some u → vs[j]? = some v → RV ro σ u v) (w : World) :
    ∀ (fs : List Field) (r : Bool), eqFs P f fs xs ys = some r → (Op.eqFields d us vs fs).run P w = .ok r w
  | [], r, h => by simp [eqFs] at h; subst h; simp [Op.eqFields]
  | fd :: fs, r, h => by
    unfold eqFs at h
    by_cases hn : fd.name = "_"
    · rw [if_pos hn] at h
      rw [Op.eqFields, if_neg (by simpa using hn)]
      exact eqFs_run ih hlx h1x hx hly h1y hy w fs r h
    · rw [if_neg hn] at h
      simp only [Option.bind_eq_some_iff, Option.map_eq_some_iff] at h
      obtain ⟨ag, hag, z, hz, a, ha, b, hb, q, hq, q', hq', rfl⟩ := h
      obtain ⟨u, hu, hru⟩ := part_pick hlx h1x hx ha hag hz w
      obtain ⟨v, hv, hrv⟩ := part_pick hly h1y hy hb hag hz w
      have he := ih _ _ _ _ _ _ hq hru hrv w
      have hrest := eqFs_run ih hlx h1x hx hly h1y hy w fs q' hq'
      rw [Op.eqFields]
      simp only [if_pos (show fd.name ≠ "_" from hn), Sem.run_bind, hu, hv, he, Result.andThen_ok]
      cases q
      · simp
      · simpa using hrest
theorem eqIs_run {P : Program} {ro : RO} {σ : Map} {d : Nat} {f : AV → AV → Option Bool} {e : TypeId} {ag : Bool} {z : Nat} (hag : tagg P e = some ag) (hz : tsz P e = some z) (hcz : P.cellsOf e = z)
    (ih : ∀ (x y : AV) (u v : Value) (r : Bool), f x y = some r → RV ro σ x u → RV ro σ y v → ∀ w, (Op.equalIn d e u v).run P w = .ok r w)
    {xs ys : List AV} {us vs : Array Value} (hlx : xs.length = us.size) (h1x : ∀ (j : Nat) (v : Value), us[j]? = some v → v.oneCell' = true)
    (hx : ∀ (j : Nat) (u : AV) (v : Value), xs[j]? = some u → us[j]? = some v → RV ro σ u v) (hly : ys.length = vs.size) (h1y : ∀ (j : Nat) (v : Value), vs[j]? = some v → v.oneCell' = true)
    (hy : ∀ (j : Nat) (u : AV) (v : Value), ys[j]? = some u → vs[j]? = some v → RV ro σ u v) (w : World) :
    ∀ (is : List Nat) (r : Bool), eqIs f ag z xs ys is = some r → (Op.eqItems d e (P.cellsOf e) us vs is).run P w = .ok r w
  | [], r, h => by simp [eqIs] at h; subst h; simp [Op.eqItems]
  | i :: is, r, h => by
    unfold eqIs at h
    simp only [Option.bind_eq_some_iff, Option.map_eq_some_iff] at h
    obtain ⟨a, ha, b, hb, q, hq, q', hq', rfl⟩ := h
    obtain ⟨u, hu, hru⟩ := part_pick hlx h1x hx ha hag hz w
    obtain ⟨v, hv, hrv⟩ := part_pick hly h1y hy hb hag hz w
    have he := ih _ _ _ _ _ hq hru hrv w
    have hrest := eqIs_run hag hz hcz ih hlx h1x hx hly h1y hy w is q' hq'
    rw [hcz] at hrest ⊢
    rw [Op.eqItems]
    simp only [Sem.run_bind, hu, hv, he, Result.andThen_ok]
    cases q
    · simp
    · simpa using hrest
theorem eqT_run {P : Program} {ro : RO} {σ : Map} : ∀ (n d : Nat) (_ : n ≤ d) (t : TypeId) (x y : AV) (u v : Value) (r : Bool), eqT P n t x y = some r → RV ro σ x u → RV ro σ y v →
    ∀ w, (Op.equalIn d t u v).run P w = .ok r w
  | 0, _, _, _, _, _, _, _, _, h, _, _, _ => by simp [eqT] at h
  | n + 1, 0, hd, _, _, _, _, _, _, _, _, _, _ => by omega
  | n + 1, d + 1, hd, t, x, y, u, v, r, h, hx, hy, w => by
    unfold eqT at h
    split at h
    · rename_i hu
      obtain rfl := hx.bool_inv
      obtain rfl := hy.bool_inv
      simp at h
      simp [Op.equalIn, run_underlying hu, h]
    · rename_i hu
      obtain rfl := hx.int_inv
      obtain rfl := hy.int_inv
      split at h
      · rename_i hk
        simp at h
        simp [Op.equalIn, run_underlying hu, hk, h]
      · cases h
    · rename_i hu
      obtain rfl := hx.str_inv
      obtain rfl := hy.str_inv
      simp at h
      simp [Op.equalIn, run_underlying hu, h]
    · rename_i n' e xs ys hu
      simp only [Option.bind_eq_some_iff] at h
      obtain ⟨ag, hag, z, hz, h⟩ := h
      obtain ⟨us, rfl, hlx, h1x, hx⟩ := hx.agg_inv
      obtain ⟨vs, rfl, hly, h1y, hy⟩ := hy.agg_inv
      have hz' := hz
      simp only [tsz, Option.map_eq_some_iff] at hz'
      obtain ⟨i, hi, hiz⟩ := hz'
      rw [run_equalIn_array w d us vs hu hi]
      exact eqIs_run hag hz (by simp [Program.cellsOf, hi, hiz]) (fun x y u v r hh hx hy w => eqT_run n d (by omega) e x y u v r hh hx hy w) hlx h1x hx hly h1y hy w _ r h
    · rename_i fs xs ys hu
      split at h
      · cases h
      · rename_i hst
        obtain ⟨us, rfl, hlx, h1x, hx⟩ := hx.agg_inv
        obtain ⟨vs, rfl, hly, h1y, hy⟩ := hy.agg_inv
        have hf : P.fieldsOf t = fs := by simp [Program.fieldsOf, hu]
        rw [run_equalIn_struct (P := P) w d t us vs (by rw [hf]; exact hu) (by simpa using hst), hf]
        exact eqFs_run (fun t x y u v r hh hx hy w => eqT_run n d (by omega) t x y u v r hh hx hy w) hlx h1x hx hly h1y hy w _ r h
    · cases h
theorem bits_run {P : Program} {op : BinOp} {k : IntKind} {a b r : Int} (h : bits op k a b = some r) (w : World) : (Op.intBits op k a b).run P w = .ok (.int k r) w := by
  unfold bits at h
  cases op <;> simp at h <;> subst h <;> simp [Op.intBits]
theorem binI_run {P : Program} {op : BinOp} {k : IntKind} {a b : Int} {x : AV} {ro : RO} {σ : Map} (h : binI op k a b = some x) (h1 : op ≠ .shl) (h2 : op ≠ .shr) (t : TypeId) (w : World) :
    ∃ v, (binOp op t (.int k a) (.int k b)).run P w = .ok v w ∧ RV ro σ x v := by
  unfold binI at h
  cases op <;> first | exact absurd rfl h1 | exact absurd rfl h2 | skip
  all_goals simp only [] at h
  all_goals first
    | (simp only [Option.some.injEq] at h; subst h; (refine ⟨_, ?_, .free (by first | exact .int _ _ | exact .bool _)⟩; simp [binOp, Op.intArith, Op.intCmp]))
    | (split at h
       · cases h
       · rename_i hb
         simp only [Option.some.injEq] at h; subst h; (refine ⟨_, ?_, .free (.int _ _)⟩; simp [binOp, Op.intDiv, hb]))
    | (simp only [Option.map_eq_some_iff] at h
       obtain ⟨r, hr, rfl⟩ := h
       (refine ⟨_, ?_, .free (.int _ _)⟩; simp [binOp, bits_run hr]))
theorem guard_run {P : Program} {op : BinOp} {t : TypeId} {x y : Operand} {a b : Value} (h1 : ∀ cs, a ≠ .agg cs) (h2 : a ≠ .nilIface) (w : World) : (eqGuard op t x y a b).run P w = .ok () w := by
  unfold eqGuard
  cases op <;> cases a <;> first
    | exact absurd rfl h2
    | exact absurd rfl (h1 _)
    | (cases b <;> simp)
theorem eql_run {P : Program} {t : TypeId} {a b : Value} {r : Bool} {w : World} (h : (Op.equalIn Op.maxDepth t a b).run P w = .ok r w) :
    (do pure (.bool (← Op.equal t a b)) : Sem Value).run P w = .ok (.bool r) w := by
  simp only [Op.equal, Sem.run_bind, h, Result.andThen_ok, Sem.run_pure]
theorem neq_run {P : Program} {t : TypeId} {a b : Value} {r : Bool} {w : World} (h : (Op.equalIn Op.maxDepth t a b).run P w = .ok r w) :
    (do pure (.bool (!(← Op.equal t a b))) : Sem Value).run P w = .ok (.bool (!r)) w := by
  simp only [Op.equal, Sem.run_bind, h, Result.andThen_ok, Sem.run_pure]
theorem binV_run {P : Program} {ro : RO} {σ : Map} {op : BinOp} {t : TypeId} {x y : AV} {a b : Value} {r : AV} (h : binV P op t x y = some r) (hx : RV ro σ x a) (hy : RV ro σ y b) (ox oy : Operand) (w : World) :
    ∃ v, (do eqGuard op t ox oy a b; binOp op t a b : Sem Value).run P w = .ok v w ∧ RV ro σ r v := by
  unfold binV at h
  split at h
  · rename_i k a k' b
    obtain rfl := hx.int_inv
    obtain rfl := hy.int_inv
    simp only [Sem.run_bind, guard_run (a := .int k a) (by simp) (by simp), Result.andThen_ok]
    by_cases hl : op = .shl
    · subst hl
      simp only [] at h
      split at h
      · cases h
      · rename_i hb
        simp only [Option.some.injEq] at h; subst h
        (refine ⟨_, ?_, .free (.int _ _)⟩; simp [binOp, Op.shift, hb])
    · by_cases hr : op = .shr
      · subst hr
        simp only [] at h
        split at h
        · cases h
        · rename_i hb
          simp only [Option.some.injEq] at h; subst h
          (refine ⟨_, ?_, .free (.int _ _)⟩; simp [binOp, Op.shift, hb])
      · have h' : (if k = k' then binI op k a b else none) = some r := by
          revert h; cases op <;> first | exact absurd rfl hl | exact absurd rfl hr | exact id
        split at h'
        · rename_i hk
          subst hk
          exact binI_run h' hl hr t w
        · cases h'
  · rename_i a b
    obtain rfl := hx.bool_inv
    obtain rfl := hy.bool_inv
    split at h
    · rename_i ht
      simp only [Sem.run_bind, guard_run (a := .bool a) (by simp) (by simp), Result.andThen_ok]
      have hu := tbool_some ht
      have he := eqT_run (P := P) 1 Op.maxDepth (by decide) t (.bool a) (.bool b) _ _ (a == b) (by simp [eqT, hu]) hx hy w
      cases op <;> simp only [] at h <;> first | cases h | skip
      · exact ⟨_, eql_run he, .free (.bool _)⟩
      · exact ⟨_, neq_run he, .free (.bool _)⟩
    · cases h
  · rename_i a b
    obtain rfl := hx.str_inv
    obtain rfl := hy.str_inv
    simp only [Sem.run_bind, guard_run (a := .string a) (by simp) (by simp), Result.andThen_ok]
    cases op <;> simp only [] at h <;> first | cases h | skip
    · split at h
      · rename_i hle
        simp only [Option.some.injEq] at h; subst h
        refine ⟨_, ?_, .free (.str _)⟩
        simp only [binOp]
        exact run_string_add_sum w a b hle
      · cases h
    · (refine ⟨_, ?_, .free (.bool _)⟩; simp [binOp, Op.stringOp])
    · (refine ⟨_, ?_, .free (.bool _)⟩; simp [binOp, Op.stringOp])
  · rename_i xs ys
    split at h
    · cases h
    · rename_i hg
      have hg' : P.eqGuardType P.depth t = false := by simpa using hg
      obtain ⟨us, rfl, hlx, h1x, hx'⟩ := hx.agg_inv
      obtain ⟨vs, rfl, hly, h1y, hy'⟩ := hy.agg_inv
      have hgr : (eqGuard op t ox oy (.agg us) (.agg vs)).run P w = .ok () w := by
        unfold eqGuard
        cases op <;> simp [hg']
      simp only [Sem.run_bind, hgr, Result.andThen_ok]
      cases op <;> simp only [] at h <;> first | cases h | skip
      · simp only [Option.map_eq_some_iff] at h
        obtain ⟨q, hq, rfl⟩ := h
        have := eqT_run 20 Op.maxDepth (by decide) t _ _ _ _ q hq hx hy w
        exact ⟨_, eql_run this, .free (.bool _)⟩
      · simp only [Option.map_eq_some_iff] at h
        obtain ⟨q, hq, rfl⟩ := h
        have := eqT_run 20 Op.maxDepth (by decide) t _ _ _ _ q hq hx hy w
        exact ⟨_, neq_run this, .free (.bool _)⟩
  · cases h
theorem nilV_run {P : Program} {ro : RO} {σ : Map} {op : BinOp} {t : TypeId} {x : AV} {a : Value} {r : AV} (h : nilV P op t x = some r) (hx : RV ro σ x a) (ox oy : Operand) (w : World) :
    ∃ v, (do eqGuard op t ox oy a (.slice none 0 0); binOp op t a (.slice none 0 0) : Sem Value).run P w = .ok v w ∧ RV ro σ r v := by
  unfold nilV at h
  split at h
  · rename_i hc
    obtain ⟨e, he⟩ := Option.isSome_iff_exists.1 hc
    have hu := tsl_some he
    have key : ∀ (A : Option Addr) (n c : Nat) (b : Bool), a = .slice A n c → b = A.isNone →
        ((do eqGuard .eql t ox oy a (.slice none 0 0); binOp .eql t a (.slice none 0 0) : Sem Value).run P w = .ok (.bool b) w ∧ (do eqGuard .neq t ox oy a (.slice none 0 0); binOp .neq t a (.slice none 0 0) : Sem Value).run P w = .ok (.bool (!b)) w) := by
      intro A n c b ha hb
      subst ha; subst hb
      have h1 : (Op.equalIn Op.maxDepth t (.slice A n c) (.slice none 0 0)).run P w = .ok A.isNone w := by
        obtain ⟨d, hd⟩ : ∃ d, Op.maxDepth = d + 1 := ⟨Op.maxDepth - 1, by decide⟩
        rw [hd]
        cases A <;> simp [Op.equalIn, run_underlying hu]
      constructor
      · rw [Sem.run_bind, guard_run (P := P) (op := .eql) (t := t) (x := ox) (y := oy) (a := .slice A n c) (b := .slice none 0 0) (by simp) (by simp), Result.andThen_ok]
        simp only [binOp]
        exact eql_run h1
      · rw [Sem.run_bind, guard_run (P := P) (op := .neq) (t := t) (x := ox) (y := oy) (a := .slice A n c) (b := .slice none 0 0) (by simp) (by simp), Result.andThen_ok]
        simp only [binOp]
        exact neq_run h1
    split at h
    · obtain rfl := hx.nl_inv
      simp only [Option.some.injEq] at h; subst h
      exact ⟨_, (key none 0 0 true rfl rfl).1, .free (.bool _)⟩
    · obtain rfl := hx.nl_inv
      simp only [Option.some.injEq] at h; subst h
      exact ⟨_, (key none 0 0 true rfl rfl).2, .free (.bool _)⟩
    · obtain ⟨ad, c, rfl⟩ := hx.em_inv
      simp only [Option.some.injEq] at h; subst h
      exact ⟨_, (key (some ad) 0 c false rfl rfl).1, .free (.bool _)⟩
    · obtain ⟨ad, c, rfl⟩ := hx.em_inv
      simp only [Option.some.injEq] at h; subst h
      exact ⟨_, (key (some ad) 0 c false rfl rfl).2, .free (.bool _)⟩
    · obtain ⟨A, c, sz, V, rfl, _, _, hA, _⟩ := hx.osl_inv
      obtain ⟨ad, rfl, _⟩ := hA (by simp)
      simp only [Option.some.injEq] at h; subst h
      exact ⟨_, (key (some ad) _ c false rfl rfl).1, .free (.bool _)⟩
    · obtain ⟨A, c, sz, V, rfl, _, _, hA, _⟩ := hx.osl_inv
      obtain ⟨ad, rfl, _⟩ := hA (by simp)
      simp only [Option.some.injEq] at h; subst h
      exact ⟨_, (key (some ad) _ c false rfl rfl).2, .free (.bool _)⟩
    · rcases hx.sl_inv with ⟨_, _, h0, _⟩ | ⟨b, N, c, _, _, _, rfl⟩
      · simp at h0
      · simp only [Option.some.injEq] at h; subst h
        exact ⟨_, (key (some _) _ c false rfl rfl).1, .free (.bool _)⟩
    · rcases hx.sl_inv with ⟨_, _, h0, _⟩ | ⟨b, N, c, _, _, _, rfl⟩
      · simp at h0
      · simp only [Option.some.injEq] at h; subst h
        exact ⟨_, (key (some _) _ c false rfl rfl).2, .free (.bool _)⟩
    · cases h
  · cases h
theorem asI_inv {ro : RO} {σ : Map} {x : AV} {v : Value} {n : Int} (h : asI x = some n) (hr : RV ro σ x v) : ∃ k, v = .int k n := by
  unfold asI at h
  split at h
  · simp at h; subst h; exact ⟨_, hr.int_inv⟩
  · cases h
def OR (ro : RO) (σ : Map) (x : Option AV) (v : Option Value) : Prop :=
  match x, v with
  | none, none => True
  | some x, some v => RV ro σ x v
  | _, _ => False
theorem bound_run {P : Program} {ro : RO} {σ : Map} {x : AV} {v : Value} {y i d : Nat} (h : bound (some x) y d = some i) (hr : RV ro σ x v) {Y : Nat} (hY : y ≤ Y) (code : BoundsCode) (w : World) :
    (Instr.sliceBound v Y code).run P w = .ok i w ∧ i ≤ y := by
  simp only [bound, Option.bind_eq_some_iff] at h
  obtain ⟨n, hn, h⟩ := h
  obtain ⟨k, rfl⟩ := asI_inv hn hr
  split at h
  · rename_i hb
    simp only [Option.some.injEq] at h
    subst h
    exact ⟨run_sliceBound w k n Y code hb.1 (by omega), by omega⟩
  · cases h
theorem bounds_run {P : Program} {ro : RO} {σ : Map} {lo hi mx : Option AV} {lo' hi' mx' : Option Value} (hlo : OR ro σ lo lo') (hhi : OR ro σ hi hi') (hmx : OR ro σ mx mx')
    (hm2 : mx = none ∨ hi.isSome = true) {len cap m h l : Nat} (hc : len ≤ cap) (h1 : bound mx len len = some m) (h2 : bound hi m len = some h) (h3 : bound lo h 0 = some l) (isS : Bool) (w : World) :
    (Instr.sliceBounds isS len cap lo' hi' mx').run P w = .ok (l, h, if mx.isSome then m else cap) w ∧ l ≤ h ∧ h ≤ m ∧ m ≤ len := by
  cases mx with
  | none =>
    cases mx' with
    | some v => exact hmx.elim
    | none =>
      simp only [bound, Option.some.injEq] at h1
      subst h1
      cases hi with
      | none =>
        cases hi' with
        | some v => exact hhi.elim
        | none =>
          simp only [bound, Option.some.injEq] at h2
          subst h2
          cases lo with
          | none =>
            cases lo' with
            | some v => exact hlo.elim
            | none =>
              simp only [bound, Option.some.injEq] at h3
              subst h3
              exact ⟨by simp [Instr.sliceBounds], by omega, by omega, by omega⟩
          | some x =>
            cases lo' with
            | none => exact hlo.elim
            | some v =>
              have r := fun code => bound_run (P := P) h3 hlo (Nat.le_refl _) code w
              exact ⟨by simp [Instr.sliceBounds, (r _).1], (r .index).2, by omega, by omega⟩
      | some xh =>
        cases hi' with
        | none => exact hhi.elim
        | some vh =>
          have rh := fun code => bound_run (P := P) h2 hhi hc code w
          cases lo with
          | none =>
            cases lo' with
            | some v => exact hlo.elim
            | none =>
              simp only [bound, Option.some.injEq] at h3
              subst h3
              exact ⟨by simp [Instr.sliceBounds, (rh _).1], by omega, (rh .index).2, by omega⟩
          | some x =>
            cases lo' with
            | none => exact hlo.elim
            | some v =>
              have r := fun code => bound_run (P := P) h3 hlo (Nat.le_refl _) code w
              exact ⟨by simp [Instr.sliceBounds, (r _).1, (rh _).1], (r .index).2, (rh .index).2, by omega⟩
  | some xm =>
    cases mx' with
    | none => exact hmx.elim
    | some vm =>
      have rm := fun code => bound_run (P := P) h1 hmx hc code w
      cases hi with
      | none => rcases hm2 with h | h <;> simp at h
      | some xh =>
        cases hi' with
        | none => exact hhi.elim
        | some vh =>
          have rh := fun code => bound_run (P := P) h2 hhi (Nat.le_refl _) code w
          cases lo with
          | none =>
            cases lo' with
            | some v => exact hlo.elim
            | none =>
              simp only [bound, Option.some.injEq] at h3
              subst h3
              exact ⟨by simp [Instr.sliceBounds, (rh _).1, (rm _).1], by omega, (rh .index).2, (rm .index).2⟩
          | some x =>
            cases lo' with
            | none => exact hlo.elim
            | some v =>
              have r := fun code => bound_run (P := P) h3 hlo (Nat.le_refl _) code w
              exact ⟨by simp [Instr.sliceBounds, (r _).1, (rh _).1, (rm _).1], (r .index).2, (rh .index).2, (rm .index).2⟩
theorem RF.cut {ro : RO} {xs : List AV} {A : Option Addr} {c sz : Nat} (V : Nat → Nat → Value) (hc : xs.length ≤ c ∧ (A = none → c = 0))
    (hsz : ∀ x : AV, x ∈ xs → x.cells.length = sz ∧ x.ok = true)
    (hA : xs ≠ [] → ∃ ad : Addr, A = some ad ∧ ad.spot = none ∧ (0 < sz → ro.F ad.block) ∧ ∀ i j : Nat, i < xs.length → j < sz → ro.w.cell? (ad.add (i * sz + j)) = some (V i j) ∧ (V i j).oneCell' = true)
    (hV : ∀ (i j : Nat) (x u : AV), xs[i]? = some x → x.cells[j]? = some u → RF ro u (V i j)) {l h M n : Nat} (hlh : l ≤ h) (hh : h ≤ xs.length) (hM : h ≤ M) (hM2 : M ≤ c) (hn : l < h → n = sz) :
    RF ro (.osl ((xs.take h).drop l)) (.slice (if M = l then A else A.map (·.add (l * n))) (h - l) (M - l)) := by
  have hlen : ((xs.take h).drop l).length = h - l := by simp; omega
  have hat : ∀ i, ((xs.take h).drop l)[i]? = if i < h - l then xs[l + i]? else none := by
    intro i
    rw [List.getElem?_drop, List.getElem?_take]
    by_cases hi : i < h - l
    · rw [if_pos (by omega), if_pos hi]
    · rw [if_neg (by omega), if_neg hi]
  rw [← hlen]
  have hcc : ((xs.take h).drop l).length ≤ M - l ∧ ((if M = l then A else A.map (·.add (l * n))) = none → M - l = 0) := by
    refine ⟨by omega, fun e => ?_⟩
    cases A with
    | none => have := hc.2 rfl; omega
    | some a => split at e <;> cases e
  have hc := hc.1
  refine .osl (fun i j => V (l + i) j) hcc (fun x hx => hsz x (List.mem_of_mem_take (List.mem_of_mem_drop hx))) (fun hne => ?_) (fun i j x u hx hu => ?_)
  · have hlt : l < h := by
      rcases Nat.lt_or_ge l h with hlt | hge
      · exact hlt
      · exact absurd (List.eq_nil_of_length_eq_zero (by omega)) hne
    obtain ⟨ad, rfl, hs, hF, hcell⟩ := hA (fun e => by subst e; simp at hh; omega)
    rw [if_neg (by omega)]
    obtain rfl := hn hlt
    refine ⟨ad.add (l * n), rfl, by rw [addr_add ad hs], fun h0 => by rw [addr_block]; exact hF h0, fun i j hi hj => ?_⟩
    have := hcell (l + i) j (by omega) hj
    rw [addr_add ad hs] at this
    rw [addr_add (ad.add (l * n)) (by rw [addr_add ad hs]), addr_add ad hs]
    rw [show ad.off + l * n + (i * n + j) = ad.off + ((l + i) * n + j) from by rw [Nat.add_mul]; omega]
    exact this
  · rw [hat] at hx
    split at hx
    · exact hV _ _ _ _ hx hu
    · cases hx
theorem sliceV_run {P : Program} {ro : RO} {σ : Map} {t : TypeId} {x r : AV} {v : Value} {lo hi mx : Option AV} {lo' hi' mx' : Option Value} (h : sliceV P t x lo hi mx = some r)
    (hx : RV ro σ x v) (hlo : OR ro σ lo lo') (hhi : OR ro σ hi hi') (hmx : OR ro σ mx mx') (w : World) : ∃ u, (Instr.sliceAt t v lo' hi' mx').run P w = .ok u w ∧ RV ro σ r u := by
  unfold sliceV at h
  split at h
  · rename_i s
    obtain rfl := hx.str_inv
    split at h
    · rename_i hc
      simp only [Bool.and_eq_true, Option.isNone_iff_eq_none] at hc
      obtain ⟨ht, rfl⟩ := hc
      have hu := tstr_some ht
      cases mx' with
      | some v => exact hmx.elim
      | none =>
        simp only [Option.bind_eq_some_iff, Option.some.injEq] at h
        obtain ⟨hh, h2, l, h3, rfl⟩ := h
        have hb := (bounds_run (P := P) (mx := none) (mx' := none) hlo hhi trivial (.inl rfl) (Nat.le_refl s.size) (by simp [bound]) h2 h3 false w).1
        refine ⟨_, ?_, .free (.str _)⟩
        simp only [Option.isSome_none, Bool.false_eq_true, if_false] at hb
        simp [Instr.sliceAt, Instr.slice, run_underlying hu, hb]
    · cases h
  · obtain ⟨A, rfl⟩ := hx.nil_inv
    split at h
    · rename_i hc
      simp only [Bool.and_eq_true, Bool.or_eq_true, Option.isNone_iff_eq_none] at hc
      obtain ⟨z, hz⟩ := Option.isSome_iff_exists.1 hc.1
      simp only [Option.bind_eq_some_iff] at hz
      obtain ⟨e, he, hz⟩ := hz
      have hu := tsl_some he
      simp only [Option.bind_eq_some_iff, Option.some.injEq] at h
      obtain ⟨m, h1, hh, h2, l, h3, rfl⟩ := h
      obtain ⟨hb, h4, h5, h6⟩ := bounds_run (P := P) hlo hhi hmx hc.2 (Nat.le_refl 0) h1 h2 h3 true w
      obtain rfl : m = 0 := by omega
      obtain rfl : hh = 0 := by omega
      obtain rfl : l = 0 := by omega
      refine ⟨_, ?_, .free (.nil A)⟩
      simp [Instr.sliceAt, Instr.slice, run_underlying hu, hb, run_size hz]
    · cases h
  · obtain rfl := hx.nl_inv
    split at h
    · rename_i hc
      simp only [Bool.and_eq_true, Bool.or_eq_true, Option.isNone_iff_eq_none] at hc
      obtain ⟨z, hz⟩ := Option.isSome_iff_exists.1 hc.1
      simp only [Option.bind_eq_some_iff] at hz
      obtain ⟨e, he, hz⟩ := hz
      have hu := tsl_some he
      simp only [Option.bind_eq_some_iff, Option.some.injEq] at h
      obtain ⟨m, h1, hh, h2, l, h3, rfl⟩ := h
      obtain ⟨hb, h4, h5, h6⟩ := bounds_run (P := P) hlo hhi hmx hc.2 (Nat.le_refl 0) h1 h2 h3 true w
      obtain rfl : m = 0 := by omega
      obtain rfl : hh = 0 := by omega
      obtain rfl : l = 0 := by omega
      refine ⟨.slice none 0 0, ?_, .free .nl⟩
      simp [Instr.sliceAt, Instr.slice, run_underlying hu, hb, run_size hz]
    · cases h
  · rename_i xs
    obtain ⟨A, c, sz, V, rfl, hc, hsz, hA, hV⟩ := hx.osl_inv
    simp only [Option.bind_eq_some_iff] at h
    obtain ⟨e, he, z, hz, h⟩ := h
    have hu := tsl_some he
    split at h
    · rename_i hc2
      simp only [Bool.and_eq_true, Bool.or_eq_true, Option.isNone_iff_eq_none, List.all_eq_true, decide_eq_true_eq] at hc2
      simp only [Option.bind_eq_some_iff] at h
      obtain ⟨m, h1, hh, h2, l, h3, h⟩ := h
      obtain ⟨hb, h4, h5, h6⟩ := bounds_run (P := P) hlo hhi hmx hc2.1 hc.1 h1 h2 h3 true w
      have hrun : (Instr.sliceAt t (.slice A xs.length c) lo' hi' mx').run P w = .ok (.slice (if (if mx.isSome then m else c) = l then A else A.map (·.add (l * z))) (hh - l) ((if mx.isSome then m else c) - l)) w := by
        simp [Instr.sliceAt, Instr.slice, run_underlying hu, hb, run_size hz]
      refine ⟨_, hrun, ?_⟩
      split at h
      · rename_i hm
        simp only [Bool.and_eq_true, decide_eq_true_eq] at hm
        simp only [Option.some.injEq] at h
        subst h
        rw [if_pos hm.1, if_pos hm.2, show hh - l = 0 by omega, show m - l = 0 by omega]
        exact .free (.nil A)
      · simp only [Option.some.injEq] at h
        subst h
        have hcl := hc.1
        refine .free (RF.cut V hc hsz hA hV h4 (by omega) (by split <;> omega) (by split <;> omega) (fun hlt => ?_))
        have hmem : xs[l]'(by omega) ∈ xs := List.getElem_mem _
        rw [← hc2.2 _ hmem, (hsz _ hmem).1]
    · cases h
  · rename_i e s g b n
    split at h
    · rename_i hc2
      simp only [Bool.and_eq_true, Bool.or_eq_true, Option.isNone_iff_eq_none, decide_eq_true_eq] at hc2
      obtain ⟨ht, hc2⟩ := hc2
      simp only [Option.bind_eq_some_iff] at ht
      obtain ⟨et, he, hz⟩ := ht
      have hu := tsl_some he
      simp only [Option.bind_eq_some_iff] at h
      obtain ⟨m, h1, hh, h2, l, h3, h⟩ := h
      rcases hx.sl_inv with ⟨hσ, rfl, rfl, A, rfl⟩ | ⟨bl, N, c, hσ, hnc, hN, rfl⟩
      · obtain ⟨hb, h4, h5, h6⟩ := bounds_run (P := P) hlo hhi hmx hc2 (Nat.le_refl 0) h1 h2 h3 true w
        obtain rfl : m = 0 := by omega
        obtain rfl : hh = 0 := by omega
        obtain rfl : l = 0 := by omega
        rw [if_neg (by omega)] at h
        simp only [Option.some.injEq] at h
        subst h
        refine ⟨.slice A 0 0, ?_, .sl0 hσ⟩
        simp [Instr.sliceAt, Instr.slice, run_underlying hu, hb, run_size hz]
      · obtain ⟨hb, h4, h5, h6⟩ := bounds_run (P := P) hlo hhi hmx hc2 hnc h1 h2 h3 true w
        have hrun : (Instr.sliceAt t (.slice (some ⟨bl, b * e, none⟩) n c) lo' hi' mx').run P w =
            .ok (.slice (if (if mx.isSome then m else c) = l then some ⟨bl, b * e, none⟩ else some ((⟨bl, b * e, none⟩ : Addr).add (l * e))) (hh - l) ((if mx.isSome then m else c) - l)) w := by
          simp [Instr.sliceAt, Instr.slice, run_underlying hu, hb, run_size hz]
        refine ⟨_, hrun, ?_⟩
        split at h
        · rename_i hl
          simp only [Option.some.injEq] at h
          subst h
          have : RF ro (.osl []) (.slice (if (if mx.isSome then m else c) = l then some ⟨bl, b * e, none⟩ else some ((⟨bl, b * e, none⟩ : Addr).add (l * e))) ([] : List AV).length ((if mx.isSome then m else c) - l)) :=
            .osl (sz := 0) (fun _ _ => .nilFunc) ⟨by simp, fun h => by
              generalize (if mx.isSome = true then m else c) = q at h
              split at h <;> cases h⟩ (by simp) (by simp) (by simp)
          rw [show hh - l = ([] : List AV).length by simp; omega]
          exact .free this
        · rename_i hl
          simp only [Option.some.injEq] at h
          subst h
          have hM : (if mx.isSome then m else c) ≤ c := by split <;> omega
          have hhM : hh ≤ (if mx.isSome then m else c) := by split <;> omega
          generalize (if mx.isSome then m else c) = M at *
          have ha : (if M = l then some (⟨bl, b * e, none⟩ : Addr) else some ((⟨bl, b * e, none⟩ : Addr).add (l * e))) = some ⟨bl, (b + l) * e, none⟩ := by
            by_cases hl0 : l = 0
            · subst hl0
              simp [Addr.add]
            · rw [if_neg (by omega), addr_add _ rfl, Nat.add_mul]
          rw [ha]
          refine .sl hσ (by omega) (Nat.le_trans (Nat.mul_le_mul_right e (by omega)) hN)
    · cases h
  · cases h
theorem add_plain' (b o n : Nat) : (⟨b, o, none⟩ : Addr).add n = ⟨b, o + n, none⟩ := addr_add _ rfl n
theorem RV.rdrop {ro : RO} {σ : Map} {cs : List AV} {ad : Addr} (V : Nat → Value) (hs : ad.spot = none) (hF : 0 < cs.length → ro.F ad.block)
    (hc : ∀ j : Nat, j < cs.length → ro.w.cell? (ad.add j) = some (V j) ∧ (V j).oneCell' = true) (hV : ∀ (j : Nat) (u : AV), cs[j]? = some u → RF ro u (V j)) (n : Nat) :
    RV ro σ (.rptr (cs.drop n)) (.pointer (some (ad.add n))) := by
  refine .rptr (fun j => V (n + j)) (by rw [addr_add ad hs]) (fun h0 => by rw [addr_block]; exact hF (by simp at h0; omega)) (fun j hj => ?_) (fun j u hu => hV _ _ (by rw [List.getElem?_drop] at hu; exact hu))
  have := hc (n + j) (by simp at hj; omega)
  rw [addr_add ad hs] at this ⊢
  rw [add_plain', Nat.add_assoc]
  exact this
theorem indexAddrV_run {P : Program} {ro : RO} {σ : Map} {t : TypeId} {x ix r : AV} {v vi : Value} (h : indexAddrV P t x ix = some r) (hx : RV ro σ x v) (hi : RV ro σ ix vi) (w : World) :
    ∃ u, (Instr.indexAt t v vi).run P w = .ok u w ∧ RV ro σ r u := by
  simp only [indexAddrV, Option.bind_eq_some_iff] at h
  obtain ⟨i, hai, h⟩ := h
  obtain ⟨k, rfl⟩ := asI_inv hai hi
  split at h
  · rename_i xs
    obtain ⟨A, c, sz, V, rfl, hc, hsz, hA, hV⟩ := hx.osl_inv
    simp only [Option.bind_eq_some_iff] at h
    obtain ⟨e, he, z, hz, h⟩ := h
    have hu := tsl_some he
    split at h
    · rename_i h0
      split at h
      · rename_i y hy
        split at h
        · rename_i hyz
          simp only [Option.some.injEq] at h
          subst h
          have hlt := (List.getElem?_eq_some_iff.1 hy).1
          have hmem := List.mem_of_getElem? hy
          obtain rfl : z = sz := by rw [← hyz, (hsz y hmem).1]
          obtain ⟨ad, rfl, hs, hF, hcell⟩ := hA (fun e => by subst e; simp at hlt)
          refine ⟨.pointer (some (ad.add (i.toNat * z))), ?_, .rptr (fun j => V i.toNat j) (by rw [addr_add ad hs]) (fun h0 => by rw [addr_block]; exact hF (by omega)) (fun j hj => ?_) (fun j u hu => hV _ _ _ _ hy hu)⟩
          · have hi' : 0 ≤ i ∧ i < (xs.length : Int) := ⟨h0, by omega⟩
            simp [Instr.indexAt, run_underlying hu, asIntOf, run_size hz, hi'.1, hi'.2]
          · have := hcell i.toNat j hlt (by omega)
            rw [addr_add ad hs] at this ⊢
            rw [add_plain', Nat.add_assoc]
            exact this
        · cases h
      · cases h
    · cases h
  · rename_i e s g lo len
    split at h
    · rename_i ht
      obtain ⟨et, he, hz⟩ := ht
      have hu := tsl_some he
      split at h
      · rename_i hi'
        simp only [Option.some.injEq] at h
        subst h
        rcases hx.sl_inv with ⟨hσ, rfl, rfl, A, rfl⟩ | ⟨bl, N, c, hσ, hnc, hN, rfl⟩
        · omega
        · refine ⟨.pointer (some ((⟨bl, lo * e, none⟩ : Addr).add (i.toNat * e))), ?_, ?_⟩
          · simp [Instr.indexAt, run_underlying hu, asIntOf, run_size hz, hi'.1, hi'.2]
          · rw [add_plain', ← Nat.add_mul]
            exact .ptr hσ
      · cases h
    · cases h
  · rename_i s g j off
    simp only [Option.bind_eq_some_iff] at h
    obtain ⟨p, hp, z, hz, h⟩ := h
    obtain ⟨n, e⟩ := p
    have hu := tarr_some hp
    obtain ⟨b, sz, N, hσ, rfl⟩ := hx.ptr_inv
    split at h
    · rename_i hi'
      simp only [Option.some.injEq] at h
      subst h
      refine ⟨.pointer (some ((⟨b, j * sz + off, none⟩ : Addr).add (i.toNat * z))), ?_, ?_⟩
      · simp [Instr.indexAt, run_underlying hu, asIntOf, Instr.sureAddr, run_size hz, hi'.1, hi'.2]
      · rw [add_plain', Nat.add_assoc]
        exact .ptr hσ
    · cases h
  · rename_i cs
    simp only [Option.bind_eq_some_iff] at h
    obtain ⟨p, hp, z, hz, h⟩ := h
    obtain ⟨n, e⟩ := p
    have hu := tarr_some hp
    obtain ⟨ad, V, rfl, hs, hF, hc, hV⟩ := hx.rptr_inv
    split at h
    · rename_i hi'
      simp only [Option.some.injEq] at h
      subst h
      refine ⟨.pointer (some (ad.add (i.toNat * z))), ?_, RV.rdrop V hs hF hc hV _⟩
      simp [Instr.indexAt, run_underlying hu, asIntOf, Instr.sureAddr, run_size hz, hi'.1, hi'.2]
    · cases h
  · cases h
theorem indexV_run {P : Program} {ro : RO} {σ : Map} {t : TypeId} {x ix r : AV} {v vi : Value} (h : indexV P t x ix = some r) (hx : RV ro σ x v) (hi : RV ro σ ix vi) (w : World) :
    ∃ u, (Instr.index t v vi).run P w = .ok u w ∧ RV ro σ r u := by
  simp only [indexV, Option.bind_eq_some_iff] at h
  obtain ⟨i, hai, h⟩ := h
  obtain ⟨k, rfl⟩ := asI_inv hai hi
  split at h
  · rename_i s
    obtain rfl := hx.str_inv
    split at h
    · rename_i hc
      simp only [Bool.and_eq_true, decide_eq_true_eq] at hc
      have hu := tstr_some hc.1
      simp only [Option.map_eq_some_iff] at h
      obtain ⟨b, hb, rfl⟩ := h
      refine ⟨_, ?_, .free (.int _ _)⟩
      simp [Instr.index, run_underlying hu, asIntOf, hc.2, hb]
    · cases h
  · rename_i cs
    simp only [Option.bind_eq_some_iff] at h
    obtain ⟨p, hp, z, hz, a, ha, h⟩ := h
    obtain ⟨n, e⟩ := p
    have hu := tarr_some hp
    obtain ⟨vs, rfl, hl, h1, hr⟩ := hx.agg_inv
    split at h
    · rename_i hi'
      obtain ⟨u, hu2, hru⟩ := part_pick hl h1 hr h ha hz w
      refine ⟨u, ?_, hru⟩
      simp [Instr.index, run_underlying hu, asIntOf, run_size hz, hi'.1, hi'.2, hu2]
    · cases h
  · cases h
theorem splice_length {cs vs : List AV} {off : Nat} (h : off + vs.length ≤ cs.length) : (splice cs off vs).length = cs.length := by
  simp [splice]; omega
theorem splice_at {cs vs : List AV} {off : Nat} (h : off + vs.length ≤ cs.length) (j : Nat) : (splice cs off vs)[j]? = if off ≤ j ∧ j < off + vs.length then vs[j - off]? else cs[j]? := by
  unfold splice
  by_cases h1 : j < off
  · rw [List.getElem?_append_left (by simp; omega), if_neg (by omega), List.getElem?_take, if_pos h1]
  · rw [List.getElem?_append_right (by simp; omega)]
    simp only [List.length_take, Nat.min_eq_left (show off ≤ cs.length by omega)]
    by_cases h2 : j < off + vs.length
    · rw [if_pos (by omega), List.getElem?_append_left (by omega)]
    · rw [if_neg (by omega), List.getElem?_append_right (by omega), List.getElem?_drop]
      congr 1
      omega
theorem foldl_set_at (off : Nat) : ∀ (l : List Value) (k : Nat) (cs : Array Value), off + k + l.length ≤ cs.size → ∀ j,
    ((l.zipIdx k).foldl (fun cs (x : Value × Nat) => cs.setIfInBounds (off + x.2) x.1) cs)[j]? = if off + k ≤ j ∧ j < off + k + l.length then l[j - (off + k)]? else cs[j]?
  | [], k, cs, _, j => by simp; intro h1 h2; omega
  | x :: l, k, cs, h, j => by
    simp only [List.length_cons] at h
    rw [List.zipIdx_cons, List.foldl_cons, foldl_set_at off l (k + 1) _ (by simp; omega) j]
    by_cases h1 : off + (k + 1) ≤ j ∧ j < off + (k + 1) + l.length
    · rw [if_pos h1, if_pos (by simp; omega), show j - (off + k) = (j - (off + (k + 1))) + 1 by omega, List.getElem?_cons_succ]
    · rw [if_neg h1]
      by_cases h2 : j = off + k
      · subst h2
        rw [if_pos (by simp), Array.getElem?_setIfInBounds_self_of_lt (by omega)]
        simp
      · rw [if_neg (by simp; omega), Array.getElem?_setIfInBounds_ne (by omega)]
theorem foldl_set_size (off : Nat) : ∀ (l : List Value) (k : Nat) (cs : Array Value), ((l.zipIdx k).foldl (fun cs (x : Value × Nat) => cs.setIfInBounds (off + x.2) x.1) cs).size = cs.size
  | [], k, cs => rfl
  | x :: l, k, cs => by rw [List.zipIdx_cons, List.foldl_cons, foldl_set_size off l (k + 1)]; simp
def RC (ro : RO) (σ : Map) (cs : List AV) (vs : Array Value) : Prop :=
  cs.length = vs.size ∧ (∀ (j : Nat) (v : Value), vs[j]? = some v → v.oneCell' = true) ∧ ∀ (j : Nat) (u : AV) (v : Value), cs[j]? = some u → vs[j]? = some v → RV ro σ u v
theorem zipIdx_toList (vs : Array Value) (f : Array Value → Value × Nat → Array Value) (cs : Array Value) : vs.zipIdx.foldl f cs = (vs.toList.zipIdx).foldl f cs := by
  rw [← Array.foldl_toList, Array.toList_zipIdx]
theorem fillV_run {ro : RO} {σ : Map} {place : Nat → Option (Nat × Nat)} : ∀ (parts : List (Nat × AV)) (vals : List (Nat × Value)) (cs : List AV) (vs : Array Value) (r : List AV),
    fillV place cs parts = some r → RC ro σ cs vs → parts.length = vals.length → (∀ (j : Nat) (p : Nat × AV) (q : Nat × Value), parts[j]? = some p → vals[j]? = some q → p.1 = q.1 ∧ RV ro σ p.2 q.2) →
    ∃ us, Instr.fill place vs vals = some us ∧ RC ro σ r us
  | [], [], cs, vs, r, h, hc, _, _ => by simp [fillV] at h; subst h; exact ⟨vs, rfl, hc⟩
  | [], _ :: _, _, _, _, _, _, hl, _ => by simp at hl
  | _ :: _, [], _, _, _, _, _, hl, _ => by simp at hl
  | (i, x) :: parts, (i', v) :: vals, cs, vs, r, h, hc, hl, hp => by
    obtain ⟨he, hx⟩ := hp 0 (i, x) (i', v) rfl rfl
    obtain rfl : i = i' := he
    have hx' : RV ro σ x v := hx
    unfold fillV at h
    cases hpl : place i with
    | none => simp [hpl] at h
    | some os =>
      obtain ⟨off, sz⟩ := os
      simp only [hpl] at h
      split at h
      · rename_i hcond
        simp only [Bool.and_eq_true, decide_eq_true_eq] at hcond
        obtain ⟨⟨hok, hsz⟩, hle⟩ := hcond
        obtain ⟨hcl, hc1, hcr⟩ := hx'.cells hok
        have hRC : RC ro σ (splice cs off x.cells) (v.cells.zipIdx.foldl (fun cs (c, j) => cs.setIfInBounds (off + j) c) vs) := by
          rw [zipIdx_toList]
          have hsz' : off + 0 + v.cells.toList.length ≤ vs.size := by rw [Array.length_toList, ← hcl, ← hc.1]; omega
          have hat := foldl_set_at off v.cells.toList 0 vs hsz'
          refine ⟨?_, fun j u hu => ?_, fun j a u ha hu => ?_⟩
          · rw [splice_length (by omega), foldl_set_size]; exact hc.1
          · have hu' := (hat j).symm.trans hu
            split at hu'
            · rw [Array.getElem?_toList] at hu'; exact hc1 _ _ hu'
            · exact hc.2.1 _ _ hu'
          · have hu' := (hat j).symm.trans hu
            rw [splice_at (by omega)] at ha
            rw [Array.length_toList, ← hcl] at hu'
            by_cases hin : off ≤ j ∧ j < off + x.cells.length
            · rw [if_pos hin] at ha
              rw [if_pos (by omega), Array.getElem?_toList] at hu'
              exact hcr _ _ _ ha (by rw [show j - off = j - (off + 0) by omega]; exact hu')
            · rw [if_neg hin] at ha
              rw [if_neg (by omega)] at hu'
              exact hc.2.2 _ _ _ ha hu'
        obtain ⟨us, h1, h2⟩ := fillV_run parts vals _ _ r h hRC (by simpa using hl) (fun j p q hj hq => hp (j + 1) p q (by simpa using hj) (by simpa using hq))
        refine ⟨us, ?_, h2⟩
        simp only [Instr.fill, hpl]
        rw [if_neg (by rw [← hcl, ← hc.1]; simp; omega)]
        exact h1
      · cases h
theorem tzero_rep {P : Program} {ro : RO} {σ : Map} {t : TypeId} {z : AV} (h : tzero P t = some z) : ∃ i zv, P.info? t = some i ∧ i.zero = some zv ∧ RV ro σ z zv ∧ ∀ w, (zeroValue t).run P w = .ok zv w := by
  simp only [tzero, Option.bind_eq_some_iff, Option.map_eq_some_iff] at h
  obtain ⟨i, hi, zv, hz, rfl⟩ := h
  exact ⟨i, zv, hi, hz, ofV_rep zv, fun w => by simp [zeroValue, typeInfo, hi, hz]⟩
theorem buildV_run {P : Program} {ro : RO} {σ : Map} {t : TypeId} {parts : List (Nat × AV)} {vals : Array (Nat × Value)} {r : AV} (h : buildV P t parts = some r) (hl : parts.length = vals.size)
    (hp : ∀ (j : Nat) (p : Nat × AV) (q : Nat × Value), parts[j]? = some p → vals[j]? = some q → p.1 = q.1 ∧ RV ro σ p.2 q.2) (w : World) :
    ∃ v, (Instr.build t vals).run P w = .ok v w ∧ RV ro σ r v := by
  unfold buildV at h
  split at h
  · rename_i z hz
    obtain ⟨i, zv, hi, hiz, hrz, _⟩ := tzero_rep (ro := ro) (σ := σ) hz
    obtain ⟨vs, rfl, hlz, h1z, hrz⟩ := hrz.agg_inv
    have hpl : parts.length = vals.toList.length := by simpa using hl
    have hpp : ∀ (j : Nat) (p : Nat × AV) (q : Nat × Value), parts[j]? = some p → vals.toList[j]? = some q → p.1 = q.1 ∧ RV ro σ p.2 q.2 := fun j p q a b => hp j p q a (by simpa using b)
    split at h
    · rename_i pl hpl2
      simp only [Option.map_eq_some_iff] at h
      obtain ⟨cs, hcs, rfl⟩ := h
      obtain ⟨us, h1, h2⟩ := fillV_run parts vals.toList z vs cs hcs ⟨hlz, h1z, hrz⟩ hpl hpp
      unfold tplaces at hpl2
      split at hpl2
      · rename_i fs hu
        refine ⟨.agg us, run_build w t vals us ?_, .agg h2.1 h2.2.1 h2.2.2⟩
        simp only [Program.built, hi, hu, hiz, hpl2]
        simpa [Value.cells] using h1
      · cases hpl2
    · rename_i hnp
      simp only [Option.bind_eq_some_iff, Option.map_eq_some_iff] at h
      obtain ⟨p, hta, s, hs, cs, hcs, rfl⟩ := h
      obtain ⟨n, e⟩ := p
      have hu := tarr_some hta
      obtain ⟨us, h1, h2⟩ := fillV_run parts vals.toList z vs cs hcs ⟨hlz, h1z, hrz⟩ hpl hpp
      refine ⟨.agg us, run_build w t vals us ?_, .agg h2.1 h2.2.1 h2.2.2⟩
      simp only [tsz, Option.map_eq_some_iff] at hs
      obtain ⟨ie, hie, rfl⟩ := hs
      simp only [Program.built, hi, hu, hiz, hie]
      simpa [Value.cells] using h1
  · cases h
theorem lenV_run {P : Program} {ro : RO} {σ : Map} {t ty : TypeId} {x r : AV} {v : Value} (h : lenV P t x = some r) (hx : RV ro σ x v) (w : World) :
    ∃ u, (Builtin.len_ #[t] ty #[v]).run P w = .ok u w ∧ RV ro σ r u := by
  unfold lenV at h
  split at h
  · rename_i n e ht
    have hu := tarr_some ht
    simp only [Option.some.injEq] at h
    subst h
    refine ⟨_, ?_, .free (.int _ _)⟩
    simp [Builtin.len_, run_underlying hu, goInt]
  · split at h
    · rename_i xs
      obtain ⟨A, c, sz, V, rfl, _⟩ := hx.osl_inv
      split at h
      · rename_i hc
        obtain ⟨e, he⟩ := Option.isSome_iff_exists.1 hc
        have hu := tsl_some he
        simp only [Option.some.injEq] at h
        subst h
        refine ⟨_, ?_, .free (.int _ _)⟩
        simp [Builtin.len_, run_underlying hu, goInt]
      · cases h
    · rename_i e s g lo n
      split at h
      · rename_i hc
        obtain ⟨e', he⟩ := Option.isSome_iff_exists.1 hc
        have hu := tsl_some he
        simp only [Option.some.injEq] at h
        subst h
        refine ⟨.int .i64 n, ?_, .free (.int _ _)⟩
        rcases hx.sl_inv with ⟨hσ, rfl, rfl, A, rfl⟩ | ⟨bl, N, c, hσ, hnc, hN, rfl⟩ <;> simp [Builtin.len_, run_underlying hu, goInt]
      · cases h
    · split at h
      · rename_i hc
        obtain ⟨e', he⟩ := Option.isSome_iff_exists.1 hc
        have hu := tsl_some he
        obtain ⟨A, rfl⟩ := hx.nil_inv
        simp only [Option.some.injEq] at h
        subst h
        refine ⟨.int .i64 0, ?_, .free (.int _ _)⟩
        simp [Builtin.len_, run_underlying hu, goInt]
      · cases h
    · split at h
      · rename_i hc
        obtain ⟨e', he⟩ := Option.isSome_iff_exists.1 hc
        have hu := tsl_some he
        obtain rfl := hx.nl_inv
        simp only [Option.some.injEq] at h
        subst h
        refine ⟨.int .i64 0, ?_, .free (.int _ _)⟩
        simp [Builtin.len_, run_underlying hu, goInt]
      · cases h
    · split at h
      · rename_i hc
        obtain ⟨e', he⟩ := Option.isSome_iff_exists.1 hc
        have hu := tsl_some he
        obtain ⟨ad, c, rfl⟩ := hx.em_inv
        simp only [Option.some.injEq] at h
        subst h
        refine ⟨.int .i64 0, ?_, .free (.int _ _)⟩
        simp [Builtin.len_, run_underlying hu, goInt]
      · cases h
    · split at h
      · rename_i hc
        have hu := tstr_some hc
        obtain rfl := hx.str_inv
        simp only [Option.some.injEq] at h
        subst h
        refine ⟨_, ?_, .free (.int _ _)⟩
        simp [Builtin.len_, run_underlying hu, goInt]
      · cases h
    · cases h
theorem capV_run {P : Program} {ro : RO} {σ : Map} {t ty : TypeId} {x r : AV} {v : Value} (h : capV P t x = some r) (hx : RV ro σ x v) (w : World) :
    ∃ u, (Builtin.cap_ #[t] ty #[v]).run P w = .ok u w ∧ RV ro σ r u := by
  unfold capV at h
  split at h
  · split at h
    · rename_i hc
      obtain ⟨e', he⟩ := Option.isSome_iff_exists.1 hc
      have hu := tsl_some he
      obtain ⟨A, rfl⟩ := hx.nil_inv
      simp only [Option.some.injEq] at h
      subst h
      refine ⟨.int .i64 0, ?_, .free (.int _ _)⟩
      simp [Builtin.cap_, run_underlying hu, goInt]
    · cases h
  · split at h
    · rename_i hc
      obtain ⟨e', he⟩ := Option.isSome_iff_exists.1 hc
      have hu := tsl_some he
      obtain rfl := hx.nl_inv
      simp only [Option.some.injEq] at h
      subst h
      refine ⟨.int .i64 0, ?_, .free (.int _ _)⟩
      simp [Builtin.cap_, run_underlying hu, goInt]
    · cases h
  · cases h
theorem minV_run {P : Program} {ro : RO} {σ : Map} {x y r : AV} {u v : Value} (h : minV x y = some r) (hx : RV ro σ x u) (hy : RV ro σ y v) (w : World) : ∃ q, (Builtin.min2 u v).run P w = .ok q w ∧ RV ro σ r q := by
  unfold minV at h
  split at h
  · obtain rfl := hx.int_inv
    obtain rfl := hy.int_inv
    simp only [Option.some.injEq] at h
    subst h
    exact ⟨_, rfl, .free (.int _ _)⟩
  · cases h
theorem maxV_run {P : Program} {ro : RO} {σ : Map} {x y r : AV} {u v : Value} (h : maxV x y = some r) (hx : RV ro σ x u) (hy : RV ro σ y v) (w : World) : ∃ q, (Builtin.max2 u v).run P w = .ok q w ∧ RV ro σ r q := by
  unfold maxV at h
  split at h
  · obtain rfl := hx.int_inv
    obtain rfl := hy.int_inv
    simp only [Option.some.injEq] at h
    subst h
    exact ⟨_, rfl, .free (.int _ _)⟩
  · cases h
theorem fold_run {P : Program} {ro : RO} {σ : Map} {f : AV → AV → Option AV} {g : Value → Value → Sem Value} {ρ : Operand → AV} {τ : Operand → Value}
    (hf : ∀ (x y r : AV) (u v : Value), f x y = some r → RV ro σ x u → RV ro σ y v → ∀ w, ∃ q, (g u v).run P w = .ok q w ∧ RV ro σ r q) (hρ : ∀ x, RV ro σ (ρ x) (τ x)) (w : World) :
    ∀ (l : List Operand) (x r : AV) (u : Value), l.foldlM (fun a b => f a (ρ b)) x = some r → RV ro σ x u → ∃ q, ((l.map τ).foldlM g u).run P w = .ok q w ∧ RV ro σ r q
  | [], x, r, u, h, hx => by
    simp only [List.foldlM_nil, Option.pure_def, Option.some.injEq] at h
    subst h
    exact ⟨u, by simp, hx⟩
  | b :: l, x, r, u, h, hx => by
    simp only [List.foldlM_cons, Option.bind_eq_bind, Option.bind_eq_some_iff] at h
    obtain ⟨y, hy, h⟩ := h
    obtain ⟨q, hq, hrq⟩ := hf _ _ _ _ _ hy hx (hρ b) w
    obtain ⟨q2, hq2, hr2⟩ := fold_run hf hρ w l y r q h hrq
    exact ⟨q2, by simp [hq, hq2], hr2⟩
theorem or_map {ro : RO} {σ : Map} {ρ : Operand → AV} {τ : Operand → Value} (hρ : ∀ x, RV ro σ (ρ x) (τ x)) (o : Option Operand) : OR ro σ (o.map ρ) (o.map τ) := by
  cases o with
  | none => trivial
  | some x => exact hρ x
theorem pureV_run {P : Program} {ro : RO} {σ : Map} {ρ : Operand → AV} {τ : Operand → Value} (hρ : ∀ x, RV ro σ (ρ x) (τ x)) (hτ : ∀ v, τ (.const v) = v) (o : Oper) {r : AV} (h : pureV P ρ o.op = some r) (w : World) :
    ∃ v, (execOp τ o).run P w = .ok (.value v) w ∧ RV ro σ r v := by
  obtain ⟨dst, op, ty, pos, aft, gd⟩ := o
  simp only at h
  unfold pureV at h
  split at h
  · simp only [Option.some.injEq] at h; subst h; exact ⟨_, by simp [execOp], hρ _⟩
  · simp only [Option.some.injEq] at h; subst h; exact ⟨_, by simp [execOp], hρ _⟩
  · rename_i c a b
    split at h
    · rename_i t hc
      simp only [Option.some.injEq] at h; subst h
      have hb := hρ c
      rw [hc] at hb
      exact ⟨_, by simp [execOp, hb.bool_inv, asBool], pickV_rep t (hρ a) (hρ b)⟩
    · cases h
  · rename_i x
    have hx := hρ x
    split at h
    · rename_i s g i off he
      simp only [Option.some.injEq] at h; subst h
      rw [he] at hx
      obtain ⟨b, sz, N, hσ, hv⟩ := hx.ptr_inv
      exact ⟨τ x, by simp [execOp, hv], hx⟩
    · rename_i cs he
      simp only [Option.some.injEq] at h; subst h
      rw [he] at hx
      obtain ⟨ad, V, hv, _⟩ := hx.rptr_inv
      exact ⟨τ x, by simp [execOp, hv], hx⟩
    · cases h
  · rename_i op t x y yt
    split at h
    · rename_i hn
      have hy : τ y = .slice none 0 0 := by
        unfold isNilC at hn
        split at hn
        · exact hτ _
        · cases hn
      obtain ⟨v, hv, hr⟩ := nilV_run h (hρ x) x y w
      refine ⟨v, ?_, hr⟩
      simp only [execOp, Sem.run_bind, hy] at hv ⊢
      rw [hv]
      rfl
    · obtain ⟨v, hv, hr⟩ := binV_run h (hρ x) (hρ y) x y w
      refine ⟨v, ?_, hr⟩
      simp only [execOp, Sem.run_bind] at hv ⊢
      rw [hv]
      rfl
  · rename_i op t x
    have hx := hρ x
    unfold unV at h
    split at h
    · rename_i k n he
      simp only [Option.some.injEq] at h; subst h
      rw [he] at hx
      exact ⟨_, by simp [execOp, hx.int_inv, Op.unary, Op.intArith], .free (.int _ _)⟩
    · rename_i b he
      simp only [Option.some.injEq] at h; subst h
      rw [he] at hx
      exact ⟨_, by simp [execOp, hx.bool_inv, Op.unary], .free (.bool _)⟩
    · cases h
  · rename_i s d x
    have hx := hρ x
    split at h
    · rename_i k n he
      simp only [Option.bind_eq_some_iff] at h
      obtain ⟨k', hk, h⟩ := h
      split at h
      · rename_i hs
        obtain ⟨k2, hs⟩ := Option.isSome_iff_exists.1 hs
        simp only [Option.some.injEq] at h; subst h
        rw [he] at hx
        refine ⟨.int k' (k'.wrap n), ?_, .free (.int _ _)⟩
        simp [execOp, hx.int_inv, convert, run_underlying (tint_some hs), run_underlying (tint_some hk), Conv.intToInt]
      · cases h
    · rename_i b he
      split at h
      · rename_i hc
        simp only [Bool.and_eq_true] at hc
        simp only [Option.some.injEq] at h; subst h
        rw [he] at hx
        refine ⟨.string b, ?_, .free (.str _)⟩
        simp [execOp, hx.str_inv, convert, run_underlying (tstr_some hc.1), run_underlying (tstr_some hc.2)]
      · cases h
    · cases h
  · rename_i f first caps
    simp only [Option.some.injEq] at h; subst h
    exact ⟨.func (.func f) (first.map τ) (caps.map τ), by simp [execOp, Instr.makeFunc], .fn (by simp) (at_map hρ first) (by simp) (at_map hρ caps)⟩
  · rename_i t x lo hi mx
    obtain ⟨u, hu, hr⟩ := sliceV_run h (hρ x) (or_map hρ lo) (or_map hρ hi) (or_map hρ mx) w
    exact ⟨u, by simp [execOp, hu], hr⟩
  · rename_i t x f
    simp only [Option.bind_eq_some_iff] at h
    obtain ⟨p, hp, h⟩ := h
    obtain ⟨o, n, b⟩ := p
    obtain ⟨fs, fd, hu, hf, ho, hz, ha⟩ := tfld_some hp
    have hx := hρ x
    split at h
    · rename_i cs he
      rw [he] at hx
      obtain ⟨vs, hv, hl, h1, hr⟩ := hx.agg_inv
      obtain ⟨u, hu2, hru⟩ := part_pick hl h1 hr h ha hz w
      refine ⟨u, ?_, hru⟩
      simp [execOp, hv, Instr.field, run_underlying hu, hf, asAgg, ho, hu2]
    · cases h
  · rename_i t x f
    simp only [Option.bind_eq_some_iff] at h
    obtain ⟨p, hp, h⟩ := h
    obtain ⟨o, n, b⟩ := p
    obtain ⟨fs, fd, hu, hf, ho, hz, ha⟩ := tfld_some hp
    have hx := hρ x
    split at h
    · cases h
    · rename_i hn
      split at h
      · rename_i s g i off he
        simp only [Option.some.injEq] at h; subst h
        rw [he] at hx
        obtain ⟨b, sz, N, hσ, hv⟩ := hx.ptr_inv
        refine ⟨.pointer (some ⟨b, i * sz + (off + o), none⟩), ?_, .ptr hσ⟩
        simp [execOp, hv, Instr.fieldAt, run_underlying hu, hf, Instr.sureAddr, fieldPlace, run_size hz, hn, ho, add_plain', Nat.add_assoc]
      · rename_i cs he
        simp only [Option.some.injEq] at h; subst h
        rw [he] at hx
        obtain ⟨ad, V, hv, hs, hF, hc, hV⟩ := hx.rptr_inv
        refine ⟨.pointer (some (ad.add o)), ?_, RV.rdrop V hs hF hc hV o⟩
        simp [execOp, hv, Instr.fieldAt, run_underlying hu, hf, Instr.sureAddr, fieldPlace, run_size hz, hn, ho]
      · cases h
  · rename_i t x ix
    obtain ⟨u, hu, hr⟩ := indexAddrV_run h (hρ x) (hρ ix) w
    exact ⟨u, by simp [execOp, hu], hr⟩
  · rename_i t x ix
    obtain ⟨u, hu, hr⟩ := indexV_run h (hρ x) (hρ ix) w
    exact ⟨u, by simp [execOp, hu], hr⟩
  · rename_i t parts
    obtain ⟨u, hu, hr⟩ := buildV_run (ro := ro) (σ := σ) (vals := parts.map fun p => (p.1, τ p.2)) h (by simp) (fun j p q hp hq => by
      simp only [List.getElem?_map, Array.getElem?_toList, Option.map_eq_some_iff] at hp
      simp only [Array.getElem?_map, Option.map_eq_some_iff] at hq
      obtain ⟨a, ha, rfl⟩ := hp
      obtain ⟨b, hb, rfl⟩ := hq
      rw [ha] at hb
      simp only [Option.some.injEq] at hb
      subst hb
      exact ⟨rfl, hρ a.2⟩) w
    refine ⟨u, ?_, hr⟩
    simp only [execOp, Sem.run_bind]
    rw [hu]
    rfl
  · rename_i x i
    have hx := hρ x
    split at h
    · rename_i vs he
      rw [he] at hx
      obtain ⟨us, hv, hl, hr⟩ := hx.tup_inv
      have hlt : i < vs.length := (List.getElem?_eq_some_iff.1 h).1
      have hu : us[i]? = some (us[i]'(by omega)) := Array.getElem?_eq_getElem (by omega)
      exact ⟨_, by simp [execOp, hv, Instr.extract, hu], hr _ _ _ h hu⟩
    · cases h
  · rename_i c
    obtain ⟨callee, args, argTypes⟩ := c
    simp only at h
    split at h
    · split at h
      · rename_i x t hargs hts
        obtain rfl : args = #[x] := by rw [← Array.toArray_toList (xs := args), hargs]
        obtain rfl : argTypes = #[t] := by rw [← Array.toArray_toList (xs := argTypes), hts]
        obtain ⟨u, hu, hr⟩ := lenV_run (ty := ty) h (hρ x) w
        exact ⟨u, by simp [execOp, resolve, invoke, builtin, hu], hr⟩
      · cases h
    · split at h
      · rename_i x t hargs hts
        obtain rfl : args = #[x] := by rw [← Array.toArray_toList (xs := args), hargs]
        obtain rfl : argTypes = #[t] := by rw [← Array.toArray_toList (xs := argTypes), hts]
        obtain ⟨u, hu, hr⟩ := capV_run (ty := ty) h (hρ x) w
        exact ⟨u, by simp [execOp, resolve, invoke, builtin, hu], hr⟩
      · cases h
    · split at h
      · rename_i x rest hargs
        obtain ⟨u, hu, hr⟩ := fold_run (P := P) (g := Builtin.min2) (fun x y r u v a b c w => minV_run a b c w) hρ w rest _ _ _ h (hρ x)
        refine ⟨u, ?_, hr⟩
        have hm : (args.map τ).toList = τ x :: rest.map τ := by rw [Array.toList_map, hargs]; rfl
        simp only [execOp, resolve, Sem.run_bind, Sem.run_pure, Result.andThen_ok, invoke, builtin, Builtin.min_, hm, hu]
      · cases h
    · split at h
      · rename_i x rest hargs
        obtain ⟨u, hu, hr⟩ := fold_run (P := P) (g := Builtin.max2) (fun x y r u v a b c w => maxV_run a b c w) hρ w rest _ _ _ h (hρ x)
        refine ⟨u, ?_, hr⟩
        have hm : (args.map τ).toList = τ x :: rest.map τ := by rw [Array.toList_map, hargs]; rfl
        simp only [execOp, resolve, Sem.run_bind, Sem.run_pure, Result.andThen_ok, invoke, builtin, Builtin.max_, hm, hu]
      · cases h
    · cases h
  · cases h
end Vai
