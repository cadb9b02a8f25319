import Derived.Test.YtjienkojedlfjaaVb3
namespace Vai
open Go Go.RowKit
set_option linter.unusedVariables false
set_option linter.unusedSimpArgs false
theorem flat_len {sz : Nat} : ∀ (es : List AV), (∀ x ∈ es, x.cells.length = sz) → (es.flatMap AV.cells).length = es.length * sz
  | [], _ => by simp
  | x :: es, h => by
    rw [List.flatMap_cons, List.length_append, flat_len es (fun y hy => h y (List.mem_cons_of_mem _ hy)), h x (List.mem_cons_self ..), List.length_cons, Nat.succ_mul, Nat.add_comm]
theorem flat_at {sz : Nat} : ∀ (es : List AV), (∀ x ∈ es, x.cells.length = sz) → ∀ (i : Nat) (x : AV) (j : Nat), es[i]? = some x → j < sz → (es.flatMap AV.cells)[i * sz + j]? = x.cells[j]?
  | [], _, i, x, j, hx, _ => by simp at hx
  | y :: es, h, 0, x, j, hx, hj => by
    simp at hx; subst hx
    rw [List.flatMap_cons, List.getElem?_append_left (by rw [h y (List.mem_cons_self ..)]; omega)]
    simp
  | y :: es, h, i + 1, x, j, hx, hj => by
    rw [List.flatMap_cons, List.getElem?_append_right (by rw [h y (List.mem_cons_self ..), Nat.succ_mul]; omega), h y (List.mem_cons_self ..)]
    rw [show (i + 1) * sz + j - sz = i * sz + j by rw [Nat.succ_mul]; omega]
    exact flat_at es (fun z hz => h z (List.mem_cons_of_mem _ hz)) i x j (by simpa using hx) hj
theorem row_blk {w0 : Base} {w w' : World} {ro : RO} {σ : Map} {n : Nat} {st : St} {a : Act} (hh : HRep w0 w ro σ st.hp st.gn) (hs : SRep w0 ro σ n st.sl a) {d : Nat} (hd : d < n) {es : List AV} {sz N c : Nat} {arr : Array Value} {e : TypeId} {fz : Nat × Nat}
    (hes : ∀ x ∈ es, x.cells.length = sz ∧ x.ok = true) (h0 : 0 < sz) (hg : w.grownBy w' (some w.heap.size)) (hb : w'.heap[w.heap.size]? = some (.cells arr e fz)) (hN : arr.size = N) (hfz : FzOk fz N)
    (hlen : es.length ≤ c) (hc : c * sz ≤ N) (hat : ∀ (i : Nat) (x : AV) (j : Nat) (u : AV), es[i]? = some x → x.cells[j]? = some u → ∃ v, arr[i * sz + j]? = some v ∧ v.oneCell' = true ∧ RV ro σ u v) :
    After w0 ro σ n ((st.new d es).put d (.sl sz d (st.gn d) 0 es.length)) (a.put (some d) (.slice (some ⟨w.heap.size, 0, none⟩) es.length c)) w' := by
  obtain ⟨h1, h2⟩ := freeNew hh (Nat.le_refl w.heap.size)
  have e1 := Map.add_ext ro σ d (st.gn d) (.real w.heap.size sz N)
  refine ⟨ro, _, e1, hh.add d hg h1 h2 ⟨arr, e, fz, hb, hN, hfz, Nat.le_trans (Nat.mul_le_mul_right sz hlen) hc, h0, hes, hat⟩, SRep.put (s := st.new d es) (d := some d) (hs.mono e1) (fun x hx => by simp at hx; omega) ?_⟩
  have := RV.sl (ro := ro) (lo := 0) (len := es.length) (c := c) (Map.add_self σ d (st.gn d) (.real w.heap.size sz N)) hlen (by rw [Nat.zero_add]; exact hc)
  simpa using this
theorem grown_alloc (w : World) (o : Obj) : w.grownBy (w.alloc o) (some w.heap.size) := World.grownBy_alloc w o _
theorem grown_drew_alloc (w : World) (o : Obj) : w.grownBy (w.drew.alloc o) (some w.heap.size) :=
  ⟨rfl, rfl, rfl, by simp, fun k hk _ => Below.heap_alloc w.drew o k hk⟩
theorem rowStep_some {d : Option Nat} {es : List AV} {z : Nat} {st st' : St} (h : rowStep d es z st = some st') :
    ∃ x, d = some x ∧ (∀ y ∈ es, y.cells.length = z ∧ y.ok = true) ∧ 0 < z ∧ st' = (st.new x es).put x (.sl z x (st.gn x) 0 es.length) := by
  unfold rowStep at h
  split at h
  · rename_i d
    split at h
    · rename_i hc
      simp only [Bool.and_eq_true, List.all_eq_true, decide_eq_true_eq] at hc
      simp only [Option.some.injEq] at h
      exact ⟨d, rfl, fun y hy => ⟨(hc.1 y hy).2, (hc.1 y hy).1⟩, hc.2, h.symm⟩
    · cases h
  · cases h
theorem fill_dense {sz : Nat} : ∀ (vals : List AV) (k : Nat) (cs : List AV), (∀ x ∈ vals, x.cells.length = sz ∧ x.ok = true) → cs.length = (k + vals.length) * sz →
    fillV (fun i => some (i * sz, sz)) cs ((List.range' k vals.length).zip vals) = some (cs.take (k * sz) ++ vals.flatMap AV.cells)
  | [], k, cs, _, hl => by
    simp only [List.length_nil, Nat.add_zero] at hl
    simp [fillV, ← hl]
  | x :: vals, k, cs, h, hl => by
    simp only [List.length_cons] at hl
    obtain ⟨hx, hok⟩ := h x (List.mem_cons_self ..)
    have hk : k * sz + sz ≤ cs.length := by rw [hl, ← Nat.succ_mul]; exact Nat.mul_le_mul_right _ (by omega)
    simp only [List.length_cons, List.range'_succ, List.zip_cons_cons, fillV, hok, hx, decide_true, Bool.and_self, hk, if_true]
    rw [fill_dense vals (k + 1) _ (fun y hy => h y (List.mem_cons_of_mem _ hy)) (by rw [splice_length (by omega), hl]; congr 1; omega)]
    congr 1
    rw [List.flatMap_cons, ← List.append_assoc]
    congr 1
    unfold splice
    rw [← List.append_assoc, List.take_append_of_le_length (by simp; rw [Nat.min_eq_left (by omega), hx, Nat.succ_mul]; exact Nat.le_refl _)]
    rw [List.take_of_length_le (by simp; rw [hx, Nat.succ_mul]; omega)]
theorem made_RC {ro : RO} {σ : Map} {z : Array Value} (h1 : ∀ (j : Nat) (v : Value), z[j]? = some v → v.oneCell' = true) (n : Nat) (hz : n ≠ 0 → 0 < z.size) :
    RC ro σ (List.replicate n .unk) (madeCells z n) := by
  refine ⟨by simp [madeCells], fun j v hv => ?_, fun j u v hu hv => ?_⟩
  · simp only [madeCells, Array.getElem?_map, Option.map_eq_some_iff] at hv
    obtain ⟨k, hk, rfl⟩ := hv
    have hlt : j < n := by have := (Array.getElem?_eq_some_iff.1 hk).1; simpa using this
    have hzs : 0 < z.size := hz (by omega)
    have hm : k % z.size < z.size := Nat.mod_lt _ hzs
    have : z[k % z.size]? = some z[k % z.size]! := by simp [hm]
    exact h1 _ _ this
  · have := List.mem_of_getElem? hu
    simp only [List.mem_replicate] at this
    rw [this.2]
    exact .unk v
theorem zip_range {α β : Type} : ∀ (l : List (Nat × α)) (k : Nat) (f : α → β), l.map (·.1) = List.range' k l.length → l.map (fun p => (p.1, f p.2)) = (List.range' k l.length).zip (l.map fun p => f p.2)
  | [], _, _, _ => rfl
  | p :: l, k, f, h => by
    simp only [List.map_cons, List.length_cons, List.range'_succ, List.cons.injEq] at h
    simp only [List.map_cons, List.length_cons, List.range'_succ, List.zip_cons_cons, h.1]
    rw [zip_range l (k + 1) f h.2]
theorem buildSlice_run {P : Program} {w0 : Base} {w : World} {ro : RO} {σ : Map} {n : Nat} {st st' : St} {a : Act} (hh : HRep w0 w ro σ st.hp st.gn) (hs : SRep w0 ro σ n st.sl a) {d : Option Nat} (hd : ∀ x, d = some x → x < n)
    {t len : Nat} {parts : Array (Nat × Operand)} {e z : Nat} {zv : AV} (he : tsl P t = some e) (hz : tsz P e = some z) (hzv : tzero P e = some zv) (hc : parts.toList.map (·.1) = List.range len) (hzo : zv.ok = true) (hzl : zv.cells.length = z) (hb : len * z ≤ 16777216)
    (h : rowStep d (parts.toList.map fun p => st.ev p.2) z st = some st') :
    ∃ v w', (Instr.buildSlice t len (parts.map fun p => (p.1, a.eval p.2))).run P w = .ok v w' ∧ After w0 ro σ n st' (a.put d v) w' := by
  obtain ⟨x, rfl, hes, h0, rfl⟩ := rowStep_some h
  obtain ⟨i, zval, hi, hiz, hrz, hzrun⟩ := tzero_rep (ro := ro) (σ := σ) hzv
  obtain ⟨hzc, hz1, _⟩ := hrz.cells hzo
  have hu := tsl_some he
  have hlen : parts.toList.length = len := by have := congrArg List.length hc; simpa using this
  generalize hE : (parts.toList.map fun p => st.ev p.2) = es at *
  have hesl : es.length = len := by rw [← hE]; simpa using hlen
  have hz0 : zval.cells.size = z := by rw [← hzc, hzl]
  have hRC := made_RC (ro := ro) (σ := σ) hz1 (len * z) (fun _ => by omega)
  have hfill : fillV (fun i => some (i * z, z)) (List.replicate (len * z) .unk) (parts.toList.map fun p => (p.1, st.ev p.2)) = some (es.flatMap AV.cells) := by
    rw [zip_range parts.toList 0 st.ev (by rw [hc, hlen, List.range_eq_range']), hE]
    rw [show parts.toList.length = es.length by rw [hlen, hesl]]
    rw [fill_dense es 0 _ hes (by simp [hesl])]
    simp
  obtain ⟨us, hus, hRC2⟩ := fillV_run (vals := (parts.map fun p => (p.1, a.eval p.2)).toList) _ _ _ _ hfill hRC (by simp) (fun j p q hp hq => by
    simp only [List.getElem?_map, Array.getElem?_toList, Option.map_eq_some_iff] at hp
    simp only [Array.getElem?_toList, Array.getElem?_map, Option.map_eq_some_iff] at hq
    obtain ⟨y, hy, rfl⟩ := hp
    obtain ⟨y', hy', rfl⟩ := hq
    rw [hy] at hy'
    simp only [Option.some.injEq] at hy'
    subst hy'
    exact ⟨rfl, ev_rep hs y.2⟩)
  have hrun : (Instr.buildSlice t len (parts.map fun p => (p.1, a.eval p.2))).run P w = .ok (.slice (some ⟨w.heap.size, 0, none⟩) len len) (w.alloc (.cells us e)) := by
    have hbig : ¬ (16777216 < len * z) := by omega
    by_cases hl0 : len * z = 0
    · have hu2 : Instr.fill (fun i => some (i * z, z)) #[] (parts.map fun p => (p.1, a.eval p.2)).toList = some us := by
        rw [← hus]; congr 1; rw [hl0]; simp [madeCells, Array.range_zero']
      simp only [Array.toList_map] at hu2
      simp [Instr.buildSlice, run_underlying hu, run_size hz, hl0, newRow, hu2, Array.range_zero']
    · have hu2 := hus
      simp only [Array.toList_map, madeCells] at hu2
      simp [Instr.buildSlice, run_underlying hu, run_size hz, hbig, hl0, hzrun w, newRow, hu2]
  refine ⟨_, _, hrun, ?_⟩
  have := row_blk (c := es.length) (fz := (0, 0)) (arr := us) hh hs (hd x rfl) hes h0 (grown_alloc w (.cells us e)) (cells_at w rfl) rfl (.inl rfl) (Nat.le_refl _)
    (by rw [← hRC2.1, flat_len es (fun y hy => (hes y hy).1)]; omega) (fun i y j u hy hu => by
      have hj : j < z := by rw [← (hes y (List.mem_of_getElem? hy)).1]; exact (List.getElem?_eq_some_iff.1 hu).1
      have hfl := flat_at es (fun y hy => (hes y hy).1) i y j hy hj
      rw [hu] at hfl
      have hlt : i * z + j < us.size := by rw [← hRC2.1]; exact (List.getElem?_eq_some_iff.1 hfl).1
      have hv : us[i * z + j]? = some us[i * z + j] := Array.getElem?_eq_getElem hlt
      exact ⟨_, hv, hRC2.2.1 _ _ hv, hRC2.2.2 _ _ _ hfl hv⟩)
  rw [hesl] at this
  rw [hesl]
  exact this
theorem make_at {z : Array Value} {n i j : Nat} (hi : i < n) (hj : j < z.size) : (madeCells z (n * z.size))[i * z.size + j]? = z[j]? := by
  have hlt : i * z.size + j < n * z.size := by
    have : (i + 1) * z.size ≤ n * z.size := Nat.mul_le_mul_right _ hi
    rw [Nat.succ_mul] at this; omega
  have hm : (i * z.size + j) % z.size = j := by rw [Nat.mul_comm, Nat.mul_add_mod]; exact Nat.mod_eq_of_lt hj
  simp [madeCells, hlt, hm, hj]
theorem makeSlice_run {P : Program} {w0 : Base} {w : World} {ro : RO} {σ : Map} {n : Nat} {st st' : St} {a : Act} (hh : HRep w0 w ro σ st.hp st.gn) (hs : SRep w0 ro σ n st.sl a) {d : Option Nat} (hd : ∀ x, d = some x → x < n)
    {t e z b : Nat} {zv : AV} {k1 k2 : IntKind} {i : Int} (he : tsl P t = some e) (hz : tsz P e = some z) (hb : tby P e = some b) (hzv : tzero P e = some zv) (h1 : 0 ≤ i) (h2 : i ≤ 140737488355328) (h3 : i.toNat * b ≤ 140737488355328)
    (h : rowStep d (List.replicate i.toNat zv) z st = some st') (hzo : zv.ok = true) (hzl : zv.cells.length = z) :
    ∃ v w', (Instr.makeSlice t (.int k1 i) (.int k2 i)).run P w = .ok v w' ∧ After w0 ro σ n st' (a.put d v) w' := by
  obtain ⟨x, rfl, hes, h0, rfl⟩ := rowStep_some h
  obtain ⟨inf, zval, hi, hiz, hrz, hzrun⟩ := tzero_rep (ro := ro) (σ := σ) hzv
  obtain ⟨hzc, hz1, hzr⟩ := hrz.cells hzo
  have hu := tsl_some he
  have hz0 : zval.cells.size = z := by rw [← hzc, hzl]
  have hsz : inf.size = z := by unfold tsz at hz; rw [hi] at hz; simpa using hz
  have hby : inf.bytes = b := by unfold tby at hb; rw [hi] at hb; simpa using hb
  have hbb : (inf.bytes : Int) * i ≤ 281474976710656 := by
    have e1 : ((i.toNat * b : Nat) : Int) ≤ 140737488355328 := by omega
    rw [Int.natCast_mul, Int.toNat_of_nonneg h1] at e1
    rw [hby, Int.mul_comm]; omega
  have hrun := run_make (P := P) w t e inf zval hu hi hiz k1 k2 i i h1 (Int.le_refl _) hbb (by omega)
  rw [hsz, ← hz0] at hrun
  refine ⟨_, _, hrun, ?_⟩
  have := row_blk (c := i.toNat) (e := e) (fz := (0, 0)) (arr := madeCells zval.cells (i.toNat * zval.cells.size)) hh hs (hd x rfl) hes h0 (grown_alloc w _) (cells_at w rfl) rfl (.inl rfl) (by simp)
    (by rw [size_madeCells, hz0]; exact Nat.le_refl _) (fun i' y j u hy hu => by
      have hmem := List.mem_of_getElem? hy
      simp only [List.mem_replicate] at hmem
      obtain ⟨_, rfl⟩ := hmem
      have hlt : i' < i.toNat := by have := (List.getElem?_eq_some_iff.1 hy).1; simpa using this
      have hj : j < zval.cells.size := by rw [← hzc]; exact (List.getElem?_eq_some_iff.1 hu).1
      have hv : zval.cells[j]? = some zval.cells[j] := Array.getElem?_eq_getElem hj
      exact ⟨_, by rw [← hz0, make_at hlt hj, hv], hz1 _ _ hv, hzr _ _ _ hu hv⟩)
  simpa using this
theorem store_run {P : Program} (b o : Nat) (e : TypeId) (fz : Nat × Nat) : ∀ (vs : List Value) (i : Nat) (arr : Array Value) (w : World), w.heap[b]? = some (.cells arr e fz) → o + i + vs.length ≤ arr.size →
    (∀ j, j < arr.size → ¬ (fz.1 ≤ j ∧ j < fz.2)) → (∀ v ∈ vs, v.oneCell' = true) →
    ∃ w' arr', (storeCells ⟨b, o, none⟩ vs i).run P w = .ok () w' ∧ w.grownBy w' (some b) ∧ w'.heap[b]? = some (.cells arr' e fz) ∧ arr'.size = arr.size ∧
      ∀ j, arr'[j]? = if o + i ≤ j ∧ j < o + i + vs.length then vs[j - (o + i)]? else arr[j]?
  | [], i, arr, w, hb, _, _, _ => ⟨w, arr, rfl, World.grownBy.refl w _, hb, rfl, fun j => by rw [if_neg (by simp)]⟩
  | v :: vs, i, arr, w, hb, hl, hf, h1 => by
    simp only [List.length_cons] at hl
    have hcell : w.cell? ⟨b, o + i, none⟩ = some (arr[o + i]'(by omega)) := by
      simp only [World.cell?, hb, Option.isSome_none, Bool.false_eq_true, if_false]
      exact Array.getElem?_eq_getElem _
    have hfr : w.frozen? ⟨b, o + i, none⟩ = false := by
      obtain ⟨lo, hi⟩ := fz
      simp only [World.frozen?, hb]
      have := hf (o + i) (by omega)
      simp only [Bool.and_eq_false_iff, decide_eq_false_iff_not]
      simp only at this
      omega
    have hst : (store ((⟨b, o, none⟩ : Addr).add i) v).run P w = .ok () (w.setCell ⟨b, o + i, none⟩ v) := by
      rw [add_plain', run_store P w _ v _ (h1 v (List.mem_cons_self ..))]
      simp [hcell, hfr]
    have hb' : (w.setCell ⟨b, o + i, none⟩ v).heap[b]? = some (.cells (arr.setIfInBounds (o + i) v) e fz) := by
      simp [World.setCell, Array.getElem?_modify, hb]
    have hg' : w.grownBy (w.setCell ⟨b, o + i, none⟩ v) (some b) := ⟨rfl, rfl, rfl, by simp [World.setCell], fun k _ hk => Below.heap_setCell _ _ _ _ (by simpa using hk)⟩
    obtain ⟨w', arr', hr, hg, hh, hsz, hat⟩ := store_run (P := P) b o e fz vs (i + 1) (arr.setIfInBounds (o + i) v) (w.setCell ⟨b, o + i, none⟩ v) hb' (by simp; omega) (by simpa using hf) (fun x hx => h1 x (List.mem_cons_of_mem _ hx))
    refine ⟨w', arr', by simp only [storeCells, Sem.run_bind, hst, Result.andThen_ok, hr], ⟨hg.os.trans hg'.os, hg.tape.trans hg'.tape, hg.output.trans hg'.output, Nat.le_trans hg'.size hg.size, fun k hk hne => (hg.block k (Nat.lt_of_lt_of_le hk hg'.size) hne).trans (hg'.block k hk hne)⟩, hh, by simpa using hsz, fun j => ?_⟩
    rw [hat j]
    simp only [List.length_cons]
    by_cases hj1 : o + (i + 1) ≤ j ∧ j < o + (i + 1) + vs.length
    · rw [if_pos hj1, if_pos (by omega), show j - (o + i) = (j - (o + (i + 1))) + 1 by omega, List.getElem?_cons_succ]
    · rw [if_neg hj1]
      by_cases hj2 : j = o + i
      · subst hj2
        rw [if_pos (by omega), Array.getElem?_setIfInBounds_self_of_lt (by omega)]
        simp
      · rw [if_neg (by omega), Array.getElem?_setIfInBounds_ne (by omega)]
theorem re_cells {x : AV} {cs : List AV} (h : cs.length = x.cells.length) (h1 : ∀ c ∈ cs, (∀ l, c ≠ .agg l)) : (x.re cs).cells = cs := by
  cases x with
  | agg l => rfl
  | _ =>
    simp only [AV.cells, List.length_singleton] at h
    match cs, h with
    | [c], _ =>
      simp only [AV.re, List.headD_cons]
      have := h1 c (List.mem_singleton_self c)
      cases c <;> first | rfl | exact absurd rfl (this _)
theorem RV.noAgg {ro : RO} {σ : Map} {c : AV} {v : Value} (h : RV ro σ c v) (h1 : v.oneCell' = true) : ∀ l, c ≠ .agg l := by
  rintro l rfl
  obtain ⟨vs, rfl, _⟩ := h.agg_inv
  cases h1
theorem idx_lt {i i' sz j : Nat} (h : i < i') (hj : j < sz) : i * sz + j < i' * sz := by
  have : (i + 1) * sz ≤ i' * sz := Nat.mul_le_mul_right _ h
  rw [Nat.succ_mul] at this; omega
theorem storeStep_run {P : Program} {w0 : Base} {w : World} {ro : RO} {σ : Map} {n : Nat} {st st' : St} {a : Act} (hh : HRep w0 w ro σ st.hp st.gn) (hs : SRep w0 ro σ n st.sl a)
    {t : TypeId} {x y : AV} {u v : Value} (hx : RV ro σ x u) (hy : RV ro σ y v) (h : storeStep P t x y st = some st') :
    ∃ w', (Instr.storeAt t u v).run P w = .ok () w' ∧ After w0 ro σ n st' a w' := by
  simp only [storeStep, Option.bind_eq_some_iff] at h
  obtain ⟨z, hz, h⟩ := h
  split at h
  · rename_i s g i off
    simp only [Option.bind_eq_some_iff] at h
    obtain ⟨B, hB, q, hq, h⟩ := h
    split at h
    · rename_i hc
      simp only [Bool.and_eq_true, Bool.not_eq_true', decide_eq_true_eq] at hc
      obtain ⟨⟨⟨⟨hfr, hok⟩, hvz⟩, hoff⟩, hnok⟩ := hc
      simp only [Option.some.injEq] at h
      subst h
      obtain ⟨b, sz, N, hσ, rfl⟩ := hx.ptr_inv
      obtain ⟨l, hl, hb⟩ := hh.blk _ _ _ hB
      obtain rfl := hh.fn _ _ _ _ hl hσ
      obtain ⟨hvl, hv1, hvr⟩ := hy.cells hok
      obtain ⟨arr, e, fz, h1, h2, h3, h4, h5, h6, h7⟩ := hb
      have hqs := h6 q (List.mem_of_getElem? hq)
      have hilt := (List.getElem?_eq_some_iff.1 hq).1
      have hend : i * sz + sz ≤ N := by
        have : (i + 1) * sz ≤ B.es.length * sz := Nat.mul_le_mul_right _ hilt
        rw [Nat.succ_mul] at this; omega
      obtain ⟨w', arr', hr, hg, hh', hsz, hat⟩ := store_run (P := P) b (i * sz + off) e fz v.cells.toList 0 arr w h1 (by rw [Array.length_toList, ← hvl]; omega) (by rw [h2]; exact h3.at_)
        (fun c hc => by
          obtain ⟨j, hj⟩ := List.getElem?_of_mem hc
          exact hv1 j c (by simpa using hj))
      have hat' : ∀ j, arr'[j]? = if i * sz + off ≤ j ∧ j < i * sz + off + z then v.cells[j - (i * sz + off)]? else arr[j]? := by
        intro j
        rw [hat j]
        simp only [Nat.add_zero, Array.length_toList, Array.getElem?_toList, ← hvl, hvz]
      have hspl : (splice q.cells off y.cells).length = q.cells.length := splice_length (by omega)
      have hsat := splice_at (cs := q.cells) (vs := y.cells) (off := off) (by omega)
      have hcell : ∀ (j : Nat) (c : AV), (splice q.cells off y.cells)[j]? = some c → ∃ v', arr'[i * sz + j]? = some v' ∧ v'.oneCell' = true ∧ RV ro σ c v' := by
        intro j c hc
        rw [hsat] at hc
        rw [hat']
        by_cases hin : off ≤ j ∧ j < off + y.cells.length
        · rw [if_pos hin] at hc
          rw [if_pos (by omega), show i * sz + j - (i * sz + off) = j - off by omega]
          have hlt : j - off < v.cells.size := by rw [← hvl]; exact (List.getElem?_eq_some_iff.1 hc).1
          have hv : v.cells[j - off]? = some v.cells[j - off] := Array.getElem?_eq_getElem hlt
          exact ⟨_, hv, hv1 _ _ hv, hvr _ _ _ hc hv⟩
        · rw [if_neg hin] at hc
          rw [if_neg (by omega)]
          exact h7 i q j c hq hc
      have hnew : (q.re (splice q.cells off y.cells)).cells = splice q.cells off y.cells := re_cells hspl (fun c hc => by
        obtain ⟨j, hj⟩ := List.getElem?_of_mem hc
        obtain ⟨v', _, ho, hr'⟩ := hcell j c hj
        exact hr'.noAgg ho)
      refine ⟨w', ?_, ro, σ, Ext.refl ro σ, hh.turn hB hfr hσ hg ⟨arr', e, fz, hh', by rw [hsz, h2], h3, by simpa using h4, h5, fun p hp => ?_, fun i' p j c hp hc => ?_⟩, hs⟩
      · simp only [Instr.storeAt, Instr.sureAddr, Sem.run_bind, Sem.run_pure, Result.andThen_ok, storeVar, run_size hz]
        rw [if_neg (by rw [← hvl, hvz]; simp)]
        exact hr
      · rcases List.mem_or_eq_of_mem_set hp with hp | rfl
        · exact h6 p hp
        · exact ⟨by rw [hnew, hspl]; exact hqs.1, hnok⟩
      · by_cases hii : i' = i
        · subst hii
          rw [List.getElem?_set_self (by exact hilt)] at hp
          simp only [Option.some.injEq] at hp
          subst hp
          rw [hnew] at hc
          exact hcell j c hc
        · rw [List.getElem?_set_ne (Ne.symm hii)] at hp
          have hjlt : j < sz := by rw [← (h6 p (List.mem_of_getElem? hp)).1]; exact (List.getElem?_eq_some_iff.1 hc).1
          rw [hat', if_neg ?_]
          · exact h7 i' p j c hp hc
          · rcases Nat.lt_or_gt_of_ne hii with hlt | hgt
            · have := idx_lt hlt hjlt; omega
            · have : (i + 1) * sz ≤ i' * sz := Nat.mul_le_mul_right _ hgt
              rw [Nat.succ_mul] at this; omega
    · cases h
  · cases h
theorem conts_rep {w0 : Base} {w : World} {ro : RO} {σ : Map} {hp : Hp} {gn : Nat → Nat} (hh : HRep w0 w ro σ hp gn) {x : AV} {v : Value} {xs : List AV} (hx : RV ro σ x v) (h : conts hp x = some xs) :
    ∃ (A : Option Addr) (c sz : Nat) (V : Nat → Nat → Value), v = .slice A xs.length c ∧ xs.length ≤ c ∧ (∀ y ∈ xs, y.cells.length = sz ∧ y.ok = true) ∧
      (xs ≠ [] → ∃ ad : Addr, A = some ad ∧ ad.spot = none ∧ (∀ i j : Nat, i < xs.length → j < sz → w.cell? (ad.add (i * sz + j)) = some (V i j) ∧ (V i j).oneCell' = true)) ∧
      ∀ (i j : Nat) (y u : AV), xs[i]? = some y → y.cells[j]? = some u → RV ro σ u (V i j) := by
  unfold conts at h
  split at h
  · simp only [Option.some.injEq] at h
    subst h
    obtain ⟨A, c, sz, V, rfl, hc, hsz, hA, hV⟩ := hx.osl_inv
    refine ⟨A, c, sz, V, rfl, hc.1, hsz, fun hne => ?_, fun i j y u hy hu => .free (hV i j y u hy hu)⟩
    obtain ⟨ad, e, hs, hF, hcell⟩ := hA hne
    exact ⟨ad, e, hs, fun i j hi hj => by rw [hh.roCell (hF (by omega))]; exact hcell i j hi hj⟩
  · simp only [Option.some.injEq] at h
    subst h
    obtain ⟨A, rfl⟩ := hx.nil_inv
    exact ⟨A, 0, 0, fun _ _ => Go.undef, rfl, Nat.le_refl _, by simp, by simp, by simp⟩
  · simp only [Option.some.injEq] at h
    subst h
    obtain rfl := hx.nl_inv
    exact ⟨none, 0, 0, fun _ _ => Go.undef, rfl, Nat.zero_le _, by simp, by simp, by simp⟩
  · simp only [Option.some.injEq] at h
    subst h
    obtain ⟨ad, c, rfl⟩ := hx.em_inv
    exact ⟨some ad, c, 0, fun _ _ => Go.undef, rfl, Nat.zero_le _, by simp, by simp, by simp⟩
  · rename_i e s g lo len
    simp only [Option.bind_eq_some_iff] at h
    obtain ⟨B, hB, h⟩ := h
    split at h
    · rename_i hle
      simp only [Option.some.injEq] at h
      subst h
      have hlen : ((B.es.drop lo).take len).length = len := by simp; omega
      have hat : ∀ i : Nat, ((B.es.drop lo).take len)[i]? = if i < len then B.es[lo + i]? else none := by
        intro i
        rw [List.getElem?_take]
        by_cases hi : i < len
        · rw [if_pos hi, if_pos hi, List.getElem?_drop]
        · rw [if_neg hi, if_neg hi]
      obtain ⟨l, hl, hb⟩ := hh.blk _ _ _ hB
      rcases hx.sl_inv with ⟨hσ, rfl, rfl, A, rfl⟩ | ⟨b, N, c, hσ, hnc, hN, rfl⟩
      · simp
      · obtain rfl := hh.fn _ _ _ _ hl hσ
        obtain ⟨arr, et, fz, h1, h2, h3, h4, h5, h6, h7⟩ := hb
        have hmem : ∀ y ∈ (B.es.drop lo).take len, y ∈ B.es := fun y hy => List.mem_of_mem_drop (List.mem_of_mem_take hy)
        refine ⟨_, c, e, fun i j => arr.getD ((lo + i) * e + j) Go.undef, by rw [hlen], by rw [hlen]; exact hnc, fun y hy => h6 y (hmem y hy), fun _ => ⟨_, rfl, rfl, fun i j hi hj => ?_⟩, fun i j y u hy hu => ?_⟩
        · rw [hlen] at hi
          have hy : B.es[lo + i]? = some (B.es[lo + i]'(by omega)) := List.getElem?_eq_getElem _
          have hcl := (h6 _ (List.mem_of_getElem? hy)).1
          obtain ⟨v, hv, ho, _⟩ := h7 (lo + i) _ j _ hy (List.getElem?_eq_getElem (by rw [hcl]; exact hj))
          rw [add_plain', show lo * e + (i * e + j) = (lo + i) * e + j by rw [Nat.add_mul]; omega]
          simp only [World.cell?, h1, Option.isSome_none, Bool.false_eq_true, if_false, Array.getD_eq_getD_getElem?, hv, Option.getD_some]
          exact ⟨trivial, ho⟩
        · rw [hat] at hy
          split at hy
          · obtain ⟨v, hv, ho, hr⟩ := h7 _ _ j _ hy hu
            simp only [Array.getD_eq_getD_getElem?, hv, Option.getD_some]
            exact hr
          · cases hy
    · cases h
  · cases h
theorem first_run {P : Program} {w : World} {ro : RO} {σ : Map} {xs : List AV} {A : Option Addr} {c sz : Nat} {V : Nat → Nat → Value} (hsz : ∀ y ∈ xs, y.cells.length = sz ∧ y.ok = true)
    (hA : xs ≠ [] → ∃ ad : Addr, A = some ad ∧ ad.spot = none ∧ (∀ i j : Nat, i < xs.length → j < sz → w.cell? (ad.add (i * sz + j)) = some (V i j) ∧ (V i j).oneCell' = true))
    (hV : ∀ (i j : Nat) (y u : AV), xs[i]? = some y → y.cells[j]? = some u → RV ro σ u (V i j)) (k z : Nat) (hk : k ≤ xs.length) (hz : 0 < k → z = sz) (hz0 : 0 < z) :
    ∃ C : Array Value, (∀ w1 : World, w1.heap = w.heap → ∀ N, (Builtin.firstCells z k (.slice A N c)).run P w1 = .ok C w1) ∧ RC ro σ ((xs.take k).flatMap AV.cells) C ∧ C.size = k * z := by
  rcases Nat.eq_zero_or_pos k with rfl | hpos
  · refine ⟨#[], fun w1 _ N => ?_, ⟨by simp, by simp, by simp⟩, by simp⟩
    cases A <;> simp [Builtin.firstCells, loadCells, loadCellsFrom]
  · obtain rfl := hz hpos
    have hne : xs ≠ [] := fun e => by subst e; simp at hk; omega
    obtain ⟨ad, rfl, hs, hcell⟩ := hA hne
    have hlt : ∀ j, j < k * z → j / z < xs.length := fun j hj => by
      have := Nat.div_lt_of_lt_mul (m := j) (n := z) (k := k) (by rw [Nat.mul_comm]; exact hj)
      omega
    have hmod : ∀ j, j / z * z + j % z = j := fun j => by rw [Nat.mul_comm]; exact Nat.div_add_mod j z
    have hml : ∀ j, j % z < z := fun j => Nat.mod_lt _ hz0
    refine ⟨((List.range (k * z)).map fun j => V (j / z) (j % z)).toArray, fun w1 hw N => ?_, ⟨?_, fun j v hv => ?_, fun j u v hu hv => ?_⟩, by simp⟩
    · simp only [Builtin.firstCells]
      refine run_loadCells (P := P) w1 ad (k * z) _ (fun j hj => ?_)
      have := (hcell (j / z) (j % z) (hlt j hj) (hml j)).1
      rw [hmod] at this
      rw [← this]
      exact World.cell?_of_block (by rw [hw])
    · rw [flat_len (sz := z) _ (fun y hy => (hsz y (List.mem_of_mem_take hy)).1)]
      simp [Nat.min_eq_left hk]
    · simp only [List.getElem?_toArray, List.getElem?_map, Option.map_eq_some_iff] at hv
      obtain ⟨q, hq, rfl⟩ := hv
      obtain ⟨h1, h2⟩ := List.getElem?_eq_some_iff.1 hq
      simp at h1 h2
      subst h2
      exact (hcell _ _ (hlt _ h1) (hml _)).2
    · simp only [List.getElem?_toArray, List.getElem?_map, Option.map_eq_some_iff] at hv
      obtain ⟨q, hq, rfl⟩ := hv
      obtain ⟨h1, h2⟩ := List.getElem?_eq_some_iff.1 hq
      simp at h1 h2
      subst h2
      have hjk : j / z < k := Nat.div_lt_of_lt_mul (by rw [Nat.mul_comm]; exact h1)
      have hx : (xs.take k)[j / z]? = some (xs[j / z]'(hlt j h1)) := by rw [List.getElem?_take, if_pos hjk]; exact List.getElem?_eq_getElem _
      have hfl := flat_at (sz := z) (xs.take k) (fun y hy => (hsz y (List.mem_of_mem_take hy)).1) (j / z) _ (j % z) hx (hml j)
      rw [hmod, hu] at hfl
      exact hV _ _ _ _ (List.getElem?_eq_getElem _) hfl.symm
section app
variable {P : Program} {w w' : World} {t1 t2 ty e z n sLen sCap b : Nat} {base : Option Addr} {x zv : Value} {d2 : TypeDesc} {C O : Array Value}
theorem append_fit (ht : P.underlying t1 = some (.slice e)) (hz : tsz P e = some z) (h2 : P.underlying t2 = some d2) (hd : (∃ e2, d2 = .slice e2) ∨ d2 = .string) (hn : (Builtin.lenOf x).run P w = .ok n w)
    (h : sLen + n ≤ sCap) (ha : (Builtin.firstCells z n x).run P w = .ok C w) (hb : ∀ a, base = some a → (storeCells (a.add (sLen * z)) C.toList).run P w = .ok () w') (hw : base = none → w' = w) :
    (Builtin.append_ #[t1, t2] ty #[.slice base sLen sCap, x]).run P w = .ok (.slice base (sLen + n) sCap) w' := by
  cases base with
  | none => rw [hw rfl]; rcases hd with ⟨e2, rfl⟩ | rfl <;> simp [Builtin.append_, run_underlying ht, run_size hz, run_underlying h2, hn, h, ha]
  | some a =>
    have hb' := hb a rfl
    rcases hd with ⟨e2, rfl⟩ | rfl <;> simp [Builtin.append_, run_underlying ht, run_size hz, run_underlying h2, hn, h, ha, hb']
theorem append_grow (ht : P.underlying t1 = some (.slice e)) (hz : tsz P e = some z) (h2 : P.underlying t2 = some d2) (hd : (∃ e2, d2 = .slice e2) ∨ d2 = .string) (hn : (Builtin.lenOf x).run P w = .ok n w)
    (h : sCap < sLen + n) (hby : tby P e = some b) (hl1 : sLen + n ≤ 140737488355328) (hl2 : (sLen + n) * b ≤ 140737488355328) (hzv : ∀ w, (zeroValue e).run P w = .ok zv w)
    (ho : (Builtin.firstCells z sLen (.slice base sLen sCap)).run P w.drew = .ok O w.drew) (ha : (Builtin.firstCells z n x).run P w.drew = .ok C w.drew) :
    (Builtin.append_ #[t1, t2] ty #[.slice base sLen sCap, x]).run P w = .ok (.slice (some ⟨w.heap.size, 0, none⟩) (sLen + n) (grownCap w (sLen + n) sCap e))
      (w.drew.alloc (.cells (O ++ C ++ Builtin.zeroCells zv.cells (grownCap w (sLen + n) sCap e - (sLen + n))) e)) := by
  obtain ⟨i, hi, hib, _⟩ := run_info hby w
  have hfit := growslice_fits (bytes := b) h hl2
  have hn' : ¬ (sLen + n ≤ sCap) := by omega
  have h63 : ¬ (9223372036854775807 < ((sLen : Int) + (n : Int))) := by omega
  have hbig : ¬ (281474976710656 < Builtin.nextslicecap (sLen + n) sCap * i.bytes) := by rw [hib]; omega
  rcases hd with ⟨e2, rfl⟩ | rfl <;>
    simp [Builtin.append_, run_underlying ht, run_size hz, run_underlying h2, typeInfo, hi, hzv, hn, hn', h63, hbig, Question.forced, ho, ha, newRow, grownCap]
theorem appendz_fit {k : IntKind} {q : Int} {zc : Value} {k2 : IntKind} (ht : P.underlying t1 = some (.slice e)) (hz : tsz P e = some z) (h2 : P.underlying t2 = some (.int k2)) (hby : tby P e = some b) (hq0 : 0 ≤ q) (hq : q ≤ 140737488355328) (hqb : q.toNat * b ≤ 140737488355328)
    (hzv : ∀ w, (zeroValue e).run P w = .ok zc w) (hz0 : 0 < z) (h : sLen + q.toNat ≤ sCap) (hb : ∀ a, base = some a → (storeCells (a.add (sLen * z)) (Builtin.zeroCells zc.cells q.toNat).toList).run P w = .ok () w') (hw : base = none → w' = w)
    (hemp : q.toNat = 0 → (Builtin.zeroCells zc.cells q.toNat) = #[]) :
    (Builtin.append_ #[t1, t2] ty #[.slice base sLen sCap, .int k q]).run P w = .ok (.slice base (sLen + q.toNat) sCap) w' := by
  obtain ⟨i, hi, hib, _⟩ := run_info hby w
  have wl : IntKind.i64.wrap q = q := by rw [IntKind.wrap_i64]; omega
  have hq1 : ¬ (q < 0) := by omega
  have hq2 : ¬ (281474976710656 < q * (i.bytes : Int)) := by
    have e1 : ((q.toNat * b : Nat) : Int) ≤ 140737488355328 := by omega
    rw [Int.natCast_mul, Int.toNat_of_nonneg hq0] at e1
    rw [hib]; omega
  by_cases hq00 : q.toNat = 0
  · have hC := hemp hq00
    rw [hC] at hb
    have hqz : q = 0 := by omega
    subst hqz
    cases base with
    | none =>
      have h' : sLen ≤ sCap := by simpa using h
      rw [hw rfl]; simp [Builtin.append_, run_underlying ht, run_size hz, run_underlying h2, asInt, asIntOf, wl, typeInfo, hi, h']
    | some a =>
      have hb' := hb a rfl
      have h' : sLen ≤ sCap := by simpa using h
      simp [Builtin.append_, run_underlying ht, run_size hz, run_underlying h2, asInt, asIntOf, wl, typeInfo, hi, h', storeCells] at hb' ⊢
      exact hb'
  · have hmul : ¬ (q.toNat * z = 0) := by rw [Nat.mul_eq_zero]; omega
    have hmul' : ¬ (q ≤ 0 ∨ z = 0) := by omega
    have hqq : ¬ (q ≤ 0) := by omega
    have hzz : ¬ (z = 0) := by omega
    cases base with
    | none => rw [hw rfl]; simp [Builtin.append_, run_underlying ht, run_size hz, run_underlying h2, asInt, asIntOf, wl, typeInfo, hi, hq1, hq2, h, hzv]
    | some a =>
      have hb' := hb a rfl
      simp [Builtin.append_, run_underlying ht, run_size hz, run_underlying h2, asInt, asIntOf, wl, typeInfo, hi, hq1, hq2, h, hmul, hzv, hb']
theorem appendz_grow {k : IntKind} {q : Int} {k2 : IntKind} (ht : P.underlying t1 = some (.slice e)) (hz : tsz P e = some z) (h2 : P.underlying t2 = some (.int k2)) (hby : tby P e = some b) (hq0 : 0 ≤ q) (hq : q ≤ 140737488355328) (hqb : q.toNat * b ≤ 140737488355328)
    (hzv : ∀ w, (zeroValue e).run P w = .ok zv w) (hz0 : 0 < z) (h : sCap < sLen + q.toNat) (hle : sLen ≤ sCap) (hl1 : sLen + q.toNat ≤ 140737488355328) (hl2 : (sLen + q.toNat) * b ≤ 140737488355328)
    (ho : (Builtin.firstCells z sLen (.slice base sLen sCap)).run P w.drew = .ok O w.drew) :
    (Builtin.append_ #[t1, t2] ty #[.slice base sLen sCap, .int k q]).run P w = .ok (.slice (some ⟨w.heap.size, 0, none⟩) (sLen + q.toNat) (grownCap w (sLen + q.toNat) sCap e))
      (w.drew.alloc (.cells (O ++ Builtin.zeroCells zv.cells q.toNat ++ Builtin.zeroCells zv.cells (grownCap w (sLen + q.toNat) sCap e - (sLen + q.toNat))) e)) := by
  obtain ⟨i, hi, hib, _⟩ := run_info hby w
  have wl : IntKind.i64.wrap q = q := by rw [IntKind.wrap_i64]; omega
  have hq1 : ¬ (q < 0) := by omega
  have hq2 : ¬ (281474976710656 < q * (i.bytes : Int)) := by
    have e1 : ((q.toNat * b : Nat) : Int) ≤ 140737488355328 := by omega
    rw [Int.natCast_mul, Int.toNat_of_nonneg hq0] at e1
    rw [hib]; omega
  have hmul : ¬ (q.toNat * z = 0) := by rw [Nat.mul_eq_zero]; omega
  have hfit := growslice_fits (bytes := b) h hl2
  have hn' : ¬ (sLen + q.toNat ≤ sCap) := by omega
  have h63' : ¬ (9223372036854775807 < ((sLen : Int) + max q 0)) := by omega
  have hbig : ¬ (281474976710656 < Builtin.nextslicecap (sLen + q.toNat) sCap * i.bytes) := by rw [hib]; omega
  simp [Builtin.append_, run_underlying ht, run_size hz, run_underlying h2, asInt, asIntOf, wl, typeInfo, hi, hzv, hq1, hq2, hmul, hn', h63', hbig, Question.forced, ho, newRow, grownCap]
end app
theorem appBase_rep {P : Program} {w0 : Base} {w : World} {ro : RO} {σ : Map} {st st1 : St} (hh : HRep w0 w ro σ st.hp st.gn) {e z : Nat} (hz : tsz P e = some z) {s : AV} {vs : Value} (hs : RV ro σ s vs) {es0 : List AV} (h : appBase P e st s = some (es0, st1)) :
    ∃ (base : Option Addr) (sCap : Nat), vs = .slice base es0.length sCap ∧ es0.length ≤ sCap ∧ conts st.hp s = some es0 ∧ st1.sl = st.sl ∧ st1.gn = st.gn ∧ HRep w0 w ro σ st1.hp st1.gn ∧
      (sCap = 0 ∨ ∃ b N B a g, base = some ⟨b, 0, none⟩ ∧ st.hp a g = some B ∧ B.fr = false ∧ σ a g (.real b z N) ∧ sCap * z ≤ N ∧ RBlk ro σ w B.es (.real b z N) ∧ es0 = B.es.take es0.length ∧ es0.length ≤ B.es.length ∧
        (∀ s' g' B' sz' N', st1.hp s' g' = some B' → ¬ σ s' g' (.real b sz' N')) ∧ ¬ ro.F b ∧ w0.w.heap.size ≤ b ∧ ¬ w0.H b) := by
  unfold appBase at h
  split at h
  · simp only [Option.some.injEq, Prod.mk.injEq] at h
    obtain ⟨rfl, rfl⟩ := h
    obtain ⟨A, rfl⟩ := hs.nil_inv
    exact ⟨A, 0, rfl, Nat.le_refl _, rfl, rfl, rfl, hh, .inl rfl⟩
  · simp only [Option.some.injEq, Prod.mk.injEq] at h
    obtain ⟨rfl, rfl⟩ := h
    obtain rfl := hs.nl_inv
    exact ⟨none, 0, rfl, Nat.le_refl _, rfl, rfl, rfl, hh, .inl rfl⟩
  · rename_i z' a g len
    split at h
    · rename_i hzz
      rw [hz] at hzz
      simp only [Option.some.injEq] at hzz
      subst hzz
      simp only [Option.bind_eq_some_iff] at h
      obtain ⟨B, hB, h⟩ := h
      split at h
      · cases h
      · rename_i hc
        simp only [Bool.or_eq_true, decide_eq_true_eq, not_or, Bool.not_eq_true, Nat.not_lt] at hc
        obtain ⟨hfr, hle⟩ := hc
        simp only [Option.some.injEq, Prod.mk.injEq] at h
        obtain ⟨rfl, rfl⟩ := h
        have hl : (B.es.take len).length = len := by simp; omega
        have hct : conts st.hp (.sl z a g 0 len) = some (B.es.take len) := by
          simp only [conts, hB, Option.bind_some, Nat.zero_add, hle, if_true, List.drop_zero]
        have hk := hh.kill a g
        obtain ⟨l, hlσ, hb⟩ := hh.blk _ _ _ hB
        rcases hs.sl_inv with ⟨hσ, _, rfl, A, rfl⟩ | ⟨b, N, c, hσ, hnc, hN, rfl⟩
        · exact ⟨A, 0, by rw [hl], by rw [hl]; exact Nat.le_refl _, hct, rfl, rfl, hk, .inl rfl⟩
        · obtain rfl := hh.fn _ _ _ _ hlσ hσ
          refine ⟨_, c, by rw [hl], by rw [hl]; exact hnc, hct, rfl, rfl, hk, .inr ⟨b, N, B, a, g, by rw [Nat.zero_mul], hB, hfr, hσ, by rw [Nat.zero_add] at hN; exact hN, hb, by rw [hl], by rw [hl]; exact hle, fun s' g' B' sz' N' hB' hσ' => ?_, (hh.own _ _ _ _ _ _ hB hfr hσ).1, (hh.own _ _ _ _ _ _ hB hfr hσ).2, hh.oh _ _ _ _ _ _ hB hfr hσ⟩⟩
          simp only [St.setB] at hB'
          split at hB'
          · cases hB'
          · rename_i hne
            obtain ⟨e1, e2⟩ := hh.inj _ _ _ _ _ _ _ _ _ _ _ hB hB' hfr hσ hσ'
            exact hne ⟨e1.symm, e2.symm⟩
    · cases h
  · cases h
theorem zeroCells_made (z : Array Value) (n : Nat) : Builtin.zeroCells z n = madeCells z (n * z.size) := rfl
theorem RC.append {ro : RO} {σ : Map} {a b : List AV} {u v : Array Value} (h1 : RC ro σ a u) (h2 : RC ro σ b v) : RC ro σ (a ++ b) (u ++ v) := by
  obtain ⟨a1, a2, a3⟩ := h1
  obtain ⟨b1, b2, b3⟩ := h2
  refine ⟨by simp [a1, b1], fun j x hx => ?_, fun j y x hy hx => ?_⟩
  · rw [Array.getElem?_append] at hx
    split at hx
    · exact a2 _ _ hx
    · exact b2 _ _ hx
  · rw [Array.getElem?_append] at hx
    split at hx
    · rename_i hlt
      rw [List.getElem?_append_left (by omega)] at hy
      exact a3 _ _ _ hy hx
    · rename_i hlt
      rw [List.getElem?_append_right (by omega), a1] at hy
      exact b3 _ _ _ hy hx
theorem RC.row {ro : RO} {σ : Map} {es : List AV} {arr : Array Value} {sz : Nat} (hes : ∀ x ∈ es, x.cells.length = sz ∧ x.ok = true) (h : RC ro σ (es.flatMap AV.cells) arr) (rest : Array Value) :
    ∀ (i : Nat) (x : AV) (j : Nat) (u : AV), es[i]? = some x → x.cells[j]? = some u → ∃ v, (arr ++ rest)[i * sz + j]? = some v ∧ v.oneCell' = true ∧ RV ro σ u v := by
  intro i x j u hx hu
  have hj : j < sz := by rw [← (hes x (List.mem_of_getElem? hx)).1]; exact (List.getElem?_eq_some_iff.1 hu).1
  have hfl := flat_at es (fun y hy => (hes y hy).1) i x j hx hj
  rw [hu] at hfl
  have hlt : i * sz + j < arr.size := by rw [← h.1]; exact (List.getElem?_eq_some_iff.1 hfl).1
  have hv : arr[i * sz + j]? = some arr[i * sz + j] := Array.getElem?_eq_getElem hlt
  exact ⟨_, by rw [Array.getElem?_append_left hlt]; exact hv, h.2.1 _ _ hv, h.2.2 _ _ _ hfl hv⟩
structure News (P : Program) (w : World) (ro : RO) (σ : Map) (t2 : TypeId) (z b : Nat) (zc x : Value) (news : List AV) (C : Array Value) : Prop where
  rc : RC ro σ (news.flatMap AV.cells) C
  how : (∃ d2, P.underlying t2 = some d2 ∧ ((∃ e2, d2 = .slice e2) ∨ d2 = .string) ∧ (∀ w, (Builtin.lenOf x).run P w = .ok news.length w) ∧ ∀ w1 : World, w1.heap = w.heap → (Builtin.firstCells z news.length x).run P w1 = .ok C w1) ∨
    ∃ k q k2, x = .int k q ∧ P.underlying t2 = some (.int k2) ∧ 0 ≤ q ∧ q ≤ 140737488355328 ∧ q.toNat * b ≤ 140737488355328 ∧ news.length = q.toNat ∧ C = Builtin.zeroCells zc.cells q.toNat
theorem RC.zeros {ro : RO} {σ : Map} {zv : AV} {zc : Value} (hr : RV ro σ zv zc) (hok : zv.ok = true) (h0 : 0 < zv.cells.length) (n : Nat) : RC ro σ ((List.replicate n zv).flatMap AV.cells) (Builtin.zeroCells zc.cells n) := by
  obtain ⟨hc, h1, hrr⟩ := hr.cells hok
  rw [zeroCells_made]
  have hfl := flat_len (sz := zv.cells.length) (List.replicate n zv) (fun x hx => by simp only [List.mem_replicate] at hx; rw [hx.2])
  refine ⟨by rw [hfl, size_madeCells, hc]; simp, fun j v hv => ?_, fun j u v hu hv => ?_⟩
  · exact (made_RC (ro := ro) (σ := σ) h1 (n * zc.cells.size) (fun _ => by omega)).2.1 j v hv
  · have hlt : j < n * zv.cells.length := by have := (List.getElem?_eq_some_iff.1 hu).1; rw [hfl] at this; simpa using this
    have hjn : j / zv.cells.length < n := Nat.div_lt_of_lt_mul (by rw [Nat.mul_comm]; exact hlt)
    have hm : j % zv.cells.length < zv.cells.length := Nat.mod_lt _ h0
    have hmod : j / zv.cells.length * zv.cells.length + j % zv.cells.length = j := by rw [Nat.mul_comm]; exact Nat.div_add_mod j _
    have e1 := flat_at (sz := zv.cells.length) (List.replicate n zv) (fun x hx => by simp only [List.mem_replicate] at hx; rw [hx.2]) (j / zv.cells.length) zv (j % zv.cells.length) (by rw [List.getElem?_replicate, if_pos hjn]) hm
    have e2 := make_at (z := zc.cells) hjn (by rw [← hc]; exact hm : j % zv.cells.length < zc.cells.size)
    rw [← hc, hmod] at e2
    rw [hmod, hu] at e1
    rw [← hc] at hv
    rw [hv] at e2
    exact hrr _ _ _ e1.symm e2.symm
theorem appNews_rep {P : Program} {w0 : Base} {w : World} {ro : RO} {σ : Map} {st : St} (hh : HRep w0 w ro σ st.hp st.gn) {e z b t2 : Nat} {zv : AV} {zc : Value} (hz : tsz P e = some z) (hb : tby P e = some b) (hzv : tzero P e = some zv) (hrz : RV ro σ zv zc) (hzo : zv.ok = true) (hzl : zv.cells.length = z) (h0 : 0 < z)
    {x : AV} {v : Value} (hx : RV ro σ x v) {news : List AV} (h : appNews P e t2 st x = some news) (hok : ∀ y ∈ news, y.cells.length = z ∧ y.ok = true) : ∃ C, News P w ro σ t2 z b zc v news C := by
  unfold appNews at h
  split at h
  · rename_i k2 ht
    simp only [Option.bind_eq_some_iff] at h
    obtain ⟨q, hq, zv', hzv', by', hby', h⟩ := h
    rw [hzv] at hzv'
    simp only [Option.some.injEq] at hzv'
    subst hzv'
    rw [hb] at hby'
    simp only [Option.some.injEq] at hby'
    subst hby'
    split at h
    · rename_i hc
      simp only [Option.some.injEq] at h
      subst h
      obtain ⟨k, rfl⟩ := asI_inv hq hx
      exact ⟨_, RC.zeros hrz hzo (by omega) _, .inr ⟨k, q, k2, rfl, tint_some ht, hc.1, hc.2.1, hc.2.2, by simp, rfl⟩⟩
    · cases h
  · split at h
    · rename_i s
      obtain rfl := hx.str_inv
      split at h
      · rename_i ht
        simp only [Option.some.injEq] at h
        subst h
        have hlen : (s.data.toList.map fun b => AV.int .u8 b.toNat).length = s.size := by rw [List.length_map, Array.length_toList]; rfl
        rcases Nat.eq_zero_or_pos s.size with hs0 | hpos
        · refine ⟨#[], ⟨?_, .inl ⟨_, tstr_some ht, .inr rfl, fun w => by rw [hlen]; rfl, fun w1 _ => ?_⟩⟩⟩
          · have : (s.data.toList.map fun b => AV.int .u8 b.toNat) = [] := List.eq_nil_of_length_eq_zero (by rw [hlen, hs0])
            rw [this]; exact ⟨by simp, by simp, by simp⟩
          · rw [hlen, hs0]
            simp [Builtin.firstCells]
        · obtain ⟨y, hy⟩ : ∃ y, y ∈ (s.data.toList.map fun b => AV.int .u8 b.toNat) := List.exists_mem_of_length_pos (by rw [hlen]; exact hpos)
          have hz1 := (hok y hy).1
          simp only [List.mem_map] at hy
          obtain ⟨bb, _, rfl⟩ := hy
          obtain rfl : 1 = z := hz1
          have hC : ((s.data.toList.map fun b => AV.int .u8 b.toNat).flatMap AV.cells) = s.data.toList.map fun b => AV.int .u8 b.toNat := by
            induction s.data.toList with
            | nil => rfl
            | cons c l ih => simp only [List.map_cons, List.flatMap_cons, ih]; rfl
          refine ⟨s.data.map fun b => .int .u8 b.toNat, ⟨?_, .inl ⟨_, tstr_some ht, .inr rfl, fun w => by rw [hlen]; rfl, fun w1 _ => ?_⟩⟩⟩
          · rw [hC]
            refine ⟨by simp, fun j v hv => ?_, fun j u v hu hv => ?_⟩
            · simp only [Array.getElem?_map, Option.map_eq_some_iff] at hv
              obtain ⟨c, _, rfl⟩ := hv
              rfl
            · simp only [Array.getElem?_map, Option.map_eq_some_iff] at hv
              simp only [List.getElem?_map, Array.getElem?_toList, Option.map_eq_some_iff] at hu
              obtain ⟨c, hc, rfl⟩ := hv
              obtain ⟨c', hc', rfl⟩ := hu
              rw [hc] at hc'
              simp only [Option.some.injEq] at hc'
              subst hc'
              exact .free (.int _ _)
          · rw [hlen]
            simp [Builtin.firstCells]
      · cases h
    · split at h
      · rename_i ht
        obtain ⟨e2, he2⟩ := Option.isSome_iff_exists.1 ht
        obtain ⟨A, c, sz, V, rfl, hc, hsz, hA, hV⟩ := conts_rep hh hx h
        obtain ⟨C, hC, hRC, _⟩ := first_run (P := P) (c := c) hsz hA hV news.length z (Nat.le_refl _) (fun hpos => by
          obtain ⟨y, hy⟩ := List.exists_mem_of_length_pos hpos
          rw [← (hok y hy).1, (hsz y hy).1]) h0
        rw [List.take_length] at hRC
        exact ⟨C, hRC, .inl ⟨_, tsl_some he2, .inl ⟨_, rfl⟩, fun w => by simp [Builtin.lenOf], fun w1 hw => hC w1 hw _⟩⟩
      · cases h
set_option maxHeartbeats 2000000 in
theorem appendStep_run {P : Program} {w0 : Base} {w : World} {ro : RO} {σ : Map} {n : Nat} {st st' : St} {a : Act} (hh : HRep w0 w ro σ st.hp st.gn) (hs : SRep w0 ro σ n st.sl a) {d t1 t2 ty : Nat} (hd : d < n) {s x : AV} {vs vx : Value}
    (hsv : RV ro σ s vs) (hxv : RV ro σ x vx) (h : appendStep P d t1 t2 s x st = some st') :
    ∃ v w', (Builtin.append_ #[t1, t2] ty #[vs, vx]).run P w = .ok v w' ∧ After w0 ro σ n st' (a.put (some d) v) w' := by
  simp only [appendStep, Option.bind_eq_some_iff] at h
  obtain ⟨e, he, z, hz, b, hb, zv, hzv, news, hnews, p, hp, h⟩ := h
  obtain ⟨es0, st1⟩ := p
  split at h
  · rename_i hc
    simp only [List.all_eq_true, Bool.and_eq_true, decide_eq_true_eq] at hc
    obtain ⟨h0, hzo, hzl, hall, hl2, hl1⟩ := hc
    simp only [Option.some.injEq] at h
    subst h
    have hnok : ∀ y ∈ news, y.cells.length = z ∧ y.ok = true := fun y hy => ⟨(hall y hy).2, (hall y hy).1⟩
    have hu := tsl_some he
    obtain ⟨i, zc, hi, hiz, hrz, hzrun⟩ := tzero_rep (ro := ro) (σ := σ) hzv
    have hzc : zc.cells.size = z := by rw [← (hrz.cells hzo).1, hzl]
    obtain ⟨C, hC⟩ := appNews_rep hh hz hb hzv hrz hzo hzl h0 hxv hnews hnok
    obtain ⟨base, sCap, rfl, hle, hct, hsl, hgn, hh1, hbase⟩ := appBase_rep hh hz hsv hp
    have hs1 : SRep w0 ro σ n st1.sl a := by rw [hsl]; exact hs
    have hCsz : C.size = news.length * z := by rw [← hC.rc.1, flat_len news (fun y hy => (hnok y hy).1)]
    obtain ⟨A, c, sz, V, hv, hcc, hsz, hA, hV⟩ := conts_rep hh hsv hct
    simp only [Value.slice.injEq] at hv
    obtain ⟨rfl, _, rfl⟩ := hv
    have hbz : ∀ y ∈ es0, y.cells.length = z ∧ y.ok = true := by
      rcases hbase with h0' | ⟨b', N, B, a', g', _, _, _, _, _, hblk, htk, _, _, _⟩
      · have : es0 = [] := List.eq_nil_of_length_eq_zero (by omega)
        rw [this]; simp
      · obtain ⟨_, _, _, _, _, _, _, _, h6, _⟩ := hblk
        intro y hy
        rw [htk] at hy
        exact h6 y (List.mem_of_mem_take hy)
    have hes : ∀ y ∈ es0 ++ news, y.cells.length = z ∧ y.ok = true := fun y hy => by
      rcases List.mem_append.1 hy with hy | hy
      · exact hbz y hy
      · exact hnok y hy
    have hlen : (es0 ++ news).length = es0.length + news.length := List.length_append
    by_cases hfit : es0.length + news.length ≤ sCap
    · rcases hbase with h0' | ⟨b', N, B, a', g', rfl, hB, hfr, hσ, hN, hblk, htk, hle2, hfree, hnF⟩
      ·
        have e1 : es0 = [] := List.eq_nil_of_length_eq_zero (by omega)
        have e2 : news = [] := List.eq_nil_of_length_eq_zero (by omega)
        subst e1; subst e2; subst h0'
        have hC0 : C = #[] := Array.eq_empty_of_size_eq_zero (by simpa using hCsz)
        subst hC0
        refine ⟨.slice base 0 0, w, ?_, ro, _, Map.add_ext ro σ d (st1.gn d) .virt, hh1.addVirt d, ?_⟩
        · rcases hC.how with ⟨d2, h2, hd2, hn, hf⟩ | ⟨k, q, k2, rfl, h2, hq0, hq1, hq2, hqn, hqC⟩
          · have := append_fit (P := P) (w := w) (w' := w) (ty := ty) (base := base) (sLen := 0) (sCap := 0) (C := #[]) hu hz h2 hd2 (hn w) (Nat.le_refl 0) (hf w rfl) (fun a _ => rfl) (fun _ => rfl)
            simpa using this
          · have hq00 : q.toNat = 0 := by simpa using hqn.symm
            have := appendz_fit (P := P) (w := w) (w' := w) (ty := ty) (k := k) (base := base) (sLen := 0) (sCap := 0) hu hz h2 hb hq0 hq1 hq2 hzrun h0 (by omega) (fun a _ => by rw [← hqC]; rfl) (fun _ => rfl) (fun _ => hqC.symm)
            rw [hq00] at this
            simpa using this
        · have e1 := Map.add_ext ro σ d (st1.gn d) .virt
          rw [← hgn]
          exact SRep.put (s := st1.new d []) (d := some d) (hs1.mono e1) (fun x hx => by simp at hx; omega) (.sl0 (Map.add_self σ d (st1.gn d) .virt))
      ·
        obtain ⟨arr, et, fz, h1, h2, h3, h4, h5, h6, h7⟩ := hblk
        have hroom : es0.length * z + C.toList.length ≤ arr.size := by
          rw [show C.toList.length = C.size from Array.length_toList, hCsz, h2, ← Nat.add_mul]
          exact Nat.le_trans (Nat.mul_le_mul_right z hfit) hN
        obtain ⟨w', arr', hr, hg, hh', hsz', hat⟩ := store_run (P := P) b' (es0.length * z) et fz C.toList 0 arr w h1 (by simpa using hroom) (by rw [h2]; exact h3.at_) (fun v hv => by
          obtain ⟨j, hj⟩ := List.getElem?_of_mem hv
          exact hC.rc.2.1 j v (by simpa using hj))
        have hat' : ∀ j : Nat, arr'[j]? = if es0.length * z ≤ j ∧ j < es0.length * z + news.length * z then C[j - es0.length * z]? else arr[j]? := by
          intro j
          rw [hat j]
          simp only [Nat.add_zero, Array.length_toList, Array.getElem?_toList, hCsz]
        have hstore : ∀ a, (some ⟨b', 0, none⟩ : Option Addr) = some a → (storeCells (a.add (es0.length * z)) C.toList).run P w = .ok () w' := by
          intro a ha
          simp only [Option.some.injEq] at ha
          subst ha
          rw [add_plain', Nat.zero_add]
          exact hr
        have e1 := Map.add_ext ro σ d (st1.gn d) (.real b' z N)
        refine ⟨.slice (some ⟨b', 0, none⟩) (es0.length + news.length) sCap, w', ?_, ro, _, e1, hh1.add d hg hnF hfree ⟨arr', et, fz, hh', by rw [hsz', h2], h3, by rw [hlen]; exact Nat.le_trans (Nat.mul_le_mul_right z hfit) hN, h0, hes, ?_⟩, ?_⟩
        · rcases hC.how with ⟨d2, h2', hd2, hn, hf⟩ | ⟨k, q, k2, rfl, h2', hq0, hq1, hq2, hqn, hqC⟩
          · exact append_fit hu hz h2' hd2 (hn w) hfit (hf w rfl) hstore (fun h => by cases h)
          · rw [hqn] at hfit ⊢
            exact appendz_fit hu hz h2' hb hq0 hq1 hq2 hzrun h0 hfit (fun a ha => by rw [← hqC]; exact hstore a ha) (fun h => by cases h) (fun hq00 => by
              rw [zeroCells_made, hq00]; simp [madeCells, Array.range_zero'])
        · intro i y j u hy hu'
          have hj : j < z := by rw [← (hes y (List.mem_of_getElem? hy)).1]; exact (List.getElem?_eq_some_iff.1 hu').1
          rw [hat']
          by_cases hi' : i < es0.length
          · rw [List.getElem?_append_left hi'] at hy
            rw [if_neg (by have := idx_lt hi' hj; omega)]
            rw [htk, List.getElem?_take, if_pos hi'] at hy
            exact h7 i y j u hy hu'
          · rw [List.getElem?_append_right (by omega)] at hy
            have hin : i - es0.length < news.length := (List.getElem?_eq_some_iff.1 hy).1
            have hidx : i * z + j - es0.length * z = (i - es0.length) * z + j := by
              have : i * z = es0.length * z + (i - es0.length) * z := by rw [← Nat.add_mul]; congr 1; omega
              omega
            have hge : es0.length * z ≤ i * z := Nat.mul_le_mul_right z (by omega)
            have hlt2 := idx_lt hin hj
            rw [if_pos (by omega), hidx]
            have := RC.row hnok hC.rc #[] (i - es0.length) y j u hy hu'
            simpa using this
        · rw [← hgn]
          refine SRep.put (s := st1.new d _) (d := some d) (hs1.mono e1) (fun x hx => by simp at hx; omega) ?_
          have := RV.sl (ro := ro) (lo := 0) (len := es0.length + news.length) (c := sCap) (Map.add_self σ d (st1.gn d) (.real b' z N)) hfit (by rw [Nat.zero_add]; exact hN)
          simpa using this
    ·
      have hgrow : sCap < es0.length + news.length := by omega
      obtain ⟨O, hO, hORC, hOsz⟩ := first_run (P := P) (w := w) (c := sCap) hsz hA hV es0.length z (Nat.le_refl _) (fun hpos => by
        obtain ⟨y, hy⟩ := List.exists_mem_of_length_pos hpos
        rw [← (hbz y hy).1, (hsz y hy).1]) h0
      rw [List.take_length] at hORC
      have hcap := grownCap_ge w (es0.length + news.length) sCap e
      have hRC := hORC.append hC.rc
      rw [← List.flatMap_append] at hRC
      have hrun : (Builtin.append_ #[t1, t2] ty #[.slice base es0.length sCap, vx]).run P w = .ok (.slice (some ⟨w.heap.size, 0, none⟩) (es0.length + news.length) (grownCap w (es0.length + news.length) sCap e))
          (w.drew.alloc (.cells (O ++ C ++ Builtin.zeroCells zc.cells (grownCap w (es0.length + news.length) sCap e - (es0.length + news.length))) e)) := by
        rcases hC.how with ⟨d2, h2', hd2, hn, hf⟩ | ⟨k, q, k2, rfl, h2', hq0, hq1, hq2, hqn, hqC⟩
        · exact append_grow hu hz h2' hd2 (hn w) hgrow hb hl1 hl2 hzrun (hO w.drew rfl _) (hf w.drew rfl)
        · rw [hqn] at hgrow hl1 hl2 ⊢
          rw [hqC]
          exact appendz_grow hu hz h2' hb hq0 hq1 hq2 hzrun h0 hgrow hle hl1 hl2 (hO w.drew rfl _)
      refine ⟨_, _, hrun, ?_⟩
      have := row_blk (c := grownCap w (es0.length + news.length) sCap e) (fz := (0, 0)) (e := e) (arr := O ++ C ++ Builtin.zeroCells zc.cells (grownCap w (es0.length + news.length) sCap e - (es0.length + news.length))) hh1 hs1 hd hes h0 (grown_drew_alloc w _) (cells_at w.drew rfl) rfl (.inl rfl) (by rw [hlen]; exact hcap)
        (by rw [Array.size_append, Array.size_append, hOsz, hCsz, zeroCells_made, size_madeCells, hzc, ← Nat.add_mul, ← Nat.add_mul]; exact Nat.mul_le_mul_right z (by omega)) (RC.row hes hRC _)
      rw [hlen, hgn] at this
      exact this
  · cases h
end Vai
