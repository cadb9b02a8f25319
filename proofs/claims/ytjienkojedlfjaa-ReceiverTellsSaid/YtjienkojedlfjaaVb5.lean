import Derived.Test.YtjienkojedlfjaaVb4
namespace Vai
open Go Go.RowKit
set_option linter.unusedVariables false
set_option linter.unusedSimpArgs false
theorem putO_hp (s : St) (d : Option Nat) (v : AV) : (s.putO d v).hp = s.hp := by cases d <;> rfl
theorem putO_gn (s : St) (d : Option Nat) (v : AV) : (s.putO d v).gn = s.gn := by cases d <;> rfl
theorem HRep.putO {w0 : Base} {w : World} {ro : RO} {σ : Map} {s : St} (h : HRep w0 w ro σ s.hp s.gn) (d : Option Nat) (v : AV) : HRep w0 w ro σ (s.putO d v).hp (s.putO d v).gn := by
  rw [putO_hp, putO_gn]; exact h
theorem copyStep_run {P : Program} {w0 : Base} {w : World} {ro : RO} {σ : Map} {n : Nat} {st st' : St} {a : Act} (hh : HRep w0 w ro σ st.hp st.gn) (hs : SRep w0 ro σ n st.sl a) {d : Option Nat} (hd : ∀ x, d = some x → x < n) {t1 t2 ty : Nat} {s x : AV} {vs vx : Value}
    (hsv : RV ro σ s vs) (hxv : RV ro σ x vx) (h : copyStep P d t1 s x st = some st') :
    ∃ v w', (Builtin.copy_ #[t1, t2] ty #[vs, vx]).run P w = .ok v w' ∧ After w0 ro σ n st' (a.put d v) w' := by
  unfold copyStep at h
  split at h
  · rename_i z a' g lo len
    split at h
    · rename_i ht
      simp only [Option.bind_eq_some_iff] at ht
      obtain ⟨e, he, hz⟩ := ht
      have hu := tsl_some he
      simp only [Option.bind_eq_some_iff] at h
      obtain ⟨xs, hxs, B, hB, h⟩ := h
      split at h
      · cases h
      · rename_i hc
        simp only [Bool.or_eq_true, decide_eq_true_eq, not_or, Bool.not_eq_true, Nat.not_lt, Bool.not_eq_true', List.all_eq_false, not_exists, Bool.not_eq_false', Bool.and_eq_true, not_and, Classical.not_not] at hc
        obtain ⟨⟨hfr, hle⟩, hall⟩ := hc
        simp only [Option.some.injEq] at h
        subst h
        obtain ⟨A, c, sz, V, rfl, hcc, hsz, hA, hV⟩ := conts_rep hh hxv hxs
        have hxz : ∀ y ∈ xs, y.cells.length = z ∧ y.ok = true := fun y hy => by
          have := hall y hy
          simp at this
          exact ⟨this.2, this.1⟩
        obtain ⟨l, hlσ, hb⟩ := hh.blk _ _ _ hB
        rcases hsv.sl_inv with ⟨hσ, rfl, rfl, A', rfl⟩ | ⟨b, N, c', hσ, hnc, hN, rfl⟩
        · obtain rfl := hh.fn _ _ _ _ hlσ hσ
          have hBe : B.es = [] := hb
          obtain ⟨es, fr⟩ := B
          obtain rfl : es = [] := hBe
          obtain rfl : fr = false := hfr
          have hf : ∀ k, (Builtin.firstCells k 0 (.slice A xs.length c)).run P w = .ok #[] w := by
            intro k; cases A <;> simp [Builtin.firstCells, loadCells, loadCellsFrom]
          refine ⟨.int .i64 0, w, ?_, ro, σ, Ext.refl ro σ, HRep.putO ?_ _ _, ?_⟩
          · cases A' <;> simp [Builtin.copy_, run_underlying hu, Builtin.lenOf, run_size hz, hf, storeCells, goInt]
          · have : (fun x y => if x = a' ∧ y = g then some ⟨([] : List AV).take 0 ++ (xs.take 0 ++ ([] : List AV).drop (0 + min xs.length 0)), false⟩ else st.hp x y) = st.hp := by
              funext x y
              split
              · rename_i hc; rw [hc.1, hc.2, hB]; simp
              · rfl
            show HRep w0 w ro σ (fun x y => if x = a' ∧ y = g then some ⟨([] : List AV).take 0 ++ (xs.take 0 ++ ([] : List AV).drop (0 + min xs.length 0)), false⟩ else st.hp x y) st.gn
            rw [this]; exact hh
          · have := SRep.put (s := st.setB a' g (some ⟨([] : List AV).take 0 ++ (xs.take 0 ++ ([] : List AV).drop (0 + min xs.length 0)), false⟩)) (d := d) (x := .int .i64 ((min xs.length 0 : Nat) : Int)) (v := .int .i64 0) hs hd (by simp; exact .free (.int _ _))
            exact this
        · obtain rfl := hh.fn _ _ _ _ hlσ hσ
          obtain ⟨arr, et, fz, h1, h2, h3, h4, h5, h6, h7⟩ := hb
          generalize hm : min xs.length len = m at *
          have hml : m ≤ xs.length := by omega
          have hmn : m ≤ len := by omega
          obtain ⟨C, hC, hRC, hCsz⟩ := first_run (P := P) (c := c) hsz hA hV m z hml (fun hpos => by
            obtain ⟨y, hy⟩ := List.exists_mem_of_length_pos (l := xs) (by omega)
            rw [← (hxz y hy).1, (hsz y hy).1]) h5
          have hlenN : (lo + m) * z ≤ arr.size := by
            rw [h2]; exact Nat.le_trans (Nat.mul_le_mul_right z (by omega)) hN
          have hlm : (lo + m) * z = lo * z + m * z := Nat.add_mul ..
          obtain ⟨w', arr', hr, hg, hh', hsz', hat⟩ := store_run (P := P) b (lo * z) et fz C.toList 0 arr w h1 (by rw [show C.toList.length = C.size from Array.length_toList, hCsz]; omega) (by rw [h2]; exact h3.at_) (fun v hv => by
            obtain ⟨j, hj⟩ := List.getElem?_of_mem hv
            exact hRC.2.1 j v (by simpa using hj))
          have hat' : ∀ j : Nat, arr'[j]? = if lo * z ≤ j ∧ j < lo * z + m * z then C[j - lo * z]? else arr[j]? := by
            intro j
            rw [hat j]
            simp only [Nat.add_zero, Array.length_toList, Array.getElem?_toList, hCsz]
          have hes : ∀ i : Nat, (B.es.take lo ++ (xs.take len ++ B.es.drop (lo + m)))[i]? = if i < lo then B.es[i]? else if i < lo + m then xs[i - lo]? else B.es[i]? := by
            intro i
            have hlt : (B.es.take lo).length = lo := by simp; omega
            have hlx : (xs.take len).length = m := by simp; omega
            by_cases h1 : i < lo
            · rw [if_pos h1, List.getElem?_append_left (by omega), List.getElem?_take, if_pos h1]
            · rw [if_neg h1, List.getElem?_append_right (by omega), hlt]
              by_cases h2 : i < lo + m
              · rw [if_pos h2, List.getElem?_append_left (by omega), List.getElem?_take, if_pos (by omega)]
              · rw [if_neg h2, List.getElem?_append_right (by omega), List.getElem?_drop, hlx]
                congr 1
                omega
          have hnl : (B.es.take lo ++ (xs.take len ++ B.es.drop (lo + m))).length = B.es.length := by simp; omega
          refine ⟨.int .i64 m, w', ?_, ro, σ, Ext.refl ro σ, HRep.putO (hh.turn hB hfr hσ hg (es := B.es.take lo ++ (xs.take len ++ B.es.drop (lo + m))) ⟨arr', et, fz, hh', by rw [hsz', h2], h3, by rw [hnl]; exact h4, h5, fun y hy => ?_, fun i y j u hy hu' => ?_⟩) _ _, ?_⟩
          · have hmin : Nat.min xs.length len = m := hm
            simp [Builtin.copy_, run_underlying hu, Builtin.lenOf, run_size hz, hmin, hC w rfl, hr, goInt]
          · rcases List.mem_append.1 hy with hy | hy
            · exact h6 y (List.mem_of_mem_take hy)
            · rcases List.mem_append.1 hy with hy | hy
              · exact hxz y (List.mem_of_mem_take hy)
              · exact h6 y (List.mem_of_mem_drop hy)
          · rw [hes] at hy
            rw [hat']
            by_cases hi1 : i < lo
            · rw [if_pos hi1] at hy
              have hj : j < z := by rw [← (h6 y (List.mem_of_getElem? hy)).1]; exact (List.getElem?_eq_some_iff.1 hu').1
              rw [if_neg (by have := idx_lt hi1 hj; omega)]
              exact h7 i y j u hy hu'
            · rw [if_neg hi1] at hy
              by_cases hi2 : i < lo + m
              · rw [if_pos hi2] at hy
                have hj : j < z := by rw [← (hxz y (List.mem_of_getElem? hy)).1]; exact (List.getElem?_eq_some_iff.1 hu').1
                have hidx : i * z + j - lo * z = (i - lo) * z + j := by
                  have : i * z = lo * z + (i - lo) * z := by rw [← Nat.add_mul]; congr 1; omega
                  omega
                have hge : lo * z ≤ i * z := Nat.mul_le_mul_right z (by omega)
                have hlt2 := idx_lt (show i - lo < m by omega) hj
                rw [if_pos (by omega), hidx]
                have hy' : (xs.take m)[i - lo]? = some y := by rw [List.getElem?_take, if_pos (by omega)]; exact hy
                have := RC.row (fun y hy => hxz y (List.mem_of_mem_take hy)) hRC #[] (i - lo) y j u hy' hu'
                simpa using this
              · rw [if_neg hi2] at hy
                have hj : j < z := by rw [← (h6 y (List.mem_of_getElem? hy)).1]; exact (List.getElem?_eq_some_iff.1 hu').1
                have : (lo + m) * z ≤ i * z := Nat.mul_le_mul_right z (by omega)
                rw [if_neg (by omega)]
                exact h7 i y j u hy hu'
          · have := SRep.put (s := st.setB a' g (some ⟨B.es.take lo ++ (xs.take len ++ B.es.drop (lo + m)), false⟩)) (d := d) (x := .int .i64 ((m : Nat) : Int)) (v := .int .i64 m) hs hd (.free (.int _ _))
            exact this
    · cases h
  · cases h
theorem toBytes_run {P : Program} {w0 : Base} {w : World} {ro : RO} {σ : Map} {n : Nat} {st st' : St} {a : Act} (hh : HRep w0 w ro σ st.hp st.gn) (hs : SRep w0 ro σ n st.sl a) {d : Option Nat} (hd : ∀ x, d = some x → x < n) {src dst e : Nat} {s : ByteArray}
    (h1 : P.underlying src = some .string) (h2 : P.underlying dst = some (.slice e)) (h3 : P.underlying e = some (.int .u8)) (h : rowStep d (s.data.toList.map fun b => .int .u8 b.toNat) 1 st = some st') :
    ∃ v w', (convert src dst (.string s)).run P w = .ok v w' ∧ After w0 ro σ n st' (a.put d v) w' := by
  obtain ⟨x, rfl, hes, h0, rfl⟩ := rowStep_some h
  have hrun := run_bytes_of_string (P := P) w src dst e s h1 h2 h3
  generalize hcap : grownCap w s.size 0 e = cap at *
  have hge : s.size ≤ cap := by rw [← hcap]; exact grownCap_ge w s.size 0 e
  have hsz : (bytesRow s cap).size = cap := by simp [bytesRow]; omega
  have hl : (s.data.toList.map fun b => AV.int .u8 b.toNat).length = s.size := by rw [List.length_map, Array.length_toList]; rfl
  refine ⟨_, _, hrun, ?_⟩
  have := row_blk (c := cap) (fz := ((bytesRow s cap).size, (bytesRow s cap).size + 1)) (e := e) (arr := bytesRow s cap) (N := cap) hh hs (hd x rfl) hes h0 (grown_drew_alloc w _) (by exact heap_alloc_new w.drew _) hsz
    (.inr ⟨by simp [hsz], by simp⟩) (by rw [hl]; exact hge) (by omega) (fun i y j u hy hu => by
      simp only [List.getElem?_map, Array.getElem?_toList, Option.map_eq_some_iff] at hy
      obtain ⟨b, hb, rfl⟩ := hy
      simp only [AV.cells] at hu
      cases j with
      | succ j => simp at hu
      | zero =>
        simp at hu; subst hu
        refine ⟨.int .u8 b.toNat, ?_, rfl, .free (.int _ _)⟩
        have hlt : i < s.data.size := (Array.getElem?_eq_some_iff.1 hb).1
        simp only [Nat.mul_one, Nat.add_zero, bytesRow]
        rw [Array.getElem?_append_left (by simpa using hlt), Array.getElem?_map, hb]
        rfl)
  rw [hl] at this ⊢
  exact this
theorem push_all : ∀ (ns : List Int) (r : ByteArray), ns.foldl (fun r n => r.push (UInt8.ofNat n.toNat)) r = ⟨r.data ++ (ns.map fun n => UInt8.ofNat n.toNat).toArray⟩
  | [], r => by simp
  | n :: ns, r => by
    rw [List.foldl_cons, push_all ns]
    simp [ByteArray.push]
theorem bytes_of : ∀ (xs : List AV) (bs : List UInt8), xs.mapM byteV = some bs → ∃ ns : List Int, xs = ns.map (AV.int .u8) ∧ bs = ns.map fun n => UInt8.ofNat n.toNat
  | [], bs, h => by simp at h; exact ⟨[], rfl, by simp [h]⟩
  | x :: xs, bs, h => by
    simp only [List.mapM_cons, Option.bind_eq_bind, Option.bind_eq_some_iff, Option.pure_def, Option.some.injEq] at h
    obtain ⟨b, hb, bs', hbs, rfl⟩ := h
    unfold byteV at hb
    split at hb
    · rename_i n
      simp only [Option.some.injEq] at hb
      subst hb
      obtain ⟨ns, rfl, rfl⟩ := bytes_of xs bs' hbs
      exact ⟨n :: ns, rfl, rfl⟩
    · cases hb
theorem toStr_run {P : Program} {w0 : Base} {w : World} {ro : RO} {σ : Map} {hp : Hp} {gn : Nat → Nat} (hh : HRep w0 w ro σ hp gn) {src dst e : Nat} {x : AV} {v : Value} (hx : RV ro σ x v)
    (h1 : P.underlying src = some (.slice e)) (h2 : P.underlying e = some (.int .u8)) (h3 : P.underlying dst = some .string) {xs : List AV} (hc : conts hp x = some xs) {bs : List UInt8} (hb : xs.mapM byteV = some bs) :
    (convert src dst v).run P w = .ok (.string ⟨bs.toArray⟩) w := by
  obtain ⟨A, c, sz, V, rfl, hcc, hsz, hA, hV⟩ := conts_rep hh hx hc
  obtain ⟨ns, rfl, rfl⟩ := bytes_of xs bs hb
  have hrun : (Conv.bytesToString (.slice A (ns.map (AV.int .u8)).length c)).run P w = .ok (.string ⟨(ns.map fun n => UInt8.ofNat n.toNat).toArray⟩) w := by
    by_cases hne : ns = []
    · subst hne
      cases A with
      | none => simp [Conv.bytesToString]; rfl
      | some ad =>
        have := run_bytesToString (P := P) w ad 0 c [] (by simp [loadCells, loadCellsFrom])
        exact this
    · obtain ⟨ad, rfl, hs, hcell⟩ := hA (by simpa using hne)
      obtain ⟨y, hy⟩ : ∃ y, y ∈ ns.map (AV.int .u8) := List.exists_mem_of_ne_nil _ (by simpa using hne)
      have hsz1 := (hsz y hy).1
      simp only [List.mem_map] at hy
      obtain ⟨n, _, rfl⟩ := hy
      obtain rfl : 1 = sz := hsz1
      have := run_bytesToString (P := P) w ad (ns.map (AV.int .u8)).length c ns (by
        rw [run_loadCells (P := P) w ad _ (fun j => V j 0) (fun j hj => by have := (hcell j 0 hj (by omega)).1; simpa using this)]
        congr 2
        apply List.ext_getElem?
        intro j
        by_cases hj : j < ns.length
        · have := hV j 0 (.int .u8 ns[j]) (.int .u8 ns[j]) (by simp [hj]) rfl
          simp [hj, this.int_inv]
        · have := Nat.le_of_not_lt hj
          simp [this])
      rw [this, push_all]
      simp
  simp only [convert, Sem.run_bind, run_underlying h1, run_underlying h3, run_underlying h2, Result.andThen_ok]
  exact hrun
end Vai
