import Derived.Test.YtjienkojedlfjaaN6p
import Derived.Test.YtjienkojedlfjaaNR4
namespace Vai.L04
open Go Go.Proofs Vai
set_option maxRecDepth 100000
set_option linter.unusedVariables false
set_option linter.unusedSimpArgs false
section
variable {R : Type} {V : EV} {M : EM} {G : Nat → CS → Option R} {K : Res → Option R}
noncomputable abbrev Dr4gap : EV → EM → Dn := dnV Try.prog 83 [66] [] [(250, [0, 1, 6])]
theorem r4gap_0 (a0 : List AV) (a1 : Int) : (Dr4gap V M).stepK G K 0 ⟨[.osl a0, .int .i64 a1], []⟩ =
    Option.bind (V 66 [AV.osl a0]) (fun x0 => gd (fitA [.one .bool] x0) ((bif !AV.getb x0 then K (AV.int .i64 (0 : Int), []) else (bif decide (a1 < (0 : Int)) then G 250 ({ vs := [AV.osl a0, AV.int .i64 (0 : Int), AV.int .i64 (0 : Int)], bs := [] }) else G 250 ({ vs := [AV.osl a0, AV.int .i64 a1, AV.int .i64 (0 : Int)], bs := [] }))))) := by kernel_rfl
theorem r4gap_1 (l0 : List AV) (n1 : Int) (n2 : Int) : (Dr4gap V M).stepK G K 250 ⟨[(.osl l0), (.int .i64 n1), (.int .i64 n2)], []⟩ =
    (bif decide (n2 < (↑(List.length l0) : Int)) then gd (decide ((0 : Int) ≤ n2)) (Option.bind (l0[Int.toNat n2]?) (fun x0 => gd (Vw.fit (.agg [.int .i64, .int .i64]) x0) ((bif decide (ci x0 0 ≤ n1) then gd (decide ((0 : Int) ≤ n2)) (Option.bind (l0[Int.toNat n2]?) (fun x1 => gd (Vw.fit (.agg [.int .i64, .int .i64]) x1) ((bif decide (n1 < ci x1 1) then gd (decide ((0 : Int) ≤ n2)) (Option.bind (l0[Int.toNat n2]?) (fun x2 => gd (Vw.fit (.agg [.int .i64, .int .i64]) x2) (K (AV.int .i64 (ci x2 1), [])))) else G 250 ({ vs := [AV.osl l0, AV.int .i64 n1, AV.int .i64 (IntKind.wrap .i64 (n2 + (1 : Int)))], bs := [] }))))) else G 250 ({ vs := [AV.osl l0, AV.int .i64 n1, AV.int .i64 (IntKind.wrap .i64 (n2 + (1 : Int)))], bs := [] }))))) else K (AV.int .i64 n1, [])) := by kernel_rfl
end
def gapD : List Spn → Int → Int
  | [], f => f
  | x :: l, f => if x.a ≤ f ∧ f < x.b then x.b else gapD l f
theorem gapD_eq : ∀ {l : List Spn}, Can l → ∀ f, l.foldl gapF f = gapD l f
  | [], _, _ => rfl
  | x :: l, hl, f => by
    show l.foldl gapF (gapF f x) = _
    unfold gapD
    have e : gapF f x = if x.a ≤ f ∧ f < x.b then x.b else f := rfl
    rw [e]
    split
    · exact gap_stay l x.b fun y hy => (List.pairwise_cons.1 hl.up).1 y hy
    · exact gapD_eq hl.tail f
theorem r4gap_loop {V : EV} {M : EM} (l : List Spn) (hl : l.length ≤ 9223372036854775806) (f : Int) : ∀ (m : List Spn) (i : Nat), l.drop i = m → (Dr4gap V M).From 250 ⟨[.osl (prows l), .int .i64 f, .int .i64 i], []⟩ = some (.int .i64 (gapD m f), [])
  | [], i, h => by
    refine From.of ((r4gap_1 _ _ _).trans ?_)
    have := drop_end h
    rw [prows_length, decide_eq_false (show ¬ (i : Int) < (l.length : Int) by omega), cond_false]; rfl
  | s :: m, i, h => by
    obtain ⟨h1, h2, h3⟩ := drop_get h
    have ih := r4gap_loop (V := V) (M := M) l hl f m (i + 1) h3
    have hx : (prows l)[i]? = some (.agg [.int .i64 s.a, .int .i64 s.b]) := by rw [prows_get, h1]; rfl
    refine From.of ((r4gap_1 _ _ _).trans ?_)
    simp only [prows_length, show decide ((i : Int) < (l.length : Int)) = true from decide_eq_true (by omega), show decide ((0 : Int) ≤ (i : Int)) = true from decide_eq_true (by omega), Int.toNat_natCast, hx, ci_agg, w64 (n := (i : Int) + 1) (by omega) (by omega), VT]
    unfold gapD
    by_cases c1 : s.a ≤ f
    · rw [decide_eq_true c1, cond_true]
      by_cases c2 : f < s.b
      · rw [decide_eq_true c2, cond_true, if_pos ⟨c1, c2⟩]
      · rw [decide_eq_false c2, cond_false, if_neg fun x => c2 x.2]; exact ih
    · rw [decide_eq_false c1, cond_false, if_neg fun x => c1 x.1]; exact ih
theorem r4gap_ok (l : List Spn) (hl : l.length ≤ 9223372036854775806) (f : Int) : FnOk Try.prog 83 [.osl (prows l), .int .i64 f] (.int .i64 (gapP l f)) := by
  refine fn_mk [F_r4may] [] (by kernel_rfl) mixed (by kernel_rfl) (From.of ((r4gap_0 _ _).trans ?_))
  have e1 : envV [F_r4may] 66 [.osl (prows l)] = some (.bool (mayP l)) := envV_at F_r4may l hl [] _ rfl
  simp only [e1, VT]
  unfold gapP
  cases h : mayP l with
  | false => rfl
  | true =>
    rw [Bool.not_true, cond_false, if_pos rfl, gapD_eq (may_iff.1 h).2]
    by_cases c : f < 0
    · rw [decide_eq_true c, cond_true, if_pos c]; exact r4gap_loop l hl 0 l 0 rfl
    · rw [decide_eq_false c, cond_false, if_neg c]; exact r4gap_loop l hl f l 0 rfl
noncomputable def F_r4gap : Fam Try.prog := { f := 83, ι := List Spn × Int, pre := fun p => p.1.length ≤ 9223372036854775806, args := fun p => [.osl (prows p.1), .int .i64 p.2], res := fun p => .int .i64 (gapP p.1 p.2), ok := fun p h => r4gap_ok p.1 h p.2, inj := fun s t h => by rw [prows_inj (AV.osl.inj (List.cons.inj h).1), (AV.int.inj (List.cons.inj (List.cons.inj h).2).1).2] }
theorem gap_rng {l : List Spn} (h : mayP l = true) {f : Int} (h0 : 0 ≤ f) (h1 : f ≤ 4611686018427387904) : f ≤ gapP l f ∧ gapP l f ≤ 4611686018427387904 := by
  have hc := (may_iff.1 h).2
  unfold gapP
  rw [if_pos h, if_neg (by omega)]
  obtain ⟨c1, c2, c3⟩ := gap_spec hc f
  refine ⟨c1, ?_⟩
  by_cases e : f = l.foldl gapF f
  · omega
  · obtain ⟨s, hm, k1, k2⟩ := c3 (l.foldl gapF f - 1) (by omega) (by omega)
    have := hc.one s hm
    omega
end Vai.L04
namespace Vai.L06
open Go Go.Proofs Vai Vai.L04
set_option maxRecDepth 100000
set_option linter.unusedVariables false
set_option linter.unusedSimpArgs false
section
variable {R : Type} {V : EV} {M : EM} {G : Nat → CS → Option R} {K : Res → Option R}
noncomputable abbrev Drsame3 : EV → EM → Dn := dnV Try.prog 24 [] [] [(58, [0, 1, 5])]
theorem rsame3_0 (a0 : List AV) (a1 : List AV) : (Drsame3 V M).stepK G K 0 ⟨[.osl a0, .osl a1], []⟩ =
    (bif !(↑(List.length a0) : Int) == (↑(List.length a1) : Int) then K (AV.bool false, []) else G 58 ({ vs := [AV.osl a0, AV.osl a1, AV.int .i64 (0 : Int)], bs := [] })) := by kernel_rfl
theorem rsame3_1 (l0 : List AV) (l1 : List AV) (n2 : Int) : (Drsame3 V M).stepK G K 58 ⟨[(.osl l0), (.osl l1), (.int .i64 n2)], []⟩ =
    (bif decide (n2 < (↑(List.length l0) : Int)) then gd (decide ((0 : Int) ≤ n2)) (Option.bind (l0[Int.toNat n2]?) (fun x0 => gd (Vw.fit (.one (.int .u8)) x0) (gd (decide ((0 : Int) ≤ n2)) (Option.bind (l1[Int.toNat n2]?) (fun x1 => gd (Vw.fit (.one (.int .u8)) x1) ((bif !AV.geti x0 == AV.geti x1 then K (AV.bool false, []) else G 58 ({ vs := [AV.osl l0, AV.osl l1, AV.int .i64 (IntKind.wrap .i64 (n2 + (1 : Int)))], bs := [] })))))))) else K (AV.bool true, [])) := by kernel_rfl
noncomputable abbrev Drsame3n : EV → EM → Dn := dnV Try.prog 24 [] [] [(58, [0, 1, 5])]
theorem rsame3n_0 (a1 : List AV) : (Drsame3n V M).stepK G K 0 ⟨[.nl, .osl a1], []⟩ =
    (bif !(0 : Int) == (↑(List.length a1) : Int) then K (AV.bool false, []) else G 58 ({ vs := [AV.nl, AV.osl a1, AV.int .i64 (0 : Int)], bs := [] })) := by kernel_rfl
theorem rsame3n_1 (l0 : List AV) (n1 : Int) : (Drsame3n V M).stepK G K 58 ⟨[.nl, (.osl l0), (.int .i64 n1)], []⟩ =
    (bif decide (n1 < (0 : Int)) then none else K (AV.bool true, [])) := by kernel_rfl
noncomputable abbrev Dr6same : EV → EM → Dn := dnV Try.prog 16 [24, 56] [] []
theorem r6same_0 (a0_0 : Int) (a0_1 : List AV) (a0_2 : List AV) (a0_3 : Int) (a0_4 : Int) (a1_0 : Int) (a1_1 : List AV) (a1_2 : List AV) (a1_3 : Int) (a1_4 : Int) : (Dr6same V M).stepK G K 0 ⟨[.agg [.int .i64 a0_0, .osl a0_1, .osl a0_2, .int .i64 a0_3, .int .i64 a0_4], .agg [.int .i64 a1_0, .osl a1_1, .osl a1_2, .int .i64 a1_3, .int .i64 a1_4]], []⟩ =
    Option.bind (V 24 [AV.osl a0_1, AV.osl a1_1]) (fun x0 => gd (fitA [.one .bool] x0) (Option.bind (V 56 [AV.osl a0_2, AV.osl a1_2]) (fun x1 => gd (fitA [.one .bool] x1) ((bif AV.getb x0 then (bif AV.getb x1 then (bif a0_0 == a1_0 then (bif a0_3 == a1_3 then K (AV.bool (a0_4 == a1_4), []) else K (AV.bool false, [])) else K (AV.bool false, [])) else K (AV.bool false, [])) else K (AV.bool false, [])))))) := by kernel_rfl
end
theorem cutL_lo : ∀ {l : List Spn} {s : Spn}, (∀ x ∈ l, s.a ≤ x.a ∧ x.a < x.b) → (cutL l s).length ≤ l.length
  | [], _, _ => by simp [cutL]
  | x :: l, s, h => by
    have e : (cutL (x :: l) s).length = (cutF s x).length + (cutL l s).length := by unfold cutL; simp
    have h1 := h x (List.mem_cons_self ..)
    have h2 : (cutF s x).length ≤ 1 := by
      have k1 := lft_cases s x
      unfold cutF
      rw [if_neg (by omega)]
      split <;> simp
    have := cutL_lo fun y hy => h y (List.mem_cons_of_mem _ hy)
    rw [e, List.length_cons]; omega
structure ReadF (base : Int) (k : Nat) (b : List AV) (l : List Spn) (cap end_ : Int) : Prop where
  e0 : cutE l ⟨base, base + k⟩ = 0
  er : cutR l ⟨base, base + k⟩ = cutL l ⟨base, base + k⟩
  me : ∀ n, mem (cutR l ⟨base, base + k⟩) n ↔ mem l n ∧ ¬ (base ≤ n ∧ n < base + k)
  ln : (cutR l ⟨base, base + k⟩).length ≤ l.length
  may : MayW (base + k) (b.drop k) (cutR l ⟨base, base + k⟩) cap end_
  up : uptoP (base + k) (cutR l ⟨base, base + k⟩) = uptoP base l
theorem read_facts {base : Int} {k : Nat} {b : List AV} {l : List Spn} {cap end_ : Int} (hm : MayW base b l cap end_) (hk : 0 < k) (hg : ∀ n, base ≤ n → n < base + k → mem l n) : ReadF base k b l cap end_ := by
  have ht := upto_lt (base := base) hm.can (hg (base + k - 1) (by omega) (by omega))
  have he := hm.edge
  have hue := hm.ue
  have hb0 := hm.b0
  have hbl := hm.bl
  have hs : (⟨base, base + k⟩ : Spn).a < (⟨base, base + k⟩ : Spn).b := by show base < base + k; omega
  have hlen : (cutL l ⟨base, base + k⟩).length ≤ l.length := cutL_lo fun x hx => ⟨hm.lo x.a ⟨x, hx, Int.le_refl _, (hm.can.one x hx).2.1⟩, (hm.can.one x hx).2.1⟩
  have hll := hm.ll
  have e0 : cutE l ⟨base, base + k⟩ = 0 := by
    unfold cutE
    rw [if_pos ⟨may_iff.2 ⟨hm.ll, hm.can⟩, one_iff.2 ⟨hb0, hs, by show base + k ≤ _; omega⟩⟩, if_neg (by omega)]
  have er : cutR l ⟨base, base + k⟩ = cutL l ⟨base, base + k⟩ := by unfold cutR; rw [if_pos e0]
  have me : ∀ n, mem (cutR l ⟨base, base + k⟩) n ↔ mem l n ∧ ¬ (base ≤ n ∧ n < base + k) := fun n => by rw [er]; exact cutL_mem l hs n
  have can : Can (cutR l ⟨base, base + k⟩) := by rw [er]; exact cutL_can hm.can hs
  have lo : ∀ n, mem (cutR l ⟨base, base + k⟩) n → base + k ≤ n := fun n hn => by
    obtain ⟨h1, h2⟩ := (me n).1 hn
    have := hm.lo n h1; omega
  have up : uptoP (base + k) (cutR l ⟨base, base + k⟩) = uptoP base l := by
    have u1 : uptoP (base + k) (cutR l ⟨base, base + k⟩) ≤ uptoP base l := upto_le can (by omega) fun n hn => upto_lt hm.can ((me n).1 hn).1
    have u2 := upto_ge (base := base + k) can lo
    by_cases c : uptoP base l = base + k
    · omega
    · have h0 : 0 < l.length := by
        rcases Nat.eq_zero_or_pos l.length with h | h
        · rw [List.length_eq_zero_iff.1 h, upto_nil] at ht; omega
        · exact h
      have := upto_mem (base := base) hm.can h0
      have := upto_lt (base := base + k) can ((me _).2 ⟨this, by omega⟩)
      omega
  have hed : edgeP base cap ≤ edgeP (base + k) cap := by unfold edgeP; split <;> split <;> omega
  refine ⟨e0, er, me, by rw [er]; exact hlen, ⟨hm.c0, hm.c1, by omega, by omega, by rw [er]; omega, can, lo, by omega, by rw [List.length_drop]; omega, by rw [up]; exact hm.en, fun j hj hn => ?_⟩, up⟩
  rw [byteAt_drop]
  rw [List.length_drop] at hj
  refine hm.bz (k + j) (by omega) fun h => hn ((me _).2 ⟨?_, by omega⟩)
  rw [show base + (k : Int) + (j : Int) = base + ((k + j : Nat) : Int) by omega]; exact h
theorem gap_has {w : Wv} (h : w.may = true) : ∀ k : Nat, (k : Int) ≤ readyP w → ∀ n, w.base ≤ n → n < w.base + k → mem w.l n := fun k hk n h1 h2 => by
  obtain ⟨g1, g2, g3, g4, g5⟩ := ready_le h
  exact g4 n h1 (by omega)
theorem readK_le {w : Wv} {n : Int} (h : w.may = true) (hn : 0 ≤ n) : (readK w n : Int) = (if readyP w < n then readyP w else n) ∧ 0 ≤ readyP w ∧ readyP w ≤ w.b.length ∧ readK w n ≤ w.b.length ∧ (readK w n : Int) ≤ readyP w ∧ (readK w n : Int) ≤ n := by
  obtain ⟨g1, g2, g3, g4, g5⟩ := ready_le h
  unfold readK
  split <;> omega
theorem readW_may {w : Wv} {n : Int} (h : w.may = true) (hn : 0 ≤ n) : (readW w n).may = true ∧ (readW w n).end_ = w.end_ ∧ (readW w n).cap = w.cap ∧ (readW w n).base = w.base + readK w n ∧ (readW w n).b = w.b.drop (readK w n) ∧
    (∀ m, mem (readW w n).l m ↔ mem w.l m ∧ ¬ (w.base ≤ m ∧ m < w.base + readK w n)) ∧ (readW w n).l.length ≤ w.l.length ∧ uptoP (readW w n).base (readW w n).l = uptoP w.base w.l := by
  obtain ⟨k1, k2, k3, k4, k5, k6⟩ := readK_le h hn
  unfold readW
  rw [if_pos ⟨h, hn⟩]
  by_cases c : readK w n = 0
  · rw [if_pos c, c]
    refine ⟨h, rfl, rfl, by simp, by simp, fun m => ⟨fun x => ⟨x, by omega⟩, fun x => x.1⟩, Nat.le_refl _, rfl⟩
  · rw [if_neg c]
    have f := read_facts (mayOf h) (by omega) (gap_has h (readK w n) k5)
    exact ⟨mayW_plain.2 f.may, rfl, rfl, rfl, rfl, f.me, f.ln, f.up⟩
theorem shutW_may {w : Wv} {n : Int} (e : shutE w n = 0) : w.may = true ∧ shutW w n = { w with end_ := n } ∧ 0 ≤ n ∧ n ≤ 2305843009213693952 ∧ uptoP w.base w.l ≤ n ∧ (shutW w n).may = true := by
  have e2 : shutW w n = { w with end_ := n } := by unfold shutW; rw [if_pos e]
  unfold shutE at e
  split at e
  · rename_i h
    split at e
    · cases e
    · rename_i h2
      have hm := mayOf h.1
      refine ⟨h.1, e2, h.2.1, h.2.2, by omega, ?_⟩
      rw [e2]
      exact mayW_plain.2 ⟨hm.c0, hm.c1, hm.b0, hm.b1, hm.ll, hm.can, hm.lo, hm.ue, hm.bl, .inr (by show uptoP w.base w.l ≤ n; omega), hm.bz⟩
  · cases e
abbrev shWv : Sh := .parts [.int .i64, .slice (.int .u8) false, .slice shSpn true, .int .i64, .int .i64]
theorem hasWv {l : List AV} (h : Has shWv l) : ∃ base b q cap end_, l = [.int .i64 base, .osl b, .osl (prows q), .int .i64 cap, .int .i64 end_] ∧ IsB b ∧ b.length ≤ 9223372036854775807 ∧ q.length ≤ 9223372036854775807 := by
  obtain ⟨a, r, rfl, h0, h⟩ := hasCons h
  obtain ⟨b, r, rfl, h1, h⟩ := hasCons h
  obtain ⟨c, r, rfl, h2, h⟩ := hasCons h
  obtain ⟨d, r, rfl, h3, h⟩ := hasCons h
  obtain ⟨e, r, rfl, h4, h⟩ := hasCons h
  obtain rfl := hasNil h
  obtain ⟨base, rfl, w0⟩ := hasI64 h0
  obtain ⟨xs, rfl, hl, hx⟩ := hasBytes h1
  obtain ⟨q, rfl, hq, _⟩ := hasSpns h2
  obtain ⟨cap, rfl, w2⟩ := hasI64 h3
  obtain ⟨end_, rfl, w3⟩ := hasI64 h4
  exact ⟨base, xs, q, cap, end_, rfl, hx, hl, hq⟩
theorem isb_ext {xs ys : List AV} (hx : IsB xs) (hy : IsB ys) (hl : xs.length = ys.length) (h : ∀ i, i < xs.length → byteAt xs i = byteAt ys i) : xs = ys := by
  refine List.ext_getElem? fun i => ?_
  by_cases c : i < xs.length
  · rw [byte_at hx c, byte_at hy (by omega), h i c]
  · rw [List.getElem?_eq_none (by omega), List.getElem?_eq_none (by omega)]
theorem same3_from {V : EV} {M : EM} (xs : List AV) (hx : IsB xs) (hl : xs.length ≤ 9223372036854775806) : ∀ (n i : Nat), n + i = xs.length →
    (Drsame3 V M).From 58 ⟨[.osl xs, .osl xs, .int .i64 i], []⟩ = some (.bool true, [])
  | 0, i, h => by
    refine From.of ((rsame3_1 _ _ _).trans ?_)
    simp only [show decide ((i : Int) < (xs.length : Int)) = false from decide_eq_false (by omega), cond_false]
  | n + 1, i, h => by
    refine From.of ((rsame3_1 _ _ _).trans ?_)
    have ih := same3_from (V := V) (M := M) xs hx hl n (i + 1) (by omega)
    simp only [show decide ((i : Int) < (xs.length : Int)) = true from decide_eq_true (by omega), show decide ((0 : Int) ≤ (i : Int)) = true from decide_eq_true (by omega), Int.toNat_natCast, byte_at hx (show i < xs.length by omega), w64 (n := (i : Int) + 1) (by omega) (by omega), VT]
    exact ih
def sameA : Option (List AV) → List AV
  | none => [.nl, .osl []]
  | some xs => [.osl xs, .osl xs]
theorem same3_ok : ∀ (o : Option (List AV)), (∀ xs, o = some xs → IsB xs ∧ xs.length ≤ 9223372036854775806) → FnOk Try.prog 24 (sameA o) (.bool true)
  | none, _ => fn_mk [] [] (by kernel_rfl) mixed (by kernel_rfl) (by
    refine From.of ((rsame3n_0 _).trans ?_)
    refine From.of ((rsame3n_1 _ _).trans ?_)
    rfl)
  | some xs, h => fn_mk [] [] (by kernel_rfl) mixed (by kernel_rfl) (by
    refine From.of ((rsame3_0 _ _).trans ?_)
    rw [beq_self_eq_true]
    exact same3_from xs (h xs rfl).1 (h xs rfl).2 xs.length 0 rfl)
noncomputable def F_same3 : Fam Try.prog := { f := 24, ι := Option (List AV), pre := fun o => ∀ xs, o = some xs → IsB xs ∧ xs.length ≤ 9223372036854775806, args := sameA, res := fun _ => .bool true, ok := same3_ok, inj := fun _ _ _ => rfl }
structure Wv.Sm (w : Wv) : Prop where
  b : IsB w.b
  bl : w.b.length ≤ 90000
  ll : w.l.length ≤ 90000
theorem Wv.Sm.ok {w : Wv} (h : w.Sm) : w.Ok := ⟨h.b, by have := h.bl; omega, by have := h.ll; omega⟩
theorem r6same_ok (w : Wv) (h : w.Sm) : FnOk Try.prog 16 [w.av, w.av] (.bool true) := by
  refine fn_mk [F_same3, F_r4same] [] (by kernel_rfl) mixed (by kernel_rfl) (From.of ((r6same_0 _ _ _ _ _ _ _ _ _ _).trans ?_))
  have hb := h.bl; have hl := h.ll
  have e1 : envV [F_same3, F_r4same] 24 [.osl w.b, .osl w.b] = some (.bool true) := envV_at F_same3 (some w.b) (fun xs hx => by cases hx; exact ⟨h.b, by omega⟩) [] _ rfl
  have e2 : envV [F_same3, F_r4same] 56 [.osl (prows w.l), .osl (prows w.l)] = some (.bool true) := envV_at F_r4same w.l (by show w.l.length ≤ _; omega) [F_same3] _ rfl
  simp only [e1, e2, VT]
noncomputable def F_r6same : Fam Try.prog := { f := 16, ι := Wv, pre := Wv.Sm, args := fun w => [w.av, w.av], res := fun _ => .bool true, ok := r6same_ok, inj := fun _ _ _ => rfl }
theorem noneSm : Wv.none.Sm := ⟨IsB.nil, by decide, by decide⟩
theorem putW_sm {w : Wv} (hw : w.Sm) {n : Int} {bs : List AV} (hb : IsB bs) (hbl : bs.length ≤ 140737488355) : (putW w n bs).Sm := by
  unfold putW
  by_cases k : putK w n bs = 0
  · rw [if_neg (by simp [k])]
    by_cases c : lowW w n ≥ highW w n bs.length
    · rw [if_pos c]; exact hw
    · rw [if_neg c]
      have h : ¬ (w.may = false ∨ n < 0 ∨ n > 2305843009213693952) := fun x => by unfold putK at k; rw [if_pos x] at k; cases k
      have h2 : ¬ (w.end_ ≠ -1 ∧ n + bs.length > w.end_) := fun x => by unfold putK at k; rw [if_neg h, if_pos x] at k; cases k
      have d : addE w.l ⟨lowW w n, highW w n bs.length⟩ = 0 := by unfold putK at k; rw [if_neg h, if_neg h2, if_neg c] at k; exact k
      have hm : w.may = true := by cases hm : w.may; exact absurd (.inl hm) h; rfl
      have h1 : ¬ n < 0 := fun x => h (.inr (.inl x))
      have h3 : ¬ n > 2305843009213693952 := fun x => h (.inr (.inr x))
      have hlh := low_high (w := w) (n := n) (k := bs.length) (by omega) (by omega) hbl
      have f := put_facts (mayOf hm) hw.b hb hbl (by omega) hlh.1 hlh.2.1 (by omega) hlh.2.2.1 hlh.2.2.2.1 d
      have he := (mayOf hm).edge
      have y2 := f.y2; have lB := f.lB; have gl := f.gl
      exact ⟨f.hB, by show (putB _ _ _ _ _ _ _).length ≤ _; omega, by show (addR _ _).length ≤ _; omega⟩
  · rw [if_pos k]; exact noneSm
theorem shutW_sm {w : Wv} (hw : w.Sm) (n : Int) : (shutW w n).Sm := by
  unfold shutW
  split
  · exact ⟨hw.b, hw.bl, hw.ll⟩
  · exact noneSm
theorem readW_sm {w : Wv} (hw : w.Sm) (m : Int) : (readW w m).Sm := by
  by_cases h : w.may = true ∧ 0 ≤ m
  · obtain ⟨r1, r2, r3, r4, r5, r6, r7, r8⟩ := readW_may h.1 h.2
    have := hw.bl; have := hw.ll
    exact ⟨by rw [r5]; exact IsB.drop hw.b _, by rw [r5, List.length_drop]; omega, by omega⟩
  · unfold readW; rw [if_neg h]; exact noneSm
theorem newW_sm (m : Int) : (newW m).Sm := by
  unfold newW; split
  · exact noneSm
  · exact ⟨IsB.nil, Nat.zero_le _, Nat.zero_le _⟩
theorem readB_isb {w : Wv} (hw : w.Sm) (m : Int) : IsB (readB w m) ∧ (readB w m).length ≤ 9223372036854775806 := by
  have := hw.bl
  unfold readB; split
  · exact ⟨IsB.take hw.b _, by rw [List.length_take]; omega⟩
  · exact ⟨IsB.nil, by simp⟩
end Vai.L06
