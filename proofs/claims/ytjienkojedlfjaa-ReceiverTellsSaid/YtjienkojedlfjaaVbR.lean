import Derived.Test.YtjienkojedlfjaaVb9
import Derived.WalkKit
import Derived.ProofKit
import Derived.DataReads
import Derived.ClosedOfChecked
namespace Vai
open Go Go.RowKit
set_option linter.unusedVariables false
set_option linter.unusedSimpArgs false
inductive Sh where
  | bool
  | int (k : IntKind)
  | str
  | slice (e : Sh) (ag : Bool)
  | parts (ps : List Sh)
def Sh.n : Sh → Nat
  | .parts ps => ns ps
  | _ => 1
where ns : List Sh → Nat
  | [] => 0
  | p :: ps => p.n + ns ps
def Sh.one : Sh → Bool
  | .parts _ => false
  | _ => true
def mk : Bool → List AV → AV
  | true, cs => .agg cs
  | false, cs => cs.headD .unk
inductive Has : Sh → List AV → Prop
  | bool (b : Bool) : Has .bool [.bool b]
  | int (k : IntKind) (n : Int) (h : (Lit.int k n).wf = true) : Has (.int k) [.int k n]
  | str (s : ByteArray) (h : s.size ≤ maxLen) : Has .str [.str s]
  | slice (e : Sh) (ag : Bool) (xs : List AV) (hl : xs.length ≤ maxLen) (h1 : ∀ x ∈ xs, x = mk ag x.cells) (h2 : ∀ x ∈ xs, Has e x.cells) : Has (.slice e ag) [.osl xs]
  | parts0 : Has (.parts []) []
  | parts1 (p : Sh) (ps : List Sh) (a b : List AV) (ha : Has p a) (hb : Has (.parts ps) b) : Has (.parts (p :: ps)) (a ++ b)
def shFs (P : Program) (f : TypeId → Option Sh) : List Field → Nat → Option (List Sh)
  | [], _ => some []
  | fd :: fs, o => if fd.offset = o then (f fd.type).bind fun s => if P.cellsOf fd.type = s.n then (shFs P f fs (o + s.n)).map (s :: ·) else none else none
def shOf (P : Program) : Nat → TypeId → Option Sh
  | 0, _ => none
  | d + 1, t => match P.underlying t with
    | some .bool => some .bool
    | some (.int k) => some (.int k)
    | some .string => some .str
    | some (.slice e) => (shOf P d e).bind fun s => (tagg P e).bind fun ag => if 0 < s.n ∧ P.cellsOf e = s.n ∧ (ag || s.one) = true then some (.slice s ag) else none
    | some (.struct fs) => (shFs P (shOf P d) fs.toList 0).bind fun ps => if P.cellsOf t = Sh.n.ns ps then some (.parts ps) else none
    | some (.array n e) => (shOf P d e).bind fun s => if P.cellsOf e = s.n ∧ P.cellsOf t = n * s.n then some (.parts (List.replicate n s)) else none
    | _ => none
theorem Has.one {s : Sh} (h1 : s.one = true) {cs : List AV} (h : Has s cs) : ∃ c, cs = [c] ∧ c.cells = [c] ∧ c.ok = true := by
  cases h <;> first | exact ⟨_, rfl, rfl, rfl⟩ | simp [Sh.one] at h1
theorem mk_cells {s : Sh} {ag : Bool} (ho : (ag || s.one) = true) {cs : List AV} (h : Has s cs) : (mk ag cs).cells = cs ∧ (mk ag cs).ok = true := by
  cases ag with
  | true => exact ⟨rfl, rfl⟩
  | false =>
    obtain ⟨c, rfl, hc, hk⟩ := h.one (by simpa using ho)
    exact ⟨hc, hk⟩
abbrev AllF (w : World) : RO := ⟨w, fun b => b < w.heap.size⟩
def Cs (w : World) (as : List AV) (cs : List Value) : Prop := as.length = cs.length ∧ ∀ (j : Nat) (a : AV) (v : Value), as[j]? = some a → cs[j]? = some v → RF (AllF w) a v ∧ v.oneCell' = true
theorem Cs.one {w : World} {a : AV} {v : Value} (h : RF (AllF w) a v) (h1 : v.oneCell' = true) : Cs w [a] [v] := by
  refine ⟨rfl, fun j x y hx hy => ?_⟩
  cases j with
  | zero => simp at hx hy; subst hx; subst hy; exact ⟨h, h1⟩
  | succ j => simp at hx
theorem Cs.append {w : World} {a b : List AV} {c d : List Value} (h : Cs w a c) (k : Cs w b d) : Cs w (a ++ b) (c ++ d) := by
  refine ⟨by simp [h.1, k.1], fun j x y hx hy => ?_⟩
  by_cases hj : j < a.length
  · rw [List.getElem?_append_left hj] at hx
    rw [List.getElem?_append_left (by rw [← h.1]; exact hj)] at hy
    exact h.2 j x y hx hy
  · rw [List.getElem?_append_right (by omega)] at hx
    rw [List.getElem?_append_right (by rw [← h.1]; omega), ← h.1] at hy
    exact k.2 _ x y hx hy
theorem mapM_all {α β : Type} {f : α → Option β} : ∀ {xs : List α} {ys : List β}, xs.mapM f = some ys → ∀ x ∈ xs, ∃ y, f x = some y
  | [], ys, _, x, hx => by cases hx
  | a :: xs, ys, h, x, hx => by
    simp only [List.mapM_cons, Option.bind_eq_bind, Option.bind_eq_some_iff, Option.pure_def, Option.some.injEq] at h
    obtain ⟨b, hb, bs, hbs, rfl⟩ := h
    rcases List.mem_cons.1 hx with rfl | hx
    · exact ⟨b, hb⟩
    · exact mapM_all hbs x hx
theorem ns_replicate (s : Sh) : ∀ k, Sh.n.ns (List.replicate k s) = k * s.n
  | 0 => by simp [Sh.n.ns]
  | k + 1 => by rw [List.replicate_succ, Sh.n.ns, ns_replicate s k, Nat.add_mul]; omega
theorem fields_has {H : Type} {enc : TypeId × Value → H} {P : Program} {w : World} {base : Nat} {spare : Nat → Bool} {held : Bool} {fuel d : Nat} {cs : List Value}
    (ih : ∀ (t : TypeId) (cs : List Value) (x : DataW H × List MemPlace) (d : Nat) (sh : Sh), DataW.trod enc P w base spare held fuel t cs = some x → shOf P d t = some sh → ∃ as, Has sh as ∧ as.length = sh.n ∧ Cs w as cs) :
    ∀ (l : List Field) (o : Nat) (ps : List Sh), shFs P (shOf P d) l o = some ps → (∀ f ∈ l, ∃ y, DataW.trod enc P w base spare held fuel f.type ((cs.drop f.offset).take (P.cellsOf f.type)) = some y) →
      ∃ as, Has (.parts ps) as ∧ as.length = Sh.n.ns ps ∧ Cs w as ((cs.drop o).take (Sh.n.ns ps))
  | [], o, ps, h, _ => by
    simp only [shFs, Option.some.injEq] at h
    subst h
    exact ⟨[], .parts0, rfl, by simp [Sh.n.ns], fun j a v h => by simp at h⟩
  | fd :: l, o, ps, h, hf => by
    unfold shFs at h
    split at h
    · rename_i ho
      simp only [Option.bind_eq_some_iff] at h
      obtain ⟨s, hs, h⟩ := h
      split at h
      · rename_i hc
        simp only [Option.map_eq_some_iff] at h
        obtain ⟨ps', hps, rfl⟩ := h
        obtain ⟨y, hy⟩ := hf fd List.mem_cons_self
        obtain ⟨a, h1, h2, h3⟩ := ih _ _ _ d s hy hs
        obtain ⟨b, k1, k2, k3⟩ := fields_has ih l (o + s.n) ps' hps (fun f hfm => hf f (List.mem_cons_of_mem _ hfm))
        refine ⟨a ++ b, .parts1 s ps' a b h1 k1, by simp [Sh.n.ns, h2, k2], ?_⟩
        have := h3.append k3
        rw [ho, hc] at this
        rw [Sh.n.ns, List.take_add, List.drop_drop]
        exact this
      · cases h
    · cases h
theorem items_has {H : Type} {enc : TypeId × Value → H} {P : Program} {w : World} {base : Nat} {spare : Nat → Bool} {held : Bool} {fuel d e : Nat} {s : Sh} {cs : List Value} (hs : shOf P d e = some s) (hc : P.cellsOf e = s.n)
    (ih : ∀ (t : TypeId) (cs : List Value) (x : DataW H × List MemPlace) (d : Nat) (sh : Sh), DataW.trod enc P w base spare held fuel t cs = some x → shOf P d t = some sh → ∃ as, Has sh as ∧ as.length = sh.n ∧ Cs w as cs) :
    ∀ (k i0 : Nat), (∀ i, i0 ≤ i → i < i0 + k → ∃ y, DataW.trod enc P w base spare held fuel e ((cs.drop (i * P.cellsOf e)).take (P.cellsOf e)) = some y) →
      ∃ as, Has (.parts (List.replicate k s)) as ∧ as.length = k * s.n ∧ Cs w as ((cs.drop (i0 * s.n)).take (k * s.n))
  | 0, i0, _ => ⟨[], .parts0, by simp, by simp, fun j a v h => by simp at h⟩
  | k + 1, i0, hf => by
    obtain ⟨y, hy⟩ := hf i0 (Nat.le_refl _) (by omega)
    obtain ⟨a, h1, h2, h3⟩ := ih _ _ _ d s hy hs
    obtain ⟨b, k1, k2, k3⟩ := items_has hs hc ih k (i0 + 1) (fun i h1 h2 => hf i (by omega) (by omega))
    refine ⟨a ++ b, .parts1 s _ a b h1 k1, by simp [h2, k2, Nat.add_mul]; omega, ?_⟩
    have := h3.append k3
    rw [hc] at this
    rw [show (k + 1) * s.n = s.n + k * s.n by rw [Nat.add_mul]; omega, List.take_add, List.drop_drop, show i0 * s.n + s.n = (i0 + 1) * s.n by rw [Nat.add_mul]; omega]
    exact this
theorem trod_has {H : Type} {enc : TypeId × Value → H} {P : Program} {w : World} {base : Nat} {spare : Nat → Bool} {held : Bool} :
    ∀ (fuel : Nat) (t : TypeId) (cs : List Value) (x : DataW H × List MemPlace) (d : Nat) (sh : Sh), DataW.trod enc P w base spare held fuel t cs = some x → shOf P d t = some sh →
      ∃ as, Has sh as ∧ as.length = sh.n ∧ Cs w as cs := by
  intro fuel
  induction fuel with
  | zero => intro t cs x d sh h; simp [DataW.trod] at h
  | succ fuel ih =>
    intro t cs x d sh h hs
    cases d with
    | zero => simp [shOf] at hs
    | succ d =>
      unfold shOf at hs
      unfold DataW.trod at h
      split at hs
      · rename_i hu
        simp only [Option.some.injEq] at hs; subst hs
        simp only [hu] at h
        split at h <;> simp_all
        rename_i b
        exact ⟨_, .bool b, rfl, Cs.one (.bool b) rfl⟩
      · rename_i k hu
        simp only [Option.some.injEq] at hs; subst hs
        simp only [hu] at h
        split at h <;> simp_all
        rename_i k' n _
        obtain ⟨⟨rfl, hw⟩, _⟩ := h
        exact ⟨_, .int _ n hw, rfl, Cs.one (.int _ n) rfl⟩
      · rename_i hu
        simp only [Option.some.injEq] at hs; subst hs
        simp only [hu] at h
        split at h <;> simp_all
        exact ⟨[.str _], .str _ h.1, rfl, Cs.one (.str _) rfl⟩
      · rename_i e hu
        simp only [Option.bind_eq_some_iff] at hs
        obtain ⟨s, hse, ag, hag, hs⟩ := hs
        split at hs
        · rename_i hc
          simp only [Option.some.injEq] at hs; subst hs
          obtain ⟨hn0, hcn, ho⟩ := hc
          simp only [hu] at h
          split at h
          all_goals first
            | (rename_i heq; cases heq; done)
            | (cases h; done)
            | skip
          · refine ⟨[.osl []], .slice s ag [] (by simp) (by simp) (by simp), rfl, Cs.one (.osl (sz := 0) (fun _ _ => Go.undef) ⟨Nat.le_refl _, fun _ => rfl⟩ (by simp) (by simp) (by simp)) rfl⟩
          · rename_i e' a len cap heq
            obtain rfl : e = e' := by injection heq with h1; injection h1
            split at h
            · rename_i hl
              simp only [Option.bind_eq_some_iff, Option.map_eq_some_iff] at h
              obtain ⟨elems, hel, _⟩ := h
              obtain ⟨hlen, hat⟩ := mapM_at hel
              rw [List.length_range] at hlen
              have raw : ∀ i, i < len → ∃ cs' y, w.cells? base (a.add (i * P.cellsOf e)) (P.cellsOf e) = some cs' ∧ DataW.trod enc P w base spare held fuel e cs' = some y := by
                intro i hi
                have hy : elems[i]? = some (elems[i]'(by omega)) := List.getElem?_eq_getElem _
                obtain ⟨i', hi', hb⟩ := hat i _ hy
                obtain ⟨_, hi'⟩ := List.getElem?_eq_some_iff.1 hi'
                simp at hi'
                subst hi'
                simp only [Option.bind_eq_some_iff] at hb
                obtain ⟨cs', hcs, htr⟩ := hb
                exact ⟨cs', _, hcs, htr⟩
              have hsp : 0 < len → a.spot = none := by
                intro h0
                obtain ⟨cs', y, hcs, _⟩ := raw 0 h0
                obtain ⟨_, hcl, hcell⟩ := World.cells?_some hcs
                have hc := hcell 0 (by omega)
                have hv : cs'[0]? = some (cs'[0]'(by omega)) := List.getElem?_eq_getElem _
                rw [hv, Nat.zero_mul] at hc
                have e0 : (a.add 0).add 0 = a := by simp [Addr.add]
                rw [e0] at hc
                unfold World.cell? at hc
                split at hc
                · split at hc
                  · cases hc
                  · rename_i hns; simpa using hns
                · cases hc
              have each : ∀ i, ∃ as : List AV, i < len → Has s as ∧ as.length = s.n ∧ ∃ cs', Cs w as cs' ∧ cs'.length = s.n ∧ ∀ j, j < s.n → w.cell? (a.add (i * s.n + j)) = cs'[j]? ∧ a.spot = none := by
                intro i
                by_cases hi : i < len
                · obtain ⟨cs', y, hcs, htr⟩ := raw i hi
                  obtain ⟨as, h1, h2, h3⟩ := ih e cs' _ d s htr hse
                  obtain ⟨_, hcl, hcell⟩ := World.cells?_some hcs
                  rw [hcn] at hcl hcell
                  have hsp := hsp (by omega)
                  refine ⟨as, fun _ => ⟨h1, h2, cs', h3, hcl, fun j hj => ?_⟩⟩
                  have hc := hcell j hj
                  refine ⟨?_, hsp⟩
                  rw [addr_add a hsp, add_plain'] at hc
                  rw [addr_add a hsp, ← Nat.add_assoc]
                  exact hc
                · exact ⟨[], fun h => absurd h hi⟩
              let f := fun i => Classical.choose (each i)
              have hf : ∀ i, i < len → Has s (f i) ∧ (f i).length = s.n ∧ ∃ cs', Cs w (f i) cs' ∧ cs'.length = s.n ∧ ∀ j, j < s.n → w.cell? (a.add (i * s.n + j)) = cs'[j]? ∧ a.spot = none := fun i hi => Classical.choose_spec (each i) hi
              have hmem : ∀ x ∈ (List.range len).map (fun i => mk ag (f i)), ∃ i, i < len ∧ x = mk ag (f i) ∧ x.cells = f i ∧ x.ok = true := by
                intro x hx
                obtain ⟨i, hi, rfl⟩ := List.mem_map.1 hx
                have hi := List.mem_range.1 hi
                exact ⟨i, hi, rfl, (mk_cells ho (hf i hi).1).1, (mk_cells ho (hf i hi).1).2⟩
              have hxl : ((List.range len).map (fun i => mk ag (f i))).length = len := by simp
              refine ⟨[.osl ((List.range len).map fun i => mk ag (f i))], .slice s ag _ (by rw [hxl]; omega) (fun x hx => ?_) (fun x hx => ?_), rfl, ?_⟩
              · obtain ⟨i, hi, he, hc, _⟩ := hmem x hx
                rw [hc]; exact he
              · obtain ⟨i, hi, he, hc, _⟩ := hmem x hx
                rw [hc]; exact (hf i hi).1
              · refine Cs.one ?_ rfl
                have key : RF (AllF w) (.osl ((List.range len).map fun i => mk ag (f i))) (.slice (some a) ((List.range len).map fun i => mk ag (f i)).length cap) := by
                  refine .osl (sz := s.n) (fun i j => (w.cell? (a.add (i * s.n + j))).getD Go.undef) ⟨by rw [hxl]; exact hl.2.1, fun h => by cases h⟩ (fun x hx => ?_) (fun hne => ?_) (fun i j x u hx hu => ?_)
                  · obtain ⟨i, hi, he, hc, hk⟩ := hmem x hx
                    rw [hc]; exact ⟨(hf i hi).2.1, hk⟩
                  · have h0 : 0 < len := by
                      rw [← hxl]; exact List.length_pos_iff.2 hne
                    obtain ⟨_, _, cs0, hc0, hl0, hat0⟩ := hf 0 h0
                    have hsp := (hat0 0 hn0).2
                    refine ⟨a, rfl, hsp, fun _ => ?_, fun i j hi hj => ?_⟩
                    · have hc := (hat0 0 hn0).1
                      have hv : cs0[0]? = some (cs0[0]'(by omega)) := List.getElem?_eq_getElem _
                      rw [hv] at hc
                      unfold World.cell? at hc
                      rw [addr_block] at hc
                      split at hc
                      · rename_i hh
                        exact (Array.getElem?_eq_some_iff.1 hh).1
                      · cases hc
                    · rw [hxl] at hi
                      obtain ⟨_, hlf, cs', hcs', hl', hat'⟩ := hf i hi
                      have hc := (hat' j hj).1
                      have hv : cs'[j]? = some (cs'[j]'(by omega)) := List.getElem?_eq_getElem _
                      rw [hv] at hc
                      have ha : (f i)[j]? = some ((f i)[j]'(by omega)) := List.getElem?_eq_getElem _
                      show w.cell? (a.add (i * s.n + j)) = _ ∧ _
                      rw [hc]
                      exact ⟨rfl, (hcs'.2 j _ _ ha hv).2⟩
                  · have hi : i < len := by rw [← hxl]; exact (List.getElem?_eq_some_iff.1 hx).1
                    simp only [List.getElem?_map, List.getElem?_range hi, Option.map_some, Option.some.injEq] at hx
                    subst hx
                    obtain ⟨hh, hlf, cs', hcs', hl', hat'⟩ := hf i hi
                    rw [(mk_cells ho hh).1] at hu
                    have hj : j < s.n := by rw [← hlf]; exact (List.getElem?_eq_some_iff.1 hu).1
                    have hc := (hat' j hj).1
                    have hv : cs'[j]? = some (cs'[j]'(by omega)) := List.getElem?_eq_getElem _
                    rw [hc, hv]
                    exact (hcs'.2 j _ _ hu hv).1
                rw [hxl] at key
                exact key
            · cases h
        · cases hs
      · rename_i fs hu
        simp only [Option.bind_eq_some_iff] at hs
        obtain ⟨ps, hps, hs⟩ := hs
        split at hs
        · rename_i hct
          simp only [Option.some.injEq] at hs; subst hs
          simp only [hu] at h
          split at h
          · rename_i hl
            simp only [Option.map_eq_some_iff] at h
            obtain ⟨xs, hxs, _⟩ := h
            obtain ⟨as, h1, h2, h3⟩ := fields_has ih fs.toList 0 ps hps (fun f hf => mapM_all hxs f hf)
            refine ⟨as, h1, h2, ?_⟩
            rw [List.drop_zero, ← hct, ← hl, List.take_length] at h3
            exact h3
          · cases h
        · cases hs
      · rename_i n e hu
        simp only [Option.bind_eq_some_iff] at hs
        obtain ⟨s, hse, hs⟩ := hs
        split at hs
        · rename_i hct
          simp only [Option.some.injEq] at hs; subst hs
          simp only [hu] at h
          split at h
          · rename_i hl
            simp only [Option.map_eq_some_iff] at h
            obtain ⟨xs, hxs, _⟩ := h
            obtain ⟨as, h1, h2, h3⟩ := items_has hse hct.1 ih n 0 (fun i _ hi => mapM_all hxs i (List.mem_range.2 (by omega)))
            refine ⟨as, h1, by rw [h2]; exact (ns_replicate s n).symm, ?_⟩
            rw [Nat.zero_mul, List.drop_zero, ← hct.2, ← hl, List.take_length] at h3
            exact h3
          · cases h
        · cases hs
      · cases hs
theorem rf_agg {w : World} {as : List AV} {vs : Array Value} (hc : Cs w as (Value.agg vs).cells.toList) : RF (AllF w) (.agg as) (.agg vs) := by
  have hl : as.length = vs.size := by simpa [Value.cells] using hc.1
  refine .agg hl (fun j v hv => ?_) (fun j u v hu hv => (hc.2 j u v hu (by simpa [Value.cells] using hv)).1)
  have hj : j < as.length := by rw [hl]; exact (Array.getElem?_eq_some_iff.1 hv).1
  exact (hc.2 j _ v (List.getElem?_eq_getElem hj) (by simpa [Value.cells] using hv)).2
theorem RFs.nil {ro : RO} : RFs ro [] #[] := ⟨rfl, fun j a v h => by simp at h⟩
end Vai
