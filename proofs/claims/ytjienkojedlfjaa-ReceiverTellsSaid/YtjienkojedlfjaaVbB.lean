import Derived.Test.YtjienkojedlfjaaVbA
namespace Vai
open Go Go.RowKit
set_option linter.unusedVariables false
set_option linter.unusedSimpArgs false
def SameOn (σ : Map) (hp hp' : Hp) : Prop := ∀ s g l, σ s g l → hp' s g = hp s g
theorem loadV_on {P : Program} {ro : RO} {σ : Map} {hp hp' : Hp} (e : SameOn σ hp hp') {x : AV} {v : Value} (hx : RV ro σ x v) (t : TypeId) : loadV P hp' t x = loadV P hp t x := by
  unfold loadV
  cases tagg P t <;> try rfl
  simp only [Option.bind_some]
  cases tsz P t <;> try rfl
  simp only [Option.bind_some]
  cases x <;> try rfl
  obtain ⟨b, sz, N, hσ, _⟩ := hx.ptr_inv
  simp only [e _ _ _ hσ]
theorem conts_on {ro : RO} {σ : Map} {hp hp' : Hp} (e : SameOn σ hp hp') {x : AV} {v : Value} (hx : RV ro σ x v) : conts hp' x = conts hp x := by
  cases x <;> try rfl
  rcases hx.sl_inv with ⟨hσ, _⟩ | ⟨b, N, c, hσ, _⟩
  · simp only [conts, e _ _ _ hσ]
  · simp only [conts, e _ _ _ hσ]
theorem conts_elem {w0 : Base} {w : World} {ro : RO} {σ : Map} {hp : Hp} {gn : Nat → Nat} (hh : HRep w0 w ro σ hp gn) {x : AV} {v : Value} {xs : List AV} (hx : RV ro σ x v) (h : conts hp x = some xs) {y : AV} (hy : y ∈ xs) : ∃ u, RV ro σ y u := by
  obtain ⟨A, c, sz, V, rfl, hcc, hsz, hA, hV⟩ := conts_rep hh hx h
  obtain ⟨i, hi⟩ := List.getElem?_of_mem hy
  obtain ⟨ad, hAd, hsp, hcell⟩ := hA (by intro e; rw [e] at hi; simp at hi)
  have hlt : i < xs.length := (List.getElem?_eq_some_iff.1 hi).1
  by_cases hag : ∃ cs, y = .agg cs
  · obtain ⟨cs, rfl⟩ := hag
    have hcs : cs.length = sz := (hsz _ hy).1
    refine ⟨.agg ((List.range sz).map (V i)).toArray, .agg (by simp [hcs]) (fun j q hq => ?_) (fun j u q hu hq => ?_)⟩
    · simp only [List.getElem?_toArray, List.getElem?_map, Option.map_eq_some_iff] at hq
      obtain ⟨k, hk, rfl⟩ := hq
      obtain ⟨hlt', hkj⟩ := List.getElem?_eq_some_iff.1 hk
      simp at hlt' hkj
      exact (hcell i k hlt (by omega)).2
    · simp only [List.getElem?_toArray, List.getElem?_map, Option.map_eq_some_iff] at hq
      obtain ⟨k, hk, rfl⟩ := hq
      obtain ⟨hlt', hkj⟩ := List.getElem?_eq_some_iff.1 hk
      simp at hlt' hkj
      subst hkj
      exact hV i j _ u hi hu
  · have hx1 : y.cells = [y] := by cases y <;> first | rfl | exact absurd ⟨_, rfl⟩ hag
    exact ⟨V i 0, hV i 0 y y hi (by rw [hx1]; rfl)⟩
theorem mapM_congr {α β : Type} {f g : α → Option β} : ∀ (l : List α), (∀ x ∈ l, f x = g x) → l.mapM f = l.mapM g
  | [], _ => rfl
  | x :: l, h => by
    rw [List.mapM_cons, List.mapM_cons, h x (by simp), mapM_congr l (fun y hy => h y (by simp [hy]))]
theorem snap_on {w0 : Base} {w : World} {ro : RO} {σ : Map} {hp hp' : Hp} {gn : Nat → Nat} (hh : HRep w0 w ro σ hp gn) (e : SameOn σ hp hp') : ∀ (n : Nat) (x : AV) (v : Value), RV ro σ x v → snap hp' n x = snap hp n x ∧ refs hp' n x = refs hp n x ∧ ∀ s g, (s, g) ∈ refs hp n x → ∃ l, σ s g l := by
  intro n
  induction n with
  | zero => intro x v hx; exact ⟨rfl, rfl, by simp [refs]⟩
  | succ n ih =>
    intro x v hx
    unfold snap refs
    by_cases hf : x.free = true
    · rw [if_pos hf, if_pos hf, if_pos hf, if_pos hf]
      exact ⟨rfl, rfl, by simp⟩
    · rw [if_neg hf, if_neg hf, if_neg hf, if_neg hf]
      cases x <;> try exact ⟨rfl, rfl, by simp⟩
      case agg cs =>
        obtain ⟨vs, rfl, hl, h1, h2⟩ := hx.agg_inv
        have each : ∀ c ∈ cs, ∃ u, RV ro σ c u := fun c hc => by
          obtain ⟨j, hj⟩ := List.getElem?_of_mem hc
          have hlt : j < vs.size := by rw [← hl]; exact (List.getElem?_eq_some_iff.1 hj).1
          exact ⟨_, h2 j c _ hj (Array.getElem?_eq_getElem hlt)⟩
        refine ⟨?_, ?_, fun s g hm => ?_⟩
        · simp only []
          rw [mapM_congr cs (fun c hc => (ih c _ (each c hc).choose_spec).1)]
        · simp only []
          rw [List.flatMap_def, List.flatMap_def, List.map_congr_left (fun c hc => (ih c _ (each c hc).choose_spec).2.1)]
        · obtain ⟨c, hc, hm⟩ := List.mem_flatMap.1 hm
          exact (ih c _ (each c hc).choose_spec).2.2 s g hm
      case sl e0 s0 g0 lo len =>
        have hcon := conts_on e hx
        simp only [hcon]
        have hkey : ∃ l, σ s0 g0 l := by
          rcases hx.sl_inv with ⟨hσ, _⟩ | ⟨b, N, c, hσ, _⟩
          · exact ⟨_, hσ⟩
          · exact ⟨_, hσ⟩
        cases hc : conts hp (.sl e0 s0 g0 lo len) with
        | none =>
          refine ⟨rfl, rfl, fun s g hm => ?_⟩
          simp at hm
          obtain ⟨rfl, rfl⟩ := hm
          exact hkey
        | some xs =>
          have each : ∀ c ∈ xs, ∃ u, RV ro σ c u := fun c hc' => conts_elem hh hx hc hc'
          simp only [Option.bind_some, Option.getD_some]
          refine ⟨?_, ?_, fun s g hm => ?_⟩
          · rw [mapM_congr xs (fun c hc => (ih c _ (each c hc).choose_spec).1)]
          · rw [List.flatMap_def, List.flatMap_def, List.map_congr_left (fun c hc => (ih c _ (each c hc).choose_spec).2.1)]
          · rcases List.mem_cons.1 hm with hm | hm
            · simp only [Prod.mk.injEq] at hm
              obtain ⟨rfl, rfl⟩ := hm
              exact hkey
            · obtain ⟨c, hc, hm⟩ := List.mem_flatMap.1 hm
              exact (ih c _ (each c hc).choose_spec).2.2 s g hm
def Beside (d : Nat) (R : Act1) (hp : Hp) (gn : Gn) : Prop :=
  ∀ b, R (addH d (gn d) b hp) (addG d (gn d) gn) = (R hp gn).map (fun r => (r.1, addH d (gn d) b r.2.1, addG d (gn d) r.2.2)) ∧ ∀ r, R hp gn = some r → r.2.2 d = gn d
theorem addH_on {w0 : Base} {w : World} {ro : RO} {σ : Map} {hp : Hp} {gn : Nat → Nat} (hh : HRep w0 w ro σ hp gn) (d : Nat) (b : Option Blk) : SameOn σ hp (addH d (gn d) b hp) := by
  intro s g l hσ
  unfold addH
  rw [if_neg]
  rintro ⟨rfl, rfl⟩
  exact absurd (hh.lt _ _ _ hσ) (by omega)
theorem led_not {v : AV} {p : Nat × Nat} {l : List (Nat × Nat)} (h : p ∉ l) : p ∉ v.led l := by
  unfold AV.led; split
  · simp
  · exact h
theorem frz_addH {d g : Nat} {b : Option Blk} {l : List (Nat × Nat)} {hp : Hp} (h : (d, g) ∉ l) : frzH l (addH d g b hp) = addH d g b (frzH l hp) := by
  funext x y
  unfold frzH addH
  by_cases hc : x = d ∧ y = g
  · obtain ⟨rfl, rfl⟩ := hc
    rw [if_pos ⟨rfl, rfl⟩, if_pos ⟨rfl, rfl⟩]
    have : l.contains (x, y) = false := by simpa using h
    simp only [this]
    cases b <;> rfl
  · rw [if_neg hc, if_neg hc]
theorem addH_comm {d g d' g' : Nat} {b b' : Option Blk} {hp : Hp} (h : d ≠ d' ∨ g ≠ g') : addH d g b (addH d' g' b' hp) = addH d' g' b' (addH d g b hp) := by
  funext x y
  unfold addH
  by_cases h1 : x = d ∧ y = g <;> by_cases h2 : x = d' ∧ y = g'
  · obtain ⟨rfl, rfl⟩ := h1
    obtain ⟨rfl, rfl⟩ := h2
    simp at h
  · rw [if_pos h1, if_neg h2, if_pos h1]
  · rw [if_neg h1, if_pos h2, if_pos h2]
  · rw [if_neg h1, if_neg h2, if_neg h2, if_neg h1]
theorem addG_comm {d g d' g' : Nat} {gn : Gn} (h : d ≠ d') : addG d g (addG d' g' gn) = addG d' g' (addG d g gn) := by
  funext x
  unfold addG
  by_cases h1 : x = d
  · subst h1
    rw [if_pos rfl, if_neg h, if_pos rfl]
  · rw [if_neg h1]
    by_cases h2 : x = d'
    · rw [if_pos h2, if_pos h2]
    · rw [if_neg h2, if_neg h2, if_neg h1]
theorem addG_ne {d g x : Nat} {gn : Gn} (h : x ≠ d) : addG d g gn x = gn x := by unfold addG; rw [if_neg h]
theorem kind_beside {C : Cfg} {rc : Rec} {o : Oper} {st : St} {R : Act1} (hk : Kind C rc o st R) {w0 : Base} {w : World} {ro : RO} {σ : Map} {n : Nat} {a : Act} (hh : HRep w0 w ro σ st.hp st.gn) (hs : SRep w0 ro σ n st.sl a) {d : Nat} (hd : o.dst ≠ some d) (h6 : kls C o.op ≠ 6) :
    Beside d R st.hp st.gn := by
  have hev : ∀ x, RV ro σ (st.ev x) (a.eval x) := fun x => ev_rep hs x
  intro b
  have e := addH_on hh d b
  cases hk with
  | o R hk => exact absurd hk h6
  | p v => exact ⟨rfl, fun r hr => by simp only [pR, Option.some.injEq] at hr; subst hr; rfl⟩
  | @l t x ho =>
    refine ⟨?_, fun r hr => ?_⟩
    · simp only [lR, loadV_on e (hev x) t]
      cases loadV C.P st.hp t (st.ev x) <;> rfl
    · simp only [lR, Option.map_eq_some_iff] at hr
      obtain ⟨v, _, rfl⟩ := hr
      rfl
  | @x d' es v hk hd' =>
    have hne : d' ≠ d := fun h => hd (by rw [hd', h])
    refine ⟨?_, fun r hr => ?_⟩
    · simp only [xR, Option.map_some, addG_ne hne, Option.some.injEq, Prod.mk.injEq]
      exact ⟨trivial, addH_comm (.inl hne), addG_comm hne⟩
    · simp only [xR, Option.some.injEq] at hr
      subst hr
      exact addG_ne (fun h => hne h.symm)
  | @f f args hk =>
    have h1 : (args.map st.ev).mapM (snap (addH d (st.gn d) b st.hp) DEEP) = (args.map st.ev).mapM (snap st.hp DEEP) := mapM_congr _ (fun x hx => by
      obtain ⟨y, _, rfl⟩ := List.mem_map.1 hx
      exact (snap_on hh e DEEP _ _ (hev y)).1)
    have h2 : (args.map st.ev).flatMap (refs (addH d (st.gn d) b st.hp) DEEP) = (args.map st.ev).flatMap (refs st.hp DEEP) := by
      rw [List.flatMap_def, List.flatMap_def]
      congr 1
      refine List.map_congr_left (fun x hx => ?_)
      obtain ⟨y, _, rfl⟩ := List.mem_map.1 hx
      exact (snap_on hh e DEEP _ _ (hev y)).2.1
    have h3 : (d, st.gn d) ∉ (args.map st.ev).flatMap (refs st.hp DEEP) := by
      intro hm
      obtain ⟨x, hx, hm⟩ := List.mem_flatMap.1 hm
      obtain ⟨y, _, rfl⟩ := List.mem_map.1 hx
      obtain ⟨l, hl⟩ := (snap_on hh e DEEP _ _ (hev y)).2.2 _ _ hm
      exact absurd (hh.lt _ _ _ hl) (by omega)
    refine ⟨?_, fun r hr => ?_⟩
    · simp only [cR, fnF, h1, h2]
      cases (args.map st.ev).mapM (snap st.hp DEEP) with
      | none => rfl
      | some as =>
        simp only [Option.bind_some]
        cases fnV C rc f as with
        | none => rfl
        | some v => simp only [Option.map_some, frz_addH (led_not (v := v) h3)]
    · simp only [cR, Option.map_eq_some_iff] at hr
      obtain ⟨v, _, rfl⟩ := hr
      rfl
  | @b x hk =>
    refine ⟨?_, fun r hr => ?_⟩
    · simp only [cR, bsF, conts_on e (hev x)]
      cases conts st.hp (st.ev x) with
      | none => rfl
      | some xs =>
        simp only [Option.bind_some]
        cases xs.mapM byteV with
        | none => rfl
        | some bs => simp only [Option.map_some, frzH_nil]
    · simp only [cR, Option.map_eq_some_iff] at hr
      obtain ⟨v, _, rfl⟩ := hr
      rfl
  | @n d' x z by_ hk hd' =>
    have hne : d' ≠ d := fun h => hd (by rw [hd', h])
    refine ⟨?_, fun r hr => ?_⟩
    · simp only [nR, conts_on e (hev x)]
      cases conts st.hp (st.ev x) with
      | none => rfl
      | some xs =>
        simp only [Option.bind_some]
        split
        · simp only [Option.map_some, addG_ne hne, Option.some.injEq, Prod.mk.injEq]
          exact ⟨trivial, addH_comm (.inl hne), addG_comm hne⟩
        · rfl
    · simp only [nR, Option.bind_eq_some_iff] at hr
      obtain ⟨xs, _, hr⟩ := hr
      split at hr
      · simp only [Option.some.injEq] at hr
        subst hr
        exact addG_ne (fun h => hne h.symm)
      · cases hr
  | @v x n' e1 lo hi hk =>
    have hx := hev x
    have hF : arrF C.P n' e1 lo hi (st.ev x) (addH d (st.gn d) b st.hp) = arrF C.P n' e1 lo hi (st.ev x) st.hp := by
      unfold arrF
      generalize st.ev x = p at hx
      cases p <;> try rfl
      obtain ⟨b0, sz, N, hσ, _⟩ := hx.ptr_inv
      simp only [e _ _ _ hσ]
    refine ⟨?_, fun r hr => ?_⟩
    · simp only [cR, hF]
      cases hr : arrF C.P n' e1 lo hi (st.ev x) st.hp with
      | none => rfl
      | some r =>
        have hnot : (d, st.gn d) ∉ r.2 := by
          unfold arrF at hr
          generalize st.ev x = p at hx hr
          cases p <;> try (simp at hr; done)
          rename_i s g i off
          obtain ⟨b0, sz, N, hσ, _⟩ := hx.ptr_inv
          simp only [Option.bind_eq_some_iff] at hr
          obtain ⟨_, _, _, _, _, _, _, _, B, _, q, _, es, _, hr⟩ := hr
          split at hr
          · simp only [Option.some.injEq] at hr
            subst hr
            simp only [List.mem_singleton, Prod.mk.injEq, not_and]
            intro h1 h2
            have := hh.lt _ _ _ hσ
            subst h1
            omega
          · cases hr
        simp only [Option.map_some, frz_addH hnot]
    · simp only [cR, Option.map_eq_some_iff] at hr
      obtain ⟨v, _, rfl⟩ := hr
      rfl
  | @s t x y ho =>
    have hx := hev x
    simp only [sR, storeStep]
    generalize st.ev x = p at hx
    cases tsz C.P t with
    | none => exact ⟨rfl, fun r hr => by simp at hr⟩
    | some z =>
      simp only [Option.bind_some]
      cases p <;> try exact ⟨rfl, fun r hr => by simp at hr⟩
      rename_i s g i off
      obtain ⟨b0, sz, N, hσ, _⟩ := hx.ptr_inv
      have hne : s ≠ d ∨ g ≠ st.gn d := by
        by_cases h1 : s = d
        · subst h1; have := hh.lt _ _ _ hσ; exact .inr (by omega)
        · exact .inl h1
      simp only [bare, e _ _ _ hσ]
      cases st.hp s g with
      | none => exact ⟨rfl, fun r hr => by simp at hr⟩
      | some B =>
        simp only [Option.bind_some]
        cases B.es[i]? with
        | none => exact ⟨rfl, fun r hr => by simp at hr⟩
        | some q =>
          simp only [Option.bind_some]
          split
          · refine ⟨?_, fun r hr => ?_⟩
            · simp only [Option.map_some, St.setB, Option.some.injEq, Prod.mk.injEq, true_and, and_true]
              exact addH_comm hne
            · simp only [Option.map_some, Option.some.injEq] at hr
              subst hr
              rfl
          · exact ⟨rfl, fun r hr => by simp at hr⟩
  | @a d' t1 t2 s x c ho hc ha hd' =>
    have hne : d' ≠ d := fun h => hd (by rw [hd', h])
    have hx := hev x
    have hsv := hev s
    have hn : ∀ e1, appNews C.P e1 t2 (bare (addH d (st.gn d) b st.hp) (addG d (st.gn d) st.gn)) (st.ev x) = appNews C.P e1 t2 (bare st.hp st.gn) (st.ev x) := by
      intro e1
      have hc : conts (bare (addH d (st.gn d) b st.hp) (addG d (st.gn d) st.gn)).hp (st.ev x) = conts (bare st.hp st.gn).hp (st.ev x) := conts_on e hx
      unfold appNews
      generalize st.ev x = p at hc
      cases tint C.P t2 with
      | some k => rfl
      | none => cases p <;> first | rfl | (simp only []; rw [hc])
    have hb : ∀ e1, appBase C.P e1 (bare (addH d (st.gn d) b st.hp) (addG d (st.gn d) st.gn)) (st.ev s) = (appBase C.P e1 (bare st.hp st.gn) (st.ev s)).map fun r => (r.1, bare (addH d (st.gn d) b r.2.hp) (addG d (st.gn d) r.2.gn)) := by
      intro e1
      unfold appBase
      generalize st.ev s = p at hsv
      cases p <;> try rfl
      rename_i z a0 g lo len
      cases lo with
      | succ lo => rfl
      | zero =>
        have hk : ∃ l, σ a0 g l := by
          rcases hsv.sl_inv with ⟨hσ, _⟩ | ⟨b, N, c, hσ, _⟩
          · exact ⟨_, hσ⟩
          · exact ⟨_, hσ⟩
        obtain ⟨l, hσ⟩ := hk
        have hne : a0 ≠ d ∨ g ≠ st.gn d := by
          by_cases h1 : a0 = d
          · subst h1; have := hh.lt _ _ _ hσ; exact .inr (by omega)
          · exact .inl h1
        simp only [bare, e _ _ _ hσ]
        split
        · cases st.hp a0 g with
          | none => rfl
          | some B =>
            simp only [Option.bind_some]
            split
            · rfl
            · simp only [Option.map_some, Option.some.injEq, Prod.mk.injEq, true_and, St.setB]
              show (⟨_, addH a0 g none (addH d (st.gn d) b st.hp), _⟩ : St) = ⟨_, addH d (st.gn d) b (addH a0 g none st.hp), _⟩
              rw [addH_comm hne]
        · rfl
    have hg : ∀ e1 r, appBase C.P e1 (bare st.hp st.gn) (st.ev s) = some r → r.2.gn = st.gn := by
      intro e1 r hr
      unfold appBase at hr
      split at hr
      · simp only [Option.some.injEq] at hr; subst hr; rfl
      · simp only [Option.some.injEq] at hr; subst hr; rfl
      · split at hr
        · simp only [Option.bind_eq_some_iff] at hr
          obtain ⟨B, hB, hr⟩ := hr
          split at hr
          · cases hr
          · simp only [Option.some.injEq] at hr; subst hr; rfl
        · cases hr
      · cases hr
    simp only [aR, appendStep]
    cases tsl C.P t1 with
    | none => exact ⟨rfl, fun r hr => by simp at hr⟩
    | some e1 =>
      simp only [Option.bind_some]
      cases tsz C.P e1 with
      | none => exact ⟨rfl, fun r hr => by simp at hr⟩
      | some z =>
        simp only [Option.bind_some]
        cases tby C.P e1 with
        | none => exact ⟨rfl, fun r hr => by simp at hr⟩
        | some by_ =>
          simp only [Option.bind_some]
          cases tzero C.P e1 with
          | none => exact ⟨rfl, fun r hr => by simp at hr⟩
          | some zv =>
            simp only [Option.bind_some, hn]
            cases appNews C.P e1 t2 (bare st.hp st.gn) (st.ev x) with
            | none => exact ⟨rfl, fun r hr => by simp at hr⟩
            | some news =>
              simp only [Option.bind_some, hb]
              cases hbs : appBase C.P e1 (bare st.hp st.gn) (st.ev s) with
              | none => exact ⟨rfl, fun r hr => by simp at hr⟩
              | some r0 =>
                have hgn := hg e1 r0 hbs
                simp only [Option.map_some, Option.bind_some]
                split
                · refine ⟨?_, fun r hr => ?_⟩
                  · simp only [Option.map_some, Option.some.injEq, Prod.mk.injEq, St.put, St.new, if_true, bare, addG_ne hne, hgn]
                    refine ⟨trivial, ?_, ?_⟩
                    · show addH d' (st.gn d') _ (addH d (st.gn d) b r0.2.hp) = addH d (st.gn d) b (addH d' (st.gn d') _ r0.2.hp)
                      exact addH_comm (.inl hne)
                    · show addG d' (st.gn d') (addG d (st.gn d) st.gn) = addG d (st.gn d) (addG d' (st.gn d') st.gn)
                      exact addG_comm hne
                  · simp only [Option.map_some, Option.some.injEq] at hr
                    subst hr
                    show (if d = d' then _ else r0.2.gn d) = st.gn d
                    rw [if_neg (fun h => hne h.symm), hgn]
                · exact ⟨rfl, fun r hr => by simp at hr⟩
end Vai
