import Derived.Test.YtjienkojedlfjaaVoJ
import Derived.Test.YtjienkojedlfjaaVoG
namespace Vai
open Go Go.RowKit
set_option linter.unusedVariables false
set_option linter.unusedSimpArgs false
def flatS : Code → List Code
  | .seq a b => flatS a ++ flatS b
  | c => [c]
def wpF (P : Program) : List Code → (Exit → Act → World → Prop) → Act → World → Prop
  | [], Q, a, w => Q .normal a w
  | c :: l, Q, a, w => c.wp P (Exit.then (wpF P l Q) Q) a w
theorem then_mono {K K' : Act → World → Prop} {Q : Exit → Act → World → Prop} (hk : ∀ a w, K a w → K' a w) : ∀ e a w, Exit.then K Q e a w → Exit.then K' Q e a w
  | .normal, a, w, h => hk a w h
  | .exit _, _, _, h => h
  | .goto _, _, _, h => h
  | .ret, _, _, h => h
  | .panic _, _, _, h => h
  | .outgrown, _, _, h => h
theorem then_in2 {K K' : Act → World → Prop} {Q : Exit → Act → World → Prop} : ∀ e a w, Exit.then K Q e a w → Exit.then K (Exit.then K' Q) e a w
  | .normal, a, w, h => h
  | .exit _, _, _, h => h
  | .goto _, _, _, h => h
  | .ret, _, _, h => h
  | .panic _, _, _, h => h
  | .outgrown, _, _, h => h
theorem wpF_code {P : Program} : ∀ (c : Code) (l : List Code) (Q : Exit → Act → World → Prop) (a : Act) (w : World), wpF P (flatS c ++ l) Q a w → c.wp P (Exit.then (wpF P l Q) Q) a w := by
  intro c
  induction c with
  | seq x y ihx ihy =>
    intro l Q a w h
    rw [flatS, List.append_assoc] at h
    refine wp_seq (wp_mono (ihx _ _ _ _ h) fun e a w he => ?_)
    exact then_in2 e a w (then_mono (fun a w h => ihy l Q a w h) e a w he)
  | _ => intro l Q a w h; exact h
theorem wp_flat {P : Program} {c : Code} {Q : Exit → Act → World → Prop} {a : Act} {w : World} (h : wpF P (flatS c) Q a w) : c.wp P Q a w := by
  refine wp_mono (wpF_code c [] Q a w (by rw [List.append_nil]; exact h)) fun e a w he => ?_
  cases e <;> exact he
theorem stat_flat {C : Cfg} {m : Nat} : ∀ {c : Code}, codeStat C m c = true → ∀ x ∈ flatS c, codeStat C m x = true := by
  intro c
  induction c with
  | seq x y ihx ihy =>
    intro h z hz
    simp only [codeStat, Bool.and_eq_true] at h
    rcases List.mem_append.1 hz with hz | hz
    · exact ihx h.1 z hz
    · exact ihy h.2 z hz
  | _ => intro h z hz; obtain rfl := List.mem_singleton.1 hz; exact h
theorem wpF_head {C : Cfg} (hP : ProgOk C) (hX : ExtOk C) (hm : C.P.follows .mixedOrders = true) {k m n : Nat} (hmn : m ≤ n) {rest : List Code} {w0 : Base} {Q : Exit → Act → World → Prop} {s : St} :
    ∀ (pre : List Code) (st : St) (w : World) (ro : RO) (σ : Map) (a : Act), (∀ x ∈ pre, codeStat C m x = true) → execL C (exec C k) pre st = some (.normal, s) → HRep w0 w ro σ st.hp st.gn → SRep w0 ro σ n st.sl a →
      (∀ a' w', After w0 ro σ n s a' w' → wpF C.P rest Q a' w') → wpF C.P (pre ++ rest) Q a w
  | [], st, w, ro, σ, a, _, h, hh, hs, hQ => by
    simp only [execL, Option.some.injEq, Prod.mk.injEq, true_and] at h
    subst h
    exact hQ _ _ ⟨ro, σ, Ext.refl ro σ, hh, hs⟩
  | c :: pre, st, w, ro, σ, a, hst, h, hh, hs, hQ => by
    rcases bindE_some h with ⟨s1, h1, h2⟩ | ⟨hne, _⟩
    · refine wp_mono (exec_ok hP hX hm (k + 1) c m n st s1 .normal w0 w ro σ a h1 (hst c (List.mem_cons_self ..)) hmn hh hs) (fun x a' w' ⟨hx, ro', σ', he, hh', hs'⟩ => ?_)
      subst hx
      exact wpF_head hP hX hm hmn pre s1 w' ro' σ' a' (fun x hx => hst x (List.mem_cons_of_mem _ hx)) h2 hh' hs' (fun a2 w2 h2 => hQ a2 w2 (h2.trans he))
    · exact absurd rfl hne
theorem wpF_tail {C : Cfg} (hP : ProgOk C) (hX : ExtOk C) (hm : C.P.follows .mixedOrders = true) {k m n : Nat} (hmn : m ≤ n) {w0 : Base} {Q : Exit → Act → World → Prop} {s : St} {e : E} :
    ∀ (post : List Code) (st : St) (w : World) (ro : RO) (σ : Map) (a : Act), (∀ x ∈ post, codeStat C m x = true) → execL C (exec C k) post st = some (e, s) → HRep w0 w ro σ st.hp st.gn → SRep w0 ro σ n st.sl a →
      (∀ a' w', After w0 ro σ n s a' w' → Q e.toExit a' w') → wpF C.P post Q a w
  | [], st, w, ro, σ, a, _, h, hh, hs, hQ => by
    simp only [execL, Option.some.injEq, Prod.mk.injEq] at h
    obtain ⟨rfl, rfl⟩ := h
    exact hQ _ _ ⟨ro, σ, Ext.refl ro σ, hh, hs⟩
  | c :: post, st, w, ro, σ, a, hst, h, hh, hs, hQ => by
    rcases bindE_some h with ⟨s1, h1, h2⟩ | ⟨hne, h1⟩
    · refine wp_mono (exec_ok hP hX hm (k + 1) c m n st s1 .normal w0 w ro σ a h1 (hst c (List.mem_cons_self ..)) hmn hh hs) (fun x a' w' ⟨hx, ro', σ', he, hh', hs'⟩ => ?_)
      subst hx
      exact wpF_tail hP hX hm hmn post s1 w' ro' σ' a' (fun x hx => hst x (List.mem_cons_of_mem _ hx)) h2 hh' hs' (fun a2 w2 h2 => hQ a2 w2 (h2.trans he))
    · refine wp_mono (exec_ok hP hX hm (k + 1) c m n st s e w0 w ro σ a h1 (hst c (List.mem_cons_self ..)) hmn hh hs) (fun x a' w' ⟨hx, haft⟩ => ?_)
      subst hx
      exact toExit_normal hne _ _ _ _ (hQ _ _ haft)
theorem range_fn {C : Cfg} (hP : ProgOk C) (hX : ExtOk C) (hm : C.P.follows .mixedOrders = true) {f : FuncId} {fn : Func} {c : Code} (hf : C.P.funcs[f]? = some fn) (hb : fn.body = some c) (hsk : C.skip f = false)
    {pre post : List Code} {id : Nat} {g : Operand} {ps : Array Tmp} {assign body : Code} (hflat : flatS c = pre ++ .block id (.rangeFunc g ps assign body) :: post)
    (hsa : codeStat C fn.ntmps assign = true) (hsb : codeStat C fn.ntmps body = true) (hfa : flatC assign = true) (hfb : flatC body = true) (hps : ∀ p ∈ ps.toList, p < fn.ntmps)
    {k j : Nat} {as : List AV} {st1 st2 st3 : St} {e e3 : E} {it : FuncId} {caps : List AV} {pr : List (AV × (Nat × Nat))} {outs : List (List AV)} {vs : List AV} {r : AV}
    (h1 : execL C (exec C k) pre { sl := fun i => as.getD i .undef, hp := fun _ _ => none, gn := fun _ => 0 } = some (.normal, st1))
    (hg : st1.ev g = .fn it [] caps) (hcap : caps.mapM (cptV st1.hp) = some pr) (hit : ItrOk C.P it (pr.map (·.1)) outs) (hen : ∀ args w, (callFunc it args).run C.P w = .ok (.enter it args) w)
    (hr : rnds (execC C (exec C j) assign) (execC C (exec C j) body) ps.toList st1.sl outs (st1.frz (pr.map (·.2))) = some (e, st2))
    (h3 : bindE (leave id (some (e, { st2 with sl := st1.sl }))) (execL C (exec C k) post) = some (e3, st3)) (he3 : e3 = .normal ∨ e3 = .ret)
    (hres : fn.results.toList.mapM (resV C.P st3) = some vs) (hsn : snapR st3.hp (resT vs) = some r) : FnOk C.P f as r := by
  intro w F vals hF ha
  obtain ⟨hst, hnm⟩ := hP f fn c hsk hf hb
  refine .inl ⟨callFunc_enter hf hb hnm vals w, callsIn_wide.1 (callsIn_of_wp_marks (F := Fence.wide) (n := 0) hf hb trivial (wpIn_wide.2 (wp_flat ?_)))⟩
  have hn : fn.ntmps ≤ vals.size + (fn.ntmps - vals.size) := by omega
  rw [hflat]
  have hsf := stat_flat hst
  rw [hflat] at hsf
  refine wpF_head hP hX hm hn pre _ w ⟨w, F⟩ (fun _ _ _ => False) _ (fun x hx => hsf x (List.mem_append_left _ hx)) h1 (w0 := ⟨w, F, [], fun _ => False, w⟩) (HRep.start hF) (SRep.enter rfl ⟨ha.1, fun j a v h1 h2 => .free (ha.2 j a v h1 h2)⟩ fn.ntmps) ?_
  rintro a1 w1 ⟨ro1, σ1, x1, g1, s1⟩
  have hw1 : w.heap.size ≤ w1.heap.size := g1.below.size
  have hrg := range_ok hP hX hm hsa hsb hfa hfb hn (fun p hp => Nat.lt_of_lt_of_le (hps p hp) hn) hg hcap hit hen hr g1 (fun _ h => h) s1
  have goal : ∀ (a2 : Act) (w2 : World) (ro2 : RO) (σ2 : Map), Ext ro1 ro2 σ1 σ2 → HRep ⟨w, F, [markD w1.heap.size], fun _ => False, w⟩ w2 ro2 σ2 st3.hp st3.gn → SRep ⟨w, F, [markD w1.heap.size], fun _ => False, w⟩ ro2 σ2 (vals.size + (fn.ntmps - vals.size)) st3.sl a2 →
      ro2.F w1.heap.size → ro2.w.heap[w1.heap.size]? = some (.deferred (some [])) →
      LeavesInM Fence.wide 0 C.P fn a2.tmps (fun e w' => ∃ v, e = .returned v ∧ Below w.heap.size w w' ∧ RR ⟨w', fun b => F b ∨ (w.heap.size ≤ b ∧ b < w'.heap.size)⟩ r v) a2.defers .returning w2 := by
    intro a2 w2 ro2 σ2 x2 g2 s2 hD1 hD2
    have hD : w2.heap[w1.heap.size]? = some (.deferred (some [])) := (g2.fr _ hD1).2.trans hD2
    have hd2 : a2.defers = [markD w1.heap.size] := s2.nodef
    rw [hd2]
    obtain ⟨g3, rv3⟩ := g2.drop (fun _ h => h) (b0 := w1.heap.size) (fun arr t fz h => by rw [hD] at h; cases h) hw1 (grown_put w2 w1.heap.size (.deferred none))
    have s3 : SRep ⟨w, F, [markD w1.heap.size], fun _ => False, w⟩ ⟨w2.putObj w1.heap.size (.deferred none), fun b => ro2.F b ∧ b ≠ w1.heap.size⟩ σ2 (vals.size + (fn.ntmps - vals.size)) st3.sl a2 := ⟨s2.size, fun d => rv3 (s2.at_ d), s2.nodef⟩
    obtain ⟨v, hv, hrv⟩ := results_run (P := C.P) g3 s3 hres
    refine ⟨by simp, .inl ⟨w1.heap.size, _, rfl, run_takeDeferred hD, v, hv, v, rfl, g3.below, ?_⟩⟩
    refine snapR_rep g3 (fun b hb => ?_) (fun s g B b sz N hB hσ => ?_) hsn hrv
    · rcases g3.sub b hb with h1 | h1
      · exact .inl h1
      · exact .inr ⟨h1, (g3.fr b hb).1⟩
    · obtain ⟨l, hl, hblk⟩ := g3.blk _ _ _ hB
      obtain rfl := g3.fn _ _ _ _ hl hσ
      by_cases hfr : B.fr = true
      · have hb := g3.frz _ _ _ _ _ _ hB hfr hσ
        rcases g3.sub b hb with h1 | h1
        · exact .inl h1
        · exact .inr ⟨h1, hblk.lt⟩
      · exact .inr ⟨(g3.own _ _ _ _ _ _ hB (by simpa using hfr) hσ).2, hblk.lt⟩
  have done : ∀ (e4 : E) (a2 : Act) (w2 : World) (ro2 : RO) (σ2 : Map), (e4 = .normal ∨ e4 = .ret) → Ext ro1 ro2 σ1 σ2 → HRep ⟨w, F, [markD w1.heap.size], fun _ => False, w⟩ w2 ro2 σ2 st3.hp st3.gn → SRep ⟨w, F, [markD w1.heap.size], fun _ => False, w⟩ ro2 σ2 (vals.size + (fn.ntmps - vals.size)) st3.sl a2 →
      ro2.F w1.heap.size → ro2.w.heap[w1.heap.size]? = some (.deferred (some [])) → bodyPostM Fence.wide 0 C.P fn (fun e w' => ∃ v, e = .returned v ∧ Below w.heap.size w w' ∧ RR ⟨w', fun b => F b ∨ (w.heap.size ≤ b ∧ b < w'.heap.size)⟩ r v) e4.toExit a2 w2 := by
    intro e4 a2 w2 ro2 σ2 he4 x2 g2 s2 d1 d2
    rcases he4 with rfl | rfl
    · exact goal a2 w2 ro2 σ2 x2 g2 s2 d1 d2
    · exact goal a2 w2 ro2 σ2 x2 g2 s2 d1 d2
  refine wp_block (wp_mono hrg ?_)
  rintro x a2 w2 ⟨rfl, rfl, ro2, σ2, x2, g2, d1, d2⟩
  have s2 : SRep ⟨w, F, [markD w1.heap.size], fun _ => False, w⟩ ro2 σ2 (vals.size + (fn.ntmps - vals.size)) st1.sl { a1 with defers := markD w1.heap.size :: a1.defers } := by
    have := s1.mono x2
    exact ⟨this.size, this.at_, by have h := this.nodef; simp only at h ⊢; rw [h]⟩
  have more : execL C (exec C k) post { st2 with sl := st1.sl } = some (e3, st3) → wpF C.P post (bodyPostM Fence.wide 0 C.P fn (fun e w' => ∃ v, e = .returned v ∧ Below w.heap.size w w' ∧ RR ⟨w', fun b => F b ∨ (w.heap.size ≤ b ∧ b < w'.heap.size)⟩ r v)) { a1 with defers := markD w1.heap.size :: a1.defers } w2 := fun hp => by
    refine wpF_tail hP hX hm hn post { st2 with sl := st1.sl } w2 ro2 σ2 _ (fun x hx => hsf x (by simp [hx])) hp (g2.on [markD w1.heap.size]) s2 ?_
    rintro a3 w3 ⟨ro3, σ3, x3, g3, s3⟩
    exact done e3 a3 w3 ro3 σ3 he3 (x2.trans x3) g3 s3 (x3.f _ d1).1 ((x3.f _ d1).2.trans d2)
  cases e with
  | normal => exact more h3
  | exit i =>
    simp only [E.toExit, Exit.inBlock]
    unfold leave at h3
    simp only at h3
    by_cases hi : i = id
    · rw [if_pos hi] at h3 ⊢
      exact more h3
    · rw [if_neg hi] at h3
      simp only [bindE, Option.some.injEq, Prod.mk.injEq] at h3
      obtain ⟨rfl, _⟩ := h3
      rcases he3 with h | h <;> cases h
  | ret =>
    simp only [leave, bindE, Option.some.injEq, Prod.mk.injEq] at h3
    obtain ⟨rfl, rfl⟩ := h3
    exact done .ret _ w2 ro2 σ2 (.inr rfl) x2 (g2.on _) s2 d1 d2
end Vai
