import Derived.Test.YtjienkojedlfjaaVbT
import Derived.RangeFuncRecord
import Derived.OrdersIn
namespace Vai
open Go Go.RowKit
set_option linter.unusedVariables false
set_option linter.unusedSimpArgs false
abbrev FQ (rd : Option Nat) : Fence := { Fence.wide with round := rd }
abbrev FR (l : Nat) : Fence := Fence.wide.inRound l
def noDef (ops : Array Oper) : Bool := ops.toList.all fun o => match o.op with | .defer _ => false | _ => true
theorem noDef_at {ops : Array Oper} (h : noDef ops = true) {i : Nat} {o : Oper} (hi : ops[i]? = some o) : ∀ c, o.op ≠ .defer c := by
  intro c hc
  unfold noDef at h
  rw [List.all_eq_true] at h
  have := h o (List.mem_of_getElem? (by rw [Array.getElem?_toList]; exact hi))
  simp [hc] at this
theorem opwp_in {P : Program} {o : Oper} {a : Act} {w : World} {K : Act → World → Prop} {Q : Exit → Act → World → Prop} (hd : ∀ c, o.op ≠ .defer c) (rd : Option Nat) (k : Nat) (h : o.wp P a w K Q) : o.wpIn (FQ rd) k P a w K Q := by
  refine ⟨fun _ _ => trivial, ?_⟩
  rw [Oper.semAt_eq _ _ _ hd]
  unfold Oper.wp at h
  generalize (execOp a.eval o).run P w = r at *
  cases r with
  | ok x w' =>
    cases x <;> simp only [Oper.upon, Oper.uponIn] at h ⊢ <;> first
      | exact h
      | exact ⟨fun h0 => by simp [Fence.wide] at h0, (callsIn_wide (n := k - 1)).2 h⟩
      | exact ⟨fun h0 => by simp [Fence.wide] at h0, fun c cs _ => let ⟨v, w', r, s⟩ := h c cs; ⟨v, w', r, stepsIn_wide.2 s⟩⟩
  | halt x w' => cases x <;> simp only [Oper.upon, Oper.uponIn] at h ⊢ <;> exact h
theorem wpOp_in {P : Program} {ops : Array Oper} {i : Nat} {a : Act} {w : World} {K K' : Act → World → Prop} {Q : Exit → Act → World → Prop} (hK : ∀ a w, K a w → K' a w) (hd : noDef ops = true) (hQ : ¬ LetsOut Q) (rd : Option Nat) (k : Nat)
    (h : wpOp P ops Q i K a w) : wpOpIn (FQ rd) k P ops Q i K' a w := by
  unfold wpOp at h
  unfold wpOpIn
  cases ho : ops[i]? with
  | none => simp only [ho] at h ⊢; exact hK _ _ h
  | some o =>
    simp only [ho] at h ⊢
    split
    · rename_i hw
      rw [if_pos hw] at h
      rcases h with h | ⟨_, h⟩
      · exact Oper.wpIn_mono hK (opwp_in (noDef_at hd ho) rd k h)
      · exact absurd h hQ
    · rename_i hw
      rw [if_neg hw] at h
      exact ⟨fun _ _ => trivial, hK _ _ h⟩
theorem opwp_Q {P : Program} {o : Oper} {a : Act} {w : World} {K : Act → World → Prop} {Q : Exit → Act → World → Prop} (h : o.wp P a w K (fun _ _ _ => False)) : o.wp P a w K Q := by
  have no : ¬ LetsOut (fun _ _ _ => False) := fun ⟨_, _, h⟩ => h
  unfold Oper.wp at h ⊢
  generalize (execOp a.eval o).run P w = r at *
  cases r with
  | ok x w' =>
    cases x <;> simp only [Oper.upon] at h ⊢ <;> first
      | exact h
      | exact Calls.mono h (fun e w'' he => by cases e <;> first | exact he | exact he.elim | exact absurd he no)
  | halt x w' => cases x <;> simp only [Oper.upon] at h ⊢
theorem wpOps_in {P : Program} {ops : Array Oper} {Q : Exit → Act → World → Prop} (hd : noDef ops = true) (hQ : ¬ LetsOut Q) (rd : Option Nat) (k : Nat) : ∀ (is : List Nat) (a : Act) (w : World), wpOps P ops Q is a w → wpOpsIn (FQ rd) k P ops Q is a w
  | [], _, _, h => h
  | i :: is, a, w, h => by
    rw [wpOps_cons] at h
    rw [wpOpsIn_cons]
    exact wpOp_in (fun a w h => wpOps_in hd hQ rd k is a w h) hd hQ rd k h
theorem wpAny_in {P : Program} {ops : Array Oper} {Q : Exit → Act → World → Prop} (hd : noDef ops = true) (hQ : ¬ LetsOut Q) (rd : Option Nat) (k : Nat) : ∀ (fuel : Nat) (listed : Array Bool) (a : Act) (w : World), wpAny P .any ops Q fuel listed a w → wpAnyIn (FQ rd) k P .any ops Q fuel listed a w
  | 0, _, _, _, h => h
  | fuel + 1, listed, a, w, h => ⟨h.1, fun i hi => wpOp_in (fun a w h => wpAny_in hd hQ rd k fuel _ a w h) hd hQ rd k (h.2 i hi)⟩
def flatC : Code → Bool
  | .skip | .exit _ | .ret => true
  | .seq a b => flatC a && flatC b
  | .region _ ops _ => noDef ops
  | .cond _ a b => flatC a && flatC b
  | .block _ c => flatC c
  | _ => false
theorem good_in (w0 : Base) (ro : RO) (σ : Map) (n : Nat) (st : St) (e : E) : ¬ LetsOut (Good w0 ro σ n st e) := by
  rintro ⟨a, w, h, _⟩
  cases e <;> cases h
theorem then_in {C : Cfg} {n l k : Nat} {c : Code} {f : St → Option (E × St)}
    (hc : ∀ (st st' : St) (e : E) (w0 : Base) (w : World) (ro : RO) (σ : Map) (a : Act), f st = some (e, st') → HRep w0 w ro σ st.hp st.gn → SRep w0 ro σ n st.sl a → c.wpIn (FR l) k C.P (Good w0 ro σ n st' e) a w)
    {g : St → Option (E × St)} {st st' : St} {e : E} (h : bindE (f st) g = some (e, st')) {w0 : Base} {w : World} {ro : RO} {σ : Map} {a : Act}
    (hh : HRep w0 w ro σ st.hp st.gn) (hs : SRep w0 ro σ n st.sl a) {K : Act → World → Prop}
    (hK : ∀ s a' w' ro' σ', g s = some (e, st') → Ext ro ro' σ σ' → HRep w0 w' ro' σ' s.hp s.gn → SRep w0 ro' σ' n s.sl a' → K a' w') : c.wpIn (FR l) k C.P (Exit.then K (Good w0 ro σ n st' e)) a w := by
  rcases bindE_some h with ⟨s, h1, h2⟩ | ⟨hne, h1⟩
  · refine wpIn_mono (hc st s .normal w0 w ro σ a h1 hh hs) (fun x a' w' ⟨hx, ro', σ', he, hh', hs'⟩ => ?_)
    subst hx
    exact hK s a' w' ro' σ' h2 he hh' hs'
  · refine wpIn_mono (hc st st' e w0 w ro σ a h1 hh hs) (fun x a' w' ⟨hx, haft⟩ => ?_)
    subst hx
    exact toExit_normal hne _ _ _ _ ⟨rfl, haft⟩
theorem draw_in {C : Cfg} {rc : Rec} (hrc : CodeOk C rc) (hP : ProgOk C) (hX : ExtOk C) (hm : C.P.follows .mixedOrders = true) {ops : Array Oper} {id m n l k : Nat} {st st' : St} (h : iops C rc ops ops.toList st = some st') (hd : dstOk m ops = true) (hmn : m ≤ n)
    (hst : okStat C ops = true) (hdyn : dynOk C ops st' = true) (hn : noDef ops = true) {w0 : Base} {w : World} {ro : RO} {σ : Map} {a : Act}
    (hh : HRep w0 w ro σ st.hp st.gn) (hs : SRep w0 ro σ n st.sl a) {Q : Exit → Act → World → Prop} (hL : ¬ LetsOut Q) (hQ : ∀ a' w', After w0 ro σ n st' a' w' → Q .normal a' w') : (Code.region id ops true).wpIn (FR l) k C.P Q a w := by
  refine wpIn_region_any hm (wpAny_in hn hL (some l) k _ _ _ _ ?_)
  have hrem : rem ops (Array.replicate ops.size false) = List.range ops.size := by
    unfold rem
    rw [List.filter_eq_self]
    intro k hk
    have hlt := List.mem_range.1 hk
    simp [Array.getD_eq_getD_getElem?, hlt]
  have hh' : HRep w0 { w with drawn := w.drawn + 1 } ro σ st.hp st.gn := by
    refine ⟨⟨hh.below.os, hh.below.tape, hh.below.output, hh.below.size, hh.below.block⟩, hh.fr, hh.sub, hh.fn, hh.lt, fun s g B hB => ?_, hh.own, hh.frz, hh.inj, hh.hid, hh.dis, hh.oh⟩
    obtain ⟨l, hl, hb⟩ := hh.blk s g B hB
    exact ⟨l, hl, hb.mono (Ext.refl ro σ) (fun _ _ _ _ => rfl)⟩
  refine any_ok hrc hP hX hd hmn hst hdyn ops.size _ st _ ro σ a (by rw [hrem, List.length_range]) (by simp) (fun k o ho hk => ?_) ?_ hh' hs hQ
  · have hlt := (Array.getElem?_eq_some_iff.1 ho).1
    simp [Array.getD_eq_getD_getElem?, hlt] at hk
  · rw [hrem, List.range_eq_range']
    have := runI_iops (C := C) (rc := rc) (ops := ops) ops.toList 0 st (fun j hj => by simp)
    rw [Array.length_toList] at this
    rw [this, h]
theorem execIn_ok {C : Cfg} (hP : ProgOk C) (hX : ExtOk C) (hm : C.P.follows .mixedOrders = true) (j l k : Nat) :
    ∀ (c : Code) (m n : Nat), codeStat C m c = true → flatC c = true → m ≤ n → ∀ (st st' : St) (e : E) (w0 : Base) (w : World) (ro : RO) (σ : Map) (a : Act), execC C (exec C j) c st = some (e, st') → HRep w0 w ro σ st.hp st.gn → SRep w0 ro σ n st.sl a →
      c.wpIn (FR l) k C.P (Good w0 ro σ n st' e) a w := by
  intro c
  induction c with
  | skip =>
    intro m n _ _ _ st st' e w0 w ro σ a h hh hs
    simp only [execC, Option.some.injEq, Prod.mk.injEq] at h
    obtain ⟨rfl, rfl⟩ := h
    exact wpIn_skip ⟨rfl, ro, σ, Ext.refl ro σ, hh, hs⟩
  | exit i =>
    intro m n _ _ _ st st' e w0 w ro σ a h hh hs
    simp only [execC, Option.some.injEq, Prod.mk.injEq] at h
    obtain ⟨rfl, rfl⟩ := h
    exact wpIn_exit ⟨rfl, ro, σ, Ext.refl ro σ, hh, hs⟩
  | ret =>
    intro m n _ _ _ st st' e w0 w ro σ a h hh hs
    simp only [execC, Option.some.injEq, Prod.mk.injEq] at h
    obtain ⟨rfl, rfl⟩ := h
    exact wpIn_ret ⟨rfl, ro, σ, Ext.refl ro σ, hh, hs⟩
  | seq x y ihx ihy =>
    intro m n hst hf hmn st st' e w0 w ro σ a h hh hs
    simp only [codeStat, Bool.and_eq_true] at hst
    simp only [flatC, Bool.and_eq_true] at hf
    simp only [execC] at h
    exact wpIn_seq (then_in (ihx m n hst.1 hf.1 hmn) h hh hs (fun s a' w' ro' σ' hg he hh' hs' =>
      wpIn_mono (ihy m n hst.2 hf.2 hmn s st' e w0 w' ro' σ' a' hg hh' hs') (Good.weaken he)))
  | region id ops d =>
    intro m n hst hf hmn st st' e w0 w ro σ a h hh hs
    simp only [codeStat, Bool.and_eq_true, Bool.or_eq_true, Bool.not_eq_true'] at hst
    simp only [flatC] at hf
    simp only [execC, Option.bind_eq_some_iff] at h
    obtain ⟨s, h1, h⟩ := h
    split at h
    · cases h
    · rename_i hd
      simp only [Option.some.injEq, Prod.mk.injEq] at h
      obtain ⟨rfl, rfl⟩ := h
      cases d with
      | false =>
        refine wpIn_region (wpOps_in hf (good_in w0 ro σ n s .normal) (some l) k _ _ _ ?_)
        have := iops_ok (exec_ok hP hX hm j) hP hX hst.1 hmn (Q := Good w0 ro σ n s .normal) ops.toList 0 st w ro σ a (fun j => by simp) h1 hh hs (fun a' w' ha => ⟨rfl, ha⟩)
        rw [Array.length_toList] at this
        rw [List.range_eq_range']
        exact this
      | true =>
        simp only [Bool.true_and, Bool.not_eq_true', Bool.not_eq_false] at hd
        exact draw_in (exec_ok hP hX hm j) hP hX hm h1 hst.1 hmn (hst.2.resolve_left (by simp)) hd hf hh hs (good_in w0 ro σ n s .normal) (fun a' w' ha => ⟨rfl, ha⟩)
  | cond x y z ihy ihz =>
    intro m n hst hf hmn st st' e w0 w ro σ a h hh hs
    simp only [codeStat, Bool.and_eq_true] at hst
    simp only [flatC, Bool.and_eq_true] at hf
    simp only [execC] at h
    split at h
    · rename_i t ht
      have hx := ev_rep hs x
      rw [ht] at hx
      refine wpIn_cond hx.bool_inv ?_
      split at h
      · rename_i h1; rw [if_pos h1]; exact ihy m n hst.1 hf.1 hmn st st' e w0 w ro σ a h hh hs
      · rename_i h1; rw [if_neg h1]; exact ihz m n hst.2 hf.2 hmn st st' e w0 w ro σ a h hh hs
    · cases h
  | block id x ih =>
    intro m n hst hf hmn st st' e w0 w ro σ a h hh hs
    simp only [codeStat] at hst
    simp only [flatC] at hf
    simp only [execC] at h
    unfold leave at h
    split at h
    · rename_i i s hr
      simp only [Option.some.injEq, Prod.mk.injEq] at h
      obtain ⟨he, rfl⟩ := h
      refine wpIn_block (wpIn_mono (ih m n hst hf hmn st s (.exit i) w0 w ro σ a hr hh hs) (fun x a' w' ⟨hx, haft⟩ => ?_))
      subst hx
      simp only [E.toExit, Exit.inBlock]
      split at he
      · rename_i hi; subst he; rw [if_pos hi]; exact ⟨rfl, haft⟩
      · rename_i hi; subst he; rw [if_neg hi]; exact ⟨rfl, haft⟩
    · rename_i hne
      refine wpIn_block (wpIn_mono (ih m n hst hf hmn st st' e w0 w ro σ a h hh hs) (fun x a' w' ⟨hx, haft⟩ => ?_))
      subst hx
      cases e with
      | normal => exact ⟨rfl, haft⟩
      | exit i => exact absurd h (hne i st')
      | ret => exact ⟨rfl, haft⟩
  | _ =>
    intro m n _ hf
    simp [flatC] at hf
theorem HRep.grow {w0 : Base} {w w' : World} {ro : RO} {σ : Map} {hp : Hp} {gn : Nat → Nat} (h : HRep w0 w ro σ hp gn) (hH : ∀ b, ¬ w0.H b) (hb : Below w.heap.size w w') {X : Nat → Prop}
    (hX : ∀ b, X b → b < w'.heap.size ∧ w0.w.heap.size ≤ b ∧ (w.heap.size ≤ b ∨ ∀ arr e fz, w'.heap[b]? ≠ some (.cells arr e fz))) :
    HRep w0 w' ⟨w', fun b => ro.F b ∨ X b⟩ σ hp gn ∧ Ext ro ⟨w', fun b => ro.F b ∨ X b⟩ σ σ := by
  have e : Ext ro ⟨w', fun b => ro.F b ∨ X b⟩ σ σ := ⟨fun b hF => ⟨.inl hF, (hb.block b (h.fr b hF).1).trans (h.fr b hF).2⟩, fun _ _ _ h => h⟩
  have blk : ∀ {s g B b sz N}, hp s g = some B → σ s g (.real b sz N) → RBlk ro σ w B.es (.real b sz N) := by
    intro s g B b sz N hB hσ
    obtain ⟨l', hl', hb⟩ := h.blk _ _ _ hB
    obtain rfl := h.fn _ _ _ _ hl' hσ
    exact hb
  refine ⟨⟨h.below.trans (hb.mono h.below.size), fun b hF => ?_, fun b hF => ?_, h.fn, h.lt, fun s g B hB => ?_, fun s g B b sz N hB hfr hσ => ?_, fun s g B b sz N hB hfr hσ => .inl (h.frz _ _ _ _ _ _ hB hfr hσ), h.inj, fun b hb => absurd hb (hH b), fun b _ => hH b, h.oh⟩, e⟩
  · rcases hF with hF | hF
    · exact ⟨Nat.lt_of_lt_of_le (h.fr b hF).1 hb.size, rfl⟩
    · exact ⟨(hX b hF).1, rfl⟩
  · rcases hF with hF | hF
    · exact h.sub b hF
    · exact .inr (hX b hF).2.1
  · obtain ⟨l', hl', hblk⟩ := h.blk _ _ _ hB
    refine ⟨l', hl', hblk.mono e (fun b sz N he => ?_)⟩
    subst he
    exact hb.block b hblk.lt
  · obtain ⟨h1, h2⟩ := h.own _ _ _ _ _ _ hB hfr hσ
    refine ⟨fun hF => hF.elim h1 (fun hF => ?_), h2⟩
    have hbk := blk hB hσ
    have hlt := hbk.lt
    obtain ⟨arr, t, fz, hk, _⟩ := hbk
    rcases (hX b hF).2.2 with h3 | h3
    · omega
    · exact h3 arr t fz ((hb.block b hlt).trans hk)
theorem cells_of_cell' {w : World} {ad : Addr} {n : Nat} {v : Value} (h : w.cell? (ad.add n) = some v) : ∃ arr e fz, w.heap[ad.block]? = some (.cells arr e fz) := by
  unfold World.cell? at h
  rw [addr_block] at h
  split at h
  · rename_i hh; exact ⟨_, _, _, hh⟩
  · cases h
theorem RF.less {ro ro' : RO} (hf : ∀ b arr e fz, ro.F b → ro.w.heap[b]? = some (.cells arr e fz) → ro'.F b ∧ ro'.w.heap[b]? = ro.w.heap[b]?) {x : AV} {v : Value} (h : RF ro x v) : RF ro' x v := by
  induction h with
  | int k n => exact .int k n
  | bool b => exact .bool b
  | str s => exact .str s
  | nil A => exact .nil A
  | nl => exact .nl
  | em ad c => exact .em ad c
  | nilptr => exact .nilptr
  | nilfn => exact .nilfn
  | fn0 f => exact .fn0 f
  | agg hl h1 _ ih => exact .agg hl h1 ih
  | osl V hc hsz hA _ ih =>
    refine .osl V hc hsz (fun hne => ?_) ih
    obtain ⟨ad, e, hs, hF, hcell⟩ := hA hne
    have hpos := List.length_pos_iff.2 hne
    refine ⟨ad, e, hs, fun h0 => ?_, fun i j hi hj => ?_⟩
    · obtain ⟨arr, t, fz, hk⟩ := cells_of_cell' (hcell 0 0 hpos h0).1
      exact (hf _ arr t fz (hF h0) hk).1
    · have h0 : 0 < _ := Nat.lt_of_le_of_lt (Nat.zero_le j) hj
      obtain ⟨arr, t, fz, hk⟩ := cells_of_cell' (hcell 0 0 hpos h0).1
      rw [cell_of_blk (hf _ arr t fz (hF h0) hk).2]; exact hcell i j hi hj
theorem RV.less {ro ro' : RO} {σ : Map} (hf : ∀ b arr e fz, ro.F b → ro.w.heap[b]? = some (.cells arr e fz) → ro'.F b ∧ ro'.w.heap[b]? = ro.w.heap[b]?) {x : AV} {v : Value} (h : RV ro σ x v) : RV ro' σ x v := by
  induction h with
  | free h => exact .free (h.less hf)
  | agg hl h1 _ ih => exact .agg hl h1 ih
  | sl0 h => exact .sl0 h
  | sl h h1 h2 => exact .sl h h1 h2
  | ptr h => exact .ptr h
  | @rptr cs ad V hs hF hc hV =>
    have blk : 0 < cs.length → ro'.F ad.block ∧ ro'.w.heap[ad.block]? = ro.w.heap[ad.block]? := fun h0 => by
      obtain ⟨arr, t, fz, hk⟩ := cells_of_cell' (hc 0 h0).1
      exact hf _ arr t fz (hF h0) hk
    exact .rptr V hs (fun h0 => (blk h0).1) (fun j hj => by rw [cell_of_blk (blk (by omega)).2]; exact hc j hj) (fun j u hu => (hV j u hu).less hf)
  | fn hl0 _ hl _ ih0 ih => exact .fn hl0 ih0 hl ih
  | tup hl _ ih => exact .tup hl ih
  | undef => exact .undef
  | unk v => exact .unk v
  | yld l => exact .yld l
theorem HRep.drop {w0 : Base} {w w' : World} {ro : RO} {σ : Map} {hp : Hp} {gn : Nat → Nat} (h : HRep w0 w ro σ hp gn) (hH : ∀ b, ¬ w0.H b) {b0 : Nat} (hn : ∀ arr e fz, w.heap[b0]? ≠ some (.cells arr e fz)) (h0 : w0.w.heap.size ≤ b0)
    (hg : w.grownBy w' (some b0)) : HRep w0 w' ⟨w', fun b => ro.F b ∧ b ≠ b0⟩ σ hp gn ∧ (∀ {x : AV} {v : Value}, RV ro σ x v → RV ⟨w', fun b => ro.F b ∧ b ≠ b0⟩ σ x v) := by
  have same : ∀ b, b < w.heap.size → b ≠ b0 → w'.heap[b]? = w.heap[b]? := fun b hb hne => hg.block b hb (fun e => hne (by cases e; rfl))
  have hf : ∀ b arr e fz, ro.F b → ro.w.heap[b]? = some (.cells arr e fz) → (ro.F b ∧ b ≠ b0) ∧ w'.heap[b]? = ro.w.heap[b]? := fun b arr e fz hF hk => by
    have hne : b ≠ b0 := fun e' => by subst e'; exact hn arr e fz ((h.fr _ hF).2.trans hk)
    exact ⟨⟨hF, hne⟩, (same b (h.fr b hF).1 hne).trans (h.fr b hF).2⟩
  have rv : ∀ {x : AV} {v : Value}, RV ro σ x v → RV ⟨w', fun b => ro.F b ∧ b ≠ b0⟩ σ x v := fun hr => hr.less hf
  have blk : ∀ {s g B b sz N}, hp s g = some B → σ s g (.real b sz N) → RBlk ro σ w B.es (.real b sz N) := by
    intro s g B b sz N hB hσ
    obtain ⟨l', hl', hb⟩ := h.blk _ _ _ hB
    obtain rfl := h.fn _ _ _ _ hl' hσ
    exact hb
  have hsz : w.heap.size ≤ w'.heap.size := hg.size
  refine ⟨⟨?_, fun b hF => ⟨Nat.lt_of_lt_of_le (h.fr b hF.1).1 hsz, rfl⟩, fun b hF => h.sub b hF.1, h.fn, h.lt, fun s g B hB => ?_, fun s g B b sz N hB hfr hσ => ?_, fun s g B b sz N hB hfr hσ => ⟨h.frz _ _ _ _ _ _ hB hfr hσ, fun e => ?_⟩, h.inj, fun b hb => absurd hb (hH b), fun b _ => hH b, h.oh⟩, rv⟩
  · refine ⟨hg.os.trans h.below.os, hg.tape.trans h.below.tape, hg.output.trans h.below.output, Nat.le_trans h.below.size hsz, fun b hb => ?_⟩
    exact (same b (Nat.lt_of_lt_of_le hb h.below.size) (by omega)).trans (h.below.block b hb)
  · obtain ⟨l', hl', hblk⟩ := h.blk _ _ _ hB
    refine ⟨l', hl', ?_⟩
    cases l' with
    | virt => exact hblk
    | real b sz N =>
      have hlt := hblk.lt
      obtain ⟨arr, t, fz, k1, k2, k3, k4, k5, k6, k7⟩ := hblk
      have hne : b ≠ b0 := fun e => by subst e; exact hn _ _ _ k1
      refine ⟨arr, t, fz, (same b hlt hne).trans k1, k2, k3, k4, k5, k6, fun i x j u hx hu => ?_⟩
      obtain ⟨v, a, b, c⟩ := k7 i x j u hx hu
      exact ⟨v, a, b, rv c⟩
  · obtain ⟨h1, h2⟩ := h.own _ _ _ _ _ _ hB hfr hσ
    exact ⟨fun hF => h1 hF.1, h2⟩
  · subst e
    obtain ⟨arr, t, fz, k1, _⟩ := blk hB hσ
    exact hn _ _ _ k1
end Vai
