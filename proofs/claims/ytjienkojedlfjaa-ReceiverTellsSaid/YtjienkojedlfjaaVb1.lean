import Derived.Test.YtjienkojedlfjaaVb0
import Derived.Scope
namespace Vai
open Go Go.RowKit
set_option linter.unusedVariables false
set_option linter.unusedSimpArgs false
inductive Loc where
  | virt
  | real (b sz N : Nat)
structure RO where
  w : World
  F : Nat → Prop
theorem addr_block (a : Addr) (n : Nat) : (a.add n).block = a.block := by unfold Addr.add; split <;> rfl
theorem addr_add (a : Addr) (hs : a.spot = none) (n : Nat) : a.add n = ⟨a.block, a.off + n, none⟩ := by
  obtain ⟨b, o, s⟩ := a
  obtain rfl : s = none := hs
  unfold Addr.add
  by_cases h : n = 0
  · rw [if_pos h, h]; rfl
  · rw [if_neg h]
inductive RF (ro : RO) : AV → Value → Prop
  | int (k : IntKind) (n : Int) : RF ro (.int k n) (.int k n)
  | bool (b : Bool) : RF ro (.bool b) (.bool b)
  | str (s : ByteArray) : RF ro (.str s) (.string s)
  | nil (A : Option Addr) : RF ro .nil (.slice A 0 0)
  | nl : RF ro .nl (.slice none 0 0)
  | em (ad : Addr) (c : Nat) : RF ro .em (.slice (some ad) 0 c)
  | nilptr : RF ro .nilptr (.pointer none)
  | nilfn : RF ro .nilfn .nilFunc
  | fn0 (f : FuncId) : RF ro (.fn f [] []) (.func (.func f) #[] #[])
  | agg {cs : List AV} {vs : Array Value} (hl : cs.length = vs.size) (h1 : ∀ (j : Nat) (v : Value), vs[j]? = some v → v.oneCell' = true)
      (h : ∀ (j : Nat) (u : AV) (v : Value), cs[j]? = some u → vs[j]? = some v → RF ro u v) : RF ro (.agg cs) (.agg vs)
  | osl {xs : List AV} {A : Option Addr} {c sz : Nat} (V : Nat → Nat → Value) (hc : xs.length ≤ c ∧ (A = none → c = 0))
      (hsz : ∀ x : AV, x ∈ xs → x.cells.length = sz ∧ x.ok = true)
      (hA : xs ≠ [] → ∃ ad : Addr, A = some ad ∧ ad.spot = none ∧ (0 < sz → ro.F ad.block) ∧ ∀ i j : Nat, i < xs.length → j < sz → ro.w.cell? (ad.add (i * sz + j)) = some (V i j) ∧ (V i j).oneCell' = true)
      (hV : ∀ (i j : Nat) (x u : AV), xs[i]? = some x → x.cells[j]? = some u → RF ro u (V i j)) : RF ro (.osl xs) (.slice A xs.length c)
abbrev Map := Nat → Nat → Loc → Prop
inductive RV (ro : RO) (σ : Map) : AV → Value → Prop
  | free {x : AV} {v : Value} (h : RF ro x v) : RV ro σ x v
  | agg {cs : List AV} {vs : Array Value} (hl : cs.length = vs.size) (h1 : ∀ (j : Nat) (v : Value), vs[j]? = some v → v.oneCell' = true)
      (h : ∀ (j : Nat) (u : AV) (v : Value), cs[j]? = some u → vs[j]? = some v → RV ro σ u v) : RV ro σ (.agg cs) (.agg vs)
  | sl0 {e s g : Nat} {A : Option Addr} (h : σ s g .virt) : RV ro σ (.sl e s g 0 0) (.slice A 0 0)
  | sl {e s g lo len b N c : Nat} (h : σ s g (.real b e N)) (h1 : len ≤ c) (h2 : (lo + c) * e ≤ N) : RV ro σ (.sl e s g lo len) (.slice (some ⟨b, lo * e, none⟩) len c)
  | ptr {s g i off b sz N : Nat} (h : σ s g (.real b sz N)) : RV ro σ (.ptr s g i off) (.pointer (some ⟨b, i * sz + off, none⟩))
  | rptr {cs : List AV} {ad : Addr} (V : Nat → Value) (hs : ad.spot = none) (hF : 0 < cs.length → ro.F ad.block)
      (hc : ∀ j : Nat, j < cs.length → ro.w.cell? (ad.add j) = some (V j) ∧ (V j).oneCell' = true) (hV : ∀ (j : Nat) (u : AV), cs[j]? = some u → RF ro u (V j)) : RV ro σ (.rptr cs) (.pointer (some ad))
  | fn {f : FuncId} {fst caps : List AV} {vf vs : Array Value} (hl0 : fst.length = vf.size)
      (h0 : ∀ (j : Nat) (u : AV) (v : Value), fst[j]? = some u → vf[j]? = some v → RV ro σ u v) (hl : caps.length = vs.size)
      (h : ∀ (j : Nat) (u : AV) (v : Value), caps[j]? = some u → vs[j]? = some v → RV ro σ u v) : RV ro σ (.fn f fst caps) (.func (.func f) vf vs)
  | tup {cs : List AV} {vs : Array Value} (hl : cs.length = vs.size)
      (h : ∀ (j : Nat) (u : AV) (v : Value), cs[j]? = some u → vs[j]? = some v → RV ro σ u v) : RV ro σ (.tup cs) (.tuple vs)
  | undef : RV ro σ .undef Go.undef
  | yld (l : Nat) : RV ro σ (.yld l) (.func (.yield l) #[] #[])
  | unk (v : Value) : RV ro σ .unk v
structure Ext (ro ro' : RO) (σ σ' : Map) : Prop where
  f : ∀ b, ro.F b → ro'.F b ∧ ro'.w.heap[b]? = ro.w.heap[b]?
  s : ∀ s g l, σ s g l → σ' s g l
theorem Ext.refl (ro : RO) (σ : Map) : Ext ro ro σ σ := ⟨fun _ h => ⟨h, rfl⟩, fun _ _ _ h => h⟩
theorem Ext.trans {r1 r2 r3 : RO} {s1 s2 s3 : Map} (h : Ext r1 r2 s1 s2) (k : Ext r2 r3 s2 s3) : Ext r1 r3 s1 s3 :=
  ⟨fun b hb => ⟨(k.f b (h.f b hb).1).1, ((k.f b (h.f b hb).1).2).trans (h.f b hb).2⟩, fun s g l hl => k.s s g l (h.s s g l hl)⟩
theorem cell_of_blk {w w' : World} {a : Addr} {n : Nat} (h : w'.heap[a.block]? = w.heap[a.block]?) : w'.cell? (a.add n) = w.cell? (a.add n) :=
  World.cell?_of_block (by rw [addr_block]; exact h)
theorem RF.mono {ro ro' : RO} (hf : ∀ b, ro.F b → ro'.F b ∧ ro'.w.heap[b]? = ro.w.heap[b]?) {x : AV} {v : Value} (h : RF ro x v) : RF ro' x v := by
  induction h with
  | int k n => exact .int k n
  | bool b => exact .bool b
  | str s => exact .str s
  | nil A => exact .nil A
  | nl => exact .nl
  | em ad c => exact .em ad c
  | nilptr => exact .nilptr
  | nilfn => exact .nilfn
  | fn0 f => exact .fn0 f
  | agg hl h1 _ ih => exact .agg hl h1 ih
  | osl V hc hsz hA _ ih =>
    refine .osl V hc hsz (fun hne => ?_) ih
    obtain ⟨ad, e, hs, hF, hcell⟩ := hA hne
    exact ⟨ad, e, hs, fun h0 => (hf _ (hF h0)).1, fun i j hi hj => by rw [cell_of_blk (hf _ (hF (by omega))).2]; exact hcell i j hi hj⟩
theorem RV.mono {ro ro' : RO} {σ σ' : Map} (e : Ext ro ro' σ σ') {x : AV} {v : Value} (h : RV ro σ x v) : RV ro' σ' x v := by
  induction h with
  | free h => exact .free (h.mono e.f)
  | agg hl h1 _ ih => exact .agg hl h1 ih
  | sl0 h => exact .sl0 (e.s _ _ _ h)
  | sl h h1 h2 => exact .sl (e.s _ _ _ h) h1 h2
  | ptr h => exact .ptr (e.s _ _ _ h)
  | rptr V hs hF hc hV => exact .rptr V hs (fun h0 => (e.f _ (hF h0)).1) (fun j hj => by rw [cell_of_blk (e.f _ (hF (by omega))).2]; exact hc j hj) (fun j u hu => (hV j u hu).mono e.f)
  | fn hl0 _ hl _ ih0 ih => exact .fn hl0 ih0 hl ih
  | tup hl _ ih => exact .tup hl ih
  | undef => exact .undef
  | unk v => exact .unk v
  | yld l => exact .yld l
theorem RF.one {ro : RO} {x : AV} {v : Value} (h : RF ro x v) (hx : ∀ cs, x ≠ .agg cs) : v.oneCell' = true := by
  cases h <;> first | rfl | exact absurd rfl (hx _)
theorem RV.cells {ro : RO} {σ : Map} {x : AV} {v : Value} (h : RV ro σ x v) (hok : x.ok = true) :
    x.cells.length = v.cells.size ∧ (∀ (j : Nat) (u : Value), v.cells[j]? = some u → u.oneCell' = true) ∧ ∀ (j : Nat) (a : AV) (u : Value), x.cells[j]? = some a → v.cells[j]? = some u → RV ro σ a u := by
  have one : ∀ (x : AV) (v : Value), x.cells = [x] → v.cells = #[v] → v.oneCell' = true → RV ro σ x v →
      x.cells.length = v.cells.size ∧ (∀ (j : Nat) (u : Value), v.cells[j]? = some u → u.oneCell' = true) ∧ ∀ (j : Nat) (a : AV) (u : Value), x.cells[j]? = some a → v.cells[j]? = some u → RV ro σ a u := by
    intro x v hx hv h1 hr
    rw [hx, hv]
    refine ⟨rfl, fun j u hu => ?_, fun j a u ha hu => ?_⟩
    · cases j with
      | zero => simp at hu; subst hu; exact h1
      | succ j => simp at hu
    · cases j with
      | zero => simp at ha hu; subst ha; subst hu; exact hr
      | succ j => simp at ha
  cases h with
  | free h =>
    cases h with
    | agg hl h1 h => exact ⟨hl, h1, fun j a u ha hu => .free (h j a u ha hu)⟩
    | int k n => exact one _ _ rfl rfl rfl (.free (.int k n))
    | bool b => exact one _ _ rfl rfl rfl (.free (.bool b))
    | str s => exact one _ _ rfl rfl rfl (.free (.str s))
    | nil A => exact one _ _ rfl rfl rfl (.free (.nil A))
    | nl => exact one _ _ rfl rfl rfl (.free .nl)
    | em ad c => exact one _ _ rfl rfl rfl (.free (.em ad c))
    | nilptr => exact one _ _ rfl rfl rfl (.free .nilptr)
    | nilfn => exact one _ _ rfl rfl rfl (.free .nilfn)
    | fn0 f => exact one _ _ rfl rfl rfl (.free (.fn0 f))
    | osl V hc hsz hA hV => exact one _ _ rfl rfl rfl (.free (.osl V hc hsz hA hV))
  | agg hl h1 h => exact ⟨hl, h1, h⟩
  | sl0 h => exact one _ _ rfl rfl rfl (.sl0 h)
  | sl h h1 h2 => exact one _ _ rfl rfl rfl (.sl h h1 h2)
  | ptr h => exact one _ _ rfl rfl rfl (.ptr h)
  | rptr V hs hF hc hV => exact one _ _ rfl rfl rfl (.rptr V hs hF hc hV)
  | fn hl0 h0 hl h => exact one _ _ rfl rfl rfl (.fn hl0 h0 hl h)
  | tup hl h => simp [AV.ok] at hok
  | undef => simp [AV.ok] at hok
  | unk v => simp [AV.ok] at hok
  | yld l => exact one _ _ rfl rfl rfl (.yld l)
def FzOk (fz : Nat × Nat) (N : Nat) : Prop := fz.1 = fz.2 ∨ (N ≤ fz.1 ∧ fz.1 ≤ fz.2)
theorem FzOk.at_ {fz : Nat × Nat} {N : Nat} (h : FzOk fz N) : ∀ j, j < N → ¬ (fz.1 ≤ j ∧ j < fz.2) := by
  intro j hj hc
  rcases h with h | h <;> omega
def RBlk (ro : RO) (σ : Map) (w : World) (es : List AV) : Loc → Prop
  | .virt => es = []
  | .real b sz N => ∃ (arr : Array Value) (e : TypeId) (fz : Nat × Nat), w.heap[b]? = some (.cells arr e fz) ∧ arr.size = N ∧ FzOk fz N ∧ es.length * sz ≤ N ∧ 0 < sz ∧
      (∀ x ∈ es, x.cells.length = sz ∧ x.ok = true) ∧
      ∀ (i : Nat) (x : AV) (j : Nat) (u : AV), es[i]? = some x → x.cells[j]? = some u → ∃ v, arr[i * sz + j]? = some v ∧ v.oneCell' = true ∧ RV ro σ u v
abbrev Hp := Nat → Nat → Option Blk
structure Base where
  w : World
  F : Nat → Prop
  ds : List Deferred
  H : Nat → Prop
  hw : World
structure HRep (w0 : Base) (w : World) (ro : RO) (σ : Map) (hp : Hp) (gn : Nat → Nat) : Prop where
  below : Below w0.w.heap.size w0.w w
  fr : ∀ b, ro.F b → b < w.heap.size ∧ w.heap[b]? = ro.w.heap[b]?
  sub : ∀ b, ro.F b → w0.F b ∨ w0.w.heap.size ≤ b
  fn : ∀ s g l l', σ s g l → σ s g l' → l = l'
  lt : ∀ s g l, σ s g l → g < gn s
  blk : ∀ s g B, hp s g = some B → ∃ l, σ s g l ∧ RBlk ro σ w B.es l
  own : ∀ s g B b sz N, hp s g = some B → B.fr = false → σ s g (.real b sz N) → ¬ ro.F b ∧ w0.w.heap.size ≤ b
  frz : ∀ s g B b sz N, hp s g = some B → B.fr = true → σ s g (.real b sz N) → ro.F b
  inj : ∀ s g B s' g' B' b sz N sz' N', hp s g = some B → hp s' g' = some B' → B.fr = false → σ s g (.real b sz N) → σ s' g' (.real b sz' N') → s = s' ∧ g = g'
  hid : ∀ b, w0.H b → b < w.heap.size ∧ w.heap[b]? = w0.hw.heap[b]?
  dis : ∀ b, ro.F b → ¬ w0.H b
  oh : ∀ s g B b sz N, hp s g = some B → B.fr = false → σ s g (.real b sz N) → ¬ w0.H b
theorem HRep.on {w0 : Base} {w : World} {ro : RO} {σ : Map} {hp : Hp} {gn : Nat → Nat} (h : HRep w0 w ro σ hp gn) (ds : List Deferred) : HRep ⟨w0.w, w0.F, ds, w0.H, w0.hw⟩ w ro σ hp gn :=
  ⟨h.below, h.fr, h.sub, h.fn, h.lt, h.blk, h.own, h.frz, h.inj, h.hid, h.dis, h.oh⟩
theorem RBlk.mono {ro ro' : RO} {σ σ' : Map} {w w' : World} (e : Ext ro ro' σ σ') {es : List AV} {l : Loc} (h : RBlk ro σ w es l)
    (hw : ∀ b sz N, l = .real b sz N → w'.heap[b]? = w.heap[b]?) : RBlk ro' σ' w' es l := by
  cases l with
  | virt => exact h
  | real b sz N =>
    obtain ⟨arr, t, fz, h1, h2, h3, h4, h5, h6, h7⟩ := h
    refine ⟨arr, t, fz, by rw [hw b sz N rfl]; exact h1, h2, h3, h4, h5, h6, fun i x j u hx hu => ?_⟩
    obtain ⟨v, a, b, c⟩ := h7 i x j u hx hu
    exact ⟨v, a, b, c.mono e⟩
theorem RBlk.lt {ro : RO} {σ : Map} {w : World} {es : List AV} {b sz N : Nat} (h : RBlk ro σ w es (.real b sz N)) : b < w.heap.size := by
  obtain ⟨arr, t, fz, h1, _⟩ := h
  exact (Array.getElem?_eq_some_iff.1 h1).1
structure SRep (w0 : Base) (ro : RO) (σ : Map) (n : Nat) (sl : Nat → AV) (a : Act) : Prop where
  size : a.tmps.size = n
  at_ : ∀ d, RV ro σ (sl d) (a.tmps.getD d Go.undef)
  nodef : a.defers = w0.ds
theorem SRep.mono {w0 : Base} {ro ro' : RO} {σ σ' : Map} {n : Nat} {sl : Nat → AV} {a : Act} (e : Ext ro ro' σ σ') (h : SRep w0 ro σ n sl a) : SRep w0 ro' σ' n sl a :=
  ⟨h.size, fun d => (h.at_ d).mono e, h.nodef⟩
theorem SRep.put {w0 : Base} {ro : RO} {σ : Map} {n : Nat} {s : St} {a : Act} (h : SRep w0 ro σ n s.sl a) {d : Option Nat} (hd : ∀ x, d = some x → x < n) {x : AV} {v : Value} (hv : RV ro σ x v) :
    SRep w0 ro σ n (s.putO d x).sl (a.put d v) := by
  cases d with
  | none => exact h
  | some d =>
    refine ⟨by simp [Act.put, h.size], fun j => ?_, h.nodef⟩
    have hlt := hd d rfl
    simp only [St.putO, St.put, Act.put, Array.getD_eq_getD_getElem?]
    by_cases hj : j = d
    · subst hj
      rw [if_pos rfl, Array.getElem?_setIfInBounds_self_of_lt (by rw [h.size]; exact hlt)]
      exact hv
    · rw [if_neg hj, Array.getElem?_setIfInBounds_ne (Ne.symm hj), ← Array.getD_eq_getD_getElem?]
      exact h.at_ j
theorem ofV1_rep {ro : RO} {σ : Map} (v : Value) (hv : v.oneCell' = true) : RV ro σ (ofV1 v) v := by
  unfold ofV1
  split <;> first | exact .free (.int _ _) | exact .free (.bool _) | exact .free (.str _) | exact .free .nl | exact .free .nilptr | exact .free .nilfn | exact .unk _
theorem ofV_rep {ro : RO} {σ : Map} (v : Value) : RV ro σ (ofV v) v := by
  unfold ofV
  split
  · rename_i cs
    split
    · rename_i h
      have h1 : ∀ (j : Nat) (v : Value), cs[j]? = some v → v.oneCell' = true := fun j v hj => by
        rw [Array.all_eq_true_iff_forall_mem] at h
        exact h v (Array.mem_of_getElem? hj)
      refine .agg (by simp) h1 (fun j u v hu hv => ?_)
      have hj : (cs.toList.map ofV1)[j]? = some u := hu
      rw [List.getElem?_map, Array.getElem?_toList, hv] at hj
      simp at hj
      subst hj
      exact ofV1_rep v (h1 j v hv)
    · exact .unk _
  · rename_i hne
    unfold ofV1
    split <;> first | exact .free (.int _ _) | exact .free (.bool _) | exact .free (.str _) | exact .free .nl | exact .free .nilptr | exact .free .nilfn | exact .unk _
theorem ev_rep {w0 : Base} {ro : RO} {σ : Map} {n : Nat} {s : St} {a : Act} (h : SRep w0 ro σ n s.sl a) (x : Operand) : RV ro σ (s.ev x) (a.eval x) := by
  cases x with
  | tmp t => exact h.at_ t
  | const v => exact ofV_rep v
  | global g => exact .unk _
  | func f => exact .fn (by simp) (fun j u v hu => by simp at hu) (by simp) (fun j u v hu => by simp at hu)
end Vai
