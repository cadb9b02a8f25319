/- Guided runs: what is asked of values that are not known is answered ahead; what must hold is told. -/
import Derived.Test.YtaadkicopnacbaaVai0
namespace Vai
open Go
set_option linter.unusedVariables false
set_option linter.unusedSimpArgs false

inductive Ch where
  | b (c : Bool)
  | r (v : AV)
  | l (e : E) (s : St)

def All : List Prop → Prop
  | [] => True
  | p :: ps => p ∧ All ps

theorem All.append : ∀ {a b : List Prop}, All (a ++ b) → All a ∧ All b
  | [], b, h => ⟨trivial, h⟩
  | p :: a, b, h => ⟨⟨h.1, (All.append h.2).1⟩, (All.append h.2).2⟩

abbrev GM (α : Type) := List Ch → Option (α × List Ch × List Prop)

section
variable {α β : Type}
def gpure (a : α) : GM α := fun cs => some (a, cs, [])
def gbind (g : GM α) (f : α → GM β) : GM β := fun cs => match g cs with
  | none => none
  | some (a, cs1, o1) => match f a cs1 with
    | none => none
    | some (b, cs2, o2) => some (b, cs2, o1 ++ o2)
def glift (o : Option α) : GM α := fun cs => match o with
  | none => none
  | some a => some (a, cs, [])
def gask (b : Bool) (x y : GM α) : GM α := fun cs => match cs with
  | .b true :: cs => (match x cs with
    | none => none
    | some (a, cs1, o) => some (a, cs1, (b = true) :: o))
  | .b false :: cs => (match y cs with
    | none => none
    | some (a, cs1, o) => some (a, cs1, (b = false) :: o))
  | _ => none
def greq (p : Prop) (x : GM α) : GM α := fun cs => match x cs with
  | none => none
  | some (a, cs1, o) => some (a, cs1, p :: o)

/-- What g tells is what o is, if all that g asks for holds. -/
def Sd (g : GM α) (o : Option α) : Prop := ∀ cs a cs' ps, g cs = some (a, cs', ps) → All ps → o = some a

theorem Sd.pure (a : α) : Sd (gpure a) (some a) := by
  intro cs a' cs' ps h _
  simp only [gpure, Option.some.injEq, Prod.mk.injEq] at h
  rw [h.1]
theorem Sd.lift (o : Option α) : Sd (glift o) o := by
  intro cs a cs' ps h _
  unfold glift at h
  split at h
  · cases h
  · simp only [Option.some.injEq, Prod.mk.injEq] at h; rw [h.1]
theorem Sd.lift' {o o' : Option α} (h : ∀ a, o = some a → o' = some a) : Sd (glift o) o' := fun cs a cs' ps hh hp => h a (Sd.lift o cs a cs' ps hh hp)
theorem Sd.gnone (o : Option α) : Sd (glift (Option.none : Option α)) o := fun cs a cs' ps h _ => by simp [glift] at h
theorem Sd.bind {g : GM α} {o : Option α} {f : α → GM β} {f' : α → Option β} (h : Sd g o) (hf : ∀ a, Sd (f a) (f' a)) : Sd (gbind g f) (o.bind f') := by
  intro cs b cs' ps hh hp
  unfold gbind at hh
  split at hh
  · cases hh
  · rename_i a cs1 o1 h1
    split at hh
    · cases hh
    · rename_i b' cs2 o2 h2
      simp only [Option.some.injEq, Prod.mk.injEq] at hh
      obtain ⟨rfl, rfl, rfl⟩ := hh
      obtain ⟨p1, p2⟩ := All.append hp
      rw [h cs a cs1 o1 h1 p1]
      exact hf a cs1 b' cs2 o2 h2 p2
theorem Sd.map {g : GM α} {o : Option α} (h : Sd g o) (f : α → β) : Sd (gbind g fun a => gpure (f a)) (o.map f) := by
  have := h.bind (f' := fun a => some (f a)) (fun a => Sd.pure (f a))
  rwa [show o.bind (fun a => some (f a)) = o.map f by cases o <;> rfl] at this
theorem Sd.ask {b : Bool} {x y : GM α} {x' y' : Option α} (hx : b = true → Sd x x') (hy : b = false → Sd y y') : Sd (gask b x y) (if b = true then x' else y') := by
  intro cs a cs' ps h hp
  unfold gask at h
  split at h
  · rename_i cs0
    split at h
    · cases h
    · rename_i a1 cs1 o h1
      simp only [Option.some.injEq, Prod.mk.injEq] at h
      obtain ⟨rfl, rfl, rfl⟩ := h
      rw [if_pos hp.1]
      exact hx hp.1 _ _ _ _ h1 hp.2
  · rename_i cs0
    split at h
    · cases h
    · rename_i a1 cs1 o h1
      simp only [Option.some.injEq, Prod.mk.injEq] at h
      obtain ⟨rfl, rfl, rfl⟩ := h
      rw [if_neg (by rw [hp.1]; simp)]
      exact hy hp.1 _ _ _ _ h1 hp.2
  · cases h
theorem Sd.req {p : Prop} [Decidable p] {x : GM α} {x' : Option α} (hx : Sd x x') : Sd (greq p x) (if p then x' else none) := by
  intro cs a cs' ps h hp
  unfold greq at h
  split at h
  · cases h
  · rename_i a1 cs1 o h1
    simp only [Option.some.injEq, Prod.mk.injEq] at h
    obtain ⟨rfl, rfl, rfl⟩ := h
    rw [if_pos hp.1]
    exact hx _ _ _ _ h1 hp.2
theorem Sd.assume {p : Prop} {x : GM α} {x' : Option α} (hx : p → Sd x x') : Sd (greq p x) x' := by
  intro cs a cs' ps h hp
  unfold greq at h
  split at h
  · cases h
  · rename_i a1 cs1 o h1
    simp only [Option.some.injEq, Prod.mk.injEq] at h
    obtain ⟨rfl, rfl, rfl⟩ := h
    exact hx hp.1 _ _ _ _ h1 hp.2
theorem Sd.none (o : Option α) : Sd (fun _ => Option.none) o := by intro cs a cs' ps h; cases h
end

/-! ### Values -/
def boundG (x : Option AV) (y d : Nat) : GM Nat := match x with
  | none => gpure d
  | some v => gbind (glift (asI v)) fun i => greq (0 ≤ i ∧ i ≤ y) (gpure i.toNat)

theorem boundG_sd (x : Option AV) (y d : Nat) : Sd (boundG x y d) (bound x y d) := by
  unfold boundG bound
  cases x with
  | none => exact Sd.pure d
  | some v => exact (Sd.lift _).bind fun i => (Sd.pure _).req

def sliceG (P : Program) (t : TypeId) (x : AV) (lo hi mx : Option AV) : GM AV :=
  match x, mx with
  | .osl xs, none => gbind (glift (tsl P t)) fun e => gbind (glift (tsz P e)) fun z => greq (xs.all (fun x => x.cells.length = z)) (gbind (boundG hi xs.length xs.length) fun h => gbind (boundG lo h 0) fun l =>
      gpure (.osl ((xs.take h).drop l)))
  | .sl e s g b n, mx => if (tsl P t).bind (tsz P) = some e && (mx.isNone || hi.isSome) then gbind (boundG mx n n) fun m => gbind (boundG hi m n) fun h => gbind (boundG lo h 0) fun l =>
      gask (decide (l ≠ 0 ∧ l = h)) (gpure (.osl [])) (gpure (.sl e s g (b + l) (h - l))) else glift none
  | .str s, none => if tstr P t then gbind (boundG hi s.size s.size) fun h => gbind (boundG lo h 0) fun l => gpure (.str (s.extract l h)) else glift none
  | x, mx => glift (sliceV P t x lo hi mx)

theorem sliceG_sd (P : Program) (t : TypeId) (x : AV) (lo hi mx : Option AV) : Sd (sliceG P t x lo hi mx) (sliceV P t x lo hi mx) := by
  unfold sliceG
  split
  · rename_i xs
    simp only [sliceV, Option.isSome_none, Bool.false_eq_true, if_false, Bool.false_and, Option.isNone_none, Bool.true_or, Bool.true_and, bound, Option.bind_some]
    exact (Sd.lift _).bind fun e => (Sd.lift _).bind fun z => ((boundG_sd _ _ _).bind fun h => (boundG_sd _ _ _).bind fun l => Sd.pure _).req
  · rename_i mx0 e s g b n
    simp only [sliceV]
    split
    · refine (boundG_sd _ _ _).bind fun m => (boundG_sd _ _ _).bind fun h => (boundG_sd _ _ _).bind fun l => ?_
      have := Sd.ask (b := decide (l ≠ 0 ∧ l = h)) (x := gpure (AV.osl [])) (y := gpure (AV.sl e s g (b + l) (h - l))) (fun _ => Sd.pure _) (fun _ => Sd.pure _)
      simpa using this
    · exact Sd.lift _
  · rename_i s
    simp only [sliceV, Option.isNone_none, Bool.and_true]
    split
    · exact (boundG_sd _ _ _).bind fun h => (boundG_sd _ _ _).bind fun l => Sd.pure _
    · exact Sd.lift _
  · exact Sd.lift _

def indexAddrG (P : Program) (t : TypeId) (x ix : AV) : GM AV :=
  match ix, x with
  | .int _ i, .sl e s g lo len => if (tsl P t).bind (tsz P) = some e then greq (0 ≤ i ∧ i < len) (gpure (.ptr s g (lo + i.toNat) 0)) else glift none
  | .int _ i, .ptr s g j off => gbind (glift (tarr P t)) fun p => gbind (glift (tsz P p.2)) fun z => greq (0 ≤ i ∧ i < p.1) (gpure (.ptr s g j (off + i.toNat * z)))
  | .int _ i, .rptr cs => gbind (glift (tarr P t)) fun p => gbind (glift (tsz P p.2)) fun z => greq (0 ≤ i ∧ i < p.1) (gpure (.rptr (cs.drop (i.toNat * z))))
  | .int _ i, .osl xs => gbind (glift (tsl P t)) fun e => gbind (glift (tsz P e)) fun z => greq (0 ≤ i) (greq (i.toNat < xs.length) (greq ((xs.getD i.toNat .unk).cells.length = z) (gpure (.rptr (xs.getD i.toNat .unk).cells))))
  | ix, x => glift (indexAddrV P t x ix)

theorem indexAddrG_sd (P : Program) (t : TypeId) (x ix : AV) : Sd (indexAddrG P t x ix) (indexAddrV P t x ix) := by
  unfold indexAddrG
  split
  · simp only [indexAddrV, asI, Option.bind_some]
    split
    · exact (Sd.pure _).req
    · exact Sd.lift _
  · simp only [indexAddrV, asI, Option.bind_some]
    exact (Sd.lift _).bind fun p => (Sd.lift _).bind fun z => (Sd.pure _).req
  · simp only [indexAddrV, asI, Option.bind_some]
    exact (Sd.lift _).bind fun p => (Sd.lift _).bind fun z => (Sd.pure _).req
  · rename_i k i xs
    simp only [indexAddrV, asI, Option.bind_some]
    refine (Sd.lift _).bind fun e => (Sd.lift _).bind fun z => Sd.req (Sd.assume fun hlt => Sd.assume fun hz => ?_)
    have h1 : xs[i.toNat]? = some (xs.getD i.toNat .unk) := by
      rw [List.getD_eq_getElem?_getD, List.getElem?_eq_getElem hlt]; rfl
    simp only [h1, if_pos hz]
    exact Sd.pure _
  · exact Sd.lift _

def indexG (P : Program) (t : TypeId) (x ix : AV) : GM AV :=
  match ix, x with
  | .int _ i, .str s => greq (0 ≤ i) (greq (i.toNat < s.size) (if tstr P t then gpure (.int .u8 (s.data.getD i.toNat 0).toNat) else glift none))
  | .int _ i, .agg cs => gbind (glift (tarr P t)) fun p => gbind (glift (tsz P p.2)) fun z => gbind (glift (tagg P p.2)) fun a => greq (0 ≤ i ∧ i < p.1) (glift (pick a z (i.toNat * z) cs))
  | ix, x => glift (indexV P t x ix)

theorem indexG_sd (P : Program) (t : TypeId) (x ix : AV) : Sd (indexG P t x ix) (indexV P t x ix) := by
  unfold indexG
  split
  · rename_i k i s
    simp only [indexV, asI, Option.bind_some]
    refine Sd.assume fun h0 => Sd.assume fun hlt => ?_
    by_cases ht : tstr P t = true
    · rw [if_pos ht, if_pos (by simp [ht, h0])]
      have : s[i.toNat]? = some (s.data.getD i.toNat 0) := by
        have hl : i.toNat < s.data.size := hlt
        rw [getElem?_pos s i.toNat hlt, Array.getD_eq_getD_getElem?, Array.getElem?_eq_getElem hl]
        rfl
      rw [this]
      exact Sd.pure _
    · rw [if_neg ht]; exact Sd.lift' (fun a h => by cases h)
  · simp only [indexV, asI, Option.bind_some]
    exact (Sd.lift _).bind fun p => (Sd.lift _).bind fun z => (Sd.lift _).bind fun a => (Sd.lift _).req
  · exact Sd.lift _

/-! ### Operations -/
def binG (P : Program) (op : BinOp) (t : TypeId) (x y : AV) : GM AV :=
  match op, x, y with
  | .quo, .int k a, .int k' b => if k = k' then greq (¬ b = 0) (gpure (.int k (k.wrap (a.tdiv b)))) else glift none
  | .rem, .int k a, .int k' b => if k = k' then greq (¬ b = 0) (gpure (.int k (a.tmod b))) else glift none
  | .shl, .int k a, .int k' b => greq (¬ b < 0) (gpure (.int k (k.wrap (a * 2 ^ (min b.toNat k.bits)))))
  | .shr, .int k a, .int k' b => greq (¬ b < 0) (gpure (.int k (a.fdiv (2 ^ (min b.toNat k.bits)))))
  | op, x, y => glift (binV P op t x y)

theorem binG_sd (P : Program) (op : BinOp) (t : TypeId) (x y : AV) : Sd (binG P op t x y) (binV P op t x y) := by
  unfold binG
  split
  · simp only [binV]
    split
    · simp only [binI]
      exact Sd.assume fun h => by rw [if_neg h]; exact Sd.pure _
    · exact Sd.lift _
  · simp only [binV]
    split
    · simp only [binI]
      exact Sd.assume fun h => by rw [if_neg h]; exact Sd.pure _
    · exact Sd.lift _
  · simp only [binV]
    exact Sd.assume fun h => by rw [if_neg h]; exact Sd.pure _
  · simp only [binV]
    exact Sd.assume fun h => by rw [if_neg h]; exact Sd.pure _
  · exact Sd.lift _

def fillG (place : Nat → Option (Nat × Nat)) (cs : List AV) : List (Nat × AV) → GM (List AV)
  | [] => gpure cs
  | (i, v) :: rest => match place i with
    | none => glift none
    | some (off, sz) => if v.ok && v.cells.length = sz && off + sz ≤ cs.length then fillG place (splice cs off v.cells) rest else glift none

def pureG (P : Program) (ρ : Operand → AV) (op : Op) : GM AV :=
  match op with
  | .binOp op t x y _ => if isNilC y then glift (nilV P op t (ρ x)) else binG P op t (ρ x) (ρ y)
  | .slice t x lo hi mx => sliceG P t (ρ x) (lo.map ρ) (hi.map ρ) (mx.map ρ)
  | .indexAddr t x ix => indexAddrG P t (ρ x) (ρ ix)
  | .index t x ix => indexG P t (ρ x) (ρ ix)
  | op => glift (pureV P ρ op)

theorem pureG_sd (P : Program) (ρ : Operand → AV) (op : Op) : Sd (pureG P ρ op) (pureV P ρ op) := by
  unfold pureG
  split
  · simp only [pureV]
    split
    · exact Sd.lift _
    · exact binG_sd _ _ _ _ _
  · exact sliceG_sd _ _ _ _ _ _
  · exact indexAddrG_sd _ _ _ _
  · exact indexG_sd _ _ _ _
  · exact Sd.lift _

/-! ### Snapshots -/
def snapG (hp : Nat → Nat → Option Blk) : Nat → AV → GM (AV × List (Nat × Nat))
  | 0, x => if x.free then gpure (x, []) else glift none
  | n + 1, x => if x.free then gpure (x, []) else match x with
    | .agg cs => gbind (snapsG hp n cs) fun r => gpure (.agg r.1, r.2)
    | .sl e s g lo len => gbind (glift (hp s g)) fun b => greq (lo + len ≤ b.es.length) (greq (((b.es.drop lo).take len).all (fun x => x.free && x.cells.length = e)) (gpure (.osl ((b.es.drop lo).take len), [(s, g)])))
    | _ => glift none
where snapsG (hp : Nat → Nat → Option Blk) (n : Nat) : List AV → GM (List AV × List (Nat × Nat))
  | [] => gpure ([], [])
  | c :: cs => gbind (snapG hp n c) fun a => gbind (snapsG hp n cs) fun r => gpure (a.1 :: r.1, a.2 ++ r.2)

theorem Sd.of_eq {α : Type} {g : GM α} {o o' : Option α} (h : Sd g o) (e : o = o') : Sd g o' := e ▸ h

theorem free_ok' {x : AV} (h : x.free = true) : x.ok = true := by cases x <;> simp_all [AV.free, AV.ok]

theorem snap_free {hp : Nat → Nat → Option Blk} {n : Nat} {x : AV} (h : x.free = true) : snap hp n x = some x ∧ refs hp n x = [] := by
  cases n with
  | zero => unfold snap refs; rw [if_pos h]; exact ⟨rfl, rfl⟩
  | succ n => unfold snap refs; rw [if_pos h, if_pos h]; exact ⟨rfl, rfl⟩

theorem snaps_free {hp : Nat → Nat → Option Blk} {n : Nat} : ∀ {xs : List AV}, (∀ x ∈ xs, x.free = true) → xs.mapM (snap hp n) = some xs ∧ xs.flatMap (refs hp n) = []
  | [], _ => ⟨rfl, rfl⟩
  | x :: xs, h => by
    obtain ⟨h1, h2⟩ := snap_free (hp := hp) (n := n) (h x (by simp))
    obtain ⟨h3, h4⟩ := snaps_free (hp := hp) (n := n) (xs := xs) (fun y hy => h y (by simp [hy]))
    rw [List.mapM_cons, h1, h3, List.flatMap_cons, h2, h4]
    exact ⟨rfl, rfl⟩

theorem snapsG_sd {hp : Nat → Nat → Option Blk} {n : Nat} (ih : ∀ x, Sd (snapG hp n x) ((snap hp n x).map fun y => (y, refs hp n x))) : ∀ cs, Sd (snapG.snapsG hp n cs) ((cs.mapM (snap hp n)).map fun ys => (ys, cs.flatMap (refs hp n)))
  | [] => by unfold snapG.snapsG; exact Sd.pure _
  | c :: cs => by
    unfold snapG.snapsG
    refine Sd.of_eq ((ih c).bind fun a => (snapsG_sd ih cs).bind fun r => Sd.pure _) ?_
    rw [List.mapM_cons]
    cases snap hp n c with
    | none => rfl
    | some a =>
      cases List.mapM (snap hp n) cs with
      | none => rfl
      | some r => simp

theorem snapG_sd (hp : Nat → Nat → Option Blk) : ∀ (n : Nat) (x : AV), Sd (snapG hp n x) ((snap hp n x).map fun y => (y, refs hp n x)) := by
  intro n
  induction n with
  | zero =>
    intro x
    unfold snapG
    by_cases hf : x.free = true
    · rw [if_pos hf, (snap_free hf).1, (snap_free hf).2]; exact Sd.pure _
    · rw [if_neg hf]; exact Sd.lift' (fun a h => by cases h)
  | succ n ih =>
    intro x
    unfold snapG
    by_cases hf : x.free = true
    · rw [if_pos hf, (snap_free hf).1, (snap_free hf).2]; exact Sd.pure _
    · rw [if_neg hf]
      split
      · rename_i cs
        refine Sd.of_eq ((snapsG_sd ih cs).bind fun r => Sd.pure _) ?_
        unfold snap refs
        rw [if_neg hf, if_neg hf]
        simp only
        cases List.mapM (snap hp n) cs <;> rfl
      · rename_i e s g lo len
        unfold snap refs
        rw [if_neg hf, if_neg hf]
        simp only [conts]
        cases hb : hp s g with
        | none => intro cs a cs' ps h _; simp [gbind, glift] at h
        | some b =>
          intro cs r cs' ps h hp
          simp only [gbind, glift, greq, gpure, Option.some.injEq, Prod.mk.injEq] at h
          obtain ⟨rfl, rfl, rfl⟩ := h
          obtain ⟨h1, h2, _⟩ := hp
          simp only [Option.bind_some]
          rw [if_pos h1]
          simp only [Option.bind_some, Option.getD_some]
          have hfr : ∀ x ∈ (b.es.drop lo).take len, x.free = true := fun x hx => by
            have := List.all_eq_true.1 h2 x hx
            simp only [Bool.and_eq_true] at this
            exact this.1
          have hall : ((b.es.drop lo).take len).all (fun x => x.ok && x.cells.length = e) = true := List.all_eq_true.2 fun x hx => by
            have := List.all_eq_true.1 h2 x hx
            simp only [Bool.and_eq_true] at this ⊢
            exact ⟨free_ok' this.1, this.2⟩
          obtain ⟨h3, h4⟩ := snaps_free (hp := hp) (n := n) hfr
          rw [if_pos hall, h3, h4]
          rfl
      · exact Sd.lift' (fun a h => by cases h)

/-! ### Calls -/
abbrev GRec := Code → St → GM (E × St)

def gres {α : Type} (x : AV → GM α) (y : GM α) : GM α := fun cs => match cs with
  | .r v :: cs => x v cs
  | cs => y cs
theorem Sd.res {α : Type} {x : AV → GM α} {y : GM α} {o : Option α} (hx : ∀ v, Sd (x v) o) (hy : Sd y o) : Sd (gres x y) o := by
  intro cs a cs' ps h hp
  unfold gres at h
  split at h
  · exact hx _ _ _ _ _ h hp
  · exact hy _ _ _ _ h hp

def gloop (x : E → St → GM (E × St)) (y : GM (E × St)) : GM (E × St) := fun cs => match cs with
  | .l e s :: cs => x e s cs
  | cs => y cs
theorem Sd.loop {x : E → St → GM (E × St)} {y : GM (E × St)} {o : Option (E × St)} (hx : ∀ e s, Sd (x e s) o) (hy : Sd y o) : Sd (gloop x y) o := by
  intro cs a cs' ps h hp
  unfold gloop at h
  split at h
  · exact hx _ _ _ _ _ _ h hp
  · exact hy _ _ _ _ h hp

def callFG (C : Cfg) (grc : GRec) (f : FuncId) (args : List AV) (hp : Nat → Nat → Option Blk) (gn : Nat → Nat) : GM (AV × (Nat → Nat → Option Blk) × (Nat → Nat)) :=
  if C.skip f then glift none else
  match C.P.funcs[f]? with
  | none => glift none
  | some fn => match fn.body with
    | none => glift none
    | some c => gbind (grc c { sl := fun i => args.getD i .undef, hp, gn }) fun r => match r with
      | (.normal, s) | (.ret, s) => glift ((fn.results.toList.mapM (resV C.P s)).map fun vs => (resT vs, s.hp, s.gn))
      | _ => glift none

def GOk (rc : Rec) (grc : GRec) : Prop := ∀ c st, Sd (grc c st) (rc c st)

theorem callFG_sd {C : Cfg} {rc : Rec} {grc : GRec} (h : GOk rc grc) (f : FuncId) (args : List AV) (hp : Nat → Nat → Option Blk) (gn : Nat → Nat) : Sd (callFG C grc f args hp gn) (callF C rc f args hp gn) := by
  unfold callFG callF
  split
  · exact Sd.lift _
  · split
    · exact Sd.gnone _
    · rename_i fn hf
      simp only [hf]
      split
      · exact Sd.gnone _
      · rename_i c hb
        simp only [hb]
        intro cs a cs' ps hh hp'
        unfold gbind at hh
        split at hh
        · cases hh
        · rename_i r cs1 o1 h1
          split at hh
          · cases hh
          · rename_i b cs2 o2 h2
            simp only [Option.some.injEq, Prod.mk.injEq] at hh
            obtain ⟨rfl, rfl, rfl⟩ := hh
            obtain ⟨p1, p2⟩ := All.append hp'
            rw [h _ _ _ _ _ _ h1 p1]
            obtain ⟨e, s⟩ := r
            cases e <;> first | exact Sd.lift _ _ _ _ _ h2 p2 | (simp [glift] at h2)

def snapRG (hp : Nat → Nat → Option Blk) : AV → GM AV
  | .tup vs => gbind (snapG.snapsG hp DEEP vs) fun r => gpure (.tup (r.1.map AV.norm))
  | v => gbind (snapG hp DEEP v) fun r => gpure r.1.norm

theorem snapRG_sd (hp : Nat → Nat → Option Blk) (v : AV) : Sd (snapRG hp v) (snapR hp v) := by
  cases v with
  | tup vs =>
    simp only [snapRG, snapR]
    refine Sd.of_eq ((snapsG_sd (fun x => snapG_sd hp DEEP x) vs).bind fun r => Sd.pure _) ?_
    cases List.mapM (snap hp DEEP) vs <;> rfl
  | _ =>
    simp only [snapRG, snapR]
    refine Sd.of_eq ((snapG_sd hp DEEP _).bind fun r => Sd.pure _) ?_
    cases snap hp DEEP _ <;> rfl

def fnG (C : Cfg) (grc : GRec) (f : FuncId) (args : List AV) : GM AV :=
  match C.ext f with
  | some g => glift (g args)
  | none => gbind (callFG C grc f args (fun _ _ => none) (fun _ => 0)) fun r => snapRG r.2.1 r.1

theorem fnG_sd {C : Cfg} {rc : Rec} {grc : GRec} (h : GOk rc grc) (f : FuncId) (args : List AV) : Sd (fnG C grc f args) (fnV C rc f args) := by
  unfold fnG fnV
  split
  · rename_i g hg; simp only [hg]; exact Sd.lift _
  · rename_i hx
    simp only [hx, semF]
    exact (callFG_sd h _ _ _ _).bind fun r => snapRG_sd _ _

def callG (C : Cfg) (rc : Rec) (grc : GRec) (dst : Option Nat) (f : FuncId) (args : List AV) (st : St) : GM St :=
  if C.inl f then gbind (callFG C grc f args st.hp st.gn) fun r => gpure ((st.mem r.2.1 r.2.2).putO dst r.1)
  else if args.all AV.plain then gbind (snapG.snapsG st.hp DEEP args) fun q =>
    gres (fun v => greq (fnV C rc f q.1 = some v) (gpure ((st.frz q.2).putO dst v)))
      (gbind (fnG C grc f q.1) fun v => gpure ((st.frz q.2).putO dst v))
  else glift none

theorem callG_sd {C : Cfg} {rc : Rec} {grc : GRec} (h : GOk rc grc) (dst : Option Nat) (f : FuncId) (args : List AV) (st : St) : Sd (callG C rc grc dst f args st) (callStep C rc dst f args st) := by
  unfold callG callStep
  split
  · exact (callFG_sd h _ _ _ _).map _
  · split
    · refine Sd.of_eq ((snapsG_sd (fun x => snapG_sd st.hp DEEP x) args).bind fun q => Sd.res (o := (fnV C rc f q.1).map fun v => (st.frz q.2).putO dst v) (fun v => Sd.assume fun hv => ?_) ((fnG_sd h _ _).map _)) ?_
      · rw [hv]; exact Sd.pure _
      · cases List.mapM (snap st.hp DEEP) args <;> rfl
    · exact Sd.lift _

def appNewsG (P : Program) (e t2 : TypeId) (st : St) (x : AV) : GM (List AV) :=
  match x with
  | .sl z s g lo len => match tint P t2 with
    | some _ => glift none
    | none => if (tsl P t2).isSome then gbind (glift (st.hp s g)) fun b => greq (lo + len ≤ b.es.length) (gpure ((b.es.drop lo).take len)) else glift none
  | x => glift (appNews P e t2 st x)

theorem appNewsG_sd (P : Program) (e t2 : TypeId) (st : St) (x : AV) : Sd (appNewsG P e t2 st x) (appNews P e t2 st x) := by
  unfold appNewsG
  split
  · rename_i z s g lo len
    split
    · exact Sd.gnone _
    · rename_i ht
      split
      · rename_i hs
        unfold appNews
        simp only [ht, if_pos hs, conts]
        exact (Sd.lift _).bind fun b => (Sd.pure _).req
      · exact Sd.gnone _
  · exact Sd.lift _

def appBaseG (P : Program) (e : TypeId) (st : St) (s : AV) : GM (List AV × St) :=
  match s with
  | .sl z a g 0 len => if tsz P e = some z then gbind (glift (st.hp a g)) fun b => if b.fr then glift none else greq (len ≤ b.es.length) (gpure (b.es.take len, st.setB a g none)) else glift none
  | s => glift (appBase P e st s)

theorem appBaseG_sd (P : Program) (e : TypeId) (st : St) (s : AV) : Sd (appBaseG P e st s) (appBase P e st s) := by
  unfold appBaseG
  split
  · rename_i z a g len
    unfold appBase
    simp only
    split
    · refine (Sd.lift _).bind fun b => ?_
      cases hb : b.fr with
      | true => simp only [if_true, Bool.true_or]; exact Sd.gnone _
      | false =>
        simp only [Bool.false_eq_true, if_false, Bool.false_or]
        refine Sd.assume fun hl => ?_
        rw [if_neg (by simp; omega)]
        exact Sd.pure _
    · exact Sd.lift _
  · exact Sd.lift _

def appendG (P : Program) (d t1 t2 : Nat) (s x : AV) (st : St) : GM St :=
  gbind (glift (tsl P t1)) fun e => gbind (glift (tsz P e)) fun z => gbind (glift (tby P e)) fun by_ => gbind (glift (tzero P e)) fun zv => gbind (appNewsG P e t2 st x) fun news => gbind (appBaseG P e st s) fun p =>
    if 0 < z ∧ zv.ok ∧ zv.cells.length = z then greq (news.all (fun x => x.ok && x.cells.length = z)) (greq ((p.1.length + news.length) * by_ ≤ 140737488355328 ∧ p.1.length + news.length ≤ 140737488355328)
      (gpure ((p.2.new d (p.1 ++ news)).put d (.sl z d (st.gn d) 0 (p.1.length + news.length)))))
    else glift none

theorem appendG_sd (P : Program) (d t1 t2 : Nat) (s x : AV) (st : St) : Sd (appendG P d t1 t2 s x st) (appendStep P d t1 t2 s x st) := by
  unfold appendG appendStep
  refine (Sd.lift _).bind fun e => (Sd.lift _).bind fun z => (Sd.lift _).bind fun by_ => (Sd.lift _).bind fun zv => (appNewsG_sd _ _ _ _ _).bind fun news => (appBaseG_sd _ _ _ _).bind fun p => ?_
  split
  · rename_i h
    refine Sd.assume fun h1 => Sd.assume fun h2 => ?_
    rw [if_pos ⟨h.1, h.2.1, h.2.2, h1, h2.1, h2.2⟩]
    exact Sd.pure _
  · exact Sd.gnone _

def rowG (d : Option Nat) (es : List AV) (z : Nat) (st : St) : GM St :=
  match d with
  | some d => greq (es.all (fun x => x.ok && x.cells.length = z)) (if 0 < z then gpure ((st.new d es).put d (.sl z d (st.gn d) 0 es.length)) else glift none)
  | none => glift none

theorem rowG_sd (d : Option Nat) (es : List AV) (z : Nat) (st : St) : Sd (rowG d es z st) (rowStep d es z st) := by
  unfold rowG rowStep
  cases d with
  | none => exact Sd.lift _
  | some d =>
    refine Sd.assume fun h => ?_
    show Sd _ (if (es.all (fun x => x.ok && x.cells.length = z) && decide (0 < z)) = true then _ else _)
    by_cases h0 : 0 < z
    · rw [if_pos h0, if_pos (by simp only [h, Bool.true_and, decide_eq_true_eq]; exact h0)]; exact Sd.pure _
    · rw [if_neg h0]; exact Sd.gnone _

/-- One operation. -/
def stepGd (C : Cfg) (rc : Rec) (grc : GRec) (o : Oper) (st : St) : GM St :=
  match o.op with
  | .load .. | .alloc .. | .box .. | .buildSlice .. | .store .. | .convert .. => glift (step C rc o st)
  | .makeSlice t n c => gbind (glift (tsl C.P t)) fun e => gbind (glift (tsz C.P e)) fun z => gbind (glift (tby C.P e)) fun by_ => gbind (glift (tzero C.P e)) fun zv => gbind (glift (asI (st.ev n))) fun i => gbind (glift (asI (st.ev c))) fun j =>
      greq (i = j ∧ 0 ≤ i ∧ i ≤ 140737488355328 ∧ i.toNat * by_ ≤ 140737488355328) (if zv.ok ∧ zv.cells.length = z then rowG o.dst (List.replicate i.toNat zv) z st else glift none)
  | .slice t x lo hi mx => match tarr C.P t with
    | some _ => glift (step C rc o st)
    | none => gbind (pureG C.P st.ev o.op) fun v => gpure (st.putO o.dst v)
  | .call c => match c.callee with
    | .value f => match st.ev f with
      | .fn g caps => callG C rc grc o.dst g (c.args.toList.map st.ev ++ caps) st
      | _ => glift none
    | .builtin .append => match o.dst, c.args.toList, c.argTypes.toList with
      | some d, [s, x], [t1, t2] => appendG C.P d t1 t2 (st.ev s) (st.ev x) st
      | _, _, _ => glift none
    | .builtin .copy => glift (step C rc o st)
    | _ => gbind (pureG C.P st.ev o.op) fun v => gpure (st.putO o.dst v)
  | _ => gbind (pureG C.P st.ev o.op) fun v => gpure (st.putO o.dst v)

theorem stepGd_sd {C : Cfg} {rc : Rec} {grc : GRec} (h : GOk rc grc) (o : Oper) (st : St) : Sd (stepGd C rc grc o st) (step C rc o st) := by
  obtain ⟨dst, op, ty, pos, aft, gd⟩ := o
  cases op with
  | load t a => exact Sd.lift _
  | alloc t => exact Sd.lift _
  | box t a => exact Sd.lift _
  | buildSlice t n ps => exact Sd.lift _
  | store t a x => exact Sd.lift _
  | convert a b c => exact Sd.lift _
  | makeSlice t n c =>
    simp only [stepGd, step]
    refine (Sd.lift _).bind fun e => (Sd.lift _).bind fun z => (Sd.lift _).bind fun by_ => (Sd.lift _).bind fun zv => (Sd.lift _).bind fun i => (Sd.lift _).bind fun j => Sd.assume fun hc => ?_
    split
    · rename_i hz
      rw [if_pos ⟨hc.1, hc.2.1, hc.2.2.1, hc.2.2.2, hz.1, hz.2⟩]
      exact rowG_sd _ _ _ _
    · exact Sd.gnone _
  | slice t x lo hi mx =>
    simp only [stepGd, step]
    cases ht : tarr C.P t with
    | some p => exact Sd.of_eq (Sd.lift _) (by simp only [step, ht])
    | none => exact (pureG_sd _ _ _).map _
  | call c =>
    obtain ⟨callee, args, argTypes⟩ := c
    cases callee with
    | value f =>
      simp only [stepGd, step]
      split
      · rename_i g caps hf; simp only [hf]; exact callG_sd h _ _ _ _
      · exact Sd.gnone _
    | invoke r m =>
      simp only [stepGd, step]
      exact (pureG_sd _ _ _).map _
    | builtin b =>
      cases b <;> first
        | (simp only [stepGd, step]; exact (pureG_sd _ _ _).map _)
        | (simp only [stepGd]; exact Sd.lift _)
        | (simp only [stepGd, step]
           split
           · rename_i h1 h2; simp only [h1, h2]; exact appendG_sd _ _ _ _ _ _ _
           · exact Sd.gnone _)
  | _ =>
    simp only [stepGd, step]
    exact (pureG_sd _ _ _).map _

/-- One operation, if its guard wants it; what was asked before is known. -/
def kno : List (Nat × Bool) → Nat → Option Bool
  | [], _ => none
  | (a, c) :: l, t => if a = t then some c else kno l t

theorem put_same {st : St} {t : Nat} {b : Bool} (h : st.sl t = .bool b) : st.put t (.bool b) = st := by
  unfold St.put
  have : (fun x => if x = t then AV.bool b else st.sl x) = st.sl := by
    funext x
    split
    · rename_i hx; rw [hx, h]
    · rfl
  rw [this]

def iopsG (C : Cfg) (rc : Rec) (grc : GRec) (ops : Array Oper) : List Oper → List (Nat × Bool) → St → GM St
  | [], _, st => gpure st
  | o :: rest, kn, st => match o.guard with
    | none => gbind (stepGd C rc grc o st) (iopsG C rc grc ops rest kn)
    | some (j, w) => match (ops[j]?).bind (·.dst) with
      | none => glift none
      | some t => match st.sl t with
        | .bool b => match kno kn t with
          | some c => if b = c then (if c = w then gbind (stepGd C rc grc o st) (iopsG C rc grc ops rest kn) else iopsG C rc grc ops rest kn (st.putO o.dst .undef)) else glift none
          | none => gask b (if w then gbind (stepGd C rc grc o (st.put t (.bool true))) (iopsG C rc grc ops rest ((t, true) :: kn)) else iopsG C rc grc ops rest ((t, true) :: kn) ((st.put t (.bool true)).putO o.dst .undef))
              (if w then iopsG C rc grc ops rest ((t, false) :: kn) ((st.put t (.bool false)).putO o.dst .undef) else gbind (stepGd C rc grc o (st.put t (.bool false))) (iopsG C rc grc ops rest ((t, false) :: kn)))
        | .undef => iopsG C rc grc ops rest kn (st.putO o.dst .undef)
        | _ => glift none

theorem iopsG_sd {C : Cfg} {rc : Rec} {grc : GRec} (h : GOk rc grc) (ops : Array Oper) : ∀ (l : List Oper) (kn : List (Nat × Bool)) (st : St), Sd (iopsG C rc grc ops l kn st) (iops C rc ops l st)
  | [], kn, st => Sd.pure st
  | o :: rest, kn, st => by
    unfold iopsG
    simp only [iops, stepG]
    have go : ∀ kn' st', Sd (gbind (stepGd C rc grc o st') (iopsG C rc grc ops rest kn')) ((step C rc o st').bind (iops C rc ops rest)) := fun kn' st' => (stepGd_sd h o st').bind fun s => iopsG_sd h ops rest kn' s
    have off : ∀ kn' (st' : St), Sd (iopsG C rc grc ops rest kn' (st'.putO o.dst .undef)) ((some (st'.putO o.dst .undef)).bind (iops C rc ops rest)) := fun kn' st' => iopsG_sd h ops rest kn' _
    split
    · rename_i hg; simp only [hg]; exact go _ _
    · rename_i j w hg
      simp only [hg]
      split
      · exact Sd.gnone _
      · rename_i t ht
        simp only [ht]
        split
        · rename_i b hb
          simp only [hb]
          split
          · rename_i c hc
            split
            · rename_i hbc
              subst hbc
              split
              · exact go _ _
              · exact off _ _
            · exact Sd.gnone _
          · have ht' : b = true → st.put t (.bool true) = st := fun e => put_same (by rw [hb, e])
            have hf' : b = false → st.put t (.bool false) = st := fun e => put_same (by rw [hb, e])
            have := Sd.ask (b := b) (x := if w then gbind (stepGd C rc grc o (st.put t (.bool true))) (iopsG C rc grc ops rest ((t, true) :: kn)) else iopsG C rc grc ops rest ((t, true) :: kn) ((st.put t (.bool true)).putO o.dst .undef))
              (y := if w then iopsG C rc grc ops rest ((t, false) :: kn) ((st.put t (.bool false)).putO o.dst .undef) else gbind (stepGd C rc grc o (st.put t (.bool false))) (iopsG C rc grc ops rest ((t, false) :: kn)))
              (x' := (if b = w then step C rc o st else some (st.putO o.dst .undef)).bind (iops C rc ops rest)) (y' := (if b = w then step C rc o st else some (st.putO o.dst .undef)).bind (iops C rc ops rest))
              (fun e => by
                rw [ht' e]
                cases w with
                | true => rw [if_pos rfl, if_pos e]; exact go _ _
                | false => rw [if_neg (by simp), if_neg (by rw [e]; simp)]; exact off _ _)
              (fun e => by
                rw [hf' e]
                cases w with
                | true => rw [if_pos rfl, if_neg (by rw [e]; simp)]; exact off _ _
                | false => rw [if_neg (by simp), if_pos e]; exact go _ _)
            rw [ite_self] at this
            exact this
        · rename_i hb; simp only [hb]; exact off _ _
        · exact Sd.gnone _

def bindEG (r : GM (E × St)) (f : St → GM (E × St)) : GM (E × St) := gbind r fun q => match q with
  | (.normal, s) => f s
  | q => gpure q

theorem bindEG_sd {r : GM (E × St)} {r' : Option (E × St)} {f : St → GM (E × St)} {f' : St → Option (E × St)} (h : Sd r r') (hf : ∀ s, Sd (f s) (f' s)) : Sd (bindEG r f) (bindE r' f') := by
  refine Sd.of_eq (h.bind (f' := fun q => match q with
    | (.normal, s) => f' s
    | q => some q) fun q => ?_) ?_
  · obtain ⟨e, s⟩ := q
    cases e <;> first | exact hf s | exact Sd.pure _
  · unfold bindE
    cases r' with
    | none => rfl
    | some q =>
      obtain ⟨e, s⟩ := q
      cases e <;> rfl

def execCG (C : Cfg) (rc : Rec) (grc : GRec) : Code → St → GM (E × St)
  | .skip, st => gpure (.normal, st)
  | .label _, st => gpure (.normal, st)
  | .seq a b, st => bindEG (execCG C rc grc a st) (execCG C rc grc b)
  | .region _ ops d, st => gbind (iopsG C rc grc ops ops.toList [] st) fun s => glift (if d && !dynOk C ops s then none else some (.normal, s))
  | .cond c a b, st => match st.ev c with
    | .bool t => gask t (execCG C rc grc a st) (execCG C rc grc b st)
    | _ => glift none
  | .block id c, st => gbind (execCG C rc grc c st) fun q => match q with
    | (.exit i, s) => gpure (if i = id then .normal else .exit i, s)
    | q => gpure q
  | .loop c, st => gloop (fun e s => greq (execC C rc (.loop c) st = some (e, s)) (gpure (e, s))) (bindEG (execCG C rc grc c st) (grc (.loop c)))
  | .scope c, st => execCG C rc grc c st
  | .exit id, st => gpure (.exit id, st)
  | .ret, st => gpure (.ret, st)
  | _, _ => glift none

theorem execCG_sd {C : Cfg} {rc : Rec} {grc : GRec} (h : GOk rc grc) : ∀ (c : Code) (st : St), Sd (execCG C rc grc c st) (execC C rc c st) := by
  intro c
  induction c with
  | skip => exact fun st => Sd.pure _
  | label l => exact fun st => Sd.pure _
  | exit i => exact fun st => Sd.pure _
  | ret => exact fun st => Sd.pure _
  | seq a b iha ihb => exact fun st => bindEG_sd (iha st) ihb
  | region id ops d => exact fun st => (iopsG_sd h ops _ _ st).bind fun s => Sd.lift _
  | cond x a b iha ihb =>
    intro st
    simp only [execCG, execC]
    split
    · rename_i t ht; simp only [ht]; exact Sd.ask (fun _ => iha st) (fun _ => ihb st)
    · exact Sd.gnone _
  | block id c ih =>
    intro st
    simp only [execCG, execC]
    refine Sd.of_eq ((ih st).bind (f' := fun q => match q with
      | (.exit i, s) => some (if i = id then .normal else .exit i, s)
      | q => some q) fun q => ?_) ?_
    · obtain ⟨e, s⟩ := q
      cases e <;> exact Sd.pure _
    · unfold leave
      cases execC C rc c st with
      | none => rfl
      | some q =>
        obtain ⟨e, s⟩ := q
        cases e <;> rfl
  | loop c ih =>
    intro st
    simp only [execCG]
    refine Sd.loop (fun e s => Sd.assume fun he => ?_) ?_
    · rw [he]; exact Sd.pure _
    · simp only [execC]; exact bindEG_sd (ih st) (fun s => h _ s)
  | scope c ih => exact fun st => ih st
  | _ => exact fun st => Sd.gnone _

def execG (C : Cfg) : Nat → Code → St → GM (E × St)
  | 0, _, _ => glift none
  | k + 1, c, st => execCG C (exec C k) (execG C k) c st

theorem execG_ok (C : Cfg) : ∀ k, GOk (exec C k) (execG C k)
  | 0 => fun c st => Sd.gnone _
  | k + 1 => fun c st => execCG_sd (execG_ok C k) c st

/-- What a guided run tells of a function. -/
theorem sem_of {C : Cfg} {k : Nat} {f : FuncId} {args : List AV} {cs cs' : List Ch} {r : AV} {ps : List Prop} (h : fnG C (execG C k) f args cs = some (r, cs', ps)) (hp : All ps) : fnV C (exec C k) f args = some r :=
  fnG_sd (execG_ok C k) f args _ _ _ _ h hp

theorem exec_of {C : Cfg} {k : Nat} {c : Code} {st s : St} {e : E} {cs cs' : List Ch} {ps : List Prop} (h : execG C k c st cs = some ((e, s), cs', ps)) (hp : All ps) : exec C k c st = some (e, s) :=
  execG_ok C k c st _ _ _ _ h hp

end Vai
