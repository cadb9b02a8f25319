import Derived.Test.YtjienkojedlfjaaVbT
namespace Vai
open Go
set_option linter.unusedVariables false
set_option linter.unusedSimpArgs false
def mks : List (Nat × AV) → (Nat → AV) → Nat → AV
  | [], σ, i => σ i
  | (a, v) :: l, σ, i => if i = a then v else mks l σ i
inductive Ch where
  | a
  | k
  | b (c : Bool)
  | r (v : AV)
  | i
  | e (x : AV)
  | n
  | m (B : Blk)
  | o
  | q
  | d
  | x (n : Nat) (l0 : List (Nat × AV)) (m0 : List ((Nat × Nat) × Blk)) (g0 : List (Nat × Nat)) (r : AV)
  | l (l0 : List (Nat × AV)) (m0 : List ((Nat × Nat) × Blk)) (g0 : List (Nat × Nat)) (e : E) (l1 : List Nat → List (Nat × AV)) (m1 : List Nat → List ((Nat × Nat) × Blk)) (g1 : List (Nat × Nat))
inductive Q where
  | b (c : Bool)
  | c (f : FuncId) (args : List AV)
  | e (x : Option AV)
  | h (x : Option Blk)
  | l (c : Code) (st : St)
inductive GR (α : Type) where
  | fail (why : Nat)
  | asks (q : Q)
  | done (a : α) (cs : List Ch) (ps : List Prop)
def All : List Prop → Prop
  | [] => True
  | p :: ps => p ∧ All ps
theorem All.nil : All [] := trivial
theorem All.cons {p : Prop} {ps : List Prop} (h : p) (t : All ps) : All (p :: ps) := ⟨h, t⟩
theorem All.append : ∀ {a b : List Prop}, All (a ++ b) → All a ∧ All b
  | [], b, h => ⟨trivial, h⟩
  | p :: a, b, h => ⟨⟨h.1, (All.append h.2).1⟩, (All.append h.2).2⟩
abbrev GM (α : Type) := List Ch → GR α
def Ev (p : Nat → Prop) : Prop := ∃ k0, ∀ k, k0 ≤ k → p k
theorem Ev.and {p q : Nat → Prop} : Ev p → Ev q → Ev fun k => p k ∧ q k
  | ⟨a, ha⟩, ⟨b, hb⟩ => ⟨a + b, fun k hk => ⟨ha k (by omega), hb k (by omega)⟩⟩
theorem Ev.imp {p q : Nat → Prop} (h : ∀ k, p k → q k) : Ev p → Ev q
  | ⟨a, ha⟩ => ⟨a, fun k hk => h k (ha k hk)⟩
theorem Ev.of {p : Nat → Prop} (h : ∀ k, p k) : Ev p := ⟨0, fun k _ => h k⟩
theorem Ev.succ {p : Nat → Prop} : Ev (fun k => p (k + 1)) → Ev p
  | ⟨a, ha⟩ => ⟨a + 1, fun k hk => by obtain ⟨j, rfl⟩ : ∃ j, k = j + 1 := ⟨k - 1, by omega⟩; exact ha j (by omega)⟩
theorem Ev.pred {p : Nat → Prop} : Ev p → Ev (fun k => p (k + 1))
  | ⟨a, ha⟩ => ⟨a, fun k hk => ha (k + 1) (by omega)⟩
theorem Ev.get {p : Nat → Prop} : Ev p → ∃ k, p k
  | ⟨a, ha⟩ => ⟨a, ha a (Nat.le_refl a)⟩
def Ans (C : Cfg) (f : FuncId) (args : List AV) (r : AV) : Prop := Ev fun k => fnV C (exec C k) f args = some r
def mkh : List ((Nat × Nat) × Blk) → Mem → Mem
  | [], h => h
  | (p, B) :: l, h => fun x y => if x = p.1 ∧ y = p.2 then some B else mkh l h x y
def mkg : List (Nat × Nat) → (Nat → Nat) → Nat → Nat
  | [], g, i => g i
  | (a, n) :: l, g, i => if i = a then n else mkg l g i
structure At (l : List (Nat × AV)) (m : List ((Nat × Nat) × Blk)) (gl : List (Nat × Nat)) (s : St) : Prop where
  sl : l.map (fun p => s.sl p.1) = l.map (·.2)
  hp : m.map (fun p => s.hp p.1.1 p.1.2) = m.map fun p => some p.2
  gn : gl.map (fun p => s.gn p.1) = gl.map (·.2)
def Goto (C : Cfg) (c : Code) (l0 : List (Nat × AV)) (m0 : List ((Nat × Nat) × Blk)) (g0 : List (Nat × Nat)) (e : E) (l1 : List Nat → List (Nat × AV)) (m1 : List Nat → List ((Nat × Nat) × Blk)) (g1 : List (Nat × Nat)) : Prop :=
  ∀ st, At l0 m0 g0 st → ∃ s Gs, At (l1 Gs) (m1 Gs) g1 s ∧ Ev fun k => exec C k c st = some (e, s)
abbrev LoopTo (C : Cfg) (c : Code) := Goto C (.loop c)
noncomputable def aft (C : Cfg) (c : Code) (st : St) (l1 : List Nat → List (Nat × AV)) (m1 : List Nat → List ((Nat × Nat) × Blk)) (g1 : List (Nat × Nat)) : St × List Nat :=
  @Classical.epsilon _ ⟨(st, [])⟩ fun p => At (l1 p.2) (m1 p.2) g1 p.1 ∧ ∃ e, Ev fun k => exec C k (.loop c) st = some (e, p.1)
theorem mkh_self : ∀ {m : List ((Nat × Nat) × Blk)} {h : Mem}, (m.map (fun p => h p.1.1 p.1.2) = m.map fun p => some p.2) → mkh m h = h
  | [], _, _ => rfl
  | (p, B) :: m, h, hm => by
    simp only [List.map_cons, List.cons.injEq] at hm
    funext x y
    unfold mkh
    split
    · rename_i hc; rw [hc.1, hc.2]; exact hm.1.symm
    · rw [mkh_self hm.2]
theorem mkg_self : ∀ {m : List (Nat × Nat)} {g : Nat → Nat}, (m.map (fun p => g p.1) = m.map (·.2)) → mkg m g = g
  | [], _, _ => by funext i; rfl
  | (a, n) :: m, g, hm => by
    simp only [List.map_cons, List.cons.injEq] at hm
    funext i
    unfold mkg
    split
    · rename_i hc; rw [hc]; exact hm.1.symm
    · rw [mkg_self hm.2]
theorem mk_self {l : List (Nat × AV)} {σ : Nat → AV} : l.map (fun p => σ p.1) = l.map (·.2) → mks l σ = σ := by
  induction l with
  | nil => intro _; rfl
  | cons p l ih =>
    obtain ⟨a, v⟩ := p
    intro h
    simp only [List.map_cons, List.cons.injEq] at h
    funext i
    unfold mks
    split
    · rename_i hi; rw [hi]; exact h.1.symm
    · rw [ih h.2]
def look : List (Nat × AV) → Nat → Option AV
  | [], _ => none
  | (a, v) :: l, i => if i = a then some v else look l i
theorem mk_look (σ : Nat → AV) (i : Nat) : ∀ l, mks l σ i = (look l i).getD (σ i)
  | [] => rfl
  | (a, v) :: l => by
    unfold mks look
    split
    · rfl
    · exact mk_look σ i l
section
variable {α β : Type}
def gpure (a : α) : GM α := fun cs => .done a cs []
def gbind (g : GM α) (f : α → GM β) : GM β := fun cs => match g cs with
  | .fail n => .fail n
  | .asks q => .asks q
  | .done a cs1 o1 => match f a cs1 with
    | .fail n => .fail n
    | .asks q => .asks q
    | .done b cs2 o2 => .done b cs2 (o1 ++ o2)
def gfail (n : Nat) : GM α := fun _ => .fail n
def glift (o : Option α) : GM α := fun cs => match o with
  | none => .fail 0
  | some a => .done a cs []
def gtag (n : Nat) (g : GM α) : GM α := fun cs => match g cs with
  | .fail 0 => .fail n
  | .fail n => .fail n
  | .asks q => .asks q
  | .done a cs1 o1 => .done a cs1 o1
def gadd (p : Prop) (r : GR α) : GR α := match r with
  | .fail n => .fail n
  | .asks q => .asks q
  | .done a cs o => .done a cs (p :: o)
def Mk (p : Prop) : Prop := p
def gask (b : Bool) (x y : GM α) : GM α := fun cs => match cs with
  | .b true :: cs => gadd (Mk (b = true)) (x cs)
  | .b false :: cs => gadd (Mk (b = false)) (y cs)
  | .k :: cs => (match b with
    | true => x cs
    | false => y cs)
  | .a :: cs => (match b with
    | true => x (.a :: cs)
    | false => y (.a :: cs))
  | _ => .asks (.b b)
def greq (p : Prop) (x : GM α) : GM α := fun cs => gadd p (x cs)
def gelem (o : Option α) (q : Q) (c : Ch → Option α) (f : α → GM β) : GM β := fun cs => match cs with
  | .n :: cs => (match o with
    | some x => f x cs
    | none => .fail 0)
  | .a :: cs => (match o with
    | some x => f x (.a :: cs)
    | none => .fail 0)
  | h :: cs => (match c h with
    | some y => gadd (Mk (o = some y)) (f y cs)
    | none => .asks q)
  | _ => .asks q
def gblk (o : Option Blk) : GM Blk := fun cs => match cs with
  | .m B :: cs => gadd (Mk (o = some B)) (.done B cs [])
  | .o :: cs => (match o with
    | some B => .done B cs []
    | none => .fail 0)
  | .q :: _ => .asks (.h o)
  | cs => (match o with
    | some B => .done B cs []
    | none => .fail 0)
def gdyn (b : Bool) : GM Unit := fun cs => match cs with
  | .d :: cs => gadd (b = true) (.done () cs [])
  | cs => (match b with
    | true => .done () cs []
    | false => .fail 0)
theorem gadd_done {p : Prop} {r : GR α} {a : α} {cs : List Ch} {ps : List Prop} (h : gadd p r = .done a cs ps) (hp : All ps) : ∃ ps', r = .done a cs ps' ∧ p ∧ All ps' := by
  cases r with
  | fail n => cases h
  | asks q => cases h
  | done b cs1 o =>
    simp only [gadd, GR.done.injEq] at h
    obtain ⟨rfl, rfl, rfl⟩ := h
    exact ⟨o, rfl, hp.1, hp.2⟩
def Sd (g : GM α) (o : Nat → Option α) : Prop := ∀ cs a cs' ps, g cs = .done a cs' ps → All ps → Ev fun k => o k = some a
theorem Sd.pure (a : α) : Sd (gpure a) (fun _ => some a) := by
  intro cs a' cs' ps h _
  simp only [gpure, GR.done.injEq] at h
  rw [h.1]
  exact Ev.of fun _ => rfl
theorem Sd.lift (o : Option α) : Sd (glift o) (fun _ => o) := by
  intro cs a cs' ps h _
  unfold glift at h
  split at h
  · cases h
  · simp only [GR.done.injEq] at h; rw [h.1]; exact Ev.of fun _ => rfl
theorem Sd.gnone (o : Nat → Option α) : Sd (glift (Option.none : Option α)) o := fun cs a cs' ps h _ => by simp [glift] at h
theorem Sd.tag {g : GM α} {o : Nat → Option α} (n : Nat) (h : Sd g o) : Sd (gtag n g) o := by
  intro cs a cs' ps hh hp
  unfold gtag at hh
  split at hh
  · cases hh
  · cases hh
  · cases hh
  · rename_i a1 cs1 o1 h1
    simp only [GR.done.injEq] at hh
    obtain ⟨rfl, rfl, rfl⟩ := hh
    exact h _ _ _ _ h1 hp
theorem Sd.bind {g : GM α} {o : Nat → Option α} {f : α → GM β} {f' : Nat → α → Option β} (h : Sd g o) (hf : ∀ a, Sd (f a) (fun k => f' k a)) : Sd (gbind g f) (fun k => (o k).bind (f' k)) := by
  intro cs b cs' ps hh hp
  unfold gbind at hh
  split at hh
  · cases hh
  · cases hh
  · rename_i a cs1 o1 h1
    split at hh
    · cases hh
    · cases hh
    · rename_i b' cs2 o2 h2
      simp only [GR.done.injEq] at hh
      obtain ⟨rfl, rfl, rfl⟩ := hh
      obtain ⟨p1, p2⟩ := All.append hp
      refine ((h cs a cs1 o1 h1 p1).and (hf a cs1 b' cs2 o2 h2 p2)).imp fun k hk => ?_
      show (o k).bind (f' k) = some b'
      rw [hk.1]
      exact hk.2
theorem Sd.map {g : GM α} {o : Nat → Option α} (h : Sd g o) (f : α → β) : Sd (gbind g fun a => gpure (f a)) (fun k => (o k).map f) := by
  have := h.bind (f' := fun _ a => some (f a)) (fun a => Sd.pure (f a))
  rwa [show (fun k => (o k).bind (fun a => some (f a))) = fun k => (o k).map f by funext k; cases o k <;> rfl] at this
theorem Sd.of_eq {g : GM α} {o o' : Nat → Option α} (h : Sd g o) (e : ∀ k, o k = o' k) : Sd g o' := (funext e : o = o') ▸ h
theorem Sd.ask {b : Bool} {x y : GM α} {x' y' : Nat → Option α} (hx : b = true → Sd x x') (hy : b = false → Sd y y') : Sd (gask b x y) (fun k => if b = true then x' k else y' k) := by
  intro cs a cs' ps h hp
  unfold gask at h
  have tt : b = true → ∀ cs0 ps', x cs0 = .done a cs' ps' → All ps' → Ev fun k => (if b = true then x' k else y' k) = some a := fun e cs0 ps' h1 h2 => by
    refine (hx e _ _ _ _ h1 h2).imp fun k hk => ?_
    rw [if_pos e]; exact hk
  have ff : b = false → ∀ cs0 ps', y cs0 = .done a cs' ps' → All ps' → Ev fun k => (if b = true then x' k else y' k) = some a := fun e cs0 ps' h1 h2 => by
    refine (hy e _ _ _ _ h1 h2).imp fun k hk => ?_
    rw [if_neg (by rw [e]; simp)]; exact hk
  split at h
  · obtain ⟨ps', h1, e, h2⟩ := gadd_done h hp
    exact tt e _ _ h1 h2
  · obtain ⟨ps', h1, e, h2⟩ := gadd_done h hp
    exact ff e _ _ h1 h2
  · cases hb : b with
    | true => simp only [hb] at h; have := tt hb _ _ h hp; rwa [hb] at this
    | false => simp only [hb] at h; have := ff hb _ _ h hp; rwa [hb] at this
  · cases hb : b with
    | true => simp only [hb] at h; have := tt hb _ _ h hp; rwa [hb] at this
    | false => simp only [hb] at h; have := ff hb _ _ h hp; rwa [hb] at this
  · cases h
theorem Sd.req {p : Prop} [Decidable p] {x : GM α} {x' : Nat → Option α} (hx : Sd x x') : Sd (greq p x) (fun k => if p then x' k else none) := by
  intro cs a cs' ps h hp
  obtain ⟨ps', h1, e, h2⟩ := gadd_done h hp
  refine (hx _ _ _ _ h1 h2).imp fun k hk => ?_
  show (if p then x' k else none) = some a
  rw [if_pos e]; exact hk
theorem Sd.assume {p : Prop} {x : GM α} {x' : Nat → Option α} (hx : p → Sd x x') : Sd (greq p x) x' := by
  intro cs a cs' ps h hp
  obtain ⟨ps', h1, e, h2⟩ := gadd_done h hp
  exact hx e _ _ _ _ h1 h2
theorem Sd.elem {o : Option α} {q : Q} {c : Ch → Option α} {f : α → GM β} {f' : Nat → α → Option β} (hf : ∀ a, Sd (f a) (fun k => f' k a)) : Sd (gelem o q c f) (fun k => o.bind (f' k)) := by
  intro cs a cs' ps h hp
  unfold gelem at h
  split at h
  · split at h
    · rename_i x; exact hf x _ _ _ _ h hp
    · cases h
  · split at h
    · rename_i x; exact hf x _ _ _ _ h hp
    · cases h
  · split at h
    · rename_i y hy
      obtain ⟨ps', h1, e, h2⟩ := gadd_done h hp
      have e : o = some y := e
      subst e
      exact hf y _ _ _ _ h1 h2
    · cases h
  · cases h
theorem Sd.blk (o : Option Blk) : Sd (gblk o) (fun _ => o) := by
  intro cs a cs' ps h hp
  unfold gblk at h
  split at h
  · obtain ⟨ps', h1, e, h2⟩ := gadd_done h hp
    cases h1
    exact Ev.of fun _ => e
  · split at h
    · cases h; exact Ev.of fun _ => rfl
    · cases h
  · cases h
  · split at h
    · cases h; exact Ev.of fun _ => rfl
    · cases h
theorem Sd.dyn {o : Nat → Option α} {g : GM α} {b : Bool} (h : b = true → Sd g o) : Sd (gbind (gdyn b) fun _ => g) o := by
  intro cs a cs' ps hh hp
  unfold gbind at hh
  split at hh
  · cases hh
  · cases hh
  · rename_i u cs1 o1 h1
    split at hh
    · cases hh
    · cases hh
    · rename_i a2 cs2 o2 h2
      simp only [GR.done.injEq] at hh
      obtain ⟨rfl, rfl, rfl⟩ := hh
      obtain ⟨p1, p2⟩ := All.append hp
      have hb : b = true := by
        unfold gdyn at h1
        split at h1
        · obtain ⟨ps', h3, e, h4⟩ := gadd_done h1 p1; exact e
        · split at h1
          · rfl
          · cases h1
      exact h hb _ _ _ _ h2 p2
theorem Sd.fail (n : Nat) (o : Nat → Option α) : Sd (gfail n) o := by intro cs a cs' ps h; cases h
theorem Sd.shift {g : GM α} {o : Nat → Option α} (h : Sd g fun k => o (k + 1)) : Sd g o := fun cs a cs' ps hh hp => (h cs a cs' ps hh hp).succ
end
def chE : Ch → Option AV
  | .e y => some y
  | _ => none
def boundG (x : Option AV) (y d : Nat) : GM Nat := match x with
  | none => gpure d
  | some v => gbind (glift (asI v)) fun i => greq (0 ≤ i ∧ i ≤ y) (gpure i.toNat)
theorem boundG_sd (x : Option AV) (y d : Nat) : Sd (boundG x y d) (fun _ => bound x y d) := by
  unfold boundG bound
  cases x with
  | none => exact Sd.pure d
  | some v => exact (Sd.lift _).bind fun i => (Sd.pure _).req
def sliceG (P : Program) (t : TypeId) (x : AV) (lo hi mx : Option AV) : GM AV :=
  match x, mx with
  | .osl xs, none => gbind (glift (tsl P t)) fun e => gbind (glift (tsz P e)) fun z => greq (xs.all (fun x => x.cells.length = z)) (gbind (boundG hi xs.length xs.length) fun h => gbind (boundG lo h 0) fun l =>
      gpure (.osl ((xs.take h).drop l)))
  | .osl xs, some m => gbind (glift (tsl P t)) fun e => gbind (glift (tsz P e)) fun z => if hi.isSome then greq (xs.all (fun x => x.cells.length = z)) (gbind (boundG (some m) xs.length xs.length) fun m => gbind (boundG hi m xs.length) fun h => gbind (boundG lo h 0) fun l =>
      gask (decide (m = l)) (gpure .nil) (gpure (.osl ((xs.take h).drop l)))) else glift none
  | .sl e s g b n, mx => if (tsl P t).bind (tsz P) = some e && (mx.isNone || hi.isSome) then gbind (boundG mx n n) fun m => gbind (boundG hi m n) fun h => gbind (boundG lo h 0) fun l =>
      gask (decide (l ≠ 0 ∧ l = h)) (gpure (.osl [])) (gpure (.sl e s g (b + l) (h - l))) else glift none
  | .str s, none => if tstr P t then gbind (boundG hi s.size s.size) fun h => gbind (boundG lo h 0) fun l => gpure (.str (s.extract l h)) else glift none
  | x, mx => glift (sliceV P t x lo hi mx)
theorem sliceG_sd (P : Program) (t : TypeId) (x : AV) (lo hi mx : Option AV) : Sd (sliceG P t x lo hi mx) (fun _ => sliceV P t x lo hi mx) := by
  unfold sliceG
  split
  · rename_i xs
    simp only [sliceV, Option.isSome_none, Bool.false_eq_true, if_false, Bool.false_and, Option.isNone_none, Bool.true_or, Bool.true_and, bound, Option.bind_some]
    exact (Sd.lift _).bind fun e => (Sd.lift _).bind fun z => ((boundG_sd _ _ _).bind fun h => (boundG_sd _ _ _).bind fun l => Sd.pure _).req
  · rename_i xs m
    simp only [sliceV, Option.isSome_some, Option.isNone_some, Bool.false_or, Bool.true_and]
    refine (Sd.lift _).bind fun e => (Sd.lift _).bind fun z => ?_
    cases hi with
    | none => exact Sd.gnone _
    | some hi =>
      simp only [Option.isSome_some, if_true, Bool.true_and]
      refine ((boundG_sd _ _ _).bind fun m => (boundG_sd _ _ _).bind fun h => (boundG_sd _ _ _).bind fun l => ?_).req
      have := Sd.ask (b := decide (m = l)) (x := gpure AV.nil) (y := gpure (AV.osl ((xs.take h).drop l))) (fun _ => Sd.pure _) (fun _ => Sd.pure _)
      simpa using this
  · rename_i mx0 e s g b n
    simp only [sliceV]
    split
    · refine (boundG_sd _ _ _).bind fun m => (boundG_sd _ _ _).bind fun h => (boundG_sd _ _ _).bind fun l => ?_
      have := Sd.ask (b := decide (l ≠ 0 ∧ l = h)) (x := gpure (AV.osl [])) (y := gpure (AV.sl e s g (b + l) (h - l))) (fun _ => Sd.pure _) (fun _ => Sd.pure _)
      simpa using this
    · exact Sd.gnone _
  · rename_i s
    simp only [sliceV, Option.isNone_none, Bool.and_true]
    split
    · exact (boundG_sd _ _ _).bind fun h => (boundG_sd _ _ _).bind fun l => Sd.pure _
    · exact Sd.gnone _
  · exact Sd.lift _
def indexAddrG (P : Program) (t : TypeId) (x ix : AV) : GM AV :=
  match ix, x with
  | .int _ i, .sl e s g lo len => if (tsl P t).bind (tsz P) = some e then greq (0 ≤ i ∧ i < len) (gpure (.ptr s g (lo + i.toNat) 0)) else glift none
  | .int _ i, .ptr s g j off => gbind (glift (tarr P t)) fun p => gbind (glift (tsz P p.2)) fun z => greq (0 ≤ i ∧ i < p.1) (gpure (.ptr s g j (off + i.toNat * z)))
  | .int _ i, .rptr cs => gbind (glift (tarr P t)) fun p => gbind (glift (tsz P p.2)) fun z => greq (0 ≤ i ∧ i < p.1) (gpure (.rptr (cs.drop (i.toNat * z))))
  | .int _ i, .osl xs => gbind (glift (tsl P t)) fun e => gbind (glift (tsz P e)) fun z => greq (0 ≤ i) (gelem (xs[i.toNat]?) (.e (xs[i.toNat]?)) chE fun y => glift (if y.cells.length = z then some (.rptr y.cells) else none))
  | ix, x => glift (indexAddrV P t x ix)
theorem indexAddrG_sd (P : Program) (t : TypeId) (x ix : AV) : Sd (indexAddrG P t x ix) (fun _ => indexAddrV P t x ix) := by
  unfold indexAddrG
  split
  · simp only [indexAddrV, asI, Option.bind_some]
    split
    · exact (Sd.pure _).req
    · exact Sd.gnone _
  · simp only [indexAddrV, asI, Option.bind_some]
    exact (Sd.lift _).bind fun p => (Sd.lift _).bind fun z => (Sd.pure _).req
  · simp only [indexAddrV, asI, Option.bind_some]
    exact (Sd.lift _).bind fun p => (Sd.lift _).bind fun z => (Sd.pure _).req
  · rename_i k i xs
    simp only [indexAddrV, asI, Option.bind_some]
    refine (Sd.lift _).bind fun e => (Sd.lift _).bind fun z => (Sd.of_eq (Sd.elem fun y => Sd.lift _) fun k => ?_).req
    cases xs[i.toNat]? <;> rfl
  · exact Sd.lift _
def indexG (P : Program) (t : TypeId) (x ix : AV) : GM AV :=
  match ix, x with
  | .int _ i, .str s => greq (0 ≤ i) (greq (i.toNat < s.size) (if tstr P t then gpure (.int .u8 (s.data.getD i.toNat 0).toNat) else glift none))
  | .int _ i, .agg cs => gbind (glift (tarr P t)) fun p => gbind (glift (tsz P p.2)) fun z => gbind (glift (tagg P p.2)) fun a => greq (0 ≤ i ∧ i < p.1) (gelem (pick a z (i.toNat * z) cs) (.e (pick a z (i.toNat * z) cs)) chE gpure)
  | ix, x => glift (indexV P t x ix)
theorem indexG_sd (P : Program) (t : TypeId) (x ix : AV) : Sd (indexG P t x ix) (fun _ => indexV P t x ix) := by
  unfold indexG
  split
  · rename_i k i s
    simp only [indexV, asI, Option.bind_some]
    refine Sd.assume fun h0 => Sd.assume fun hlt => ?_
    by_cases ht : tstr P t = true
    · rw [if_pos ht, if_pos (by simp [ht, h0])]
      have : s[i.toNat]? = some (s.data.getD i.toNat 0) := by
        have hl : i.toNat < s.data.size := hlt
        rw [getElem?_pos s i.toNat hlt, Array.getD_eq_getD_getElem?, Array.getElem?_eq_getElem hl]
        rfl
      rw [this]
      exact Sd.pure _
    · rw [if_neg ht]; exact Sd.gnone _
  · simp only [indexV, asI, Option.bind_some]
    refine (Sd.lift _).bind fun p => (Sd.lift _).bind fun z => (Sd.lift _).bind fun a => (Sd.of_eq (Sd.elem (f' := fun _ a => some a) fun y => Sd.pure _) fun k => ?_).req
    cases pick a z (Int.toNat _ * z) _ <;> rfl
  · exact Sd.lift _
def binG (P : Program) (op : BinOp) (t : TypeId) (x y : AV) : GM AV :=
  match op, x, y with
  | .quo, .int k a, .int k' b => if k = k' then greq (¬ b = 0) (gpure (.int k (k.wrap (a.tdiv b)))) else glift none
  | .rem, .int k a, .int k' b => if k = k' then greq (¬ b = 0) (gpure (.int k (a.tmod b))) else glift none
  | .shl, .int k a, .int k' b => greq (¬ b < 0) (gpure (.int k (k.wrap (a * 2 ^ (min b.toNat k.bits)))))
  | .shr, .int k a, .int k' b => greq (¬ b < 0) (gpure (.int k (a.fdiv (2 ^ (min b.toNat k.bits)))))
  | .add, .str a, .str b => greq (a.size + b.size ≤ 9223372036854775807) (gpure (.str (a ++ b)))
  | op, x, y => glift (binV P op t x y)
theorem binG_sd (P : Program) (op : BinOp) (t : TypeId) (x y : AV) : Sd (binG P op t x y) (fun _ => binV P op t x y) := by
  unfold binG
  split
  · simp only [binV]
    split
    · simp only [binI]
      exact Sd.assume fun h => by rw [if_neg h]; exact Sd.pure _
    · exact Sd.gnone _
  · simp only [binV]
    split
    · simp only [binI]
      exact Sd.assume fun h => by rw [if_neg h]; exact Sd.pure _
    · exact Sd.gnone _
  · simp only [binV]
    exact Sd.assume fun h => by rw [if_neg h]; exact Sd.pure _
  · simp only [binV]
    exact Sd.assume fun h => by rw [if_neg h]; exact Sd.pure _
  · simp only [binV]
    exact Sd.assume fun h => by rw [if_pos h]; exact Sd.pure _
  · exact Sd.lift _
def pureG (P : Program) (ρ : Operand → AV) (op : Op) : GM AV :=
  match op with
  | .binOp op t x y _ => if isNilC y then glift (nilV P op t (ρ x)) else binG P op t (ρ x) (ρ y)
  | .slice t x lo hi mx => sliceG P t (ρ x) (lo.map ρ) (hi.map ρ) (mx.map ρ)
  | .indexAddr t x ix => indexAddrG P t (ρ x) (ρ ix)
  | .index t x ix => indexG P t (ρ x) (ρ ix)
  | op => glift (pureV P ρ op)
theorem pureG_sd (P : Program) (ρ : Operand → AV) (op : Op) : Sd (pureG P ρ op) (fun _ => pureV P ρ op) := by
  unfold pureG
  split
  · simp only [pureV]
    split
    · exact Sd.lift _
    · exact binG_sd _ _ _ _ _
  · exact sliceG_sd _ _ _ _ _ _
  · exact indexAddrG_sd _ _ _ _
  · exact indexG_sd _ _ _ _
  · exact Sd.lift _
def loadG (P : Program) (hp : Mem) (t : TypeId) (a : AV) : GM AV :=
  gbind (glift (tagg P t)) fun ag => gbind (glift (tsz P t)) fun z =>
  match a with
  | .rptr cs => glift (pick ag z 0 cs)
  | .ptr s g i off => gbind (gblk (hp s g)) fun b => gelem (b.es[i]?) (.e (b.es[i]?)) chE fun x => glift (pick ag z off x.cells)
  | _ => glift none
theorem loadG_sd (P : Program) (hp : Mem) (t : TypeId) (a : AV) : Sd (loadG P hp t a) (fun _ => loadV P hp t a) := by
  unfold loadG loadV
  refine (Sd.lift _).bind fun ag => (Sd.lift _).bind fun z => ?_
  split
  · exact Sd.lift _
  · exact (Sd.blk _).bind fun b => Sd.elem fun x => Sd.lift _
  · exact Sd.gnone _
def storeG (P : Program) (t : TypeId) (a v : AV) (st : St) : GM St :=
  gbind (glift (tsz P t)) fun z =>
  match a with
  | .ptr s g i off => gbind (gblk (st.hp s g)) fun b => gelem (b.es[i]?) (.e (b.es[i]?)) chE fun x =>
      if !b.fr && v.ok && v.cells.length = z && off + z ≤ x.cells.length && (x.re (splice x.cells off v.cells)).ok then gpure (st.setB s g (some ⟨b.es.set i (x.re (splice x.cells off v.cells)), false⟩)) else glift none
  | _ => glift none
theorem storeG_sd (P : Program) (t : TypeId) (a v : AV) (st : St) : Sd (storeG P t a v st) (fun _ => storeStep P t a v st) := by
  unfold storeG storeStep
  refine (Sd.lift _).bind fun z => ?_
  split
  · refine (Sd.blk _).bind fun b => Sd.elem fun x => ?_
    split
    · exact Sd.pure _
    · exact Sd.gnone _
  · exact Sd.gnone _
def contsG (hp : Mem) (x : AV) : GM (List AV) := match x with
  | .sl _ s g lo len => gbind (gblk (hp s g)) fun b => greq (lo + len ≤ b.es.length) (gpure ((b.es.drop lo).take len))
  | x => glift (conts hp x)
theorem contsG_sd (hp : Mem) (x : AV) : Sd (contsG hp x) (fun _ => conts hp x) := by
  unfold contsG
  split
  · unfold conts
    exact (Sd.blk _).bind fun b => (Sd.pure _).req
  · exact Sd.lift _
def snapG (hp : Mem) : Nat → AV → GM (AV × List (Nat × Nat))
  | 0, x => if x.free then gpure (x, []) else glift none
  | n + 1, x => if x.free then gpure (x, []) else match x with
    | .agg cs => gbind (snapsG hp n cs) fun r => gpure (.agg r.1, r.2)
    | .sl e s g lo len => gbind (gblk (hp s g)) fun b => greq (lo + len ≤ b.es.length) (greq (((b.es.drop lo).take len).all (fun x => x.free && x.cells.length = e)) (gpure (.osl ((b.es.drop lo).take len), [(s, g)])))
    | _ => glift none
where snapsG (hp : Mem) (n : Nat) : List AV → GM (List AV × List (Nat × Nat))
  | [] => gpure ([], [])
  | c :: cs => gbind (snapG hp n c) fun a => gbind (snapsG hp n cs) fun r => gpure (a.1 :: r.1, a.2 ++ r.2)
theorem snapsG_sd {hp : Mem} {n : Nat} (ih : ∀ x, Sd (snapG hp n x) (fun _ => (snap hp n x).map fun y => (y, refs hp n x))) : ∀ cs, Sd (snapG.snapsG hp n cs) (fun _ => (cs.mapM (snap hp n)).map fun ys => (ys, cs.flatMap (refs hp n)))
  | [] => by unfold snapG.snapsG; exact Sd.pure _
  | c :: cs => by
    unfold snapG.snapsG
    refine Sd.of_eq ((ih c).bind fun a => (snapsG_sd ih cs).bind fun r => Sd.pure _) fun _ => ?_
    rw [List.mapM_cons]
    cases snap hp n c with
    | none => rfl
    | some a =>
      cases List.mapM (snap hp n) cs with
      | none => rfl
      | some r => simp
theorem snapG_sd (hp : Mem) : ∀ (n : Nat) (x : AV), Sd (snapG hp n x) (fun _ => (snap hp n x).map fun y => (y, refs hp n x)) := by
  intro n
  induction n with
  | zero =>
    intro x
    unfold snapG
    by_cases hf : x.free = true
    · rw [if_pos hf, (snap_free hf).1, (snap_free hf).2]; exact Sd.pure _
    · rw [if_neg hf]; exact Sd.gnone _
  | succ n ih =>
    intro x
    unfold snapG
    by_cases hf : x.free = true
    · rw [if_pos hf, (snap_free hf).1, (snap_free hf).2]; exact Sd.pure _
    · rw [if_neg hf]
      split
      · rename_i cs
        refine Sd.of_eq ((snapsG_sd ih cs).bind fun r => Sd.pure _) fun _ => ?_
        unfold snap refs
        rw [if_neg hf, if_neg hf]
        simp only
        cases List.mapM (snap hp n) cs <;> rfl
      · rename_i e s g lo len
        unfold snap refs
        rw [if_neg hf, if_neg hf]
        simp only [conts]
        intro cs r cs' ps h hp'
        unfold gbind at h
        split at h
        · cases h
        · cases h
        · rename_i b cs1 o1 h1
          simp only [greq, gadd, gpure, GR.done.injEq] at h
          obtain ⟨rfl, rfl, rfl⟩ := h
          obtain ⟨p1, p2⟩ := All.append hp'
          obtain ⟨k, hk⟩ := (Sd.blk (hp s g) _ _ _ _ h1 p1).get
          obtain ⟨hlo, h2, _⟩ := p2
          refine Ev.of fun _ => ?_
          have hk : hp s g = some b := hk
          simp only [hk, Option.bind_some]
          rw [if_pos hlo]
          simp only [Option.bind_some, Option.getD_some]
          have hfr : ∀ x ∈ (b.es.drop lo).take len, x.free = true := fun x hx => by
            have := List.all_eq_true.1 h2 x hx
            simp only [Bool.and_eq_true] at this
            exact this.1
          have hall : ((b.es.drop lo).take len).all (fun x => x.ok && x.cells.length = e) = true := List.all_eq_true.2 fun x hx => by
            have := List.all_eq_true.1 h2 x hx
            simp only [Bool.and_eq_true] at this ⊢
            exact ⟨free_ok' this.1, this.2⟩
          obtain ⟨h3, h4⟩ := snaps_free (hp := hp) (n := n) hfr
          rw [if_pos hall, h3, h4]
          rfl
      · exact Sd.gnone _
abbrev GRec := Code → St → GM (E × St)
def callFG (C : Cfg) (grc : GRec) (f : FuncId) (args : List AV) (hp : Mem) (gn : Nat → Nat) : GM (AV × Mem × (Nat → Nat)) :=
  match C.mem f with
  | some g => glift (memF g args hp gn)
  | none =>
  if C.skip f then glift none else
  match C.P.funcs[f]? with
  | none => glift none
  | some fn => match fn.body with
    | none => glift none
    | some c => gbind (grc c { sl := fun i => args.getD i .undef, hp, gn }) fun r => match r with
      | (.normal, s) | (.ret, s) => glift ((fn.results.toList.mapM (resV C.P s)).map fun vs => (resT vs, s.hp, s.gn))
      | _ => glift none
def GOk (C : Cfg) (grc : GRec) : Prop := ∀ c st, Sd (grc c st) (fun k => exec C k c st)
theorem callFG_sd {C : Cfg} {grc : GRec} (h : GOk C grc) (f : FuncId) (args : List AV) (hp : Mem) (gn : Nat → Nat) : Sd (callFG C grc f args hp gn) (fun k => callF C (exec C k) f args hp gn) := by
  unfold callFG callF
  cases hmm : C.mem f with
  | some g => exact Sd.lift _
  | none =>
  simp only
  split
  · exact Sd.gnone _
  · split
    · exact Sd.gnone _
    · rename_i fn hf
      simp only [hf]
      split
      · exact Sd.gnone _
      · rename_i c hb
        simp only [hb]
        refine Sd.of_eq ((h c _).bind (f' := fun _ r => match r with
          | (.normal, s) | (.ret, s) => (fn.results.toList.mapM (resV C.P s)).map fun vs => (resT vs, s.hp, s.gn)
          | _ => none) fun r => ?_) fun k => ?_
        · obtain ⟨e, s⟩ := r
          cases e <;> first | exact Sd.lift _ | exact Sd.gnone _
        · cases exec C k c { sl := fun i => args.getD i .undef, hp, gn } with
          | none => rfl
          | some r =>
            obtain ⟨e, s⟩ := r
            cases e <;> rfl
def snapRG (hp : Mem) : AV → GM AV
  | .tup vs => gbind (snapG.snapsG hp DEEP vs) fun r => gpure (.tup (r.1.map AV.norm))
  | v => gbind (snapG hp DEEP v) fun r => gpure r.1.norm
theorem snapRG_sd (hp : Mem) (v : AV) : Sd (snapRG hp v) (fun _ => snapR hp v) := by
  cases v with
  | tup vs =>
    simp only [snapRG, snapR]
    refine Sd.of_eq ((snapsG_sd (fun x => snapG_sd hp DEEP x) vs).bind fun r => Sd.pure _) fun _ => ?_
    cases List.mapM (snap hp DEEP) vs <;> rfl
  | _ =>
    simp only [snapRG, snapR]
    refine Sd.of_eq ((snapG_sd hp DEEP _).bind fun r => Sd.pure _) fun _ => ?_
    cases snap hp DEEP _ <;> rfl
def fnG (C : Cfg) (grc : GRec) (f : FuncId) (args : List AV) : GM AV :=
  match C.ext f with
  | some g => glift (g args)
  | none => gbind (callFG C grc f (C.args f args) (fun _ _ => none) (fun _ => 0)) fun r => snapRG r.2.1 r.1
theorem fnG_sd {C : Cfg} {grc : GRec} (h : GOk C grc) (f : FuncId) (args : List AV) : Sd (fnG C grc f args) (fun k => fnV C (exec C k) f args) := by
  unfold fnG fnV
  split
  · rename_i g hg; simp only [hg]; exact Sd.lift _
  · rename_i hx
    simp only [hx, semF]
    exact (callFG_sd h _ _ _ _).bind fun r => snapRG_sd _ _
def gcall (C : Cfg) (f : FuncId) (args : List AV) (y : GM AV) : GM AV := fun cs => match cs with
  | .r v :: cs => gadd (Mk (Ans C f args v)) (.done v cs [])
  | .i :: cs => y cs
  | .a :: cs => y (.a :: cs)
  | _ => .asks (.c f args)
theorem gcall_sd {C : Cfg} {f : FuncId} {args : List AV} {y : GM AV} (hy : Sd y fun k => fnV C (exec C k) f args) : Sd (gcall C f args y) fun k => fnV C (exec C k) f args := by
  intro cs a cs' ps h hp
  unfold gcall at h
  split at h
  · obtain ⟨ps', h1, e, h2⟩ := gadd_done h hp
    cases h1
    exact e
  · exact hy _ _ _ _ h hp
  · exact hy _ _ _ _ h hp
  · cases h
def callG (C : Cfg) (grc : GRec) (dst : Option Nat) (f : FuncId) (args : List AV) (st : St) : GM St :=
  match C.cln f with
  | some p => match dst, args with
    | some d, [x] => gbind (contsG st.hp x) fun xs => greq (0 < p.1 ∧ xs.all (fun x => x.ok && x.cells.length = p.1) ∧ xs.length * p.2 ≤ 140737488355328 ∧ xs.length ≤ 140737488355328) (gpure ((st.new d xs).put d (.sl p.1 d (st.gn d) 0 xs.length)))
    | _, _ => glift none
  | none =>
  if C.inl f then gbind (callFG C grc f args st.hp st.gn) fun r => gpure ((st.mem r.2.1 r.2.2).putO dst r.1)
  else if args.all AV.plain then gbind (snapG.snapsG st.hp DEEP args) fun q => gbind (gcall C f q.1 (fnG C grc f q.1)) fun v => gpure ((st.frz (v.led q.2)).putO dst v)
  else glift none
theorem callG_sd {C : Cfg} {grc : GRec} (h : GOk C grc) (dst : Option Nat) (f : FuncId) (args : List AV) (st : St) : Sd (callG C grc dst f args st) (fun k => callStep C (exec C k) dst f args st) := by
  unfold callG callStep
  split
  · rename_i p hp
    simp only [hp]
    split
    · rename_i d x
      unfold cloneStep
      exact (contsG_sd _ _).bind fun xs => (Sd.pure _).req
    · exact Sd.gnone _
  rename_i hcn
  simp only [hcn]
  split
  · exact (callFG_sd h _ _ _ _).map _
  · split
    · refine Sd.of_eq ((snapsG_sd (fun x => snapG_sd st.hp DEEP x) args).bind fun q => (gcall_sd (fnG_sd h f q.1)).map fun v => (st.frz (v.led q.2)).putO dst v) fun k => ?_
      cases List.mapM (snap st.hp DEEP) args <;> rfl
    · exact Sd.gnone _
def appNewsG (P : Program) (e t2 : TypeId) (st : St) (x : AV) : GM (List AV) :=
  match tint P t2 with
  | some _ => gbind (glift (asI x)) fun n => gbind (glift (tzero P e)) fun z => gbind (glift (tby P e)) fun by_ => greq (0 ≤ n ∧ n ≤ 140737488355328 ∧ n.toNat * by_ ≤ 140737488355328) (gpure (List.replicate n.toNat z))
  | none => match x with
    | .str s => if tstr P t2 then gpure (s.data.toList.map fun b => .int .u8 b.toNat) else glift none
    | x => if (tsl P t2).isSome then contsG st.hp x else glift none
theorem appNewsG_sd (P : Program) (e t2 : TypeId) (st : St) (x : AV) : Sd (appNewsG P e t2 st x) (fun _ => appNews P e t2 st x) := by
  unfold appNewsG
  split
  · rename_i k ht
    unfold appNews
    simp only [ht]
    exact (Sd.lift _).bind fun n => (Sd.lift _).bind fun z => (Sd.lift _).bind fun by_ => (Sd.pure _).req
  · rename_i ht
    split
    · unfold appNews
      simp only [ht]
      split
      · exact Sd.pure _
      · exact Sd.gnone _
    · rename_i x hx
      unfold appNews
      simp only [ht]
      split
      · exact contsG_sd _ _
      · exact Sd.gnone _
def appBaseG (P : Program) (e : TypeId) (st : St) (s : AV) : GM (List AV × St) :=
  match s with
  | .sl z a g 0 len => if tsz P e = some z then gbind (gblk (st.hp a g)) fun b => if b.fr then glift none else greq (len ≤ b.es.length) (gpure (b.es.take len, st.setB a g none)) else glift none
  | s => glift (appBase P e st s)
theorem appBaseG_sd (P : Program) (e : TypeId) (st : St) (s : AV) : Sd (appBaseG P e st s) (fun _ => appBase P e st s) := by
  unfold appBaseG
  split
  · rename_i z a g len
    unfold appBase
    simp only
    split
    · refine (Sd.blk _).bind fun b => ?_
      cases hb : b.fr with
      | true => simp only [if_true, Bool.true_or]; exact Sd.gnone _
      | false =>
        simp only [Bool.false_eq_true, if_false, Bool.false_or]
        refine Sd.assume fun hl => ?_
        rw [if_neg (by simp; omega)]
        exact Sd.pure _
    · exact Sd.gnone _
  · exact Sd.lift _
def appendG (P : Program) (d t1 t2 : Nat) (s x : AV) (st : St) : GM St :=
  gbind (glift (tsl P t1)) fun e => gbind (glift (tsz P e)) fun z => gbind (glift (tby P e)) fun by_ => gbind (glift (tzero P e)) fun zv => gbind (appNewsG P e t2 st x) fun news => gbind (appBaseG P e st s) fun p =>
    if 0 < z ∧ zv.ok ∧ zv.cells.length = z then greq (news.all (fun x => x.ok && x.cells.length = z)) (greq ((p.1.length + news.length) * by_ ≤ 140737488355328 ∧ p.1.length + news.length ≤ 140737488355328)
      (gpure ((p.2.new d (p.1 ++ news)).put d (.sl z d (st.gn d) 0 (p.1.length + news.length)))))
    else glift none
theorem appendG_sd (P : Program) (d t1 t2 : Nat) (s x : AV) (st : St) : Sd (appendG P d t1 t2 s x st) (fun _ => appendStep P d t1 t2 s x st) := by
  unfold appendG appendStep
  refine (Sd.lift _).bind fun e => (Sd.lift _).bind fun z => (Sd.lift _).bind fun by_ => (Sd.lift _).bind fun zv => (appNewsG_sd _ _ _ _ _).bind fun news => (appBaseG_sd _ _ _ _).bind fun p => ?_
  split
  · rename_i h
    refine Sd.assume fun h1 => Sd.assume fun h2 => ?_
    rw [if_pos ⟨h.1, h.2.1, h.2.2, h1, h2.1, h2.2⟩]
    exact Sd.pure _
  · exact Sd.gnone _
def rowG (d : Option Nat) (es : List AV) (z : Nat) (st : St) : GM St :=
  match d with
  | some d => greq (es.all (fun x => x.ok && x.cells.length = z)) (if 0 < z then gpure ((st.new d es).put d (.sl z d (st.gn d) 0 es.length)) else glift none)
  | none => glift none
theorem rowG_sd (d : Option Nat) (es : List AV) (z : Nat) (st : St) : Sd (rowG d es z st) (fun _ => rowStep d es z st) := by
  unfold rowG rowStep
  cases d with
  | none => exact Sd.gnone _
  | some d =>
    refine Sd.assume fun h => ?_
    by_cases h0 : 0 < z
    · rw [if_pos h0]
      refine Sd.of_eq (Sd.pure _) fun _ => ?_
      show _ = (if (es.all (fun x => x.ok && x.cells.length = z) && decide (0 < z)) = true then _ else _)
      rw [if_pos (by simp only [h, Bool.true_and, decide_eq_true_eq]; exact h0)]
    · rw [if_neg h0]; exact Sd.gnone _
def copyG (P : Program) (dst : Option Nat) (t : TypeId) (s x : AV) (st : St) : GM St :=
  match s with
  | .sl z a g lo len => if (tsl P t).bind (tsz P) = some z then gbind (contsG st.hp x) fun xs => gbind (gblk (st.hp a g)) fun b =>
      if b.fr then glift none else greq (lo + len ≤ b.es.length) (greq (xs.all fun x => x.ok && x.cells.length = z)
        (gpure ((st.setB a g (some ⟨b.es.take lo ++ (xs.take len ++ b.es.drop (lo + min xs.length len)), false⟩)).putO dst (.int .i64 (min xs.length len : Nat))))) else glift none
  | _ => glift none
theorem copyG_sd (P : Program) (dst : Option Nat) (t : TypeId) (s x : AV) (st : St) : Sd (copyG P dst t s x st) (fun _ => copyStep P dst t s x st) := by
  unfold copyG copyStep
  split
  · simp only
    split
    · refine (contsG_sd _ _).bind fun xs => (Sd.blk _).bind fun b => ?_
      split
      · exact Sd.gnone _
      · rename_i hf
        refine Sd.assume fun h1 => Sd.assume fun h2 => ?_
        rw [if_neg (by simp only [Bool.or_eq_true, decide_eq_true_eq, Bool.not_eq_true', not_or]; exact ⟨⟨hf, by omega⟩, by rw [h2]; simp⟩)]
        exact Sd.pure _
    · exact Sd.gnone _
  · exact Sd.gnone _
def stepGd (C : Cfg) (grc : GRec) (o : Oper) (st : St) : GM St :=
  match o.op with
  | .load t a => gbind (loadG C.P st.hp t (st.ev a)) fun v => gpure (st.putO o.dst v)
  | .store t a x => gbind (storeG C.P t (st.ev a) (st.ev x) st) fun s => gpure (s.putO o.dst .undef)
  | .alloc .. | .box .. | .buildSlice .. | .convert .. => glift (step C (fun _ _ => none) o st)
  | .makeSlice t n c => gbind (glift (tsl C.P t)) fun e => gbind (glift (tsz C.P e)) fun z => gbind (glift (tby C.P e)) fun by_ => gbind (glift (tzero C.P e)) fun zv => gbind (glift (asI (st.ev n))) fun i => gbind (glift (asI (st.ev c))) fun j =>
      greq (i = j ∧ 0 ≤ i ∧ i ≤ 140737488355328 ∧ i.toNat * by_ ≤ 140737488355328) (if zv.ok ∧ zv.cells.length = z then rowG o.dst (List.replicate i.toNat zv) z st else glift none)
  | .slice t x lo hi mx => match tarr C.P t with
    | some _ => glift (step C (fun _ _ => none) o st)
    | none => gbind (pureG C.P st.ev o.op) fun v => gpure (st.putO o.dst v)
  | .call c => match c.callee with
    | .value f => match st.ev f with
      | .fn g fst caps => callG C grc o.dst g (fst ++ c.args.toList.map st.ev ++ caps) st
      | _ => glift none
    | .builtin .append => match o.dst, c.args.toList, c.argTypes.toList with
      | some d, [s, x], [t1, t2] => appendG C.P d t1 t2 (st.ev s) (st.ev x) st
      | _, _, _ => glift none
    | .builtin .copy => match c.args.toList, c.argTypes.toList with
      | [s, x], [t, _] => copyG C.P o.dst t (st.ev s) (st.ev x) st
      | _, _ => glift none
    | _ => gbind (pureG C.P st.ev o.op) fun v => gpure (st.putO o.dst v)
  | _ => gbind (pureG C.P st.ev o.op) fun v => gpure (st.putO o.dst v)
theorem stepGd_sd {C : Cfg} {grc : GRec} (h : GOk C grc) (o : Oper) (st : St) : Sd (stepGd C grc o st) (fun k => step C (exec C k) o st) := by
  obtain ⟨dst, op, ty, pos, aft, gd⟩ := o
  cases op with
  | load t a => exact (loadG_sd _ _ _ _).map _
  | alloc t => exact Sd.lift _
  | box t a => exact Sd.lift _
  | buildSlice t n ps => exact Sd.lift _
  | store t a x => exact (storeG_sd _ _ _ _ _).map _
  | convert a b c => exact Sd.lift _
  | makeSlice t n c =>
    simp only [stepGd, step]
    refine (Sd.lift _).bind fun e => (Sd.lift _).bind fun z => (Sd.lift _).bind fun by_ => (Sd.lift _).bind fun zv => (Sd.lift _).bind fun i => (Sd.lift _).bind fun j => Sd.assume fun hc => ?_
    split
    · rename_i hz
      rw [if_pos ⟨hc.1, hc.2.1, hc.2.2.1, hc.2.2.2, hz.1, hz.2⟩]
      exact rowG_sd _ _ _ _
    · exact Sd.gnone _
  | slice t x lo hi mx =>
    simp only [stepGd, step]
    cases ht : tarr C.P t with
    | some p => exact Sd.of_eq (Sd.lift _) (fun k => by simp only [step, ht])
    | none => exact (pureG_sd _ _ _).map _
  | call c =>
    obtain ⟨callee, args, argTypes⟩ := c
    cases callee with
    | value f =>
      simp only [stepGd, step]
      split
      · rename_i g fst caps hf; simp only [hf]; exact callG_sd h _ _ _ _
      · exact Sd.gnone _
    | invoke r m =>
      simp only [stepGd, step]
      exact (pureG_sd _ _ _).map _
    | builtin b =>
      cases b <;> first
        | (simp only [stepGd, step]; exact (pureG_sd _ _ _).map _)
        | (simp only [stepGd, step]
           split
           · rename_i h1 h2; simp only [h1, h2]; exact appendG_sd _ _ _ _ _ _ _
           · exact Sd.gnone _)
        | (simp only [stepGd, step]
           split
           · rename_i h1 h2; simp only [h1, h2]; exact copyG_sd _ _ _ _ _ _
           · exact Sd.gnone _)
  | _ =>
    simp only [stepGd, step]
    exact (pureG_sd _ _ _).map _
def kno : List (Nat × Bool) → Nat → Option Bool
  | [], _ => none
  | (a, c) :: l, t => if a = t then some c else kno l t
def iopsG (C : Cfg) (grc : GRec) (id : Nat) (ops : Array Oper) : Nat → List Oper → List (Nat × Bool) → St → GM St
  | _, [], _, st => gpure st
  | n, o :: rest, kn, st => match o.guard with
    | none => gbind (gtag (id * 1000 + n) (stepGd C grc o st)) (iopsG C grc id ops (n + 1) rest kn)
    | some (j, w) => match (ops[j]?).bind (·.dst) with
      | none => glift none
      | some t => match st.sl t with
        | .bool b => match kno kn t with
          | some c => if b = c then (if c = w then gbind (gtag (id * 1000 + n) (stepGd C grc o st)) (iopsG C grc id ops (n + 1) rest kn) else iopsG C grc id ops (n + 1) rest kn (st.putO o.dst .undef)) else glift none
          | none => gask b (if w then gbind (gtag (id * 1000 + n) (stepGd C grc o (st.put t (.bool true)))) (iopsG C grc id ops (n + 1) rest ((t, true) :: kn)) else iopsG C grc id ops (n + 1) rest ((t, true) :: kn) ((st.put t (.bool true)).putO o.dst .undef))
              (if w then iopsG C grc id ops (n + 1) rest ((t, false) :: kn) ((st.put t (.bool false)).putO o.dst .undef) else gbind (gtag (id * 1000 + n) (stepGd C grc o (st.put t (.bool false)))) (iopsG C grc id ops (n + 1) rest ((t, false) :: kn)))
        | .undef => iopsG C grc id ops (n + 1) rest kn (st.putO o.dst .undef)
        | _ => glift none
theorem iopsG_sd {C : Cfg} {grc : GRec} (h : GOk C grc) (id : Nat) (ops : Array Oper) : ∀ (l : List Oper) (n : Nat) (kn : List (Nat × Bool)) (st : St), Sd (iopsG C grc id ops n l kn st) (fun k => iops C (exec C k) ops l st)
  | [], n, kn, st => Sd.pure st
  | o :: rest, n, kn, st => by
    unfold iopsG
    simp only [iops, stepG]
    have go : ∀ kn' st', Sd (gbind (gtag (id * 1000 + n) (stepGd C grc o st')) (iopsG C grc id ops (n + 1) rest kn')) (fun k => (step C (exec C k) o st').bind (iops C (exec C k) ops rest)) := fun kn' st' => ((stepGd_sd h o st').tag _).bind fun s => iopsG_sd h id ops rest (n + 1) kn' s
    have off : ∀ kn' (st' : St), Sd (iopsG C grc id ops (n + 1) rest kn' (st'.putO o.dst .undef)) (fun k => (some (st'.putO o.dst .undef)).bind (iops C (exec C k) ops rest)) := fun kn' st' => iopsG_sd h id ops rest (n + 1) kn' _
    split
    · rename_i hg; simp only [hg]; exact go _ _
    · rename_i j w hg
      simp only [hg]
      split
      · exact Sd.gnone _
      · rename_i t ht
        simp only [ht]
        split
        · rename_i b hb
          simp only [hb]
          split
          · rename_i c hc
            split
            · rename_i hbc
              subst hbc
              split
              · exact go _ _
              · exact off _ _
            · exact Sd.gnone _
          · have ht' : b = true → st.put t (.bool true) = st := fun e => put_same (by rw [hb, e])
            have hf' : b = false → st.put t (.bool false) = st := fun e => put_same (by rw [hb, e])
            refine Sd.of_eq (Sd.ask (b := b) (x := if w then gbind (gtag (id * 1000 + n) (stepGd C grc o (st.put t (.bool true)))) (iopsG C grc id ops (n + 1) rest ((t, true) :: kn)) else iopsG C grc id ops (n + 1) rest ((t, true) :: kn) ((st.put t (.bool true)).putO o.dst .undef))
              (y := if w then iopsG C grc id ops (n + 1) rest ((t, false) :: kn) ((st.put t (.bool false)).putO o.dst .undef) else gbind (gtag (id * 1000 + n) (stepGd C grc o (st.put t (.bool false)))) (iopsG C grc id ops (n + 1) rest ((t, false) :: kn)))
              (x' := fun k => (if b = w then step C (exec C k) o st else some (st.putO o.dst .undef)).bind (iops C (exec C k) ops rest)) (y' := fun k => (if b = w then step C (exec C k) o st else some (st.putO o.dst .undef)).bind (iops C (exec C k) ops rest))
              (fun e => by
                rw [ht' e]
                cases w with
                | true => simp only [e, if_true]; exact go _ _
                | false => simp only [e, if_true, Bool.true_eq_false, Bool.false_eq_true, if_false]; exact off _ _)
              (fun e => by
                rw [hf' e]
                cases w with
                | true => simp only [e, if_true, Bool.false_eq_true, if_false]; exact off _ _
                | false => simp only [e, if_true, Bool.false_eq_true, if_false]; exact go _ _)) (fun k => ite_self _)
        · rename_i hb; simp only [hb]; exact off _ _
        · exact Sd.gnone _
def bindEG (r : GM (E × St)) (f : St → GM (E × St)) : GM (E × St) := gbind r fun q => match q with
  | (.normal, s) => f s
  | q => gpure q
theorem bindEG_sd {r : GM (E × St)} {r' : Nat → Option (E × St)} {f : St → GM (E × St)} {f' : Nat → St → Option (E × St)} (h : Sd r r') (hf : ∀ s, Sd (f s) (fun k => f' k s)) : Sd (bindEG r f) (fun k => bindE (r' k) (f' k)) := by
  refine Sd.of_eq (h.bind (f' := fun k q => match q with
    | (.normal, s) => f' k s
    | q => some q) fun q => ?_) fun k => ?_
  · obtain ⟨e, s⟩ := q
    cases e <;> first | exact hf s | exact Sd.pure _
  · unfold bindE
    cases r' k with
    | none => rfl
    | some q =>
      obtain ⟨e, s⟩ := q
      cases e <;> rfl
noncomputable def gloop (C : Cfg) (c : Code) (st : St) (y : GM (E × St)) : GM (E × St) := fun cs => match cs with
  | .l l0 m0 g0 e l1 m1 g1 :: cs => .done (e, ⟨mks (l1 (aft C c st l1 m1 g1).2) (aft C c st l1 m1 g1).1.sl, mkh (m1 (aft C c st l1 m1 g1).2) (aft C c st l1 m1 g1).1.hp, mkg g1 (aft C c st l1 m1 g1).1.gn⟩) cs
      [Mk (l0.map (fun p => st.sl p.1) = l0.map (·.2)), Mk (m0.map (fun p => st.hp p.1.1 p.1.2) = m0.map fun p => some p.2), Mk (g0.map (fun p => st.gn p.1) = g0.map (·.2)), Mk (LoopTo C c l0 m0 g0 e l1 m1 g1)]
  | .i :: cs => y cs
  | .a :: cs => y (.a :: cs)
  | _ => .asks (.l c st)
theorem gloop_sd {C : Cfg} {c : Code} {st : St} {y : GM (E × St)} (hy : Sd y fun k => execC C (exec C k) (.loop c) st) : Sd (gloop C c st y) fun k => execC C (exec C k) (.loop c) st := by
  intro cs a cs' ps h hp
  unfold gloop at h
  split at h
  · rename_i l0 m0 g0 e l1 m1 g1 cs0
    simp only [GR.done.injEq] at h
    obtain ⟨rfl, rfl, rfl⟩ := h
    obtain ⟨h1, h2, h3, h4, _⟩ := hp
    have h4 : LoopTo C c l0 m0 g0 e l1 m1 g1 := h4
    obtain ⟨s, Gs, hat, hev⟩ := h4 st ⟨h1, h2, h3⟩
    have haft : At (l1 (aft C c st l1 m1 g1).2) (m1 (aft C c st l1 m1 g1).2) g1 (aft C c st l1 m1 g1).1 ∧ ∃ e, Ev fun k => exec C k (.loop c) st = some (e, (aft C c st l1 m1 g1).1) :=
      @Classical.epsilon_spec _ (fun p => At (l1 p.2) (m1 p.2) g1 p.1 ∧ ∃ e, Ev fun k => exec C k (.loop c) st = some (e, p.1)) ⟨(s, Gs), hat, e, hev⟩
    generalize aft C c st l1 m1 g1 = p at haft
    obtain ⟨⟨a1, a2, a3⟩, e', h'⟩ := haft
    rw [mk_self a1, mkh_self a2, mkg_self a3]
    obtain ⟨k, k1, k2⟩ := (hev.and h').get
    rw [k1] at k2
    simp only [Option.some.injEq, Prod.mk.injEq] at k2
    rw [← k2.2]
    exact hev.pred
  · exact hy _ _ _ _ h hp
  · exact hy _ _ _ _ h hp
  · cases h
noncomputable def execCG (C : Cfg) (grc : GRec) : Code → St → GM (E × St)
  | .skip, st => gpure (.normal, st)
  | .label _, st => gpure (.normal, st)
  | .seq a b, st => bindEG (execCG C grc a st) (execCG C grc b)
  | .region id ops d, st => gbind (iopsG C grc id ops 0 ops.toList [] st) fun s => if d then gbind (gtag (id * 1000 + 999) (gdyn (dynOk C ops s))) (fun _ => gpure (.normal, s)) else gpure (.normal, s)
  | .cond c a b, st => match st.ev c with
    | .bool t => gask t (execCG C grc a st) (execCG C grc b st)
    | _ => glift none
  | .block id c, st => gbind (execCG C grc c st) fun q => match q with
    | (.exit i, s) => gpure (if i = id then .normal else .exit i, s)
    | q => gpure q
  | .loop c, st => gloop C c st (bindEG (execCG C grc c st) (grc (.loop c)))
  | .scope c, st => execCG C grc c st
  | .exit id, st => gpure (.exit id, st)
  | .ret, st => gpure (.ret, st)
  | _, _ => gfail 9
theorem execCG_sd {C : Cfg} {grc : GRec} (h : GOk C grc) : ∀ (c : Code) (st : St), Sd (execCG C grc c st) (fun k => execC C (exec C k) c st) := by
  intro c
  induction c with
  | skip => exact fun st => Sd.pure _
  | label l => exact fun st => Sd.pure _
  | exit i => exact fun st => Sd.pure _
  | ret => exact fun st => Sd.pure _
  | seq a b iha ihb => exact fun st => bindEG_sd (iha st) ihb
  | region id ops d =>
    refine fun st => (iopsG_sd h id ops _ 0 _ st).bind fun s => ?_
    cases d with
    | false => exact Sd.pure _
    | true =>
      have hk : ∀ {b : Bool} {v : E × St}, Sd (gbind (gtag (id * 1000 + 999) (gdyn b)) fun _ => gpure v) fun _ => if true && !b then Option.none else some v := by
        intro b v cs a cs' ps hh hp
        have : ∀ cs, (gtag (id * 1000 + 999) (gdyn b)) cs = gdyn b cs ∨ ∃ n, (gtag (id * 1000 + 999) (gdyn b)) cs = .fail n := fun cs => by
          unfold gtag
          split <;> simp_all
        unfold gbind at hh
        rcases this cs with h1 | ⟨n, h1⟩
        · rw [h1] at hh
          exact Sd.dyn (g := gpure v) (b := b) (fun e => by rw [e]; exact Sd.pure v) cs a cs' ps hh hp
        · rw [h1] at hh; cases hh
      exact hk
  | cond x a b iha ihb =>
    intro st
    simp only [execCG, execC]
    split
    · rename_i t ht; simp only [ht]; exact Sd.ask (fun _ => iha st) (fun _ => ihb st)
    · exact Sd.gnone _
  | block id c ih =>
    intro st
    simp only [execCG, execC]
    refine Sd.of_eq ((ih st).bind (f' := fun _ q => match q with
      | (.exit i, s) => some (if i = id then .normal else .exit i, s)
      | q => some q) fun q => ?_) fun k => ?_
    · obtain ⟨e, s⟩ := q
      cases e <;> exact Sd.pure _
    · unfold leave
      cases execC C (exec C k) c st with
      | none => rfl
      | some q =>
        obtain ⟨e, s⟩ := q
        cases e <;> rfl
  | loop c ih =>
    intro st
    simp only [execCG]
    refine gloop_sd ?_
    simp only [execC]
    exact bindEG_sd (ih st) (fun s => h _ s)
  | scope c ih => exact fun st => ih st
  | _ => exact fun st => Sd.fail _ _
noncomputable def execG (C : Cfg) : Nat → Code → St → GM (E × St)
  | 0, _, _ => gfail 8
  | k + 1, c, st => execCG C (execG C k) c st
theorem execG_ok (C : Cfg) : ∀ k, GOk C (execG C k)
  | 0 => fun c st => Sd.fail _ _
  | k + 1 => fun c st => (execCG_sd (execG_ok C k) c st).shift
def GR.some? {α : Type} (r : GR α) : Option (α × List Prop) := match r with
  | .done a _ ps => some (a, ps)
  | _ => none
theorem ans_of {C : Cfg} {ps : List Prop} (k : Nat) {f : FuncId} {args : List AV} (cs : List Ch) {r : AV} (hp : All ps) (h : (fnG C (execG C k) f args cs).some? = some (r, ps)) : Ans C f args r := by
  unfold GR.some? at h
  split at h
  · rename_i a cs' ps' h'
    simp only [Option.some.injEq, Prod.mk.injEq] at h
    obtain ⟨rfl, rfl⟩ := h
    exact fnG_sd (execG_ok C k) f args _ _ _ _ h' hp
  · cases h
def GR.to (l : List Nat) (m : List (Nat × Nat)) (g : List Nat) (r : GR (E × St)) : Option (E × List AV × List (Option Blk) × List Nat × List Prop) := match r with
  | .done a _ ps => some (a.1, l.map a.2.sl, m.map (fun p => a.2.hp p.1 p.2), g.map a.2.gn, ps)
  | _ => none
theorem code_of {C : Cfg} {ps : List Prop} (k : Nat) {c : Code} {l0 : List (Nat × AV)} {m0 : List ((Nat × Nat) × Blk)} {g0 : List (Nat × Nat)} {e : E} {l1 : List Nat → List (Nat × AV)} {m1 : List Nat → List ((Nat × Nat) × Blk)} {g1 : List (Nat × Nat)}
    {σ : Nat → AV} {h : Mem} {g : Nat → Nat} (cs : List Ch) (Gs : List Nat) {L : List (Option Blk)} (hp : All ps) (hr : (execG C k c ⟨mks l0 σ, mkh m0 h, mkg g0 g⟩ cs).to ((l1 Gs).map (·.1)) ((m1 Gs).map (·.1)) (g1.map (·.1)) = some (e, (l1 Gs).map (·.2), L, g1.map (·.2), ps))
    (hL : L = (m1 Gs).map fun p => some p.2) : ∃ s Gs, At (l1 Gs) (m1 Gs) g1 s ∧ Ev fun k => exec C k c ⟨mks l0 σ, mkh m0 h, mkg g0 g⟩ = some (e, s) := by
  unfold GR.to at hr
  split at hr
  · rename_i a cs' ps' h'
    simp only [Option.some.injEq, Prod.mk.injEq, List.map_map] at hr
    obtain ⟨rfl, h2, h3, h4, rfl⟩ := hr
    exact ⟨a.2, Gs, ⟨h2, by rw [← hL, ← h3]; rfl, h4⟩, execG_ok C k c _ _ _ _ _ h' hp⟩
  · cases hr
theorem Goto.of {C : Cfg} {c : Code} {l0 : List (Nat × AV)} {m0 : List ((Nat × Nat) × Blk)} {g0 : List (Nat × Nat)} {e : E} {l1 : List Nat → List (Nat × AV)} {m1 : List Nat → List ((Nat × Nat) × Blk)} {g1 : List (Nat × Nat)}
    (h : ∀ σ h g, ∃ s Gs, At (l1 Gs) (m1 Gs) g1 s ∧ Ev fun k => exec C k c ⟨mks l0 σ, mkh m0 h, mkg g0 g⟩ = some (e, s)) : Goto C c l0 m0 g0 e l1 m1 g1 := fun st ⟨h1, h2, h3⟩ => by
  have := h st.sl st.hp st.gn
  rw [mk_self h1, mkh_self h2, mkg_self h3] at this
  exact this
theorem nb {b : Bool} {c : Bool} (h : b = c) : (!b) = !c := by rw [h]
theorem Ans.to {C : Cfg} {f : FuncId} {args args' : List AV} {r r' : AV} (h : Ans C f args r) (ha : args = args') (hr : r = r') : Ans C f args' r' := ha ▸ hr ▸ h
def loopsOf : Code → List Code
  | .seq a b => loopsOf a ++ loopsOf b
  | .cond _ a b => loopsOf a ++ loopsOf b
  | .block _ c => loopsOf c
  | .scope c => loopsOf c
  | .loop c => c :: loopsOf c
  | _ => []
def lc (P : Program) (f n : Nat) : Code := match P.funcs[f]? with
  | some fn => match fn.body with
    | some c => (loopsOf c).getD n .skip
    | none => .skip
  | none => .skip
section
variable {C : Cfg} {c : Code} {l0 : List (Nat × AV)} {m0 : List ((Nat × Nat) × Blk)} {g0 : List (Nat × Nat)} {e : E} {l1 l2 : List Nat → List (Nat × AV)} {m1 m2 : List Nat → List ((Nat × Nat) × Blk)} {g1 g2 : List (Nat × Nat)}
end
def flat : Code → List Code
  | .seq a b => flat a ++ flat b
  | .scope c => flat c
  | c => [c]
def execL (C : Cfg) (rc : Rec) : List Code → St → Option (E × St)
  | [], st => some (.normal, st)
  | c :: l, st => bindE (execC C rc c st) (execL C rc l)
theorem bindE_normal (r : Option (E × St)) : bindE r (fun s => some (.normal, s)) = r := by
  cases r with
  | none => rfl
  | some q =>
    obtain ⟨e, s⟩ := q
    cases e <;> rfl
def finV (C : Cfg) (f : FuncId) (r : Option (E × St)) : Option AV := match C.P.funcs[f]? with
  | none => none
  | some fn => match r with
    | some (.normal, s) | some (.ret, s) => ((fn.results.toList.mapM (resV C.P s)).map resT).bind (snapR s.hp)
    | _ => none
def bodyL (P : Program) (f : FuncId) : List Code := match P.funcs[f]? with
  | some fn => match fn.body with
    | some c => flat c
    | none => []
  | none => []
def FromL (C : Cfg) (f : FuncId) (n : Nat) (l0 : List (Nat × AV)) (m0 : List ((Nat × Nat) × Blk)) (g0 : List (Nat × Nat)) (r : AV) : Prop :=
  ∀ st, At l0 m0 g0 st → Ev fun k => finV C f (execL C (exec C k) ((bodyL C.P f).drop n) st) = some r
theorem FromL.to {C : Cfg} {f : FuncId} {n : Nat} {l0 : List (Nat × AV)} {m0 : List ((Nat × Nat) × Blk)} {g0 : List (Nat × Nat)} {r r' : AV} (h : FromL C f n l0 m0 g0 r) (e : r = r') : FromL C f n l0 m0 g0 r' := e ▸ h
def finG (C : Cfg) (f : FuncId) (s : St) : GM AV := match C.P.funcs[f]? with
  | none => gfail 6
  | some fn => gbind (glift ((fn.results.toList.mapM (resV C.P s)).map resT)) fun v => snapRG s.hp v
def gcut (C : Cfg) (f : FuncId) (n : Nat) (st : St) (y : GM AV) : GM AV := fun cs => match cs with
  | .x n' l0 m0 g0 r :: cs => if n' = n then .done r cs [Mk (l0.map (fun p => st.sl p.1) = l0.map (·.2)), Mk (m0.map (fun p => st.hp p.1.1 p.1.2) = m0.map fun p => some p.2), Mk (g0.map (fun p => st.gn p.1) = g0.map (·.2)), Mk (FromL C f n l0 m0 g0 r)]
      else y (.x n' l0 m0 g0 r :: cs)
  | cs => y cs
noncomputable def fnL (C : Cfg) (grc : GRec) (f : FuncId) : Nat → List Code → St → GM AV
  | _, [], st => finG C f st
  | n, c :: l, st => gcut C f n st (gbind (execCG C grc c st) fun q => match q with
    | (.normal, s) => fnL C grc f (n + 1) l s
    | (.ret, s) => finG C f s
    | _ => gfail 7)
theorem finG_sd {C : Cfg} {f : FuncId} {s : St} {e : E} (he : e = .normal ∨ e = .ret) : Sd (finG C f s) (fun _ => finV C f (some (e, s))) := by
  unfold finG finV
  split
  · exact Sd.fail _ _
  · rename_i fn hf
    rcases he with rfl | rfl
    · simp only [hf]; exact (Sd.lift _).bind fun v => snapRG_sd _ _
    · simp only [hf]; exact (Sd.lift _).bind fun v => snapRG_sd _ _
theorem fnL_sd {C : Cfg} {grc : GRec} (h : GOk C grc) (f : FuncId) : ∀ (l : List Code) (n : Nat) (st : St), l = (bodyL C.P f).drop n → Sd (fnL C grc f n l st) (fun k => finV C f (execL C (exec C k) l st)) := by
  intro l
  induction l with
  | nil => intro n st _; exact finG_sd (.inl rfl)
  | cons c l ih =>
    intro n st hl
    have hn : n < (bodyL C.P f).length := Nat.lt_of_not_le fun hc => by rw [List.drop_eq_nil_of_le hc] at hl; cases hl
    have hl2 : l = (bodyL C.P f).drop (n + 1) := by
      rw [List.drop_eq_getElem_cons hn] at hl
      exact (List.cons.inj hl).2
    have main : Sd (gbind (execCG C grc c st) fun q => match q with
        | (.normal, s) => fnL C grc f (n + 1) l s
        | (.ret, s) => finG C f s
        | _ => gfail 7) (fun k => finV C f (execL C (exec C k) (c :: l) st)) := by
      refine Sd.of_eq ((execCG_sd h c st).bind (f' := fun k q => match q with
        | (.normal, s) => finV C f (execL C (exec C k) l s)
        | q => finV C f (some q)) fun q => ?_) fun k => ?_
      · obtain ⟨e, s⟩ := q
        cases e with
        | normal => exact ih (n + 1) s hl2
        | ret => exact finG_sd (.inr rfl)
        | exit i => exact Sd.fail _ _
      · show _ = finV C f (bindE (execC C (exec C k) c st) _)
        cases execC C (exec C k) c st with
        | none => simp only [Option.bind_none, bindE]; unfold finV; cases C.P.funcs[f]? <;> rfl
        | some q =>
          obtain ⟨e, s⟩ := q
          cases e <;> rfl
    intro cs a cs' ps hh hp
    unfold fnL gcut at hh
    split at hh
    · rename_i n' l0 m0 g0 r cs0
      split at hh
      · rename_i hnn
        subst hnn
        simp only [GR.done.injEq] at hh
        obtain ⟨rfl, rfl, rfl⟩ := hh
        obtain ⟨h1, h2, h3, h4, _⟩ := hp
        have h4 : FromL C f n' l0 m0 g0 r := h4
        rw [hl]
        exact h4 st ⟨h1, h2, h3⟩
      · exact main _ _ _ _ hh hp
    · exact main _ _ _ _ hh hp
theorem from_of {C : Cfg} {ps : List Prop} (k : Nat) {f : FuncId} {n : Nat} {st : St} (cs : List Ch) {r : AV} (hp : All ps) (h : (fnL C (execG C k) f n ((bodyL C.P f).drop n) st cs).some? = some (r, ps)) : Ev fun k => finV C f (execL C (exec C k) ((bodyL C.P f).drop n) st) = some r := by
  unfold GR.some? at h
  split at h
  · rename_i a cs' ps' h'
    simp only [Option.some.injEq, Prod.mk.injEq] at h
    obtain ⟨rfl, rfl⟩ := h
    exact fnL_sd (execG_ok C k) f _ n st rfl _ _ _ _ h' hp
  · cases h
theorem FromL.of {C : Cfg} {f : FuncId} {n : Nat} {l0 : List (Nat × AV)} {m0 : List ((Nat × Nat) × Blk)} {g0 : List (Nat × Nat)} {r : AV} (h : ∀ σ h g, Ev fun k => finV C f (execL C (exec C k) ((bodyL C.P f).drop n) ⟨mks l0 σ, mkh m0 h, mkg g0 g⟩) = some r) : FromL C f n l0 m0 g0 r := fun st ⟨h1, h2, h3⟩ => by
  have := h st.sl st.hp st.gn
  rw [mk_self h1, mkh_self h2, mkg_self h3] at this
  exact this
end Vai
