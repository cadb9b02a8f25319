import Derived.Test.YtjienkojedlfjaaVb9
namespace Vai
open Go
set_option linter.unusedVariables false
set_option linter.unusedSimpArgs false
set_option linter.unusedSectionVars false
def IsK {α : Type} (g : (R : Type) → (α → Option R) → Option R) (o : Option α) : Prop := ∃ o' : Option α, (∀ R K, g R K = o'.bind K) ∧ ∀ a, o' = some a → o = some a
section
variable {α β : Type}
theorem IsK.pure (a : α) : IsK (fun R K => K a) (some a) := ⟨some a, fun _ _ => rfl, fun _ h => h⟩
theorem IsK.lift (o : Option α) : IsK (fun R K => o.bind K) o := ⟨o, fun _ _ => rfl, fun _ h => h⟩
theorem IsK.none (o : Option α) : IsK (fun R K => Option.none) o := ⟨.none, fun _ _ => rfl, fun _ h => by cases h⟩
theorem IsK.bind {g : (R : Type) → (α → Option R) → Option R} {o : Option α} {f : α → (R : Type) → (β → Option R) → Option R} {p : α → Option β} (h : IsK g o) (k : ∀ a, IsK (f a) (p a)) :
    IsK (fun R K => g R fun a => f a R K) (o.bind p) := by
  obtain ⟨o', h1, h2⟩ := h
  obtain ⟨q, hq⟩ := Classical.axiomOfChoice (r := fun a (o' : Option β) => (∀ R K, f a R K = o'.bind K) ∧ ∀ b, o' = some b → p a = some b) k
  refine ⟨o'.bind q, fun R K => ?_, fun b hb => ?_⟩
  · show g R _ = _
    rw [h1]
    cases o' with
    | none => rfl
    | some a => exact (hq a).1 R K
  · rw [Option.bind_eq_some_iff] at hb ⊢
    obtain ⟨a, ha, hb⟩ := hb
    exact ⟨a, h2 a ha, (hq a).2 b hb⟩
theorem IsK.map {g : (R : Type) → (α → Option R) → Option R} {o : Option α} (h : IsK g o) (f : α → β) : IsK (fun R K => g R fun a => K (f a)) (o.map f) := by
  have := h.bind (f := fun a R K => K (f a)) (p := fun a => some (f a)) (fun a => IsK.pure (f a))
  rwa [show o.map f = o.bind fun a => some (f a) by cases o <;> rfl]
theorem IsK.to {g : (R : Type) → (α → Option R) → Option R} {o o' : Option α} (h : IsK g o) (e : ∀ a, o = some a → o' = some a) : IsK g o' := by
  obtain ⟨q, h1, h2⟩ := h
  exact ⟨q, h1, fun a ha => e a (h2 a ha)⟩
theorem IsK.of_eq {g : (R : Type) → (α → Option R) → Option R} {o o' : Option α} (h : IsK g o) (e : o = o') : IsK g o' := e ▸ h
def gd {R : Type} (b : Bool) (k : Option R) : Option R := bif b then k else .none
@[simp] theorem gd_true {R : Type} (k : Option R) : gd true k = k := rfl
@[simp] theorem gd_false {R : Type} (k : Option R) : gd false k = .none := rfl
theorem gd_of {R : Type} {b : Bool} {k : Option R} (h : b = true) : gd b k = k := by rw [h]; rfl
theorem IsK.gd {b : Bool} {g : (R : Type) → (α → Option R) → Option R} {o : Option α} (h : b = true → IsK g o) : IsK (fun R K => Vai.gd b (g R K)) o := by
  cases b with
  | false => exact IsK.none o
  | true => exact h rfl
theorem IsK.ask {b : Bool} {g g' : (R : Type) → (α → Option R) → Option R} {o : Option α} (h : b = true → IsK g o) (h' : b = false → IsK g' o) : IsK (fun R K => bif b then g R K else g' R K) o := by
  cases b with
  | false => exact h' rfl
  | true => exact h rfl
end
def AV.geti : AV → Int
  | .int _ n => n
  | _ => 0
def AV.getb : AV → Bool
  | .bool b => b
  | _ => false
def AV.gets : AV → ByteArray
  | .str s => s
  | _ => ⟨#[]⟩
def AV.getl : AV → List AV
  | .osl l => l
  | _ => []
def AV.getc : AV → List AV
  | .agg cs => cs
  | _ => []
def AV.gett : AV → List AV
  | .tup cs => cs
  | _ => []
abbrev ci (x : AV) (i : Nat) : Int := (x.getc.getD i .undef).geti
abbrev cb (x : AV) (i : Nat) : Bool := (x.getc.getD i .undef).getb
abbrev cl (x : AV) (i : Nat) : List AV := (x.getc.getD i .undef).getl
abbrev ti (x : AV) (i : Nat) : Int := (x.gett.getD i .undef).geti
abbrev tb (x : AV) (i : Nat) : Bool := (x.gett.getD i .undef).getb
abbrev tl (x : AV) (i : Nat) : List AV := (x.gett.getD i .undef).getl
def vw1 : Kd → AV → AV
  | .int k, x => .int k x.geti
  | .bool, x => .bool x.getb
  | .str, x => .str x.gets
  | .sl, x => .osl x.getl
  | .raw, x => x
def ok1 : Kd → AV → Bool
  | .int k, .int k' _ => decide (k = k')
  | .bool, .bool _ => true
  | .str, .str _ => true
  | .sl, .osl _ => true
  | .raw, _ => true
  | _, _ => false
theorem vw1_eq {k : Kd} {x : AV} (h : ok1 k x = true) : vw1 k x = x := by
  cases k <;> cases x <;> simp_all [ok1, vw1, AV.geti, AV.getb, AV.gets, AV.getl]
def vwL : List Kd → Nat → List AV → List AV
  | [], _, _ => []
  | k :: ks, i, cs => vw1 k (cs.getD i .undef) :: vwL ks (i + 1) cs
def okL : List Kd → List AV → Bool
  | [], [] => true
  | k :: ks, c :: cs => ok1 k c && okL ks cs
  | _, _ => false
theorem vwL_at : ∀ (ks : List Kd) (i : Nat) (cs : List AV), okL ks (cs.drop i) = true → vwL ks i cs = cs.drop i
  | [], i, cs, h => by
    unfold vwL
    cases hd : cs.drop i with
    | nil => rfl
    | cons c l => rw [hd] at h; simp [okL] at h
  | k :: ks, i, cs, h => by
    unfold vwL
    cases hd : cs.drop i with
    | nil => rw [hd] at h; simp [okL] at h
    | cons c l =>
      rw [hd] at h
      simp only [okL, Bool.and_eq_true] at h
      have hc : cs[i]? = some c := by rw [← Nat.add_zero i, ← List.getElem?_drop, hd]; rfl
      have hl : cs.drop (i + 1) = l := by rw [← List.drop_drop, hd]; rfl
      rw [List.getD_eq_getElem?_getD, hc, Option.getD_some, vw1_eq h.1, vwL_at ks (i + 1) cs (by rw [hl]; exact h.2), hl]
theorem vwL_eq {ks : List Kd} {cs : List AV} (h : okL ks cs = true) : vwL ks 0 cs = cs := by simpa using vwL_at ks 0 cs (by simpa using h)
def kdsT (P : Program) : Nat → TypeId → List Kd
  | 0, _ => [.raw]
  | d + 1, t => match P.underlying t with
    | some .bool => [.bool]
    | some (.int k) => [.int k]
    | some .string => [.str]
    | some (.slice _) => [.sl]
    | some (.struct fs) => fs.toList.flatMap fun f => kdsT P d f.type
    | some (.array n e) => (List.replicate n (kdsT P d e)).flatten
    | _ => [.raw]
inductive Vw where
  | one (k : Kd)
  | agg (ks : List Kd)
def vwT (P : Program) (t : TypeId) : Vw :=
  match tagg P t with
  | some true => .agg (kdsT P 12 t)
  | _ => match kdsT P 12 t with
    | [k] => .one k
    | _ => .one .raw
def Vw.fit : Vw → AV → Bool
  | .one k, x => ok1 k x
  | .agg ks, .agg cs => okL ks cs
  | .agg _, _ => false
def Vw.see : Vw → AV → AV
  | .one k, x => vw1 k x
  | .agg ks, x => .agg (vwL ks 0 x.getc)
theorem Vw.see_eq {v : Vw} {x : AV} (h : v.fit x = true) : v.see x = x := by
  cases v with
  | one k => exact vw1_eq h
  | agg ks =>
    cases x <;> simp [Vw.fit] at h
    simp [Vw.see, AV.getc, vwL_eq h]
def viewK {R : Type} (v : Option Vw) (x : AV) (K : AV → Option R) : Option R := match v with
  | .none => K x
  | some v => gd (v.fit x) (K (v.see x))
theorem viewK_is (v : Option Vw) (x : AV) : IsK (fun R K => viewK v x K) (some x) := by
  cases v with
  | none => exact IsK.pure x
  | some v => exact IsK.gd fun h => (IsK.pure _).of_eq (by rw [Vw.see_eq h])
def fitR : List Vw → List AV → Bool
  | [], [] => true
  | v :: vs, x :: xs => v.fit x && fitR vs xs
  | _, _ => false
def seeR : List Vw → Nat → List AV → List AV
  | [], _, _ => []
  | v :: vs, i, xs => v.see (xs.getD i .undef) :: seeR vs (i + 1) xs
theorem seeR_at : ∀ (ks : List Vw) (i : Nat) (cs : List AV), fitR ks (cs.drop i) = true → seeR ks i cs = cs.drop i
  | [], i, cs, h => by
    unfold seeR
    cases hd : cs.drop i with
    | nil => rfl
    | cons c l => rw [hd] at h; simp [fitR] at h
  | k :: ks, i, cs, h => by
    unfold seeR
    cases hd : cs.drop i with
    | nil => rw [hd] at h; simp [fitR] at h
    | cons c l =>
      rw [hd] at h
      simp only [fitR, Bool.and_eq_true] at h
      have hc : cs[i]? = some c := by rw [← Nat.add_zero i, ← List.getElem?_drop, hd]; rfl
      have hl : cs.drop (i + 1) = l := by rw [← List.drop_drop, hd]; rfl
      rw [List.getD_eq_getElem?_getD, hc, Option.getD_some, Vw.see_eq h.1, seeR_at ks (i + 1) cs (by rw [hl]; exact h.2), hl]
def fitA (vs : List Vw) (x : AV) : Bool := match vs with
  | [v] => v.fit x
  | vs => match x with
    | .tup xs => fitR vs xs
    | _ => false
def seeA (vs : List Vw) (x : AV) : AV := match vs with
  | [v] => v.see x
  | vs => .tup (seeR vs 0 x.gett)
theorem seeA_eq {vs : List Vw} {x : AV} (h : fitA vs x = true) : seeA vs x = x := by
  unfold fitA at h
  unfold seeA
  split at h
  · exact Vw.see_eq h
  · rename_i hne
    split at h
    · rename_i xs
      have : seeR vs 0 xs = xs := by simpa using seeR_at vs 0 xs (by simpa using h)
      show AV.tup (seeR vs 0 xs) = _
      rw [this]
    · cases h
def boundK {R : Type} (x : Option AV) (y d : Nat) (K : Nat → Option R) : Option R := match x with
  | none => K d
  | some v => (asI v).bind fun i => gd (decide (0 ≤ i ∧ i ≤ y)) (K i.toNat)
theorem boundK_is (x : Option AV) (y d : Nat) : IsK (fun R K => boundK x y d K) (bound x y d) := by
  unfold boundK bound
  cases x with
  | none => exact IsK.pure d
  | some v => exact (IsK.lift _).bind fun i => IsK.gd fun h => by rw [if_pos (of_decide_eq_true h)]; exact IsK.pure _
def gCel (z : Nat) (xs : List AV) : Bool := xs.all fun x => x.cells.length = z
def sliceK {R : Type} (P : Program) (t : TypeId) (x : AV) (lo hi mx : Option AV) (K : AV → Option R) : Option R :=
  match x with
  | .str s => if tstr P t && mx.isNone then boundK hi s.size s.size fun h => boundK lo h 0 fun l => K (.str (s.extract l h)) else none
  | .osl xs => (tsl P t).bind fun e => (tsz P e).bind fun z => if mx.isNone || hi.isSome then gd (gCel z xs) (boundK mx xs.length xs.length fun m => boundK hi m xs.length fun h => boundK lo h 0 fun l =>
      bif mx.isSome && decide (m = l) then K .nil else K (.osl ((xs.take h).drop l))) else none
  | .sl e s g b n => if (tsl P t).bind (tsz P) = some e && (mx.isNone || hi.isSome) then boundK mx n n fun m => boundK hi m n fun h => boundK lo h 0 fun l =>
      bif decide (l ≠ 0 ∧ l = h) then K (.osl []) else K (.sl e s g (b + l) (h - l)) else none
  | x => (sliceV P t x lo hi mx).bind K
theorem sliceK_is (P : Program) (t : TypeId) (x : AV) (lo hi mx : Option AV) : IsK (fun R K => sliceK P t x lo hi mx K) (sliceV P t x lo hi mx) := by
  unfold sliceK
  split
  · simp only [sliceV]
    split
    · exact (boundK_is _ _ _).bind fun h => (boundK_is _ _ _).bind fun l => IsK.pure _
    · exact IsK.none _
  · rename_i xs
    simp only [sliceV]
    refine (IsK.lift _).bind fun e => (IsK.lift _).bind fun z => ?_
    split
    · rename_i hc
      refine IsK.gd fun ha => ?_
      rw [if_pos (by rw [Bool.and_eq_true]; exact ⟨hc, ha⟩)]
      refine (boundK_is _ _ _).bind fun m => (boundK_is _ _ _).bind fun h => (boundK_is _ _ _).bind fun l => IsK.ask (fun hb => ?_) fun hb => ?_
      · rw [if_pos hb]; exact IsK.pure _
      · rw [if_neg (by rw [hb]; simp)]; exact IsK.pure _
    · exact IsK.none _
  · rename_i e s g b n
    simp only [sliceV]
    split
    · refine (boundK_is _ _ _).bind fun m => (boundK_is _ _ _).bind fun h => (boundK_is _ _ _).bind fun l => IsK.ask (fun hb => ?_) fun hb => ?_
      · rw [if_pos (of_decide_eq_true hb)]; exact IsK.pure _
      · rw [if_neg (of_decide_eq_false hb)]; exact IsK.pure _
    · exact IsK.none _
  · exact IsK.lift _
def caseK {R : Type} : Nat → Nat → Int → (Nat → Option R) → Option R
  | 0, _, _, _ => none
  | m + 1, k, i, K => bif decide (i = (k : Int)) then K k else caseK m (k + 1) i K
theorem caseK_is : ∀ (m k : Nat) (i : Int), IsK (fun R K => caseK m k i K) (if (k : Int) ≤ i ∧ i < ((k + m : Nat) : Int) then some i.toNat else none)
  | 0, k, i => IsK.none _
  | m + 1, k, i => by
    refine IsK.ask (fun h => ?_) fun h => ?_
    · have h := of_decide_eq_true h
      rw [if_pos (by omega), show i.toNat = k by omega]
      exact IsK.pure k
    · have h := of_decide_eq_false h
      refine (caseK_is m (k + 1) i).of_eq ?_
      by_cases c : (k : Int) ≤ i ∧ i < ((k + (m + 1) : Nat) : Int)
      · rw [if_pos c, if_pos (by omega)]
      · rw [if_neg c, if_neg (by omega)]
def elK {R : Type} (n : Nat) (i : Int) (K : Nat → Option R) : Option R := if n ≤ 8 then caseK n 0 i K else gd (decide (0 ≤ i ∧ i < n)) (K i.toNat)
theorem elK_is (n : Nat) (i : Int) : IsK (fun R K => elK n i K) (if 0 ≤ i ∧ i < (n : Int) then some i.toNat else none) := by
  unfold elK
  split
  · exact (caseK_is n 0 i).of_eq (by simp)
  · exact IsK.gd fun h => by rw [if_pos (of_decide_eq_true h)]; exact IsK.pure _
def indexAddrK {R : Type} (P : Program) (t : TypeId) (x ix : AV) (K : AV → Option R) : Option R :=
  (asI ix).bind fun i =>
  match x with
  | .osl xs => (tsl P t).bind fun e => (tsz P e).bind fun z => gd (decide (0 ≤ i)) ((xs[i.toNat]?).bind fun v => viewK (some (vwT P e)) v fun v => if v.cells.length = z then K (.rptr v.cells) else none)
  | .sl e s g lo len => if (tsl P t).bind (tsz P) = some e then gd (decide (0 ≤ i ∧ i < len)) (K (.ptr s g (lo + i.toNat) 0)) else none
  | .ptr s g j off => (tarr P t).bind fun p => (tsz P p.2).bind fun z => elK p.1 i fun k => K (.ptr s g j (off + k * z))
  | .rptr cs => (tarr P t).bind fun p => (tsz P p.2).bind fun z => elK p.1 i fun k => K (.rptr (cs.drop (k * z)))
  | _ => none
theorem indexAddrK_is (P : Program) (t : TypeId) (x ix : AV) : IsK (fun R K => indexAddrK P t x ix K) (indexAddrV P t x ix) := by
  unfold indexAddrK indexAddrV
  refine (IsK.lift _).bind fun i => ?_
  split
  · rename_i xs
    dsimp only
    refine (IsK.lift _).bind fun e => (IsK.lift _).bind fun z => IsK.gd fun h => ?_
    rw [if_pos (of_decide_eq_true h)]
    refine ((IsK.lift (xs[i.toNat]?)).bind fun v => (viewK_is (some (vwT P e)) v).bind (p := fun v => if v.cells.length = z then some (.rptr v.cells) else none) fun u => ?_).of_eq ?_
    · split
      · exact IsK.pure _
      · exact IsK.none _
    · cases xs[i.toNat]? <;> rfl
  · dsimp only
    split
    · refine IsK.gd fun h => ?_
      rw [if_pos (of_decide_eq_true h)]; exact IsK.pure _
    · exact IsK.none _
  · dsimp only
    refine (IsK.lift _).bind fun p => (IsK.lift _).bind fun z => ((elK_is p.1 i).bind (p := fun k => some _) fun k => IsK.pure _).of_eq ?_
    split <;> rfl
  · dsimp only
    refine (IsK.lift _).bind fun p => (IsK.lift _).bind fun z => ((elK_is p.1 i).bind (p := fun k => some _) fun k => IsK.pure _).of_eq ?_
    split <;> rfl
  · exact IsK.none _
def indexK {R : Type} (P : Program) (t : TypeId) (x ix : AV) (K : AV → Option R) : Option R :=
  (asI ix).bind fun i =>
  match x with
  | .str s => if tstr P t then gd (decide (0 ≤ i)) (gd (decide (i.toNat < s.size)) (K (.int .u8 (s.data.getD i.toNat 0).toNat))) else none
  | .agg cs => (tarr P t).bind fun p => (tsz P p.2).bind fun z => (tagg P p.2).bind fun a => elK p.1 i fun k => (pick a z (k * z) cs).bind K
  | _ => none
theorem indexK_is (P : Program) (t : TypeId) (x ix : AV) : IsK (fun R K => indexK P t x ix K) (indexV P t x ix) := by
  unfold indexK indexV
  refine (IsK.lift _).bind fun i => ?_
  split
  · rename_i s
    dsimp only
    split
    · rename_i ht
      refine IsK.gd fun h0 => IsK.gd fun hlt => ?_
      have h0 := of_decide_eq_true h0
      have hlt := of_decide_eq_true hlt
      rw [if_pos (by rw [Bool.and_eq_true]; exact ⟨ht, decide_eq_true h0⟩)]
      have : s[i.toNat]? = some (s.data.getD i.toNat 0) := by
        have hl : i.toNat < s.data.size := hlt
        rw [getElem?_pos s i.toNat hlt, Array.getD_eq_getD_getElem?, Array.getElem?_eq_getElem hl]
        rfl
      rw [this]
      exact IsK.pure _
    · exact IsK.none _
  · dsimp only
    rename_i cs
    refine (IsK.lift _).bind fun p => (IsK.lift _).bind fun z => (IsK.lift _).bind fun a => ((elK_is p.1 i).bind (p := fun k => pick a z (k * z) cs) fun k => IsK.lift _).of_eq ?_
    split <;> rfl
  · exact IsK.none _
def binK {R : Type} (P : Program) (op : BinOp) (t : TypeId) (x y : AV) (K : AV → Option R) : Option R :=
  match op, x, y with
  | .quo, .int k a, .int k' b => if k = k' then gd (decide (¬ b = 0)) (K (.int k (k.wrap (a.tdiv b)))) else none
  | .rem, .int k a, .int k' b => if k = k' then gd (decide (¬ b = 0)) (K (.int k (a.tmod b))) else none
  | .shl, .int k a, .int k' b => gd (decide (¬ b < 0)) (K (.int k (k.wrap (a * 2 ^ (min b.toNat k.bits)))))
  | .shr, .int k a, .int k' b => gd (decide (¬ b < 0)) (K (.int k (a.fdiv (2 ^ (min b.toNat k.bits)))))
  | .add, .str a, .str b => gd (decide (a.size + b.size ≤ 9223372036854775807)) (K (.str (a ++ b)))
  | op, x, y => (binV P op t x y).bind K
theorem binK_is (P : Program) (op : BinOp) (t : TypeId) (x y : AV) : IsK (fun R K => binK P op t x y K) (binV P op t x y) := by
  unfold binK
  split
  · simp only [binV]
    split
    · simp only [binI]
      exact IsK.gd fun h => by rw [if_neg (of_decide_eq_true h)]; exact IsK.pure _
    · exact IsK.none _
  · simp only [binV]
    split
    · simp only [binI]
      exact IsK.gd fun h => by rw [if_neg (of_decide_eq_true h)]; exact IsK.pure _
    · exact IsK.none _
  · simp only [binV]
    exact IsK.gd fun h => by rw [if_neg (of_decide_eq_true h)]; exact IsK.pure _
  · simp only [binV]
    exact IsK.gd fun h => by rw [if_neg (of_decide_eq_true h)]; exact IsK.pure _
  · simp only [binV]
    exact IsK.gd fun h => by rw [if_pos (of_decide_eq_true h)]; exact IsK.pure _
  · exact IsK.lift _
def pureK {R : Type} (P : Program) (ρ : Operand → AV) (op : Op) (K : AV → Option R) : Option R :=
  match op with
  | .binOp op t x y _ => if isNilC y then (nilV P op t (ρ x)).bind K else binK P op t (ρ x) (ρ y) K
  | .slice t x lo hi mx => sliceK P t (ρ x) (lo.map ρ) (hi.map ρ) (mx.map ρ) K
  | .indexAddr t x ix => indexAddrK P t (ρ x) (ρ ix) K
  | .index t x ix => indexK P t (ρ x) (ρ ix) K
  | op => (pureV P ρ op).bind K
theorem pureK_is (P : Program) (ρ : Operand → AV) (op : Op) : IsK (fun R K => pureK P ρ op K) (pureV P ρ op) := by
  unfold pureK
  split
  · simp only [pureV]
    split
    · exact IsK.lift _
    · exact binK_is _ _ _ _ _
  · exact sliceK_is _ _ _ _ _ _
  · exact indexAddrK_is _ _ _ _
  · exact indexK_is _ _ _ _
  · exact IsK.lift _
def via (P : Program) (ops : Array Oper) : Nat → Operand → Option TypeId
  | 0, _ => none
  | d + 1, .tmp t => match ops.toList.find? (fun o => o.dst == some t) with
    | some o => match o.op with
      | .indexAddr xt x _ => match tsl P xt with
        | some e => some e
        | none => via P ops d x
      | .fieldAddr _ x _ => via P ops d x
      | .nilCheck x => via P ops d x
      | _ => none
    | none => none
  | _, _ => none
def loadK {R : Type} (P : Program) (hp : Mem) (v : Option Vw) (t : TypeId) (a : AV) (K : AV → Option R) : Option R :=
  (tagg P t).bind fun ag => (tsz P t).bind fun z =>
  match a with
  | .rptr cs => (pick ag z 0 cs).bind K
  | .ptr s g i off => (hp s g).bind fun b => (b.es[i]?).bind fun x => viewK v x fun x => (pick ag z off x.cells).bind K
  | _ => none
theorem loadK_is (P : Program) (hp : Mem) (v : Option Vw) (t : TypeId) (a : AV) : IsK (fun R K => loadK P hp v t a K) (loadV P hp t a) := by
  unfold loadK loadV
  refine (IsK.lift _).bind fun ag => (IsK.lift _).bind fun z => ?_
  split
  · exact IsK.lift _
  · refine (IsK.lift _).bind fun b => ((IsK.lift _).bind fun x => (viewK_is v x).bind (p := fun x => pick ag z _ x.cells) fun x => IsK.lift _).of_eq ?_
    rename_i i off
    cases b.es[i]? <;> rfl
  · exact IsK.none _
def storeK {R : Type} (P : Program) (v' : Option Vw) (t : TypeId) (a v : AV) (st : St) (K : St → Option R) : Option R :=
  (tsz P t).bind fun z =>
  match a with
  | .ptr s g i off => (st.hp s g).bind fun b => (b.es[i]?).bind fun x => viewK v' x fun x =>
      gd (!b.fr && v.ok && v.cells.length = z && off + z ≤ x.cells.length && (x.re (splice x.cells off v.cells)).ok) (K (st.setB s g (some ⟨b.es.set i (x.re (splice x.cells off v.cells)), false⟩)))
  | _ => none
theorem storeK_is (P : Program) (v' : Option Vw) (t : TypeId) (a v : AV) (st : St) : IsK (fun R K => storeK P v' t a v st K) (storeStep P t a v st) := by
  unfold storeK storeStep
  refine (IsK.lift _).bind fun z => ?_
  split
  · rename_i s g i off
    refine (IsK.lift _).bind fun b => ((IsK.lift _).bind fun x => (viewK_is v' x).bind (p := fun x => if !b.fr && v.ok && v.cells.length = z && off + z ≤ x.cells.length && (x.re (splice x.cells off v.cells)).ok then some (st.setB s g (some ⟨b.es.set i (x.re (splice x.cells off v.cells)), false⟩)) else none) fun x => IsK.gd fun h => ?_).of_eq ?_
    · rw [if_pos h]; exact IsK.pure _
    · cases b.es[i]? <;> rfl
  · exact IsK.none _
def contsK {R : Type} (hp : Mem) (x : AV) (K : List AV → Option R) : Option R := match x with
  | .sl _ s g lo len => (hp s g).bind fun b => gd (decide (lo + len ≤ b.es.length)) (K ((b.es.drop lo).take len))
  | x => (conts hp x).bind K
theorem contsK_is (hp : Mem) (x : AV) : IsK (fun R K => contsK hp x K) (conts hp x) := by
  unfold contsK
  split
  · unfold conts
    refine (IsK.lift _).bind fun b => IsK.gd fun h => ?_
    rw [if_pos (of_decide_eq_true h)]; exact IsK.pure _
  · exact IsK.lift _
def gFree (e : Nat) (xs : List AV) : Bool := xs.all fun x => x.free && x.cells.length = e
def snapK {R : Type} (hp : Mem) : Nat → AV → (AV × List (Nat × Nat) → Option R) → Option R
  | 0, x, K => if x.free then K (x, []) else none
  | n + 1, x, K => if x.free then K (x, []) else match x with
    | .agg cs => snapsK hp n cs fun r => K (.agg r.1, r.2)
    | .sl e s g lo len => (hp s g).bind fun b => gd (decide (lo + len ≤ b.es.length)) (gd (gFree e ((b.es.drop lo).take len)) (K (.osl ((b.es.drop lo).take len), [(s, g)])))
    | _ => none
where snapsK {R : Type} (hp : Mem) (n : Nat) : List AV → (List AV × List (Nat × Nat) → Option R) → Option R
  | [], K => K ([], [])
  | c :: cs, K => snapK hp n c fun a => snapsK hp n cs fun r => K (a.1 :: r.1, a.2 ++ r.2)
theorem free_ok' {x : AV} (h : x.free = true) : x.ok = true := by cases x <;> simp_all [AV.free, AV.ok]
theorem snap_free {hp : Mem} {n : Nat} {x : AV} (h : x.free = true) : snap hp n x = some x ∧ refs hp n x = [] := by
  cases n with
  | zero => unfold snap refs; rw [if_pos h]; exact ⟨rfl, rfl⟩
  | succ n => unfold snap refs; rw [if_pos h, if_pos h]; exact ⟨rfl, rfl⟩
theorem snaps_free {hp : Mem} {n : Nat} : ∀ {xs : List AV}, (∀ x ∈ xs, x.free = true) → xs.mapM (snap hp n) = some xs ∧ xs.flatMap (refs hp n) = []
  | [], _ => ⟨rfl, rfl⟩
  | x :: xs, h => by
    obtain ⟨h1, h2⟩ := snap_free (hp := hp) (n := n) (h x (by simp))
    obtain ⟨h3, h4⟩ := snaps_free (hp := hp) (n := n) (xs := xs) (fun y hy => h y (by simp [hy]))
    rw [List.mapM_cons, h1, h3, List.flatMap_cons, h2, h4]
    exact ⟨rfl, rfl⟩
theorem snapsK_is {hp : Mem} {n : Nat} (ih : ∀ x, IsK (fun R K => snapK hp n x K) ((snap hp n x).map fun y => (y, refs hp n x))) : ∀ cs, IsK (fun R K => snapK.snapsK hp n cs K) ((cs.mapM (snap hp n)).map fun ys => (ys, cs.flatMap (refs hp n)))
  | [] => by unfold snapK.snapsK; exact IsK.pure _
  | c :: cs => by
    unfold snapK.snapsK
    refine ((ih c).bind fun a => (snapsK_is ih cs).bind (p := fun r => some (a.1 :: r.1, a.2 ++ r.2)) fun r => IsK.pure _).of_eq ?_
    rw [List.mapM_cons]
    cases snap hp n c with
    | none => rfl
    | some a =>
      cases List.mapM (snap hp n) cs with
      | none => rfl
      | some r => simp
theorem snapK_is (hp : Mem) : ∀ (n : Nat) (x : AV), IsK (fun R K => snapK hp n x K) ((snap hp n x).map fun y => (y, refs hp n x)) := by
  intro n
  induction n with
  | zero =>
    intro x
    unfold snapK
    by_cases hf : x.free = true
    · simp only [hf, if_true, (snap_free hf).1, (snap_free hf).2]; exact IsK.pure _
    · simp only [hf]; exact IsK.none _
  | succ n ih =>
    intro x
    unfold snapK
    by_cases hf : x.free = true
    · simp only [hf, if_true, (snap_free hf).1, (snap_free hf).2]; exact IsK.pure _
    · have hf' : x.free = false := by simpa using hf
      simp only [hf', Bool.false_eq_true, if_false]
      split
      · rename_i cs
        refine ((snapsK_is ih cs).map (fun r => (AV.agg r.1, r.2))).of_eq ?_
        unfold snap refs
        rw [if_neg hf, if_neg hf]
        simp only
        cases List.mapM (snap hp n) cs <;> rfl
      · rename_i e s g lo len
        unfold snap refs
        rw [if_neg hf, if_neg hf]
        simp only [conts]
        cases hb : hp s g with
        | none => exact IsK.none _
        | some b =>
          simp only [Option.bind_some]
          refine IsK.gd fun hlo => IsK.gd fun h2 => ?_
          rw [if_pos (of_decide_eq_true hlo)]
          simp only [Option.bind_some, Option.getD_some]
          have hfr : ∀ x ∈ (b.es.drop lo).take len, x.free = true := fun x hx => by
            have := List.all_eq_true.1 h2 x hx
            simp only [Bool.and_eq_true] at this
            exact this.1
          have hall : ((b.es.drop lo).take len).all (fun x => x.ok && x.cells.length = e) = true := List.all_eq_true.2 fun x hx => by
            have := List.all_eq_true.1 h2 x hx
            simp only [Bool.and_eq_true] at this ⊢
            exact ⟨free_ok' this.1, this.2⟩
          obtain ⟨h3, h4⟩ := snaps_free (hp := hp) (n := n) hfr
          rw [if_pos hall, h3, h4]
          exact IsK.pure _
      · exact IsK.none _
def snapRK {R : Type} (hp : Mem) (v : AV) (K : AV → Option R) : Option R := match v with
  | .tup vs => snapK.snapsK hp DEEP vs fun r => K (.tup (r.1.map AV.norm))
  | v => snapK hp DEEP v fun r => K r.1.norm
theorem snapRK_is (hp : Mem) (v : AV) : IsK (fun R K => snapRK hp v K) (snapR hp v) := by
  cases v with
  | tup vs =>
    simp only [snapRK, snapR]
    refine ((snapsK_is (fun x => snapK_is hp DEEP x) vs).map fun r => AV.tup (r.1.map AV.norm)).of_eq ?_
    cases List.mapM (snap hp DEEP) vs <;> rfl
  | _ =>
    simp only [snapRK, snapR]
    refine ((snapK_is hp DEEP _).map fun r => r.1.norm).of_eq ?_
    cases snap hp DEEP _ <;> rfl
def gRow (z : Nat) (xs : List AV) : Bool := xs.all fun x => x.ok && x.cells.length = z
def gLen (n by_ : Nat) : Bool := decide (n * by_ ≤ 140737488355328 ∧ n ≤ 140737488355328)
def resVw (P : Program) (f : FuncId) : List Vw := match P.funcs[f]? with
  | some fn => fn.resultTypes.toList.map (vwT P)
  | none => []
def AV.sln : AV → Nat
  | .sl _ _ _ _ n => n
  | _ => 0
def AV.getf : AV → List AV
  | .fn _ _ cs => cs
  | _ => []
def fitP : Pt → AV → Bool
  | .k kd, x => ok1 kd x
  | .nl, .nl => true
  | .undef, .undef => true
  | .sl e i, .sl e' s g lo _ => e == e' && s == BIG + i && g == 0 && lo == 0
  | .ptr i, .ptr s g j o => s == BIG + i && g == 0 && j == 0 && o == 0
  | .agg ps, .agg cs => fitPs ps cs
  | .tup ps, .tup cs => fitPs ps cs
  | .fn f ps, .fn f' [] cs => f == f' && fitPs ps cs
  | _, _ => false
where fitPs : List Pt → List AV → Bool
  | [], [] => true
  | p :: ps, c :: cs => fitP p c && fitPs ps cs
  | _, _ => false
def seeP : Pt → AV → AV
  | .k kd, x => vw1 kd x
  | .nl, _ => .nl
  | .undef, _ => .undef
  | .sl e i, x => .sl e (BIG + i) 0 0 x.sln
  | .ptr i, _ => .ptr (BIG + i) 0 0 0
  | .agg ps, x => .agg (seePs ps 0 x.getc)
  | .tup ps, x => .tup (seePs ps 0 x.gett)
  | .fn f ps, x => .fn f [] (seePs ps 0 x.getf)
where seePs : List Pt → Nat → List AV → List AV
  | [], _, _ => []
  | p :: ps, i, cs => seeP p (cs.getD i .undef) :: seePs ps (i + 1) cs
mutual
theorem seeP_eq : ∀ (p : Pt) (x : AV), fitP p x = true → seeP p x = x
  | .k kd, x, h => vw1_eq (by simpa [fitP] using h)
  | .nl, x, h => by cases x <;> first | rfl | simp [fitP] at h
  | .undef, x, h => by cases x <;> first | rfl | simp [fitP] at h
  | .sl e i, x, h => by
    cases x <;> simp [fitP] at h
    obtain ⟨⟨⟨rfl, rfl⟩, rfl⟩, rfl⟩ := h
    rfl
  | .ptr i, x, h => by
    cases x <;> simp [fitP] at h
    obtain ⟨⟨⟨rfl, rfl⟩, rfl⟩, rfl⟩ := h
    rfl
  | .agg ps, x, h => by
    cases x <;> simp [fitP] at h
    rename_i cs
    show AV.agg (seeP.seePs ps 0 cs) = _
    rw [show seeP.seePs ps 0 cs = cs by simpa using seePs_eq ps 0 cs (by simpa using h)]
  | .tup ps, x, h => by
    cases x <;> simp [fitP] at h
    rename_i cs
    show AV.tup (seeP.seePs ps 0 cs) = _
    rw [show seeP.seePs ps 0 cs = cs by simpa using seePs_eq ps 0 cs (by simpa using h)]
  | .fn f ps, .fn f' [] cs, h => by
    rw [fitP, Bool.and_eq_true, beq_iff_eq] at h
    obtain ⟨rfl, h⟩ := h
    show AV.fn f [] (seeP.seePs ps 0 cs) = _
    rw [show seeP.seePs ps 0 cs = cs by simpa using seePs_eq ps 0 cs (by simpa using h)]
  | .fn f ps, .fn f' (_ :: _) cs, h => by simp [fitP] at h
  | .fn f ps, .int .., h => by simp [fitP] at h
  | .fn f ps, .bool .., h => by simp [fitP] at h
  | .fn f ps, .str .., h => by simp [fitP] at h
  | .fn f ps, .agg .., h => by simp [fitP] at h
  | .fn f ps, .nil, h => by simp [fitP] at h
  | .fn f ps, .osl .., h => by simp [fitP] at h
  | .fn f ps, .sl .., h => by simp [fitP] at h
  | .fn f ps, .ptr .., h => by simp [fitP] at h
  | .fn f ps, .rptr .., h => by simp [fitP] at h
  | .fn f ps, .nl, h => by simp [fitP] at h
  | .fn f ps, .em, h => by simp [fitP] at h
  | .fn f ps, .nilptr, h => by simp [fitP] at h
  | .fn f ps, .nilfn, h => by simp [fitP] at h
  | .fn f ps, .tup .., h => by simp [fitP] at h
  | .fn f ps, .undef, h => by simp [fitP] at h
  | .fn f ps, .unk, h => by simp [fitP] at h
  | .fn f ps, .yld .., h => by simp [fitP] at h
theorem seePs_eq : ∀ (ps : List Pt) (i : Nat) (cs : List AV), fitP.fitPs ps (cs.drop i) = true → seeP.seePs ps i cs = cs.drop i
  | [], i, cs, h => by
    unfold seeP.seePs
    cases hd : cs.drop i with
    | nil => rfl
    | cons c l => rw [hd] at h; simp [fitP.fitPs] at h
  | k :: ks, i, cs, h => by
    unfold seeP.seePs
    cases hd : cs.drop i with
    | nil => rw [hd] at h; simp [fitP.fitPs] at h
    | cons c l =>
      rw [hd] at h
      simp only [fitP.fitPs, Bool.and_eq_true] at h
      have hc : cs[i]? = some c := by rw [← Nat.add_zero i, ← List.getElem?_drop, hd]; rfl
      have hl : cs.drop (i + 1) = l := by rw [← List.drop_drop, hd]; rfl
      rw [List.getD_eq_getElem?_getD, hc, Option.getD_some, seeP_eq k c h.1, seePs_eq ks (i + 1) cs (by rw [hl]; exact h.2), hl]
end
def bget (bs : List (Option CB)) (i : Nat) : List AV := match bs.getD i none with
  | some b => b.es
  | none => []
def fitB1 (p : Pt) : List AV → Bool
  | [x] => fitP p x
  | _ => false
def fitBs : List BPt → List (Option CB) → Bool
  | [], [] => true
  | .no :: l, none :: m => fitBs l m
  | .row :: l, some b :: m => !b.fr && !b.pt && fitBs l m
  | .pt p :: l, some b :: m => !b.fr && b.pt && fitB1 p b.es && fitBs l m
  | _, _ => false
def seeBs : List BPt → Nat → List (Option CB) → List (Option CB)
  | [], _, _ => []
  | .no :: l, i, bs => none :: seeBs l (i + 1) bs
  | .row :: l, i, bs => some ⟨bget bs i, false, false⟩ :: seeBs l (i + 1) bs
  | .pt p :: l, i, bs => some ⟨[seeP p ((bget bs i).headD .undef)], false, true⟩ :: seeBs l (i + 1) bs
theorem seeBs_eq : ∀ (ps : List BPt) (i : Nat) (bs : List (Option CB)), fitBs ps (bs.drop i) = true → seeBs ps i bs = bs.drop i
  | [], i, cs, h => by
    unfold seeBs
    cases hd : cs.drop i with
    | nil => rfl
    | cons c l => rw [hd] at h; simp [fitBs] at h
  | k :: ks, i, cs, h => by
    cases hd : cs.drop i with
    | nil => rw [hd] at h; cases k <;> simp [fitBs] at h
    | cons c l =>
      rw [hd] at h
      have hc : cs[i]? = some c := by rw [← Nat.add_zero i, ← List.getElem?_drop, hd]; rfl
      have hl : cs.drop (i + 1) = l := by rw [← List.drop_drop, hd]; rfl
      have hb : ∀ b, c = some b → bget cs i = b.es := fun b e => by unfold bget; rw [List.getD_eq_getElem?_getD, hc, Option.getD_some, e]
      cases k with
      | no =>
        cases c with
        | some b => simp [fitBs] at h
        | none =>
          simp only [fitBs] at h
          unfold seeBs
          rw [seeBs_eq ks (i + 1) cs (by rw [hl]; exact h), hl]
      | row =>
        cases c with
        | none => simp [fitBs] at h
        | some b =>
          obtain ⟨es, fr, pt⟩ := b
          simp only [fitBs, Bool.and_eq_true, Bool.not_eq_true'] at h
          obtain ⟨⟨rfl, rfl⟩, h⟩ := h
          unfold seeBs
          rw [seeBs_eq ks (i + 1) cs (by rw [hl]; exact h), hl, hb _ rfl]
      | pt p =>
        cases c with
        | none => simp [fitBs] at h
        | some b =>
          obtain ⟨es, fr, pt⟩ := b
          simp only [fitBs, Bool.and_eq_true, Bool.not_eq_true'] at h
          obtain ⟨⟨⟨rfl, rfl⟩, hp⟩, h⟩ := h
          unfold seeBs
          rw [seeBs_eq ks (i + 1) cs (by rw [hl]; exact h), hl, hb _ rfl]
          unfold fitB1 at hp
          split at hp
          · rw [List.headD_cons, seeP_eq _ _ hp]
          · cases hp
def viewM {R : Type} : List (Pt × List BPt) → AV × List (Option CB) → (AV × List (Option CB) → Option R) → Option R
  | [], _, _ => none
  | p :: l, r, K => bif fitP p.1 r.1 && fitBs p.2 r.2 then K (seeP p.1 r.1, seeBs p.2 0 r.2) else viewM l r K
theorem viewM_is (r : AV × List (Option CB)) : ∀ (l : List (Pt × List BPt)), IsK (fun R K => viewM l r K) (some r)
  | [] => IsK.none _
  | p :: l => by
    refine IsK.ask (fun h => ?_) fun _ => viewM_is r l
    rw [Bool.and_eq_true] at h
    rw [seeP_eq _ _ h.1, show seeBs p.2 0 r.2 = r.2 by simpa using seeBs_eq p.2 0 r.2 (by simpa using h.2)]
    exact IsK.pure r
def gdB {R : Type} : List (Option CB) → Option R → Option R
  | [], k => k
  | some b :: l, k => if b.pt then gdB l k else gd (gNo b.es) (gdB l k)
  | none :: l, k => gdB l k
theorem gdB_is {α : Type} {g : (R : Type) → (α → Option R) → Option R} {o : Option α} : ∀ (bs : List (Option CB)), (bsOk bs = true → IsK g o) → IsK (fun R K => gdB bs (g R K)) o
  | [], h => h rfl
  | none :: l, h => gdB_is l fun hl => h hl
  | some b :: l, h => by
    simp only [gdB]
    split
    · rename_i hp
      exact gdB_is l fun hl => h (by
        unfold bsOk at hl ⊢
        rw [List.all_cons, hl]
        show ((b.pt || gNo b.es) && true) = true
        rw [hp]; rfl)
    · exact IsK.gd fun hg => gdB_is l fun hl => h (by
        unfold bsOk at hl ⊢
        rw [List.all_cons, hl]
        show ((b.pt || gNo b.es) && true) = true
        rw [hg]; simp)
def patsAt (n : Nat) : List (Pt × List BPt) → List (Pt × List BPt)
  | (.undef, []) :: l => l.filter fun p => p.2.length == n
  | l => l
def memK {R : Type} (pats : List (Pt × List BPt)) (g : List AV → List (Option CB) → Option (AV × List (Option CB))) (args : List AV) (hp : Mem) (gn : Nat → Nat) (K : AV × Mem × (Nat → Nat) → Option R) : Option R :=
  let N := keysOf hp (refsA.refsL args)
  if distK N then
    (renA.renL (fun s g => (ixK N s g 0).map fun i => (BIG + i, 0)) args).bind fun us => (renB hp (fun s g => (ixK N s g 0).map fun i => (BIG + i, 0)) N).bind fun bs => if allS bs then gdB bs ((g us bs).bind fun r => viewM (patsAt N.length pats) r fun r =>
      if N.length ≤ r.2.length then (renA (keyAt N NB (gn NB) r.2.length) r.1).bind fun x => (backB (keyAt N NB (gn NB) r.2.length) r.2).bind fun cs =>
        K (x, laidH N (gn NB) cs hp, fun a => if a = NB then gn NB + (r.2.length - N.length) else gn a)
      else none)
    else none
  else none
theorem memK_is (pats : List (Pt × List BPt)) (g : List AV → List (Option CB) → Option (AV × List (Option CB))) (args : List AV) (hp : Mem) (gn : Nat → Nat) : IsK (fun R K => memK pats g args hp gn K) (memF g args hp gn) := by
  unfold memK memF
  simp only
  split
  · refine (IsK.lift _).bind fun us => (IsK.lift _).bind fun bs => ?_
    split
    · rename_i hs
      refine gdB_is bs fun hb => ?_
      rw [if_pos (by rw [hs, hb]; rfl)]
      refine ((IsK.lift (g us bs)).bind fun r => (viewM_is r (patsAt (keysOf hp (refsA.refsL args)).length pats)).bind (p := fun r => if (keysOf hp (refsA.refsL args)).length ≤ r.2.length then (renA (keyAt (keysOf hp (refsA.refsL args)) NB (gn NB) r.2.length) r.1).bind fun x => (backB (keyAt (keysOf hp (refsA.refsL args)) NB (gn NB) r.2.length) r.2).map fun cs =>
        (x, laidH (keysOf hp (refsA.refsL args)) (gn NB) cs hp, fun a => if a = NB then gn NB + (r.2.length - (keysOf hp (refsA.refsL args)).length) else gn a) else none) fun r => ?_).of_eq ?_
      · split
        · refine (IsK.lift _).bind fun x => ((IsK.lift (backB _ _)).bind (p := fun cs => some _) fun cs => IsK.pure _).of_eq ?_
          cases backB (keyAt (keysOf hp (refsA.refsL args)) NB (gn NB) r.2.length) r.2 <;> rfl
        · exact IsK.none _
      · cases g us bs <;> rfl
    · exact IsK.none _
  · exact IsK.none _
def callK {R : Type} (C : Cfg) (dst : Option Nat) (f : FuncId) (args : List AV) (st : St) (K : St → Option R) : Option R :=
  match C.cln f with
  | some p => match dst, args with
    | some d, [x] => contsK st.hp x fun xs => if 0 < p.1 then gd (gRow p.1 xs) (gd (gLen xs.length p.2) (K ((st.new d xs).put d (.sl p.1 d (st.gn d) 0 xs.length)))) else none
    | _, _ => none
  | none =>
  if C.inl f then match C.mem f with
    | some g => memK (C.pats f) g args st.hp st.gn fun r => K ((st.mem r.2.1 r.2.2).putO dst r.1)
    | none => none
  else if args.all AV.plain then snapK.snapsK st.hp DEEP args fun q => match C.ext f with
    | some g => (g q.1).bind fun v => gd (fitA (resVw C.P f) v) (K ((st.frz ((seeA (resVw C.P f) v).led q.2)).putO dst (seeA (resVw C.P f) v)))
    | none => none
  else none
theorem callK_is (C : Cfg) (rc : Rec) (dst : Option Nat) (f : FuncId) (args : List AV) (st : St) : IsK (fun R K => callK C dst f args st K) (callStep C rc dst f args st) := by
  unfold callK callStep
  split
  · rename_i p hp
    simp only [hp]
    split
    · rename_i d x
      unfold cloneStep
      refine (contsK_is _ _).bind fun xs => ?_
      split
      · rename_i h0
        refine IsK.gd fun h1 => IsK.gd fun h2 => ?_
        have h2 := of_decide_eq_true h2
        rw [if_pos ⟨h0, h1, h2.1, h2.2⟩]
        exact IsK.pure _
      · exact IsK.none _
    · exact IsK.none _
  rename_i hcn
  simp only [hcn]
  split
  · unfold callF
    cases C.mem f with
    | none => exact IsK.none _
    | some g => exact (memK_is (C.pats f) g args st.hp st.gn).map fun r => (st.mem r.2.1 r.2.2).putO dst r.1
  · split
    · refine ((snapsK_is (fun x => snapK_is st.hp DEEP x) args).bind (p := fun q => (fnV C rc f q.1).map fun v => (st.frz (v.led q.2)).putO dst v) fun q => ?_).of_eq ?_
      · unfold fnV
        cases C.ext f with
        | none => exact IsK.none _
        | some g =>
          simp only
          refine ((IsK.lift (g q.1)).bind (p := fun v => some ((st.frz (v.led q.2)).putO dst v)) fun v => IsK.gd fun h => ?_).of_eq ?_
          · rw [seeA_eq h]; exact IsK.pure _
          · cases g q.1 <;> rfl
      · cases List.mapM (snap st.hp DEEP) args <;> rfl
    · exact IsK.none _
def appNewsK {R : Type} (P : Program) (e t2 : TypeId) (st : St) (x : AV) (K : List AV → Option R) : Option R :=
  match tint P t2 with
  | some _ => (asI x).bind fun n => (tzero P e).bind fun z => (tby P e).bind fun by_ => gd (decide (0 ≤ n ∧ n ≤ 140737488355328 ∧ n.toNat * by_ ≤ 140737488355328)) (K (List.replicate n.toNat z))
  | none => match x with
    | .str s => if tstr P t2 then K (s.data.toList.map fun b => .int .u8 b.toNat) else none
    | x => if (tsl P t2).isSome then contsK st.hp x K else none
theorem appNewsK_is (P : Program) (e t2 : TypeId) (st : St) (x : AV) : IsK (fun R K => appNewsK P e t2 st x K) (appNews P e t2 st x) := by
  unfold appNewsK
  split
  · rename_i k ht
    unfold appNews
    simp only [ht]
    refine (IsK.lift _).bind fun n => (IsK.lift _).bind fun z => (IsK.lift _).bind fun by_ => IsK.gd fun h => ?_
    rw [if_pos (of_decide_eq_true h)]; exact IsK.pure _
  · rename_i ht
    split
    · unfold appNews
      simp only [ht]
      split
      · exact IsK.pure _
      · exact IsK.none _
    · rename_i x hx
      unfold appNews
      simp only [ht]
      split
      · exact contsK_is _ _
      · exact IsK.none _
def appBaseK {R : Type} (P : Program) (e : TypeId) (st : St) (s : AV) (K : List AV × St → Option R) : Option R :=
  match s with
  | .sl z a g 0 len => if tsz P e = some z then (st.hp a g).bind fun b => if b.fr then none else gd (decide (len ≤ b.es.length)) (K (b.es.take len, st.setB a g none)) else none
  | s => (appBase P e st s).bind K
theorem appBaseK_is (P : Program) (e : TypeId) (st : St) (s : AV) : IsK (fun R K => appBaseK P e st s K) (appBase P e st s) := by
  unfold appBaseK
  split
  · rename_i z a g len
    unfold appBase
    simp only
    split
    · refine (IsK.lift _).bind fun b => ?_
      cases hb : b.fr with
      | true => simp only [if_true, Bool.true_or]; exact IsK.none _
      | false =>
        simp only [Bool.false_eq_true, if_false, Bool.false_or]
        refine IsK.gd fun hl => ?_
        have hl := of_decide_eq_true hl
        rw [if_neg (by simp; omega)]
        exact IsK.pure _
    · exact IsK.none _
  · exact IsK.lift _
def appendK {R : Type} (P : Program) (d t1 t2 : Nat) (s x : AV) (st : St) (K : St → Option R) : Option R :=
  (tsl P t1).bind fun e => (tsz P e).bind fun z => (tby P e).bind fun by_ => (tzero P e).bind fun zv => appNewsK P e t2 st x fun news => appBaseK P e st s fun p =>
    if 0 < z ∧ zv.ok ∧ zv.cells.length = z then gd (gRow z news) (gd (gLen (p.1.length + news.length) by_) (K ((p.2.new d (p.1 ++ news)).put d (.sl z d (st.gn d) 0 (p.1.length + news.length))))) else none
theorem appendK_is (P : Program) (d t1 t2 : Nat) (s x : AV) (st : St) : IsK (fun R K => appendK P d t1 t2 s x st K) (appendStep P d t1 t2 s x st) := by
  unfold appendK appendStep
  refine (IsK.lift _).bind fun e => (IsK.lift _).bind fun z => (IsK.lift _).bind fun by_ => (IsK.lift _).bind fun zv => (appNewsK_is _ _ _ _ _).bind fun news => (appBaseK_is _ _ _ _).bind fun p => ?_
  split
  · rename_i h
    refine IsK.gd fun h1 => IsK.gd fun h2 => ?_
    have h2 := of_decide_eq_true h2
    rw [if_pos ⟨h.1, h.2.1, h.2.2, h1, h2.1, h2.2⟩]
    exact IsK.pure _
  · exact IsK.none _
def rowK {R : Type} (d : Option Nat) (es : List AV) (z : Nat) (st : St) (K : St → Option R) : Option R :=
  match d with
  | some d => if 0 < z then gd (gRow z es) (K ((st.new d es).put d (.sl z d (st.gn d) 0 es.length))) else none
  | none => none
theorem rowK_is (d : Option Nat) (es : List AV) (z : Nat) (st : St) : IsK (fun R K => rowK d es z st K) (rowStep d es z st) := by
  unfold rowK rowStep
  cases d with
  | none => exact IsK.none _
  | some d =>
    simp only
    split
    · rename_i h0
      refine IsK.gd fun h => ?_
      have h : (es.all fun x => x.ok && decide (x.cells.length = z)) = true := h
      rw [if_pos (by rw [h, Bool.true_and, decide_eq_true_eq]; exact h0)]
      exact IsK.pure _
    · exact IsK.none _
def copyK {R : Type} (P : Program) (dst : Option Nat) (t : TypeId) (s x : AV) (st : St) (K : St → Option R) : Option R :=
  match s with
  | .sl z a g lo len => if (tsl P t).bind (tsz P) = some z then contsK st.hp x fun xs => (st.hp a g).bind fun b =>
      if b.fr then none else gd (decide (lo + len ≤ b.es.length)) (gd (gRow z xs)
        (K ((st.setB a g (some ⟨b.es.take lo ++ (xs.take len ++ b.es.drop (lo + min xs.length len)), false⟩)).putO dst (.int .i64 (min xs.length len : Nat))))) else none
  | _ => none
theorem copyK_is (P : Program) (dst : Option Nat) (t : TypeId) (s x : AV) (st : St) : IsK (fun R K => copyK P dst t s x st K) (copyStep P dst t s x st) := by
  unfold copyK copyStep
  split
  · simp only
    split
    · refine (contsK_is _ _).bind fun xs => (IsK.lift _).bind fun b => ?_
      split
      · exact IsK.none _
      · rename_i hf
        refine IsK.gd fun h1 => IsK.gd fun h2 => ?_
        have h1 := of_decide_eq_true h1
        have h2 : (xs.all fun x => x.ok && decide (x.cells.length = _)) = true := h2
        rw [if_neg (by simp only [Bool.or_eq_true, decide_eq_true_eq, Bool.not_eq_true', not_or]; exact ⟨⟨hf, by omega⟩, by rw [h2]; simp⟩)]
        exact IsK.pure _
    · exact IsK.none _
  · exact IsK.none _
def stepK {R : Type} (C : Cfg) (ops : Array Oper) (o : Oper) (st : St) (K : St → Option R) : Option R :=
  match o.op with
  | .load t a => loadK C.P st.hp ((via C.P ops 8 a).map (vwT C.P)) t (st.ev a) fun v => K (st.putO o.dst v)
  | .store t a x => storeK C.P ((via C.P ops 8 a).map (vwT C.P)) t (st.ev a) (st.ev x) st fun s => K (s.putO o.dst .undef)
  | .alloc .. | .box .. | .buildSlice .. | .convert .. => (step C (fun _ _ => none) o st).bind K
  | .makeSlice t n c => (tsl C.P t).bind fun e => (tsz C.P e).bind fun z => (tby C.P e).bind fun by_ => (tzero C.P e).bind fun zv => (asI (st.ev n)).bind fun i => (asI (st.ev c)).bind fun j =>
      gd (decide (i = j ∧ 0 ≤ i ∧ i ≤ 140737488355328 ∧ i.toNat * by_ ≤ 140737488355328)) (if zv.ok ∧ zv.cells.length = z then rowK o.dst (List.replicate i.toNat zv) z st K else none)
  | .slice t x lo hi mx => match tarr C.P t with
    | some _ => (step C (fun _ _ => none) o st).bind K
    | none => pureK C.P st.ev o.op fun v => K (st.putO o.dst v)
  | .call c => match c.callee with
    | .value f => match st.ev f with
      | .fn g fst caps => callK C o.dst g (fst ++ c.args.toList.map st.ev ++ caps) st K
      | _ => none
    | .builtin .append => match o.dst, c.args.toList, c.argTypes.toList with
      | some d, [s, x], [t1, t2] => appendK C.P d t1 t2 (st.ev s) (st.ev x) st K
      | _, _, _ => none
    | .builtin .copy => match c.args.toList, c.argTypes.toList with
      | [s, x], [t, _] => copyK C.P o.dst t (st.ev s) (st.ev x) st K
      | _, _ => none
    | _ => pureK C.P st.ev o.op fun v => K (st.putO o.dst v)
  | _ => pureK C.P st.ev o.op fun v => K (st.putO o.dst v)
theorem stepK_is (C : Cfg) (rc : Rec) (ops : Array Oper) (o : Oper) (st : St) : IsK (fun R K => stepK C ops o st K) (step C rc o st) := by
  obtain ⟨dst, op, ty, pos, aft, gd⟩ := o
  cases op with
  | load t a =>
    simp only [stepK, step]
    exact (loadK_is _ _ _ _ _).map _
  | alloc t => exact IsK.lift _
  | box t a => exact IsK.lift _
  | buildSlice t n ps => exact IsK.lift _
  | store t a x =>
    simp only [stepK, step]
    exact (storeK_is _ _ _ _ _ _).map (fun s => s.putO dst .undef)
  | convert a b c => exact IsK.lift _
  | makeSlice t n c =>
    simp only [stepK, step]
    refine (IsK.lift _).bind fun e => (IsK.lift _).bind fun z => (IsK.lift _).bind fun by_ => (IsK.lift _).bind fun zv => (IsK.lift _).bind fun i => (IsK.lift _).bind fun j => IsK.gd fun hc => ?_
    have hc := of_decide_eq_true hc
    split
    · rename_i hz
      rw [if_pos ⟨hc.1, hc.2.1, hc.2.2.1, hc.2.2.2, hz.1, hz.2⟩]
      exact rowK_is _ _ _ _
    · exact IsK.none _
  | slice t x lo hi mx =>
    simp only [stepK, step]
    cases ht : tarr C.P t with
    | some p => exact (IsK.lift _).of_eq (by simp only [step, ht])
    | none => exact (pureK_is _ _ _).map _
  | call c =>
    obtain ⟨callee, args, argTypes⟩ := c
    cases callee with
    | value f =>
      simp only [stepK, step]
      split
      · rename_i g fst caps hf; simp only [hf]; exact callK_is _ _ _ _ _ _
      · exact IsK.none _
    | invoke r m =>
      simp only [stepK, step]
      exact (pureK_is _ _ _).map _
    | builtin b =>
      cases b <;> first
        | (simp only [stepK, step]; exact (pureK_is _ _ _).map _)
        | (simp only [stepK, step]
           split
           · rename_i h1 h2; simp only [h1, h2]; exact appendK_is _ _ _ _ _ _ _
           · exact IsK.none _)
        | (simp only [stepK, step]
           split
           · rename_i h1 h2; simp only [h1, h2]; exact copyK_is _ _ _ _ _ _
           · exact IsK.none _)
  | _ =>
    simp only [stepK, step]
    exact (pureK_is _ _ _).map _
theorem put_same {st : St} {t : Nat} {b : Bool} (h : st.sl t = .bool b) : st.put t (.bool b) = st := by
  unfold St.put
  have : (fun x => if x = t then AV.bool b else st.sl x) = st.sl := by
    funext x
    split
    · rename_i hx; rw [hx, h]
    · rfl
  rw [this]
def iopsK {R : Type} (C : Cfg) (ops : Array Oper) : List Oper → St → (St → Option R) → Option R
  | [], st, K => K st
  | o :: rest, st, K => match o.guard with
    | none => stepK C ops o st fun s => iopsK C ops rest s K
    | some (j, w) => match (ops[j]?).bind (·.dst) with
      | none => none
      | some t => match st.sl t with
        | .bool b => bif b then (if w then stepK C ops o (st.put t (.bool true)) (fun s => iopsK C ops rest s K) else iopsK C ops rest ((st.put t (.bool true)).putO o.dst .undef) K)
            else (if w then iopsK C ops rest ((st.put t (.bool false)).putO o.dst .undef) K else stepK C ops o (st.put t (.bool false)) (fun s => iopsK C ops rest s K))
        | .undef => iopsK C ops rest (st.putO o.dst .undef) K
        | _ => none
theorem iopsK_is (C : Cfg) (rc : Rec) (ops : Array Oper) : ∀ (l : List Oper) (st : St), IsK (fun R K => iopsK C ops l st K) (iops C rc ops l st)
  | [], st => IsK.pure st
  | o :: rest, st => by
    unfold iopsK iops stepG
    split
    · rename_i hg
      simp only [hg]
      exact (stepK_is C rc ops o st).bind fun s => iopsK_is C rc ops rest s
    · rename_i j w hg
      simp only [hg]
      split
      · rename_i h1; simp only [h1]; exact IsK.none _
      · rename_i t h1
        simp only [h1]
        split
        · rename_i b hb
          simp only [hb]
          refine IsK.ask (fun h => ?_) fun h => ?_
          · subst h
            rw [put_same hb]
            cases w with
            | true => simp only [if_true]; exact (stepK_is C rc ops o st).bind fun s => iopsK_is C rc ops rest s
            | false => simp only [Bool.false_eq_true, if_false, Bool.true_eq_false]; exact iopsK_is C rc ops rest _
          · subst h
            rw [put_same hb]
            cases w with
            | true => simp only [if_true, Bool.false_eq_true, if_false]; exact iopsK_is C rc ops rest _
            | false => simp only [Bool.false_eq_true, if_false, if_true]; exact (stepK_is C rc ops o st).bind fun s => iopsK_is C rc ops rest s
        · rename_i hb
          simp only [hb]
          exact iopsK_is C rc ops rest _
        · exact IsK.none _
end Vai
