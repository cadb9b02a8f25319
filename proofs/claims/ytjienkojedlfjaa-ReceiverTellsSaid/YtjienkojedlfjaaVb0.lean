import Derived.Laws.AppendOwn
import Derived.Laws.OwnMore
import Derived.Laws.MakeOwn
import Derived.Laws.IdiomCopy
import Derived.Laws.Slices
import Derived.Orders
import Derived.Below
import Derived.Laws.StructEq
import Derived.Laws.Concat
import Derived.Laws.Tables
import Derived.Laws.IdiomStrings
import Derived.WalkKit
import Derived.ChangeKeysEq
namespace Vai
open Go
set_option linter.unusedVariables false
set_option linter.unusedSimpArgs false
inductive AV where
  | int (k : IntKind) (n : Int)
  | bool (b : Bool)
  | str (s : ByteArray)
  | agg (cs : List AV)
  | nil
  | osl (xs : List AV)
  | sl (e site gen lo len : Nat)
  | ptr (site gen i off : Nat)
  | rptr (cs : List AV)
  | nl
  | em
  | nilptr
  | nilfn
  | fn (f : FuncId) (fst caps : List AV)
  | tup (vs : List AV)
  | undef
  | unk
  | yld (l : Nat)
  deriving Inhabited
def AV.cells : AV → List AV
  | .agg cs => cs
  | v => [v]
def AV.ok : AV → Bool
  | .tup _ | .undef | .unk => false
  | _ => true
def AV.free : AV → Bool
  | .int _ _ | .bool _ | .str _ | .nil | .nl | .em | .osl _ | .nilptr | .nilfn => true
  | .fn _ [] [] => true
  | .agg cs => frees cs
  | _ => false
where frees : List AV → Bool
  | [] => true
  | c :: cs => c.free && frees cs
def AV.flat : AV → Bool
  | .int _ _ | .bool _ | .str _ | .nilptr | .nilfn => true
  | .fn _ [] [] => true
  | .agg cs | .tup cs => flats cs
  | _ => false
where flats : List AV → Bool
  | [] => true
  | c :: cs => c.flat && flats cs
def AV.led (v : AV) (l : List (Nat × Nat)) : List (Nat × Nat) := if v.flat then [] else l
def AV.plain : AV → Bool
  | .int _ _ | .bool _ | .str _ | .nil | .nl | .em | .osl _ | .sl .. | .nilptr | .nilfn => true
  | .fn _ [] [] => true
  | .agg cs => plains cs
  | _ => false
where plains : List AV → Bool
  | [] => true
  | c :: cs => c.plain && plains cs
structure Blk where
  es : List AV
  fr : Bool
abbrev Mem := Nat → Nat → Option Blk
structure St where
  sl : Nat → AV
  hp : Nat → Nat → Option Blk
  gn : Nat → Nat
def St.put (s : St) (d : Nat) (v : AV) : St := { s with sl := fun x => if x = d then v else s.sl x }
def St.putO (s : St) (d : Option Nat) (v : AV) : St := match d with | some d => s.put d v | none => s
def St.setB (s : St) (a g : Nat) (b : Option Blk) : St := { s with hp := fun x y => if x = a ∧ y = g then b else s.hp x y }
def St.new (s : St) (d : Nat) (es : List AV) : St :=
  { s with hp := fun x y => if x = d ∧ y = s.gn d then some ⟨es, false⟩ else s.hp x y, gn := fun x => if x = d then s.gn d + 1 else s.gn x }
def St.mem (s : St) (hp : Nat → Nat → Option Blk) (gn : Nat → Nat) : St := { s with hp, gn }
def St.frz (s : St) (l : List (Nat × Nat)) : St := { s with hp := fun x y => (s.hp x y).map fun b => if l.contains (x, y) then { b with fr := true } else b }
def ofV1 : Value → AV
  | .int k n => .int k n
  | .bool b => .bool b
  | .string s => .str s
  | .slice none 0 0 => .nl
  | .pointer none => .nilptr
  | .nilFunc => .nilfn
  | _ => .unk
def ofV : Value → AV
  | .agg cs => if cs.all Value.oneCell' then .agg (cs.toList.map ofV1) else .unk
  | v => ofV1 v
def St.ev (s : St) : Operand → AV
  | .tmp t => s.sl t
  | .const v => ofV v
  | .global _ => .unk
  | .func f => .fn f [] []
def tsz (P : Program) (t : TypeId) : Option Nat := (P.info? t).map (·.size)
def tby (P : Program) (t : TypeId) : Option Nat := (P.info? t).map (·.bytes)
def tagg (P : Program) (t : TypeId) : Option Bool := (P.underlying t).map fun d => match d with | .struct _ | .array _ _ => true | _ => false
def tfld (P : Program) (t f : Nat) : Option (Nat × Nat × Bool) :=
  match P.underlying t with
  | some (.struct fs) => match fs[f]? with
    | some fd => match tsz P fd.type, tagg P fd.type with
      | some n, some b => some (fd.offset, n, b)
      | _, _ => none
    | none => none
  | _ => none
def tsl (P : Program) (t : TypeId) : Option TypeId := match P.underlying t with | some (.slice e) => some e | _ => none
def tarr (P : Program) (t : TypeId) : Option (Nat × TypeId) := match P.underlying t with | some (.array n e) => some (n, e) | _ => none
def tint (P : Program) (t : TypeId) : Option IntKind := match P.underlying t with | some (.int k) => some k | _ => none
def tbool (P : Program) (t : TypeId) : Bool := match P.underlying t with | some .bool => true | _ => false
def tstr (P : Program) (t : TypeId) : Bool := match P.underlying t with | some .string => true | _ => false
def tzero (P : Program) (t : TypeId) : Option AV := (P.info? t).bind fun i => i.zero.map ofV
def tplaces (P : Program) (t : TypeId) : Option (List (Nat × Nat)) :=
  match P.underlying t with
  | some (.struct fs) => fs.toList.mapM (fun f => (P.info? f.type).map fun i => (f.offset, i.size))
  | _ => none
def pick (agg : Bool) (sz off : Nat) (cs : List AV) : Option AV :=
  if agg then (if off + sz ≤ cs.length then some (.agg ((cs.drop off).take sz)) else none) else cs[off]?
def splice (cs : List AV) (off : Nat) (vs : List AV) : List AV := cs.take off ++ (vs ++ cs.drop (off + vs.length))
def AV.re (x : AV) (cs : List AV) : AV := match x with | .agg _ => .agg cs | _ => cs.headD .unk
def pickV (t : Bool) (a b : AV) : AV :=
  match a, b with
  | .bool x, .bool y => .bool (if t then x else y)
  | a, b => if t then a else b
def eqFs (P : Program) (f : TypeId → AV → AV → Option Bool) : List Field → List AV → List AV → Option Bool
  | [], _, _ => some true
  | fd :: fs, xs, ys => if fd.name = "_" then eqFs P f fs xs ys else
      (tagg P fd.type).bind fun ag => (tsz P fd.type).bind fun z => (pick ag z fd.offset xs).bind fun a => (pick ag z fd.offset ys).bind fun b =>
        (f fd.type a b).bind fun r => (eqFs P f fs xs ys).map fun q => r && q
def eqIs (f : AV → AV → Option Bool) (ag : Bool) (z : Nat) (xs ys : List AV) : List Nat → Option Bool
  | [] => some true
  | i :: is => (pick ag z (i * z) xs).bind fun a => (pick ag z (i * z) ys).bind fun b => (f a b).bind fun r => (eqIs f ag z xs ys is).map fun q => r && q
def eqT (P : Program) : Nat → TypeId → AV → AV → Option Bool
  | 0, _, _, _ => none
  | d + 1, t, x, y => match P.underlying t, x, y with
    | some .bool, .bool a, .bool b => some (a == b)
    | some (.int _), .int k a, .int k' b => if k = k' then some (a == b) else none
    | some .string, .str a, .str b => some (a == b)
    | some (.array n e), .agg xs, .agg ys => (tagg P e).bind fun ag => (tsz P e).bind fun z => eqIs (eqT P d e) ag z xs ys (List.range n)
    | some (.struct fs), .agg xs, .agg ys => if P.stoodInHeld t then none else eqFs P (eqT P d) fs.toList xs ys
    | _, _, _ => none
def bits (op : BinOp) (k : IntKind) (x y : Int) : Option Int :=
  let a := BitVec.ofInt k.bits x
  let b := BitVec.ofInt k.bits y
  match op with
  | .and => some (k.wrap (a &&& b).toNat)
  | .or => some (k.wrap (a ||| b).toNat)
  | .xor => some (k.wrap (a ^^^ b).toNat)
  | .andNot => some (k.wrap (a &&& ~~~b).toNat)
  | _ => none
def binI (op : BinOp) (k : IntKind) (a b : Int) : Option AV :=
  match op with
  | .add => some (.int k (k.wrap (a + b)))
  | .sub => some (.int k (k.wrap (a - b)))
  | .mul => some (.int k (k.wrap (a * b)))
  | .quo => if b = 0 then none else some (.int k (k.wrap (a.tdiv b)))
  | .rem => if b = 0 then none else some (.int k (a.tmod b))
  | .eql => some (.bool (a == b))
  | .neq => some (.bool (a != b))
  | .lss => some (.bool (decide (a < b)))
  | .leq => some (.bool (decide (a ≤ b)))
  | .gtr => some (.bool (decide (a > b)))
  | .geq => some (.bool (decide (a ≥ b)))
  | op => (bits op k a b).map (.int k)
def binV (P : Program) (op : BinOp) (t : TypeId) (x y : AV) : Option AV :=
  match x, y with
  | .int k a, .int k' b =>
    match op with
    | .shl => if b < 0 then none else some (.int k (k.wrap (a * 2 ^ (min b.toNat k.bits))))
    | .shr => if b < 0 then none else some (.int k (a.fdiv (2 ^ (min b.toNat k.bits))))
    | op => if k = k' then binI op k a b else none
  | .bool a, .bool b => if tbool P t then (match op with | .eql => some (.bool (a == b)) | .neq => some (.bool (!(a == b))) | _ => none) else none
  | .str a, .str b => match op with
    | .eql => some (.bool (a.toList == b.toList))
    | .neq => some (.bool (!(a.toList == b.toList)))
    | .add => if a.size + b.size ≤ 9223372036854775807 then some (.str (a ++ b)) else none
    | _ => none
  | .agg xs, .agg ys => if P.eqGuardType P.depth t then none else (match op with | .eql => (eqT P 20 t (.agg xs) (.agg ys)).map .bool | .neq => (eqT P 20 t (.agg xs) (.agg ys)).map (fun b => .bool (!b)) | _ => none)
  | _, _ => none
def unV (op : UnOp) (x : AV) : Option AV :=
  match op, x with
  | .neg, .int k n => some (.int k (k.wrap (0 - n)))
  | .not, .bool b => some (.bool (!b))
  | _, _ => none
def minV : AV → AV → Option AV
  | .int k x, .int _ y => some (.int k (if y < x then y else x))
  | _, _ => none
def maxV : AV → AV → Option AV
  | .int k x, .int _ y => some (.int k (if y > x then y else x))
  | _, _ => none
def asI : AV → Option Int
  | .int _ n => some n
  | _ => none
def bound (x : Option AV) (y dflt : Nat) : Option Nat :=
  match x with
  | none => some dflt
  | some v => (asI v).bind fun i => if 0 ≤ i ∧ i ≤ y then some i.toNat else none
def sliceV (P : Program) (t : TypeId) (x : AV) (lo hi mx : Option AV) : Option AV :=
  match x with
  | .str s => if tstr P t && mx.isNone then (bound hi s.size s.size).bind fun h => (bound lo h 0).bind fun l => some (.str (s.extract l h)) else none
  | .nil => if ((tsl P t).bind (tsz P)).isSome && (mx.isNone || hi.isSome) then (bound mx 0 0).bind fun m => (bound hi m 0).bind fun h => (bound lo h 0).bind fun _ => some .nil else none
  | .nl => if ((tsl P t).bind (tsz P)).isSome && (mx.isNone || hi.isSome) then (bound mx 0 0).bind fun m => (bound hi m 0).bind fun h => (bound lo h 0).bind fun _ => some .nl else none
  | .osl xs => (tsl P t).bind fun e => (tsz P e).bind fun z => if (mx.isNone || hi.isSome) && xs.all (fun x => x.cells.length = z) then (bound mx xs.length xs.length).bind fun m => (bound hi m xs.length).bind fun h => (bound lo h 0).bind fun l =>
      if mx.isSome && m = l then some .nil else some (.osl ((xs.take h).drop l)) else none
  | .sl e s g b n => if (tsl P t).bind (tsz P) = some e && (mx.isNone || hi.isSome) then (bound mx n n).bind fun m => (bound hi m n).bind fun h => (bound lo h 0).bind fun l =>
      if l ≠ 0 ∧ l = h then some (.osl []) else some (.sl e s g (b + l) (h - l)) else none
  | _ => none
def indexAddrV (P : Program) (t : TypeId) (x ix : AV) : Option AV :=
  (asI ix).bind fun i =>
  match x with
  | .osl xs => (tsl P t).bind fun e => (tsz P e).bind fun z => if 0 ≤ i then match xs[i.toNat]? with | some v => if v.cells.length = z then some (.rptr v.cells) else none | none => none else none
  | .sl e s g lo len => if (tsl P t).bind (tsz P) = some e then (if 0 ≤ i ∧ i < len then some (.ptr s g (lo + i.toNat) 0) else none) else none
  | .ptr s g j off => (tarr P t).bind fun (n, e) => (tsz P e).bind fun z => if 0 ≤ i ∧ i < n then some (.ptr s g j (off + i.toNat * z)) else none
  | .rptr cs => (tarr P t).bind fun (n, e) => (tsz P e).bind fun z => if 0 ≤ i ∧ i < n then some (.rptr (cs.drop (i.toNat * z))) else none
  | _ => none
def indexV (P : Program) (t : TypeId) (x ix : AV) : Option AV :=
  (asI ix).bind fun i =>
  match x with
  | .str s => if tstr P t && decide (0 ≤ i) then (s[i.toNat]?).map (fun b => .int .u8 b.toNat) else none
  | .agg cs => (tarr P t).bind fun (n, e) => (tsz P e).bind fun z => (tagg P e).bind fun a => if 0 ≤ i ∧ i < n then pick a z (i.toNat * z) cs else none
  | _ => none
def fillV (place : Nat → Option (Nat × Nat)) (cs : List AV) : List (Nat × AV) → Option (List AV)
  | [] => some cs
  | (i, v) :: rest => match place i with
    | none => none
    | some (off, sz) => if v.ok && v.cells.length = sz && off + sz ≤ cs.length then fillV place (splice cs off v.cells) rest else none
def buildV (P : Program) (t : TypeId) (parts : List (Nat × AV)) : Option AV :=
  match tzero P t with
  | some (.agg z) => match tplaces P t with
    | some pl => (fillV (pl[·]?) z parts).map .agg
    | none => (tarr P t).bind fun p => (tsz P p.2).bind fun s => (fillV (fun i => some (i * s, s)) z parts).map .agg
  | _ => none
def lenV (P : Program) (t : TypeId) (x : AV) : Option AV :=
  match tarr P t with
  | some (n, _) => some (.int .i64 n)
  | none => match x with
    | .osl xs => if (tsl P t).isSome then some (.int .i64 xs.length) else none
    | .sl _ _ _ _ n => if (tsl P t).isSome then some (.int .i64 n) else none
    | .nil => if (tsl P t).isSome then some (.int .i64 0) else none
    | .nl => if (tsl P t).isSome then some (.int .i64 0) else none
    | .em => if (tsl P t).isSome then some (.int .i64 0) else none
    | .str s => if tstr P t then some (.int .i64 s.size) else none
    | _ => none
def capV (P : Program) (t : TypeId) (x : AV) : Option AV :=
  match x with
  | .nil => if (tsl P t).isSome then some (.int .i64 0) else none
  | .nl => if (tsl P t).isSome then some (.int .i64 0) else none
  | _ => none
def isNilC : Operand → Bool
  | .const (.slice none 0 0) => true
  | _ => false
def nilV (P : Program) (op : BinOp) (t : TypeId) (x : AV) : Option AV :=
  if (tsl P t).isSome then match op, x with
    | .eql, .nl => some (.bool true)
    | .neq, .nl => some (.bool false)
    | .eql, .em => some (.bool false)
    | .neq, .em => some (.bool true)
    | .eql, .osl (_ :: _) => some (.bool false)
    | .neq, .osl (_ :: _) => some (.bool true)
    | .eql, .sl _ _ _ _ (_ + 1) => some (.bool false)
    | .neq, .sl _ _ _ _ (_ + 1) => some (.bool true)
    | _, _ => none
  else none
def pureV (P : Program) (ρ : Operand → AV) : Op → Option AV
  | .move x | .assign x => some (ρ x)
  | .pick c a b => match ρ c with
    | .bool t => some (pickV t (ρ a) (ρ b))
    | _ => none
  | .nilCheck x => match ρ x with
    | .ptr s g i off => some (.ptr s g i off)
    | .rptr cs => some (.rptr cs)
    | _ => none
  | .binOp op t x y _ => if isNilC y then nilV P op t (ρ x) else binV P op t (ρ x) (ρ y)
  | .unOp op _ x => unV op (ρ x)
  | .convert s d x => match ρ x with
    | .int _ n => (tint P d).bind fun k => if (tint P s).isSome then some (.int k (k.wrap n)) else none
    | .str b => if tstr P d && tstr P s then some (.str b) else none
    | _ => none
  | .makeFunc (.func f) first caps => some (.fn f (first.toList.map ρ) (caps.toList.map ρ))
  | .slice t x lo hi mx => sliceV P t (ρ x) (lo.map ρ) (hi.map ρ) (mx.map ρ)
  | .field t x f => (tfld P t f).bind fun p => match ρ x with
    | .agg cs => pick p.2.2 p.2.1 p.1 cs
    | _ => none
  | .fieldAddr t x f => (tfld P t f).bind fun p => if p.2.1 = 0 then none else match ρ x with
    | .ptr s g i off => some (.ptr s g i (off + p.1))
    | .rptr cs => some (.rptr (cs.drop p.1))
    | _ => none
  | .indexAddr t x ix => indexAddrV P t (ρ x) (ρ ix)
  | .index t x ix => indexV P t (ρ x) (ρ ix)
  | .build t parts => buildV P t (parts.toList.map fun p => (p.1, ρ p.2))
  | .extract x i => match ρ x with
    | .tup vs => vs[i]?
    | _ => none
  | .call c => match c.callee with
    | .builtin .len => match c.args.toList, c.argTypes.toList with
      | [x], [t] => lenV P t (ρ x)
      | _, _ => none
    | .builtin .cap => match c.args.toList, c.argTypes.toList with
      | [x], [t] => capV P t (ρ x)
      | _, _ => none
    | .builtin .min => match c.args.toList with
      | x :: rest => rest.foldlM (fun a b => minV a (ρ b)) (ρ x)
      | [] => none
    | .builtin .max => match c.args.toList with
      | x :: rest => rest.foldlM (fun a b => maxV a (ρ b)) (ρ x)
      | [] => none
    | _ => none
  | _ => none
def loadV (P : Program) (hp : Nat → Nat → Option Blk) (t : TypeId) (a : AV) : Option AV :=
  (tagg P t).bind fun ag => (tsz P t).bind fun z =>
  match a with
  | .rptr cs => pick ag z 0 cs
  | .ptr s g i off => (hp s g).bind fun b => (b.es[i]?).bind fun x => pick ag z off x.cells
  | _ => none
def conts (hp : Nat → Nat → Option Blk) : AV → Option (List AV)
  | .osl xs => some xs
  | .nil => some []
  | .nl => some []
  | .em => some []
  | .sl _ s g lo len => (hp s g).bind fun b => if lo + len ≤ b.es.length then some ((b.es.drop lo).take len) else none
  | _ => none
def byteV : AV → Option UInt8
  | .int .u8 n => some (UInt8.ofNat n.toNat)
  | _ => none
def snap (hp : Nat → Nat → Option Blk) : Nat → AV → Option AV
  | 0, x => if x.free then some x else none
  | n + 1, x => if x.free then some x else match x with
    | .agg cs => (cs.mapM (snap hp n)).map .agg
    | .sl e s g lo len => (conts hp (.sl e s g lo len)).bind fun xs => if xs.all (fun x => x.ok && x.cells.length = e) then (xs.mapM (snap hp n)).map .osl else none
    | _ => none
def refs (hp : Nat → Nat → Option Blk) : Nat → AV → List (Nat × Nat)
  | 0, _ => []
  | n + 1, x => if x.free then [] else match x with
    | .agg cs => cs.flatMap (refs hp n)
    | .sl e s g lo len => (s, g) :: ((conts hp (.sl e s g lo len)).getD []).flatMap (refs hp n)
    | _ => []
def DEEP : Nat := 6
def AV.norm : AV → AV
  | .nil | .nl | .em => .osl []
  | .agg cs => .agg (norms cs)
  | v => v
where norms : List AV → List AV
  | [] => []
  | c :: cs => c.norm :: norms cs
def snapR (hp : Nat → Nat → Option Blk) : AV → Option AV
  | .tup vs => ((vs.mapM (snap hp DEEP)).map (·.map AV.norm)).map .tup
  | v => (snap hp DEEP v).map AV.norm
inductive E where
  | normal
  | exit (id : Nat)
  | ret
def E.toExit : E → Exit
  | .normal => .normal
  | .exit i => .exit i
  | .ret => .ret
structure CB where
  es : List AV
  fr : Bool
  pt : Bool
structure CS where
  vs : List AV
  bs : List (Option CB)
abbrev Key := (Nat × Nat) × Bool
def BIG : Nat := 1000000
def refsA : AV → List Key
  | .sl _ s g _ _ => [((s, g), false)]
  | .ptr s g _ _ => [((s, g), true)]
  | .agg cs => refsL cs
  | .tup cs => refsL cs
  | .fn _ fst caps => refsL fst ++ refsL caps
  | _ => []
where refsL : List AV → List Key
  | [] => []
  | c :: cs => refsA c ++ refsL cs
def hasK : List Key → Key → Bool
  | [], _ => false
  | k :: l, q => (k.1.1 == q.1.1 && k.1.2 == q.1.2) || hasK l q
def addK : List Key → List Key → List Key
  | acc, [] => acc
  | acc, k :: l => if hasK acc k then addK acc l else addK (acc ++ [k]) l
def moreK (hp : Nat → Nat → Option Blk) : List Key → List Key → List Key
  | acc, [] => acc
  | acc, k :: l => if k.2 then (match hp k.1.1 k.1.2 with
    | some B => moreK hp (addK acc (refsA.refsL B.es)) l
    | none => moreK hp acc l) else moreK hp acc l
def keysOf (hp : Nat → Nat → Option Blk) (l : List Key) : List Key :=
  let a := addK [] l
  let b := moreK hp a a
  let c := moreK hp b b
  let d := moreK hp c c
  moreK hp d d
def distK : List Key → Bool
  | [] => true
  | k :: l => !hasK l k && distK l
def ixK : List Key → Nat → Nat → Nat → Option Nat
  | [], _, _, _ => none
  | k :: l, s, g, i => if k.1.1 = s ∧ k.1.2 = g then some i else ixK l s g (i + 1)
def renA (φ : Nat → Nat → Option (Nat × Nat)) : AV → Option AV
  | .sl e s g lo len => (φ s g).map fun p => .sl e p.1 p.2 lo len
  | .ptr s g i off => (φ s g).map fun p => .ptr p.1 p.2 i off
  | .agg cs => (renL φ cs).map .agg
  | .tup cs => (renL φ cs).map .tup
  | .fn f fst caps => (renL φ fst).bind fun a => (renL φ caps).map fun b => .fn f a b
  | x => some x
where renL (φ : Nat → Nat → Option (Nat × Nat)) : List AV → Option (List AV)
  | [] => some []
  | c :: cs => (renA φ c).bind fun a => (renL φ cs).map fun b => a :: b
def renB (hp : Nat → Nat → Option Blk) (φ : Nat → Nat → Option (Nat × Nat)) : List Key → Option (List (Option CB))
  | [] => some []
  | k :: l => (match hp k.1.1 k.1.2 with
    | none => some none
    | some B => if k.2 then (renA.renL φ B.es).map (fun es => some (CB.mk es B.fr true)) else some (some (CB.mk B.es B.fr false))).bind fun b => (renB hp φ l).map fun bs => b :: bs
def gNo (xs : List AV) : Bool := xs.all AV.free
def origs : Nat → List Bool → List Key
  | _, [] => []
  | i, b :: l => ((BIG + i, 0), b) :: origs (i + 1) l
def preK : List Key → List Key → Bool
  | [], _ => true
  | k :: l, q :: m => k.1.1 == q.1.1 && k.1.2 == q.1.2 && preK l m
  | _, _ => false
def bsOk (bs : List (Option CB)) : Bool := bs.all fun b => match b with
  | some b => b.pt || gNo b.es
  | none => true
def keyAt (N : List Key) (nb k m : Nat) (s g : Nat) : Option (Nat × Nat) := if g = 0 ∧ BIG ≤ s then (match N[s - BIG]? with
  | some q => some q.1
  | none => if s - BIG < m then some (nb, k + (s - BIG - N.length)) else none) else none
def allS : List (Option CB) → Bool
  | [] => true
  | some _ :: l => allS l
  | none :: _ => false
def backB (φ : Nat → Nat → Option (Nat × Nat)) : List (Option CB) → Option (List (Option CB))
  | [] => some []
  | b :: l => (match b with
    | none => some none
    | some b => if b.pt then (renA.renL φ b.es).map (fun es => some (CB.mk es b.fr true)) else some (some b)).bind fun c => (backB φ l).map fun cs => c :: cs
def NB : Nat := 2000000
def laidH (N : List Key) (k : Nat) (bs : List (Option CB)) (hp : Nat → Nat → Option Blk) : Nat → Nat → Option Blk := fun x y => match ixK N x y 0 with
  | some i => ((bs[i]?).getD none).map fun b => ⟨b.es, b.fr⟩
  | none => if x = NB ∧ k ≤ y then ((bs[N.length + (y - k)]?).getD none).map fun b => ⟨b.es, b.fr⟩ else hp x y
def memF (g : List AV → List (Option CB) → Option (AV × List (Option CB))) (args : List AV) (hp : Nat → Nat → Option Blk) (gn : Nat → Nat) : Option (AV × (Nat → Nat → Option Blk) × (Nat → Nat)) :=
  let N := keysOf hp (refsA.refsL args)
  if distK N then
    (renA.renL (fun s g => (ixK N s g 0).map fun i => (BIG + i, 0)) args).bind fun us => (renB hp (fun s g => (ixK N s g 0).map fun i => (BIG + i, 0)) N).bind fun bs => if allS bs && bsOk bs then (g us bs).bind fun r =>
      if N.length ≤ r.2.length then (renA (keyAt N NB (gn NB) r.2.length) r.1).bind fun x => (backB (keyAt N NB (gn NB) r.2.length) r.2).map fun cs =>
        (x, laidH N (gn NB) cs hp, fun a => if a = NB then gn NB + (r.2.length - N.length) else gn a)
      else none
    else none
  else none
def mkHp (bs : List (Option CB)) : Nat → Nat → Option Blk := fun x y => if y = 0 ∧ BIG ≤ x then ((bs[x - BIG]?).getD none).map fun b => ⟨b.es, b.fr⟩ else none
def mkGn : Nat → Nat := fun x => if BIG ≤ x then 1 else 0
inductive Kd where
  | int (k : IntKind)
  | bool
  | str
  | sl
  | raw
  deriving DecidableEq
inductive Pt where
  | k (kd : Kd)
  | nl
  | undef
  | sl (e i : Nat)
  | ptr (i : Nat)
  | agg (ps : List Pt)
  | tup (ps : List Pt)
  | fn (f : Nat) (ps : List Pt)
inductive BPt where
  | no
  | row
  | pt (p : Pt)
structure Cfg where
  P : Program
  skip : FuncId → Bool
  inl : FuncId → Bool
  ext : FuncId → Option (List AV → Option AV)
  cln : FuncId → Option (Nat × Nat)
  nrm : FuncId → Bool := fun _ => false
  mem : FuncId → Option (List AV → List (Option CB) → Option (AV × List (Option CB))) := fun _ => none
  pats : FuncId → List (Pt × List BPt) := fun _ => []
def Cfg.args (C : Cfg) (f : FuncId) (as : List AV) : List AV := if C.nrm f then as.map AV.norm else as
abbrev Rec := Code → St → Option (E × St)
def resV (P : Program) (s : St) : ResultVar → Option AV
  | .tmp t => some (s.sl t)
  | .cell a t => loadV P s.hp t (s.sl a)
def resT (vs : List AV) : AV := match vs with
  | [v] => v
  | vs => .tup vs
def callF (C : Cfg) (rc : Rec) (f : FuncId) (args : List AV) (hp : Nat → Nat → Option Blk) (gn : Nat → Nat) : Option (AV × (Nat → Nat → Option Blk) × (Nat → Nat)) :=
  match C.mem f with
  | some g => memF g args hp gn
  | none =>
  if C.skip f then none else
  match C.P.funcs[f]? with
  | none => none
  | some fn => match fn.body with
    | none => none
    | some c => match rc c { sl := fun i => args.getD i .undef, hp, gn } with
      | some (.normal, s) | some (.ret, s) => (fn.results.toList.mapM (resV C.P s)).map fun vs => (resT vs, s.hp, s.gn)
      | _ => none
def semF (C : Cfg) (rc : Rec) (f : FuncId) (args : List AV) : Option AV :=
  (callF C rc f args (fun _ _ => none) (fun _ => 0)).bind fun r => snapR r.2.1 r.1
def fnV (C : Cfg) (rc : Rec) (f : FuncId) (args : List AV) : Option AV :=
  match C.ext f with
  | some g => g args
  | none => semF C rc f (C.args f args)
def cloneStep (z by_ : Nat) (dst : Option Nat) (args : List AV) (st : St) : Option St :=
  match dst, args with
  | some d, [x] => (conts st.hp x).bind fun xs => if 0 < z ∧ xs.all (fun x => x.ok && x.cells.length = z) ∧ xs.length * by_ ≤ 140737488355328 ∧ xs.length ≤ 140737488355328 then
      some ((st.new d xs).put d (.sl z d (st.gn d) 0 xs.length)) else none
  | _, _ => none
def callStep (C : Cfg) (rc : Rec) (dst : Option Nat) (f : FuncId) (args : List AV) (st : St) : Option St :=
  match C.cln f with
  | some p => cloneStep p.1 p.2 dst args st
  | none =>
  if C.inl f then (callF C rc f args st.hp st.gn).map fun r => (st.mem r.2.1 r.2.2).putO dst r.1
  else if args.all AV.plain then (args.mapM (snap st.hp DEEP)).bind fun as => (fnV C rc f as).map fun v => (st.frz (v.led (args.flatMap (refs st.hp DEEP)))).putO dst v
  else none
def appBase (P : Program) (e : TypeId) (st : St) (s : AV) : Option (List AV × St) :=
  match s with
  | .nil => some ([], st)
  | .nl => some ([], st)
  | .sl z a g 0 len => if tsz P e = some z then (st.hp a g).bind fun b => if b.fr || decide (b.es.length < len) then none else some (b.es.take len, st.setB a g none) else none
  | _ => none
def appNews (P : Program) (e t2 : TypeId) (st : St) (x : AV) : Option (List AV) :=
  match tint P t2 with
  | some _ => (asI x).bind fun n => (tzero P e).bind fun z => (tby P e).bind fun by_ => if 0 ≤ n ∧ n ≤ 140737488355328 ∧ n.toNat * by_ ≤ 140737488355328 then some (List.replicate n.toNat z) else none
  | none => match x with
    | .str s => if tstr P t2 then some (s.data.toList.map fun b => .int .u8 b.toNat) else none
    | x => if (tsl P t2).isSome then conts st.hp x else none
def appendStep (P : Program) (d t1 t2 : Nat) (s x : AV) (st : St) : Option St :=
  (tsl P t1).bind fun e => (tsz P e).bind fun z => (tby P e).bind fun by_ => (tzero P e).bind fun zv => (appNews P e t2 st x).bind fun news => (appBase P e st s).bind fun p =>
    if 0 < z ∧ zv.ok ∧ zv.cells.length = z ∧ news.all (fun x => x.ok && x.cells.length = z) ∧ (p.1.length + news.length) * by_ ≤ 140737488355328 ∧ p.1.length + news.length ≤ 140737488355328 then
      some ((p.2.new d (p.1 ++ news)).put d (.sl z d (st.gn d) 0 (p.1.length + news.length)))
    else none
def copyStep (P : Program) (dst : Option Nat) (t : TypeId) (s x : AV) (st : St) : Option St :=
  match s with
  | .sl z a g lo len => if (tsl P t).bind (tsz P) = some z then (conts st.hp x).bind fun xs => (st.hp a g).bind fun b =>
      if b.fr || decide (b.es.length < lo + len) || !(xs.all fun x => x.ok && x.cells.length = z) then none else
        some ((st.setB a g (some ⟨b.es.take lo ++ (xs.take len ++ b.es.drop (lo + min xs.length len)), false⟩)).putO dst (.int .i64 (min xs.length len : Nat))) else none
  | _ => none
def storeStep (P : Program) (t : TypeId) (a v : AV) (st : St) : Option St :=
  (tsz P t).bind fun z =>
  match a with
  | .ptr s g i off => (st.hp s g).bind fun b => (b.es[i]?).bind fun x =>
      if !b.fr && v.ok && v.cells.length = z && off + z ≤ x.cells.length && (x.re (splice x.cells off v.cells)).ok then some (st.setB s g (some ⟨b.es.set i (x.re (splice x.cells off v.cells)), false⟩)) else none
  | _ => none
def newStep (d : Option Nat) (e : AV) (z : Nat) (st : St) : Option St :=
  match d with
  | some d => if e.ok && e.cells.length = z && decide (0 < z) then some ((st.new d [e]).put d (.ptr d (st.gn d) 0 0)) else none
  | none => none
def rowStep (d : Option Nat) (es : List AV) (z : Nat) (st : St) : Option St :=
  match d with
  | some d => if es.all (fun x => x.ok && x.cells.length = z) && decide (0 < z) then some ((st.new d es).put d (.sl z d (st.gn d) 0 es.length)) else none
  | none => none
def ownRow (hp : Nat → Nat → Option Blk) : AV → Bool
  | .sl _ a g _ _ => match hp a g with
    | some B => !B.fr && !B.es.isEmpty
    | none => false
  | _ => false
def arrF (P : Program) (n : Nat) (e : TypeId) (lo hi : Option AV) (x : AV) (hp : Nat → Nat → Option Blk) : Option (AV × List (Nat × Nat)) :=
  (tagg P e).bind fun ag => (tsz P e).bind fun z => (bound hi n n).bind fun h => (bound lo h 0).bind fun l =>
  match x with
  | .ptr s g i off => (hp s g).bind fun B => (B.es[i]?).bind fun q => ((List.range n).mapM fun j => pick ag z (j * z) (q.cells.drop off)).bind fun es =>
      if es.all (fun y => y.free && y.cells.length = z) then some (.osl ((es.take h).drop l), [(s, g)]) else none
  | _ => none
def step (C : Cfg) (rc : Rec) (o : Oper) (st : St) : Option St :=
  match o.op with
  | .load t a => (loadV C.P st.hp t (st.ev a)).map (st.putO o.dst)
  | .alloc t => (tzero C.P t).bind fun z => (tsz C.P t).bind fun n => newStep o.dst z n st
  | .box t x => (tsz C.P t).bind fun n => newStep o.dst (st.ev x) n st
  | .buildSlice t len parts => (tsl C.P t).bind fun e => (tsz C.P e).bind fun z => (tzero C.P e).bind fun zv =>
      if parts.toList.map (·.1) = List.range len ∧ zv.ok ∧ zv.cells.length = z ∧ len * z ≤ 16777216 then rowStep o.dst (parts.toList.map fun p => st.ev p.2) z st else none
  | .makeSlice t n c => (tsl C.P t).bind fun e => (tsz C.P e).bind fun z => (tby C.P e).bind fun by_ => (tzero C.P e).bind fun zv => (asI (st.ev n)).bind fun i => (asI (st.ev c)).bind fun j =>
      if i = j ∧ 0 ≤ i ∧ i ≤ 140737488355328 ∧ i.toNat * by_ ≤ 140737488355328 ∧ zv.ok ∧ zv.cells.length = z then rowStep o.dst (List.replicate i.toNat zv) z st else none
  | .slice t x lo hi mx => match tarr C.P t with
    | some (n, e) => if mx.isNone then (arrF C.P n e (lo.map st.ev) (hi.map st.ev) (st.ev x) st.hp).map fun r => (st.frz r.2).putO o.dst r.1 else none
    | none => (pureV C.P st.ev o.op).map (st.putO o.dst)
  | .store t a x => (storeStep C.P t (st.ev a) (st.ev x) st).map (·.putO o.dst .undef)
  | .convert s d x => match st.ev x with
    | .str b => if tstr C.P d then (pureV C.P st.ev o.op).map (st.putO o.dst)
        else (tsl C.P d).bind fun e => if tint C.P e = some .u8 ∧ tsz C.P e = some 1 ∧ tstr C.P s then rowStep o.dst (b.data.toList.map fun b => .int .u8 b.toNat) 1 st else none
    | .int _ _ => (pureV C.P st.ev o.op).map (st.putO o.dst)
    | y => if (tsl C.P d).isSome then (if s = d ∧ (tsl C.P d).bind (tint C.P) = some .u8 ∧ ownRow st.hp y then some (st.putO o.dst y) else none) else (tsl C.P s).bind fun e => if tint C.P e = some .u8 ∧ tsz C.P e = some 1 ∧ tstr C.P d then (conts st.hp y).bind fun xs => (xs.mapM byteV).map fun bs => st.putO o.dst (.str ⟨bs.toArray⟩) else none
  | .call c => match c.callee with
    | .value f => match st.ev f with
      | .fn g fst caps => callStep C rc o.dst g (fst ++ c.args.toList.map st.ev ++ caps) st
      | _ => none
    | .builtin .append => match o.dst, c.args.toList, c.argTypes.toList with
      | some d, [s, x], [t1, t2] => appendStep C.P d t1 t2 (st.ev s) (st.ev x) st
      | _, _, _ => none
    | .builtin .copy => match c.args.toList, c.argTypes.toList with
      | [s, x], [t, _] => copyStep C.P o.dst t (st.ev s) (st.ev x) st
      | _, _ => none
    | _ => (pureV C.P st.ev o.op).map (st.putO o.dst)
  | op => (pureV C.P st.ev op).map (st.putO o.dst)
def stepG (C : Cfg) (rc : Rec) (ops : Array Oper) (o : Oper) (st : St) : Option St :=
  match o.guard with
  | none => step C rc o st
  | some (j, w) => match (ops[j]?).bind (·.dst) with
    | none => none
    | some t => match st.sl t with
      | .bool b => if b = w then step C rc o st else some (st.putO o.dst .undef)
      | .undef => some (st.putO o.dst .undef)
      | _ => none
def iops (C : Cfg) (rc : Rec) (ops : Array Oper) : List Oper → St → Option St
  | [], st => some st
  | o :: rest, st => (stepG C rc ops o st).bind (iops C rc ops rest)
def edge (o : Oper) (j : Nat) : Bool := o.after.any fun e => Region.binds .any e && e.on == j
def apartRW (P : Program) (a : AV) (t : TypeId) (a' : AV) (t' : TypeId) : Bool :=
  match a, a' with
  | .ptr s g i o, .ptr s' g' i' o' => match tsz P t, tsz P t' with
    | some z, some z' => !(s == s') || !(g == g') || !(i == i') || decide (o + z ≤ o') || decide (o' + z' ≤ o)
    | _, _ => true
  | _, _ => true
def apartRK (x a' : AV) : Bool :=
  match x, a' with
  | .sl _ s g _ _, .ptr s' g' _ _ => !(s == s') || !(g == g')
  | _, _ => true
def dynOk (C : Cfg) (ops : Array Oper) (s : St) : Bool :=
  ops.toList.zipIdx.all fun p => match p.1.op with
    | .store t a _ => ops.toList.zipIdx.all fun q => match q.1.op with
      | .load t' a' => apartRW C.P (s.ev a) t (s.ev a') t' || edge p.1 q.2 || edge q.1 p.2
      | _ => true
    | .call c => match c.callee with
      | .builtin .append => ops.toList.zipIdx.all fun q => match q.1.op with
        | .load _ a' => apartRK (s.ev (c.args.getD 0 (.const .nilFunc))) (s.ev a') || edge p.1 q.2 || edge q.1 p.2
        | _ => true
      | _ => true
    | _ => true
def kls (C : Cfg) (o : Op) : Nat :=
  match o with
  | .load .. => 1
  | .alloc .. | .box .. | .buildSlice .. | .makeSlice .. => 2
  | .convert s d _ => if (tsl C.P d).isSome then (if (tsl C.P s).isSome then 6 else 2) else if (tsl C.P s).isSome then 3 else 0
  | .slice t _ _ _ _ => if (tarr C.P t).isSome then 3 else 0
  | .call c => match c.callee with
    | .value (.func f) => if (C.cln f).isSome then 7 else if C.inl f then 6 else 3
    | .value _ => 6
    | .builtin .append => 5
    | .builtin .copy => 6
    | _ => 0
  | .store .. => 4
  | _ => 0
def noLater (ops : Array Oper) (k : Nat) (o : Oper) : Bool :=
  (List.range ops.size).all fun m => decide (m < k) || match ops[m]? with
    | some q => match q.dst with
      | some d => !(o.looksAt ops).contains d
      | none => true
    | none => true
def okK : Nat → Nat → Nat
  | 0, _ => 1
  | _, 0 => 1
  | 6, _ => 0
  | _, 6 => 0
  | 2, _ => 1
  | _, 2 => 1
  | 1, 1 => 1
  | 1, 3 => 1
  | 3, 1 => 1
  | 3, 3 => 1
  | 1, 7 => 1
  | 7, 1 => 1
  | 1, 4 => 2
  | 4, 1 => 2
  | 1, 5 => 2
  | 5, 1 => 2
  | _, _ => 0
def okPair (C : Cfg) (ops : Array Oper) (j : Nat) (p : Oper) (i : Nat) (o : Oper) : Bool :=
  p.apart ops o && match okK (kls C p.op) (kls C o.op) with
    | 1 => true
    | 2 => noLater ops j p && noLater ops i o
    | _ => false
def clos : List Oper → List (List Nat) → List (List Nat)
  | [], acc => acc
  | o :: os, acc => clos os (acc ++ [((o.after.toList.filter (Region.binds .any)).flatMap fun e => e.on :: acc.getD e.on []).eraseDups])
def oneLoad (P : Program) (o : Oper) : Bool := match o.op with
  | .load t _ => !(tagg P t == some false) || tsz P t == some 1
  | _ => true
def okStat (C : Cfg) (ops : Array Oper) : Bool :=
  (List.range ops.size).all fun i => match ops[i]? with
    | none => true
    | some o => (o.after.all fun e => !Region.binds .any e || decide (e.on < i)) && oneLoad C.P o && (List.range i).all fun j => ((clos ops.toList []).getD i []).contains j || match ops[j]? with
      | some p => okPair C ops j p i o
      | none => true
def dstOk (n : Nat) (ops : Array Oper) : Bool := ops.toList.all fun o => match o.dst with
  | some d => decide (d < n)
  | none => true
def codeStat (C : Cfg) (n : Nat) : Code → Bool
  | .seq a b => codeStat C n a && codeStat C n b
  | .region _ ops d => dstOk n ops && (!d || okStat C ops)
  | .cond _ a b => codeStat C n a && codeStat C n b
  | .block _ c => codeStat C n c
  | .loop c => codeStat C n c
  | .scope c => codeStat C n c
  | _ => true
def progStat (C : Cfg) : Bool :=
  (List.range C.P.funcs.size).all fun f => C.skip f || match C.P.funcs[f]? with
    | some fn => match fn.body with
      | some c => codeStat C fn.ntmps c && !(fn.name == "runtime.NumGoroutine")
      | none => true
    | none => true
def bindE (r : Option (E × St)) (f : St → Option (E × St)) : Option (E × St) :=
  match r with
  | some (.normal, s) => f s
  | r => r
def leave (id : Nat) (r : Option (E × St)) : Option (E × St) :=
  match r with
  | some (.exit i, s) => some (if i = id then .normal else .exit i, s)
  | r => r
def execC (C : Cfg) (rc : Rec) : Code → St → Option (E × St)
  | .skip, st => some (.normal, st)
  | .label _, st => some (.normal, st)
  | .seq a b, st => bindE (execC C rc a st) (execC C rc b)
  | .region _ ops d, st => (iops C rc ops ops.toList st).bind fun s => if d && !dynOk C ops s then none else some (.normal, s)
  | .cond c a b, st => match st.ev c with
    | .bool t => if t = true then execC C rc a st else execC C rc b st
    | _ => none
  | .block id c, st => leave id (execC C rc c st)
  | .loop c, st => bindE (execC C rc c st) (rc (.loop c))
  | .scope c, st => execC C rc c st
  | .exit id, st => some (.exit id, st)
  | .ret, st => some (.ret, st)
  | _, _ => none
def exec (C : Cfg) : Nat → Code → St → Option (E × St)
  | 0, _, _ => none
  | k + 1, c, st => execC C (exec C k) c st
end Vai
