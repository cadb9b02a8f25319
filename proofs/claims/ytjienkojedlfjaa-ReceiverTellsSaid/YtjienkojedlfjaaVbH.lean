import Derived.Test.YtjienkojedlfjaaVbG
namespace Vai
open Go
set_option linter.unusedVariables false
set_option linter.unusedSimpArgs false
def seqE {R : Type} (f : St → Option R) (K : E → St → Option R) (e : E) (s : St) : Option R := match e with
  | .normal => f s
  | e => K e s
def unblk (id : Nat) (e : E) : E := match e with
  | .exit i => if i = id then .normal else .exit i
  | e => e
def St.known (s : St) (c : Operand) (t : Bool) : St := match c with
  | .tmp x => s.put x (.bool t)
  | _ => s
def gotos : Code → Bool
  | .goto _ => true
  | .seq a b => gotos a || gotos b
  | .cond _ a b => gotos a || gotos b
  | .block _ c => gotos c
  | .loop c => gotos c
  | .scope c => gotos c
  | _ => false
def exJ {R : Type} (C : Cfg) (T : Nat → St → Option R) : Code → St → (E → St → Option R) → Option R
  | .skip, st, K => K .normal st
  | .label _, st, K => K .normal st
  | .seq a b, st, K => exJ C T a st (seqE (fun s => exJ C T b s K) K)
  | .region _ ops d, st, K => iopsK C ops ops.toList st fun s => gd (!d || dynOk C ops s) (K .normal s)
  | .cond c a b, st, K => match st.ev c with
    | .bool t => bif t then exJ C T a (st.known c true) K else exJ C T b (st.known c false) K
    | _ => none
  | .block id c, st, K => exJ C T c st fun e s => K (unblk id e) s
  | .goto l, st, _ => T l st
  | .exit id, st, K => K (.exit id) st
  | .ret, st, K => K .ret st
  | _, _, _ => none
def noT {R : Type} : Nat → St → Option R := fun _ _ => none
def gotoOf : Code → Nat
  | .goto l => l
  | .seq a b => if gotos a then gotoOf a else gotoOf b
  | .cond _ a b => if gotos a then gotoOf a else gotoOf b
  | .block _ c => gotoOf c
  | .loop c => gotoOf c
  | .scope c => gotoOf c
  | _ => 0
def exS {R : Type} (C : Cfg) (c : Code) (st : St) (K : E → St → Option R) : Option R :=
  match findLabel c (gotoOf c) with
  | some r => exJ C (fun l s => bif l == gotoOf c then exJ C noT r s K else none) c st K
  | none => none
def exU {R : Type} (C : Cfg) : Code → St → (E → St → Option R) → Option R
  | .skip, st, K => K .normal st
  | .label _, st, K => K .normal st
  | .seq a b, st, K => exU C a st (seqE (fun s => exU C b s K) K)
  | .region _ ops d, st, K => iopsK C ops ops.toList st fun s => gd (!d || dynOk C ops s) (K .normal s)
  | .cond c a b, st, K => match st.ev c with
    | .bool t => bif t then exU C a (st.known c true) K else exU C b (st.known c false) K
    | _ => none
  | .block id c, st, K => exU C c st fun e s => K (unblk id e) s
  | .loop c, st, K => Nat.rec (motive := fun _ => St → Option R) (fun _ => none) (fun _ ih s => exU C c s (seqE ih K)) 64 st
  | .scope c, st, K => bif gotos c then exS C c st K else exU C c st K
  | .exit id, st, K => K (.exit id) st
  | .ret, st, K => K .ret st
  | _, _, _ => none
section
variable {R : Type} (C : Cfg) (J : Nat → Bool) (G : Nat → St → Option R)
def jn (p : Nat) (K : E → St → Option R) : E → St → Option R := bif J p then seqE (G p) K else K
def exK : Nat → Code → St → (E → St → Option R) → Option R
  | _, .skip, st, K => K .normal st
  | _, .label _, st, K => K .normal st
  | p, .seq a b, st, K => exK (2 * p) a st (seqE (fun s => exK (2 * p + 1) b s K) K)
  | p, .region _ ops d, st, K => iopsK C ops ops.toList st fun s => gd (!d || dynOk C ops s) (jn J G p K .normal s)
  | p, .cond c a b, st, K => match st.ev c with
    | .bool t => bif t then exK (2 * p) a (st.known c true) (jn J G p K) else exK (2 * p + 1) b (st.known c false) (jn J G p K)
    | _ => none
  | p, .block id c, st, K => exK (2 * p) c st fun e s => jn J G p K (unblk id e) s
  | p, .loop c, st, K => bif J p then G p st else exU C (.loop c) st K
  | p, .scope c, st, K => bif gotos c then exS C c st K else exK (2 * p) c st K
  | _, .exit id, st, K => K (.exit id) st
  | _, .ret, st, K => K .ret st
  | _, _, _, _ => none
end
inductive Fr where
  | seqR (b : Code) (p : Nat)
  | blk (id p : Nat)
  | lp (c : Code) (p : Nat)
  | cnd (p : Nat)
  | scp (p : Nat)
def kf {R : Type} (C : Cfg) (J : Nat → Bool) (G : Nat → St → Option R) (fin : E → St → Option R) : List Fr → E → St → Option R
  | [] => fin
  | .seqR b p :: fs => seqE (fun s => exK C J G p b s (kf C J G fin fs)) (kf C J G fin fs)
  | .blk id p :: fs => fun e s => jn J G p (kf C J G fin fs) (unblk id e) s
  | .lp _ p :: fs => seqE (G p) (kf C J G fin fs)
  | .cnd p :: fs => jn J G p (kf C J G fin fs)
  | .scp _ :: fs => kf C J G fin fs
def ctx (J : Nat → Bool) : List Bool → Nat → Code → List Fr → Option (Code × List Fr)
  | [], _, c, fs => some (c, fs)
  | d :: ds, p, .seq a b, fs => if d then ctx J ds (2 * p + 1) b fs else ctx J ds (2 * p) a (.seqR b (2 * p + 1) :: fs)
  | d :: ds, p, .cond _ a b, fs => if d then ctx J ds (2 * p + 1) b (.cnd p :: fs) else ctx J ds (2 * p) a (.cnd p :: fs)
  | false :: ds, p, .block id c, fs => ctx J ds (2 * p) c (.blk id p :: fs)
  | false :: ds, p, .loop c, fs => if J p then ctx J ds (2 * p) c (.lp c p :: fs) else none
  | false :: ds, p, .scope c, fs => ctx J ds (2 * p) c (.scp p :: fs)
  | _, _, _, _ => none
def bitsOf : Nat → Nat → List Bool → List Bool
  | 0, _, l => l
  | n + 1, p, l => if p ≤ 1 then l else bitsOf n (p / 2) ((p % 2 == 1) :: l)
def canoK {R : Type} (ns : List Bool) (vs : List AV) (hp : Mem) (K : CS → Option R) : Option R :=
  let N := keysOf hp (origs 0 ns ++ refsA.refsL vs)
  if distK N && preK (origs 0 ns) N then
    let φ := fun s g => (ixK N s g 0).map fun i => (BIG + i, 0)
    (renA.renL φ vs).bind fun us => (renB hp φ N).bind fun bs => gdB bs (K ⟨us, bs⟩)
  else none
def lk : List Nat → List AV → Nat → AV
  | a :: l, v :: vs, i => if i = a then v else lk l vs i
  | _, _, _ => .unk
def mkSt (lv : List Nat) (cs : CS) : St := ⟨lk lv cs.vs, mkHp cs.bs, mkGn⟩
structure Dn where
  C : Cfg
  f : FuncId
  pts : List (Nat × List Nat)
  mem : Option (List Bool) := none
def Dn.body (D : Dn) : Code := match (D.C.P.funcs[D.f]?).bind (·.body) with
  | some c => c
  | none => .skip
def Dn.res (D : Dn) : List ResultVar := match D.C.P.funcs[D.f]? with
  | some fn => fn.results.toList
  | none => []
def Dn.lv (D : Dn) (p : Nat) : List Nat := match D.pts.find? (fun q => q.1 == p) with
  | some q => q.2
  | none => []
def Dn.J (D : Dn) (p : Nat) : Bool := D.pts.any fun q => q.1 == p
abbrev Res := AV × List (Option CB)
def finK {R : Type} (D : Dn) (K : Res → Option R) (e : E) (s : St) : Option R := match e with
  | .exit _ => none
  | _ => (D.res.mapM (resV D.C.P s)).bind fun vs => match D.mem with
    | none => snapRK s.hp (resT vs) fun v => K (v, [])
    | some ns => canoK ns [resT vs] s.hp fun cs => K (cs.vs.headD .unk, cs.bs)
def Dn.stepK {R : Type} (D : Dn) (G : Nat → CS → Option R) (K : Res → Option R) (p : Nat) (cs : CS) : Option R :=
  let ns := D.mem.getD []
  let G' := fun q s => canoK ns ((D.lv q).map s.sl) s.hp (G q)
  let fin := finK D K
  if p = 0 then exK D.C D.J G' 1 D.body ⟨fun i => cs.vs.getD i .undef, mkHp cs.bs, mkGn⟩ fin
  else match ctx D.J (bitsOf p p []) 1 D.body [] with
    | some (.loop c, fs) => exK D.C D.J G' (2 * p) c (mkSt (D.lv p) cs) (kf D.C D.J G' fin (.lp c p :: fs))
    | some (_, fs) => kf D.C D.J G' fin fs .normal (mkSt (D.lv p) cs)
    | none => none
abbrev EV := FuncId → List AV → Option AV
abbrev EM := FuncId → List AV → List (Option CB) → Option (AV × List (Option CB))
def mkC (P : Program) (f : FuncId) (exts : List Nat) (clns : List (Nat × (Nat × Nat))) (mems : List (Nat × List (Pt × List BPt))) (V : EV) (M : EM) : Cfg :=
  { P, skip := fun g => g != f, inl := fun g => (mems.find? fun q => q.1 == g).isSome, ext := fun g => if exts.contains g then some (V g) else none, cln := fun g => (clns.find? fun q => q.1 == g).map (·.2),
    mem := fun g => if (mems.find? fun q => q.1 == g).isSome then some (M g) else none, pats := fun g => match mems.find? fun q => q.1 == g with
      | some q => q.2
      | none => [] }
end Vai
