import Derived.Test.YtjienkojedlfjaaP21
namespace Vai
open Go
set_option linter.unusedSectionVars false
section
variable {P : Program}
theorem FnOk.norm {f : FuncId} {zs : List AV} {r : AV} (h : FnOk P f (zs.map AV.norm) r) : FnOk P f zs r := fun w F vals hF ha => h w F vals hF ⟨by rw [List.length_map]; exact ha.1, fun j a v hj hv => by
  rw [List.getElem?_map, Option.map_eq_some_iff] at hj
  obtain ⟨u, hu, rfl⟩ := hj
  exact (ha.2 j u v hu hv).norm⟩
noncomputable def Fam.wide (F : Fam P) : Fam P := { f := F.f, ι := { p : F.ι × List AV // p.2.map AV.norm = F.args p.1 }, pre := fun p => F.pre p.1.1, args := fun p => p.1.2, res := fun p => F.res p.1.1, ok := fun p h => FnOk.norm (by rw [p.2]; exact F.ok p.1.1 h), inj := fun p q h => F.inj p.1.1 q.1.1 (by rw [← p.2, ← q.2, h]) }
theorem HasV.wide {V : EV} {F : Fam P} (h : HasV V F.wide) (i : F.ι) (hp : F.pre i) (zs : List AV) (e : zs.map AV.norm = F.args i) : V F.f zs = some (F.res i) := h ⟨(i, zs), e⟩ hp
end
end Vai
namespace Vai.L21
open Go Go.Proofs Vai Vai.L04 Vai.L06
set_option maxRecDepth 100000
set_option linter.unusedVariables false
set_option linter.unusedSimpArgs false
abbrev kR : List Kd := [.int .i64, .sl, .sl, .int .i64, .int .i64, .sl, .int .i64, .int .i64, .int .i64, .int .i64, .int .i64, .sl, .int .i64, .int .i64, .int .i64, .int .i64, .int .i64, .sl, .int .i64, .int .i64, .int .i64, .int .i64, .int .i64, .sl, .int .i64, .int .i64, .int .i64, .int .i64, .int .i64]
abbrev kS : List Kd := [.int .i64, .int .i64, .bool, .bool, .int .u32, .int .u32, .int .u32, .int .u32, .int .i64, .int .i64, .int .u32, .int .u32, .int .u32, .sl, .sl]
abbrev kI : List Kd := [.sl, .int .i64, .int .i64, .int .i64, .int .i64, .int .i64]
abbrev kW : List Kd := [.int .i64, .sl, .sl, .int .i64, .int .i64]
abbrev kM : List Kd := [.int .i64, .int .i64, .int .i64, .int .i64, .int .i64]
abbrev kT : List Kd := [.sl, .int .i64, .int .i64, .int .i64, .int .i64, .int .i64, .sl, .int .i64, .int .i64, .int .i64, .int .i64, .int .i64, .sl, .int .i64, .int .i64, .int .i64, .int .i64, .int .i64, .sl, .int .i64, .int .i64, .int .i64, .int .i64, .int .i64]
abbrev kO : List Kd := [.int .i64, .int .i64, .bool, .bool, .int .u32, .int .u32, .int .u32, .int .u32, .int .i64, .int .i64, .int .u32, .int .u32, .int .u32]
abbrev zR : List AV := [AV.int .i64 (0 : Int), AV.osl [], AV.osl [], AV.int .i64 (0 : Int), AV.int .i64 (0 : Int), AV.osl [], AV.int .i64 (0 : Int), AV.int .i64 (0 : Int), AV.int .i64 (0 : Int), AV.int .i64 (0 : Int), AV.int .i64 (0 : Int), AV.osl [], AV.int .i64 (0 : Int), AV.int .i64 (0 : Int), AV.int .i64 (0 : Int), AV.int .i64 (0 : Int), AV.int .i64 (0 : Int), AV.osl [], AV.int .i64 (0 : Int), AV.int .i64 (0 : Int), AV.int .i64 (0 : Int), AV.int .i64 (0 : Int), AV.int .i64 (0 : Int), AV.osl [], AV.int .i64 (0 : Int), AV.int .i64 (0 : Int), AV.int .i64 (0 : Int), AV.int .i64 (0 : Int), AV.int .i64 (0 : Int)]
abbrev zS : List AV := [AV.int .i64 (0 : Int), AV.int .i64 (0 : Int), AV.bool false, AV.bool false, AV.int .u32 (0 : Int), AV.int .u32 (0 : Int), AV.int .u32 (0 : Int), AV.int .u32 (0 : Int), AV.int .i64 (0 : Int), AV.int .i64 (0 : Int), AV.int .u32 (0 : Int), AV.int .u32 (0 : Int), AV.int .u32 (0 : Int), AV.osl [], AV.osl []]
abbrev zT : List AV := [AV.osl [], AV.int .i64 (0 : Int), AV.int .i64 (0 : Int), AV.int .i64 (0 : Int), AV.int .i64 (0 : Int), AV.int .i64 (0 : Int), AV.osl [], AV.int .i64 (0 : Int), AV.int .i64 (0 : Int), AV.int .i64 (0 : Int), AV.int .i64 (0 : Int), AV.int .i64 (0 : Int), AV.osl [], AV.int .i64 (0 : Int), AV.int .i64 (0 : Int), AV.int .i64 (0 : Int), AV.int .i64 (0 : Int), AV.int .i64 (0 : Int), AV.osl [], AV.int .i64 (0 : Int), AV.int .i64 (0 : Int), AV.int .i64 (0 : Int), AV.int .i64 (0 : Int), AV.int .i64 (0 : Int)]
abbrev bx (x : AV) : Option CB := some ⟨[x], false, true⟩
abbrev p0 : AV := .ptr 1000000 0 0 0
abbrev p1 : AV := .ptr 1000001 0 0 0
abbrev p2 : AV := .ptr 1000002 0 0 0
abbrev p3 : AV := .ptr 1000003 0 0 0
abbrev p4 : AV := .ptr 1000004 0 0 0
abbrev p5 : AV := .ptr 1000005 0 0 0
abbrev p6 : AV := .ptr 1000006 0 0 0
abbrev p8 : AV := .ptr 1000008 0 0 0
abbrev p9 : AV := .ptr 1000009 0 0 0
abbrev wR (x : AV) : AV := .agg (vwL kR 0 (AV.getc x))
abbrev wS (x : AV) : AV := .agg (vwL kS 0 (AV.getc x))
abbrev wI (x : AV) : AV := .agg (vwL kI 0 (AV.getc x))
abbrev wW (x : AV) : AV := .agg (vwL kW 0 (AV.getc x))
abbrev wM (x : AV) : AV := .agg (vwL kM 0 (AV.getc x))
abbrev nR : List AV := [AV.int .i64 (0 : Int), AV.nl, AV.nl, AV.int .i64 (0 : Int), AV.int .i64 (0 : Int), AV.nl, AV.int .i64 (0 : Int), AV.int .i64 (0 : Int), AV.int .i64 (0 : Int), AV.int .i64 (0 : Int), AV.int .i64 (0 : Int), AV.nl, AV.int .i64 (0 : Int), AV.int .i64 (0 : Int), AV.int .i64 (0 : Int), AV.int .i64 (0 : Int), AV.int .i64 (0 : Int), AV.nl, AV.int .i64 (0 : Int), AV.int .i64 (0 : Int), AV.int .i64 (0 : Int), AV.int .i64 (0 : Int), AV.int .i64 (0 : Int), AV.nl, AV.int .i64 (0 : Int), AV.int .i64 (0 : Int), AV.int .i64 (0 : Int), AV.int .i64 (0 : Int), AV.int .i64 (0 : Int)]
abbrev nS : List AV := [AV.int .i64 (0 : Int), AV.int .i64 (0 : Int), AV.bool false, AV.bool false, AV.int .u32 (0 : Int), AV.int .u32 (0 : Int), AV.int .u32 (0 : Int), AV.int .u32 (0 : Int), AV.int .i64 (0 : Int), AV.int .i64 (0 : Int), AV.int .u32 (0 : Int), AV.int .u32 (0 : Int), AV.int .u32 (0 : Int), AV.nl, AV.nl]
abbrev pI : Pt := (.agg [.k .sl, .k (.int .i64), .k (.int .i64), .k (.int .i64), .k (.int .i64), .k (.int .i64)])
abbrev pR : Pt := (.agg [.k (.int .i64), .k .sl, .k .sl, .k (.int .i64), .k (.int .i64), .k .sl, .k (.int .i64), .k (.int .i64), .k (.int .i64), .k (.int .i64), .k (.int .i64), .k .sl, .k (.int .i64), .k (.int .i64), .k (.int .i64), .k (.int .i64), .k (.int .i64), .k .sl, .k (.int .i64), .k (.int .i64), .k (.int .i64), .k (.int .i64), .k (.int .i64), .k .sl, .k (.int .i64), .k (.int .i64), .k (.int .i64), .k (.int .i64), .k (.int .i64)])
abbrev pO1 : Pt := (.agg [.k (.int .i64), .k (.int .i64), .k .bool, .k .bool, .k (.int .u32), .k (.int .u32), .k (.int .u32), .k (.int .u32), .k (.int .i64), .k (.int .i64), .k (.int .u32), .k (.int .u32), .k (.int .u32), .nl, .nl])
abbrev pO2 : Pt := (.agg [.k (.int .i64), .k (.int .i64), .k .bool, .k .bool, .k (.int .u32), .k (.int .u32), .k (.int .u32), .k (.int .u32), .k (.int .i64), .k (.int .i64), .k (.int .u32), .k (.int .u32), .k (.int .u32), .sl 2 2, .nl])
theorem vR (r : Rc) : AV.agg (vwL kR 0 (AV.getc (Rc.av r))) = Rc.av r := id rfl
theorem vRw (r : Rc) : AV.agg (vwL kW 0 (AV.getc (Rc.av r))) = Wv.av r.w := id rfl
theorem vR0 (r : Rc) : AV.agg (vwL kI 5 (AV.getc (Rc.av r))) = Il.av r.s0 := id rfl
theorem vR1 (r : Rc) : AV.agg (vwL kI 11 (AV.getc (Rc.av r))) = Il.av r.s1 := id rfl
theorem vR2 (r : Rc) : AV.agg (vwL kI 17 (AV.getc (Rc.av r))) = Il.av r.s2 := id rfl
theorem vR3 (r : Rc) : AV.agg (vwL kI 23 (AV.getc (Rc.av r))) = Il.av r.s3 := id rfl
theorem vRm0 (r : Rc) : AV.agg (vwL kM 6 (AV.getc (Rc.av r))) = Mk.av r.s0.m := id rfl
theorem vRm1 (r : Rc) : AV.agg (vwL kM 12 (AV.getc (Rc.av r))) = Mk.av r.s1.m := id rfl
theorem vRm2 (r : Rc) : AV.agg (vwL kM 18 (AV.getc (Rc.av r))) = Mk.av r.s2.m := id rfl
theorem vRm3 (r : Rc) : AV.agg (vwL kM 24 (AV.getc (Rc.av r))) = Mk.av r.s3.m := id rfl
theorem vW (w : Wv) : AV.agg (vwL kW 0 (AV.getc (Wv.av w))) = Wv.av w := id rfl
theorem vRu (w : Wv) (r : Rc) : AV.agg (List.append (vwL kW 0 (AV.getc (Wv.av w))) (vwL kT 5 (AV.getc (Rc.av r)))) = Rc.av { r with w := w } := id rfl
theorem vRn (w : Wv) : AV.agg (List.append (vwL kW 0 (AV.getc (Wv.av w))) zT) = Rc.av { Rc.none with w := w } := id rfl
theorem vRz : AV.agg zR = Rc.av Rc.none := id rfl
theorem vSz : AV.agg zS = Sg.av Sg.none := id rfl
theorem vS (x : Sg) : AV.agg (vwL kS 0 (AV.getc (Sg.av x))) = Sg.av x := id rfl
theorem vI (x : Il) : AV.agg (vwL kI 0 (AV.getc (Il.av x))) = Il.av x := id rfl
theorem vIm (x : Il) : AV.agg (vwL kM 1 (AV.getc (Il.av x))) = Mk.av x.m := id rfl
theorem vM (x : Mk) : AV.agg (vwL kM 0 (AV.getc (Mk.av x))) = Mk.av x := id rfl
theorem fR (r : Rc) : Vw.fit (.agg kR) (Rc.av r) = true := id rfl
theorem fW (w : Wv) : Vw.fit (.agg kW) (Wv.av w) = true := id rfl
theorem fS (x : Sg) : Vw.fit (.agg kS) (Sg.av x) = true := id rfl
theorem fI (x : Il) : Vw.fit (.agg kI) (Il.av x) = true := id rfl
theorem fM (x : Mk) : Vw.fit (.agg kM) (Mk.av x) = true := id rfl
theorem cR0 (r : Rc) : ci (Rc.av r) 0 = r.w.base := id rfl
theorem cR1 (r : Rc) : cl (Rc.av r) 1 = r.w.b := id rfl
theorem cR2 (r : Rc) : cl (Rc.av r) 2 = prows r.w.l := id rfl
theorem cR3 (r : Rc) : ci (Rc.av r) 3 = r.w.cap := id rfl
theorem cR4 (r : Rc) : ci (Rc.av r) 4 = r.w.end_ := id rfl
theorem cR5 (r : Rc) : cl (Rc.av r) 5 = prows r.s0.got := id rfl
theorem cR6 (r : Rc) : ci (Rc.av r) 6 = r.s0.m.p := id rfl
theorem cR7 (r : Rc) : ci (Rc.av r) 7 = r.s0.m.b := id rfl
theorem cR8 (r : Rc) : ci (Rc.av r) 8 = r.s0.m.c := id rfl
theorem cR9 (r : Rc) : ci (Rc.av r) 9 = r.s0.m.m := id rfl
theorem cR10 (r : Rc) : ci (Rc.av r) 10 = r.s0.m.q := id rfl
theorem cR11 (r : Rc) : cl (Rc.av r) 11 = prows r.s1.got := id rfl
theorem cR12 (r : Rc) : ci (Rc.av r) 12 = r.s1.m.p := id rfl
theorem cR13 (r : Rc) : ci (Rc.av r) 13 = r.s1.m.b := id rfl
theorem cR14 (r : Rc) : ci (Rc.av r) 14 = r.s1.m.c := id rfl
theorem cR15 (r : Rc) : ci (Rc.av r) 15 = r.s1.m.m := id rfl
theorem cR16 (r : Rc) : ci (Rc.av r) 16 = r.s1.m.q := id rfl
theorem cR17 (r : Rc) : cl (Rc.av r) 17 = prows r.s2.got := id rfl
theorem cR18 (r : Rc) : ci (Rc.av r) 18 = r.s2.m.p := id rfl
theorem cR19 (r : Rc) : ci (Rc.av r) 19 = r.s2.m.b := id rfl
theorem cR20 (r : Rc) : ci (Rc.av r) 20 = r.s2.m.c := id rfl
theorem cR21 (r : Rc) : ci (Rc.av r) 21 = r.s2.m.m := id rfl
theorem cR22 (r : Rc) : ci (Rc.av r) 22 = r.s2.m.q := id rfl
theorem cR23 (r : Rc) : cl (Rc.av r) 23 = prows r.s3.got := id rfl
theorem cR24 (r : Rc) : ci (Rc.av r) 24 = r.s3.m.p := id rfl
theorem cR25 (r : Rc) : ci (Rc.av r) 25 = r.s3.m.b := id rfl
theorem cR26 (r : Rc) : ci (Rc.av r) 26 = r.s3.m.c := id rfl
theorem cR27 (r : Rc) : ci (Rc.av r) 27 = r.s3.m.m := id rfl
theorem cR28 (r : Rc) : ci (Rc.av r) 28 = r.s3.m.q := id rfl
theorem cS0 (x : Sg) : ci (Sg.av x) 0 = x.kind := id rfl
theorem cS1 (x : Sg) : ci (Sg.av x) 1 = x.sub := id rfl
theorem cS2 (x : Sg) : cb (Sg.av x) 2 = x.fin := id rfl
theorem cS3 (x : Sg) : cb (Sg.av x) 3 = x.ecn := id rfl
theorem cS4 (x : Sg) : ci (Sg.av x) 4 = x.seq := id rfl
theorem cS5 (x : Sg) : ci (Sg.av x) 5 = x.dsn := id rfl
theorem cS6 (x : Sg) : ci (Sg.av x) 6 = x.got := id rfl
theorem cS7 (x : Sg) : ci (Sg.av x) 7 = x.dgot := id rfl
theorem cS8 (x : Sg) : ci (Sg.av x) 8 = x.win := id rfl
theorem cS9 (x : Sg) : ci (Sg.av x) 9 = x.ace := id rfl
theorem cS10 (x : Sg) : ci (Sg.av x) 10 = x.ce := id rfl
theorem cS11 (x : Sg) : ci (Sg.av x) 11 = x.at_ := id rfl
theorem cS12 (x : Sg) : ci (Sg.av x) 12 = x.echo := id rfl
theorem cS13 (x : Sg) : cl (Sg.av x) 13 = qrows x.sacks := id rfl
theorem cS14 (x : Sg) : cl (Sg.av x) 14 = x.b := id rfl
theorem cI0 (x : Il) : cl (Il.av x) 0 = prows x.got := id rfl
theorem cI1 (x : Il) : ci (Il.av x) 1 = x.m.p := id rfl
theorem cI2 (x : Il) : ci (Il.av x) 2 = x.m.b := id rfl
theorem cI3 (x : Il) : ci (Il.av x) 3 = x.m.c := id rfl
theorem cI4 (x : Il) : ci (Il.av x) 4 = x.m.m := id rfl
theorem cI5 (x : Il) : ci (Il.av x) 5 = x.m.q := id rfl
theorem cM0 (x : Mk) : ci (Mk.av x) 0 = x.p := id rfl
theorem cM1 (x : Mk) : ci (Mk.av x) 1 = x.b := id rfl
theorem cM2 (x : Mk) : ci (Mk.av x) 2 = x.c := id rfl
theorem cM3 (x : Mk) : ci (Mk.av x) 3 = x.m := id rfl
theorem cM4 (x : Mk) : ci (Mk.av x) 4 = x.q := id rfl
theorem cW0 (w : Wv) : ci (Wv.av w) 0 = w.base := id rfl
theorem cW1 (w : Wv) : cl (Wv.av w) 1 = w.b := id rfl
theorem cW2 (w : Wv) : cl (Wv.av w) 2 = prows w.l := id rfl
theorem cW3 (w : Wv) : ci (Wv.av w) 3 = w.cap := id rfl
theorem cW4 (w : Wv) : ci (Wv.av w) 4 = w.end_ := id rfl
theorem V21 :
    (∀ {α β : Type} (a : α) (f : α → Option β), Option.bind (some a) f = f a) ∧
    (∀ (v w : Vw) (vs : List Vw) (xs : List AV), fitA (v :: w :: vs) (.tup xs) = fitR (v :: w :: vs) xs) ∧
    (∀ (v : Vw) (x : AV), fitA [v] x = v.fit x) ∧
    (fitA [] (.tup []) = true) ∧
    (∀ (v : Vw) (vs : List Vw) (x : AV) (xs : List AV), fitR (v :: vs) (x :: xs) = (v.fit x && fitR vs xs)) ∧
    (fitR [] [] = true) ∧
    (∀ (k : Kd) (x : AV), Vw.fit (.one k) x = ok1 k x) ∧
    (∀ (k k' : IntKind) (n : Int), ok1 (.int k) (.int k' n) = decide (k = k')) ∧
    (∀ b : Bool, ok1 .bool (.bool b) = true) ∧
    (∀ l : List AV, ok1 .sl (.osl l) = true) ∧
    (decide True = true) ∧
    (∀ k : IntKind, decide (k = k) = true) ∧
    (∀ b : Bool, (b && b) = b) ∧
    (∀ {R : Type} (k : Option R), gd true k = k) ∧
    (∀ (cs : List AV) (i : Nat), ti (.tup cs) i = (cs.getD i .undef).geti) ∧
    (∀ (cs : List AV) (i : Nat), tl (.tup cs) i = (cs.getD i .undef).getl) ∧
    (∀ (cs : List AV) (i : Nat), tb (.tup cs) i = (cs.getD i .undef).getb) ∧
    (∀ l : List AV, (AV.tup l).gett = l) ∧
    (∀ (x : AV) (l : List AV) (d : AV), (x :: l).getD 0 d = x) ∧
    (∀ (x : AV) (l : List AV) (n : Nat) (d : AV), (x :: l).getD (n + 1) d = l.getD n d) ∧
    (∀ (k : IntKind) (n : Int), (AV.int k n).geti = n) ∧
    (∀ l : List AV, (AV.osl l).getl = l) ∧
    (∀ b : Bool, (AV.bool b).getb = b) ∧
    ((!true) = false) ∧
    ((!false) = true) ∧
    (∀ {α : Type} (a b : α), (bif true then a else b) = a) ∧
    (∀ {α : Type} (a b : α), (bif false then a else b) = b) ∧
    (∀ n : Int, (n == n) = true) ∧
    (∀ b : Bool, (b == b) = true) ∧
    (∀ (r : Rc), AV.agg (vwL kR 0 (AV.getc (Rc.av r))) = Rc.av r) ∧
    (∀ (r : Rc), AV.agg (vwL kW 0 (AV.getc (Rc.av r))) = Wv.av r.w) ∧
    (∀ (r : Rc), AV.agg (vwL kI 5 (AV.getc (Rc.av r))) = Il.av r.s0) ∧
    (∀ (r : Rc), AV.agg (vwL kI 11 (AV.getc (Rc.av r))) = Il.av r.s1) ∧
    (∀ (r : Rc), AV.agg (vwL kI 17 (AV.getc (Rc.av r))) = Il.av r.s2) ∧
    (∀ (r : Rc), AV.agg (vwL kI 23 (AV.getc (Rc.av r))) = Il.av r.s3) ∧
    (∀ (r : Rc), AV.agg (vwL kM 6 (AV.getc (Rc.av r))) = Mk.av r.s0.m) ∧
    (∀ (r : Rc), AV.agg (vwL kM 12 (AV.getc (Rc.av r))) = Mk.av r.s1.m) ∧
    (∀ (r : Rc), AV.agg (vwL kM 18 (AV.getc (Rc.av r))) = Mk.av r.s2.m) ∧
    (∀ (r : Rc), AV.agg (vwL kM 24 (AV.getc (Rc.av r))) = Mk.av r.s3.m) ∧
    (∀ (w : Wv), AV.agg (vwL kW 0 (AV.getc (Wv.av w))) = Wv.av w) ∧
    (∀ (w : Wv) (r : Rc), AV.agg (List.append (vwL kW 0 (AV.getc (Wv.av w))) (vwL kT 5 (AV.getc (Rc.av r)))) = Rc.av { r with w := w }) ∧
    (∀ (w : Wv), AV.agg (List.append (vwL kW 0 (AV.getc (Wv.av w))) zT) = Rc.av { Rc.none with w := w }) ∧
    (AV.agg zR = Rc.av Rc.none) ∧
    (AV.agg zS = Sg.av Sg.none) ∧
    (∀ (x : Sg), AV.agg (vwL kS 0 (AV.getc (Sg.av x))) = Sg.av x) ∧
    (∀ (x : Il), AV.agg (vwL kI 0 (AV.getc (Il.av x))) = Il.av x) ∧
    (∀ (x : Il), AV.agg (vwL kM 1 (AV.getc (Il.av x))) = Mk.av x.m) ∧
    (∀ (x : Mk), AV.agg (vwL kM 0 (AV.getc (Mk.av x))) = Mk.av x) ∧
    (∀ (r : Rc), Vw.fit (.agg kR) (Rc.av r) = true) ∧
    (∀ (w : Wv), Vw.fit (.agg kW) (Wv.av w) = true) ∧
    (∀ (x : Sg), Vw.fit (.agg kS) (Sg.av x) = true) ∧
    (∀ (x : Il), Vw.fit (.agg kI) (Il.av x) = true) ∧
    (∀ (x : Mk), Vw.fit (.agg kM) (Mk.av x) = true) ∧
    (∀ (r : Rc), ci (Rc.av r) 0 = r.w.base) ∧
    (∀ (r : Rc), cl (Rc.av r) 1 = r.w.b) ∧
    (∀ (r : Rc), cl (Rc.av r) 2 = prows r.w.l) ∧
    (∀ (r : Rc), ci (Rc.av r) 3 = r.w.cap) ∧
    (∀ (r : Rc), ci (Rc.av r) 4 = r.w.end_) ∧
    (∀ (r : Rc), cl (Rc.av r) 5 = prows r.s0.got) ∧
    (∀ (r : Rc), ci (Rc.av r) 6 = r.s0.m.p) ∧
    (∀ (r : Rc), ci (Rc.av r) 7 = r.s0.m.b) ∧
    (∀ (r : Rc), ci (Rc.av r) 8 = r.s0.m.c) ∧
    (∀ (r : Rc), ci (Rc.av r) 9 = r.s0.m.m) ∧
    (∀ (r : Rc), ci (Rc.av r) 10 = r.s0.m.q) ∧
    (∀ (r : Rc), cl (Rc.av r) 11 = prows r.s1.got) ∧
    (∀ (r : Rc), ci (Rc.av r) 12 = r.s1.m.p) ∧
    (∀ (r : Rc), ci (Rc.av r) 13 = r.s1.m.b) ∧
    (∀ (r : Rc), ci (Rc.av r) 14 = r.s1.m.c) ∧
    (∀ (r : Rc), ci (Rc.av r) 15 = r.s1.m.m) ∧
    (∀ (r : Rc), ci (Rc.av r) 16 = r.s1.m.q) ∧
    (∀ (r : Rc), cl (Rc.av r) 17 = prows r.s2.got) ∧
    (∀ (r : Rc), ci (Rc.av r) 18 = r.s2.m.p) ∧
    (∀ (r : Rc), ci (Rc.av r) 19 = r.s2.m.b) ∧
    (∀ (r : Rc), ci (Rc.av r) 20 = r.s2.m.c) ∧
    (∀ (r : Rc), ci (Rc.av r) 21 = r.s2.m.m) ∧
    (∀ (r : Rc), ci (Rc.av r) 22 = r.s2.m.q) ∧
    (∀ (r : Rc), cl (Rc.av r) 23 = prows r.s3.got) ∧
    (∀ (r : Rc), ci (Rc.av r) 24 = r.s3.m.p) ∧
    (∀ (r : Rc), ci (Rc.av r) 25 = r.s3.m.b) ∧
    (∀ (r : Rc), ci (Rc.av r) 26 = r.s3.m.c) ∧
    (∀ (r : Rc), ci (Rc.av r) 27 = r.s3.m.m) ∧
    (∀ (r : Rc), ci (Rc.av r) 28 = r.s3.m.q) ∧
    (∀ (x : Sg), ci (Sg.av x) 0 = x.kind) ∧
    (∀ (x : Sg), ci (Sg.av x) 1 = x.sub) ∧
    (∀ (x : Sg), cb (Sg.av x) 2 = x.fin) ∧
    (∀ (x : Sg), cb (Sg.av x) 3 = x.ecn) ∧
    (∀ (x : Sg), ci (Sg.av x) 4 = x.seq) ∧
    (∀ (x : Sg), ci (Sg.av x) 5 = x.dsn) ∧
    (∀ (x : Sg), ci (Sg.av x) 6 = x.got) ∧
    (∀ (x : Sg), ci (Sg.av x) 7 = x.dgot) ∧
    (∀ (x : Sg), ci (Sg.av x) 8 = x.win) ∧
    (∀ (x : Sg), ci (Sg.av x) 9 = x.ace) ∧
    (∀ (x : Sg), ci (Sg.av x) 10 = x.ce) ∧
    (∀ (x : Sg), ci (Sg.av x) 11 = x.at_) ∧
    (∀ (x : Sg), ci (Sg.av x) 12 = x.echo) ∧
    (∀ (x : Sg), cl (Sg.av x) 13 = qrows x.sacks) ∧
    (∀ (x : Sg), cl (Sg.av x) 14 = x.b) ∧
    (∀ (x : Il), cl (Il.av x) 0 = prows x.got) ∧
    (∀ (x : Il), ci (Il.av x) 1 = x.m.p) ∧
    (∀ (x : Il), ci (Il.av x) 2 = x.m.b) ∧
    (∀ (x : Il), ci (Il.av x) 3 = x.m.c) ∧
    (∀ (x : Il), ci (Il.av x) 4 = x.m.m) ∧
    (∀ (x : Il), ci (Il.av x) 5 = x.m.q) ∧
    (∀ (x : Mk), ci (Mk.av x) 0 = x.p) ∧
    (∀ (x : Mk), ci (Mk.av x) 1 = x.b) ∧
    (∀ (x : Mk), ci (Mk.av x) 2 = x.c) ∧
    (∀ (x : Mk), ci (Mk.av x) 3 = x.m) ∧
    (∀ (x : Mk), ci (Mk.av x) 4 = x.q) ∧
    (∀ (w : Wv), ci (Wv.av w) 0 = w.base) ∧
    (∀ (w : Wv), cl (Wv.av w) 1 = w.b) ∧
    (∀ (w : Wv), cl (Wv.av w) 2 = prows w.l) ∧
    (∀ (w : Wv), ci (Wv.av w) 3 = w.cap) ∧
    (∀ (w : Wv), ci (Wv.av w) 4 = w.end_) :=
  ⟨fun _ _ => rfl, fun _ _ _ _ => rfl, fun _ _ => rfl, rfl, fun _ _ _ _ => rfl, rfl, fun _ _ => rfl, fun _ _ _ => rfl, fun _ => rfl, fun _ => rfl, rfl, fun k => decide_eq_true rfl, fun b => Bool.and_self b, fun _ => rfl, fun _ _ => rfl, fun _ _ => rfl, fun _ _ => rfl, fun _ => rfl, fun _ _ _ => rfl, fun _ _ _ _ => rfl, fun _ _ => rfl, fun _ => rfl, fun _ => rfl, rfl, rfl, fun _ _ => rfl, fun _ _ => rfl, fun n => beq_self_eq_true n, fun b => beq_self_eq_true b, vR, vRw, vR0, vR1, vR2, vR3, vRm0, vRm1, vRm2, vRm3, vW, vRu, vRn, vRz, vSz, vS, vI, vIm, vM, fR, fW, fS, fI, fM, cR0, cR1, cR2, cR3, cR4, cR5, cR6, cR7, cR8, cR9, cR10, cR11, cR12, cR13, cR14, cR15, cR16, cR17, cR18, cR19, cR20, cR21, cR22, cR23, cR24, cR25, cR26, cR27, cR28, cS0, cS1, cS2, cS3, cS4, cS5, cS6, cS7, cS8, cS9, cS10, cS11, cS12, cS13, cS14, cI0, cI1, cI2, cI3, cI4, cI5, cM0, cM1, cM2, cM3, cM4, cW0, cW1, cW2, cW3, cW4⟩
end Vai.L21
