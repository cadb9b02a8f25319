import Derived.Test.YtjienkojedlfjaaVoD
import Derived.Test.YtjienkojedlfjaaVoY
namespace Vai.L04c
open Go Go.RowKit Go.Proofs Vai Vai.L04 Vai.R3c
set_option maxRecDepth 100000
set_option linter.unusedVariables false
set_option linter.unusedSimpArgs false
theorem it0_to (l : List Spn) (a b : Int) (Y : Nat) (hl : l.length ≤ 9223372036854775806) {RES : Prop}
    (p0 : (Goto cfg (piece ((bodyL Try.prog 102).getD 0 .skip) 0 1) [(0, .yld Y), (1, .rptr [.osl (prows l)]), (2, .rptr [.int .i64 a, .int .i64 b])] [] [] (E.normal) (fun Gs => [(0, AV.yld Y), (2, AV.rptr [AV.int IntKind.i64 a, AV.int IntKind.i64 b]), (8, AV.osl (prows l)), (9, AV.int IntKind.i64 (↑(List.length (prows l)) : Int)), (10, AV.int IntKind.i64 (0 : Int))]) (fun Gs => []) []) → RES) : RES :=
  (p0 (Goto.of fun σ h g => code_of 5 [] [] (L := []) (.nil) (by kernel_rfl) (rfl)))
theorem itH_to (l : List Spn) (i : Nat) (a b : Int) (Y : Nat) (hl : l.length ≤ 9223372036854775806) {RES : Prop}
    (p0 : ((↑i : Int) < (↑(List.length l) : Int)) → (Goto cfg (piece IL 0 2) [(0, .yld Y), (2, .rptr [.int .i64 a, .int .i64 b]), (8, .osl (prows l)), (9, .int .i64 l.length), (10, .int .i64 i)] [] [(5, 0), (6, 0), (7, 0)] (E.normal) (fun Gs => [(0, AV.yld Y), (2, AV.rptr [AV.int IntKind.i64 a, AV.int IntKind.i64 b]), (8, AV.osl (prows l)), (9, AV.int IntKind.i64 (↑(List.length l) : Int)), (10, AV.int IntKind.i64 (↑i : Int))]) (fun Gs => []) [(5, (0 : Nat)), (6, (0 : Nat)), (7, (0 : Nat))]) → RES)
    (p1 : ¬ ((↑i : Int) < (↑(List.length l) : Int)) → (Goto cfg (piece IL 0 2) [(0, .yld Y), (2, .rptr [.int .i64 a, .int .i64 b]), (8, .osl (prows l)), (9, .int .i64 l.length), (10, .int .i64 i)] [] [(5, 0), (6, 0), (7, 0)] (E.exit (0 : Nat)) (fun Gs => [(0, AV.yld Y), (2, AV.rptr [AV.int IntKind.i64 a, AV.int IntKind.i64 b]), (8, AV.osl (prows l)), (9, AV.int IntKind.i64 (↑(List.length l) : Int)), (10, AV.int IntKind.i64 (↑i : Int))]) (fun Gs => []) [(5, (0 : Nat)), (6, (0 : Nat)), (7, (0 : Nat))]) → RES) : RES :=
  (Vai.bcases (decide ((↑i : Int) < (↑(List.length l) : Int))) (fun h0 => (p0 (of_decide_eq_true h0) (Goto.of fun σ h g => code_of 5 [Ch.b true] [] (L := []) (.cons h0 (.nil)) (by kernel_rfl) (rfl)))) (fun h0 => (p1 (of_decide_eq_false h0) (Goto.of fun σ h g => code_of 5 [Ch.b false] [] (L := []) (.cons h0 (.nil)) (by kernel_rfl) (rfl)))))
theorem itB_to (l : List Spn) (i : Nat) (a b : Int) (Y : Nat) (hl : l.length ≤ 9223372036854775806) (hi : i < l.length) {RES : Prop}
    (p0 : (Goto cfg (piece IX 0 2) [(0, .yld Y), (2, .rptr [.int .i64 a, .int .i64 b]), (8, .osl (prows l)), (9, .int .i64 l.length), (10, .int .i64 i)] [] [(5, 0), (6, 0), (7, 0)] (E.normal) (fun Gs => [(0, AV.yld Y), (2, AV.rptr [AV.int IntKind.i64 a, AV.int IntKind.i64 b]), (6, AV.ptr (6 : Nat) (0 : Nat) (0 : Nat) (0 : Nat)), (7, AV.ptr (7 : Nat) (0 : Nat) (0 : Nat) (0 : Nat)), (8, AV.osl (prows l)), (9, AV.int IntKind.i64 (↑(List.length l) : Int)), (10, AV.int IntKind.i64 (↑i : Int))]) (fun Gs => [((6, (0 : Nat)), { es := [AV.agg [AV.int IntKind.i64 (Spn.a (pth l i)), AV.int IntKind.i64 (if a < Spn.b (pth l i) then a else Spn.b (pth l i))]], fr := false }), ((7, (0 : Nat)), { es := [AV.agg [AV.int IntKind.i64 (if b > Spn.a (pth l i) then b else Spn.a (pth l i)), AV.int IntKind.i64 (Spn.b (pth l i))]], fr := false })]) [(5, (1 : Nat)), (6, (1 : Nat)), (7, (1 : Nat))]) → RES) : RES :=
  (p0 (Goto.of fun σ h g => code_of 5 [Ch.e (Spn.av (pth l i)), Ch.n, Ch.n, Ch.n, Ch.n, Ch.n, Ch.n, Ch.n] [] (L := [some { es := [AV.agg [AV.int IntKind.i64 (Spn.a (pth l i)), AV.int IntKind.i64 (if a < Spn.b (pth l i) then a else Spn.b (pth l i))]], fr := false }, some { es := [AV.agg [AV.int IntKind.i64 (if b > Spn.a (pth l i) then b else Spn.a (pth l i)), AV.int IntKind.i64 (Spn.b (pth l i))]], fr := false }]) (.cons (by omega : (0 : Int) ≤ (↑i : Int)) (.cons (@Vai.L04.el_p (l) (i) (by assumption)) (.nil))) (by kernel_rfl) (rfl)))
theorem itP_to (l : List Spn) (i : Nat) (a b u v c d : Int) (Y : Nat) {RES : Prop}
    (p0 : (u < v) → (Goto cfg (pre8 (piece IX 2 1)) [(0, .yld Y), (2, .rptr [.int .i64 a, .int .i64 b]), (6, .ptr 6 0 0 0), (7, .ptr 7 0 0 0), (8, .osl (prows l)), (9, .int .i64 l.length), (10, .int .i64 i)] [((6, 0), ⟨[.agg [.int .i64 u, .int .i64 v]], false⟩), ((7, 0), ⟨[.agg [.int .i64 c, .int .i64 d]], false⟩)] [] (E.normal) (fun Gs => [(0, AV.yld Y), (2, AV.rptr [AV.int IntKind.i64 a, AV.int IntKind.i64 b]), (7, AV.ptr (7 : Nat) (0 : Nat) (0 : Nat) (0 : Nat)), (8, AV.osl (prows l)), (9, AV.int IntKind.i64 (↑(List.length l) : Int)), (10, AV.int IntKind.i64 (↑i : Int)), (35, AV.bool true), (36, AV.yld Y), (37, AV.agg [AV.int IntKind.i64 u, AV.int IntKind.i64 v])]) (fun Gs => [((7, (0 : Nat)), { es := [AV.agg [AV.int IntKind.i64 c, AV.int IntKind.i64 d]], fr := false })]) []) → RES)
    (p1 : ¬ (u < v) → (Goto cfg (pre8 (piece IX 2 1)) [(0, .yld Y), (2, .rptr [.int .i64 a, .int .i64 b]), (6, .ptr 6 0 0 0), (7, .ptr 7 0 0 0), (8, .osl (prows l)), (9, .int .i64 l.length), (10, .int .i64 i)] [((6, 0), ⟨[.agg [.int .i64 u, .int .i64 v]], false⟩), ((7, 0), ⟨[.agg [.int .i64 c, .int .i64 d]], false⟩)] [] (E.normal) (fun Gs => [(0, AV.yld Y), (2, AV.rptr [AV.int IntKind.i64 a, AV.int IntKind.i64 b]), (7, AV.ptr (7 : Nat) (0 : Nat) (0 : Nat) (0 : Nat)), (8, AV.osl (prows l)), (9, AV.int IntKind.i64 (↑(List.length l) : Int)), (10, AV.int IntKind.i64 (↑i : Int)), (35, AV.bool false), (36, AV.undef), (37, AV.undef)]) (fun Gs => [((7, (0 : Nat)), { es := [AV.agg [AV.int IntKind.i64 c, AV.int IntKind.i64 d]], fr := false })]) []) → RES) : RES :=
  (Vai.bcases (decide (u < v)) (fun h0 => (p0 (of_decide_eq_true h0) (Goto.of fun σ h g => code_of 5 [Ch.n, Ch.n, Ch.b true, Ch.n] [] (L := [some { es := [AV.agg [AV.int IntKind.i64 c, AV.int IntKind.i64 d]], fr := false }]) (.cons h0 (.nil)) (by kernel_rfl) (rfl)))) (fun h0 => (p1 (of_decide_eq_false h0) (Goto.of fun σ h g => code_of 5 [Ch.n, Ch.n, Ch.b false] [] (L := [some { es := [AV.agg [AV.int IntKind.i64 c, AV.int IntKind.i64 d]], fr := false }]) (.cons h0 (.nil)) (by kernel_rfl) (rfl)))))
theorem itN_to (l : List Spn) (i : Nat) (a b u v c d : Int) (Y : Nat) (hn : ¬ u < v) {RES : Prop}
    (p0 : (Goto cfg (piece IX 2 2) [(0, .yld Y), (2, .rptr [.int .i64 a, .int .i64 b]), (6, .ptr 6 0 0 0), (7, .ptr 7 0 0 0), (8, .osl (prows l)), (9, .int .i64 l.length), (10, .int .i64 i)] [((6, 0), ⟨[.agg [.int .i64 u, .int .i64 v]], false⟩), ((7, 0), ⟨[.agg [.int .i64 c, .int .i64 d]], false⟩)] [] (E.normal) (fun Gs => [(0, AV.yld Y), (2, AV.rptr [AV.int IntKind.i64 a, AV.int IntKind.i64 b]), (7, AV.ptr (7 : Nat) (0 : Nat) (0 : Nat) (0 : Nat)), (8, AV.osl (prows l)), (9, AV.int IntKind.i64 (↑(List.length l) : Int)), (10, AV.int IntKind.i64 (↑i : Int))]) (fun Gs => [((7, (0 : Nat)), { es := [AV.agg [AV.int IntKind.i64 c, AV.int IntKind.i64 d]], fr := false })]) []) → RES) : RES :=
  (p0 (Goto.of fun σ h g => code_of 5 [Ch.n, Ch.n, Ch.b false, Ch.k] [] (L := [some { es := [AV.agg [AV.int IntKind.i64 c, AV.int IntKind.i64 d]], fr := false }]) (.cons (by (simp only [decide_eq_true_eq, decide_eq_false_iff_not, Vai.L04.prows_len] at *; omega) : decide (u < v) = false) (.nil)) (by kernel_rfl) (rfl)))
theorem itQ_to (l : List Spn) (i : Nat) (a b u v : Int) (Y : Nat) {RES : Prop}
    (p0 : (u < v) → (Goto cfg (pre8 (piece IX 4 1)) [(0, .yld Y), (2, .rptr [.int .i64 a, .int .i64 b]), (7, .rptr [.int .i64 u, .int .i64 v]), (8, .osl (prows l)), (9, .int .i64 l.length), (10, .int .i64 i)] [] [] (E.normal) (fun Gs => [(0, AV.yld Y), (2, AV.rptr [AV.int IntKind.i64 a, AV.int IntKind.i64 b]), (8, AV.osl (prows l)), (9, AV.int IntKind.i64 (↑(List.length l) : Int)), (10, AV.int IntKind.i64 (↑i : Int)), (46, AV.bool true), (47, AV.yld Y), (48, AV.agg [AV.int IntKind.i64 u, AV.int IntKind.i64 v])]) (fun Gs => []) []) → RES)
    (p1 : ¬ (u < v) → (Goto cfg (pre8 (piece IX 4 1)) [(0, .yld Y), (2, .rptr [.int .i64 a, .int .i64 b]), (7, .rptr [.int .i64 u, .int .i64 v]), (8, .osl (prows l)), (9, .int .i64 l.length), (10, .int .i64 i)] [] [] (E.normal) (fun Gs => [(0, AV.yld Y), (2, AV.rptr [AV.int IntKind.i64 a, AV.int IntKind.i64 b]), (8, AV.osl (prows l)), (9, AV.int IntKind.i64 (↑(List.length l) : Int)), (10, AV.int IntKind.i64 (↑i : Int)), (46, AV.bool false), (47, AV.undef), (48, AV.undef)]) (fun Gs => []) []) → RES) : RES :=
  (Vai.bcases (decide (u < v)) (fun h0 => (p0 (of_decide_eq_true h0) (Goto.of fun σ h g => code_of 5 [Ch.b true] [] (L := []) (.cons h0 (.nil)) (by kernel_rfl) (rfl)))) (fun h0 => (p1 (of_decide_eq_false h0) (Goto.of fun σ h g => code_of 5 [Ch.b false] [] (L := []) (.cons h0 (.nil)) (by kernel_rfl) (rfl)))))
theorem itM_to (l : List Spn) (i : Nat) (a b u v : Int) (Y : Nat) (hn : ¬ u < v) {RES : Prop}
    (p0 : (Goto cfg (piece IX 4 2) [(0, .yld Y), (2, .rptr [.int .i64 a, .int .i64 b]), (7, .rptr [.int .i64 u, .int .i64 v]), (8, .osl (prows l)), (9, .int .i64 l.length), (10, .int .i64 i)] [] [] (E.normal) (fun Gs => [(0, AV.yld Y), (2, AV.rptr [AV.int IntKind.i64 a, AV.int IntKind.i64 b]), (8, AV.osl (prows l)), (9, AV.int IntKind.i64 (↑(List.length l) : Int)), (10, AV.int IntKind.i64 (↑i : Int))]) (fun Gs => []) []) → RES) : RES :=
  (p0 (Goto.of fun σ h g => code_of 5 [Ch.b false, Ch.k] [] (L := []) (.cons (by (simp only [decide_eq_true_eq, decide_eq_false_iff_not, Vai.L04.prows_len] at *; omega) : decide (u < v) = false) (.nil)) (by kernel_rfl) (rfl)))
theorem itI_to (l : List Spn) (i : Nat) (a b : Int) (Y : Nat) (hl : l.length ≤ 9223372036854775806) (hi : i < l.length) {RES : Prop}
    (p0 : (Goto cfg (piece IL 3 1) [(0, .yld Y), (2, .rptr [.int .i64 a, .int .i64 b]), (8, .osl (prows l)), (9, .int .i64 l.length), (10, .int .i64 i)] [] [] (E.normal) (fun Gs => [(0, AV.yld Y), (2, AV.rptr [AV.int IntKind.i64 a, AV.int IntKind.i64 b]), (8, AV.osl (prows l)), (9, AV.int IntKind.i64 (↑(List.length l) : Int)), (10, AV.int IntKind.i64 (IntKind.wrap IntKind.i64 ((↑i : Int) + (1 : Int))))]) (fun Gs => []) []) → RES) : RES :=
  (p0 (Goto.of fun σ h g => code_of 5 [] [] (L := []) (.nil) (by kernel_rfl) (rfl)))
theorem itf_fn : Try.prog.funcs[102]? = some (fnOf 102) := by kernel_rfl
theorem itf_body : (fnOf 102).body = some (codeOf 102) := by kernel_rfl
theorem itf_n : (fnOf 102).ntmps = 53 := by kernel_rfl
theorem itf_res : (fnOf 102).results = #[] := by kernel_rfl
noncomputable abbrev IA : List Code := ((flat ((bodyL Try.prog 102).getD 0 .skip)).drop 0).take 1
noncomputable abbrev IH : List Code := ((flat IL).drop 0).take 2
noncomputable abbrev IE : List Code := ((flat IL).drop 3).take 1
noncomputable abbrev IB : List Code := ((flat IX).drop 0).take 2
theorem itf_flat : flatS (codeOf 102) = IA ++ [.block 0 (.loop IL)] := by kernel_rfl
theorem il_flat : flatS IL = IH ++ (.block 1 IX :: IE) := by kernel_rfl
def opsOf : Code → Array Oper
  | .region _ ops _ => ops
  | _ => #[]
noncomputable abbrev O4 : Array Oper := opsOf (piece IX 2 1)
noncomputable abbrev O5 : Array Oper := opsOf (piece IX 4 1)
theorem ix_flat : flatS IX = IB ++ (.region 4 O4 false :: .cond (.tmp 40) .ret .skip :: .region 5 O5 false :: .cond (.tmp 51) .ret .skip :: []) := by kernel_rfl
theorem ix_n : ((flat IX).drop 2).take 2 = [.region 4 O4 false, .cond (.tmp 40) .ret .skip] := by kernel_rfl
theorem ix_m : ((flat IX).drop 4).take 2 = [.region 5 O5 false, .cond (.tmp 51) .ret .skip] := by kernel_rfl
theorem p4 : pre8 (piece IX 2 1) = .region 4 (O4.extract 0 8) false := by kernel_rfl
theorem p5 : pre8 (piece IX 4 1) = .region 5 (O5.extract 0 8) false := by kernel_rfl
theorem stat_l (l : List Code) (h : (l.all (codeStat cfg 53)) = true) : ∀ x ∈ l, codeStat cfg 53 x = true := List.all_eq_true.1 h
theorem st_A : ∀ x ∈ IA, codeStat cfg 53 x = true := stat_l _ (by kernel_rfl)
theorem st_H : ∀ x ∈ IH, codeStat cfg 53 x = true := stat_l _ (by kernel_rfl)
theorem st_E : ∀ x ∈ IE, codeStat cfg 53 x = true := stat_l _ (by kernel_rfl)
theorem st_B : ∀ x ∈ IB, codeStat cfg 53 x = true := stat_l _ (by kernel_rfl)
theorem st_4 : ∀ x ∈ ([.region 4 O4 false, .cond (.tmp 40) .ret .skip] : List Code), codeStat cfg 53 x = true := stat_l _ (by kernel_rfl)
theorem st_5 : ∀ x ∈ ([.region 5 O5 false, .cond (.tmp 51) .ret .skip] : List Code), codeStat cfg 53 x = true := stat_l _ (by kernel_rfl)
theorem d4 : dstOk 53 O4 = true := by kernel_rfl
theorem d5 : dstOk 53 O5 = true := by kernel_rfl
theorem nd4 : noDef O4 = true := by kernel_rfl
theorem nd5 : noDef O5 = true := by kernel_rfl
theorem z4 : O4.size = 11 := by kernel_rfl
theorem z5 : O5.size = 11 := by kernel_rfl
theorem gu4 : ((O4.extract 0 8).toList.all fun o => match o.guard with | none => true | some (j, _) => decide (j < 8)) = true := by kernel_rfl
theorem gu5 : ((O5.extract 0 8).toList.all fun o => match o.guard with | none => true | some (j, _) => decide (j < 8)) = true := by kernel_rfl
theorem o4_5 : (O4[5]?).bind (·.dst) = some 35 := by kernel_rfl
theorem o5_5 : (O5[5]?).bind (·.dst) = some 46 := by kernel_rfl
theorem o4_8 : (O4[8]?).map (fun o => (o.dst, o.op, o.guard)) = some (some 38, .call ⟨.value (.tmp 36), #[.tmp 37, .const (.bool true)], #[61, 4]⟩, some (5, true)) := by kernel_rfl
theorem o5_8 : (O5[8]?).map (fun o => (o.dst, o.op, o.guard)) = some (some 49, .call ⟨.value (.tmp 47), #[.tmp 48, .const (.bool false)], #[61, 4]⟩, some (5, true)) := by kernel_rfl
theorem o4_9 : (O4[9]?).map (fun o => (o.dst, o.op, o.guard)) = some (some 39, .unOp .not 4 (.tmp 38), some (5, true)) := by kernel_rfl
theorem o5_9 : (O5[9]?).map (fun o => (o.dst, o.op, o.guard)) = some (some 50, .unOp .not 4 (.tmp 49), some (5, true)) := by kernel_rfl
theorem o4_10 : (O4[10]?).map (fun o => (o.dst, o.op, o.guard)) = some (some 40, .pick (.tmp 35) (.tmp 39) (.const (.bool false)), none) := by kernel_rfl
theorem o5_10 : (O5[10]?).map (fun o => (o.dst, o.op, o.guard)) = some (some 51, .pick (.tmp 46) (.tmp 50) (.const (.bool false)), none) := by kernel_rfl
def cutO (s x : Spn) : List (List AV) :=
  (if x.a < lft s x then [[.agg [.int .i64 x.a, .int .i64 (lft s x)], .bool true]] else []) ++ (if rgt s x < x.b then [[.agg [.int .i64 (rgt s x), .int .i64 x.b], .bool false]] else [])
def outsP (l : List Spn) (s : Spn) : List (List AV) := l.flatMap (cutO s)
def cntP (l : List Spn) (s : Spn) (i : Nat) : Nat := (outsP (l.take i) s).length
theorem outs_split {l : List Spn} {i : Nat} (hi : i < l.length) (s : Spn) : outsP l s = outsP (l.take i) s ++ (cutO s (pth l i) ++ outsP (l.drop (i + 1)) s) := by
  have : l = l.take i ++ (pth l i :: l.drop (i + 1)) := by rw [← pdrop hi, List.take_append_drop]
  conv => lhs; rw [this]
  unfold outsP
  rw [List.flatMap_append, List.flatMap_cons]
theorem cnt_succ {l : List Spn} {i : Nat} (hi : i < l.length) (s : Spn) : cntP l s (i + 1) = cntP l s i + (cutO s (pth l i)).length := by
  unfold cntP outsP
  rw [ptake hi, List.flatMap_append]
  simp
theorem outs_at {l : List Spn} {i : Nat} (hi : i < l.length) (s : Spn) {j : Nat} (hj : j < (cutO s (pth l i)).length) : (outsP l s)[cntP l s i + j]? = (cutO s (pth l i))[j]? := by
  rw [outs_split hi s]
  unfold cntP
  rw [List.getElem?_append_right (by omega), Nat.add_sub_cancel_left, List.getElem?_append_left hj]
structure IS (l : List Spn) (s : Spn) (i Y : Nat) (G : Nat → Prop) (W : World) (a : Act) : Prop where
  lt : ∀ b, G b → b < W.heap.size
  size : a.tmps.size = 53
  nd : a.defers = []
  y : RV ⟨W, G⟩ (fun _ _ _ => False) (.yld Y) (a.tmps.getD 0 Go.undef)
  s2 : RV ⟨W, G⟩ (fun _ _ _ => False) (.rptr [.int .i64 s.a, .int .i64 s.b]) (a.tmps.getD 2 Go.undef)
  s8 : RV ⟨W, G⟩ (fun _ _ _ => False) (.osl (prows l)) (a.tmps.getD 8 Go.undef)
  s9 : RV ⟨W, G⟩ (fun _ _ _ => False) (.int .i64 l.length) (a.tmps.getD 9 Go.undef)
  s10 : RV ⟨W, G⟩ (fun _ _ _ => False) (.int .i64 i) (a.tmps.getD 10 Go.undef)
abbrev lsI (l : List Spn) (s : Spn) (i Y : Nat) : List (Nat × AV) := [(0, .yld Y), (2, .rptr [.int .i64 s.a, .int .i64 s.b]), (8, .osl (prows l)), (9, .int .i64 l.length), (10, .int .i64 i)]
abbrev lsM (l : List Spn) (s : Spn) (i Y : Nat) (u v : Int) : List (Nat × AV) := [(0, .yld Y), (2, .rptr [.int .i64 s.a, .int .i64 s.b]), (7, .rptr [.int .i64 u, .int .i64 v]), (8, .osl (prows l)), (9, .int .i64 l.length), (10, .int .i64 i)]
abbrev stI (ls : List (Nat × AV)) : St := ⟨mks ls fun _ => .unk, fun _ _ => none, fun _ => 0⟩
theorem IS.srep {l : List Spn} {s : Spn} {i Y : Nat} {G : Nat → Prop} {W : World} {a : Act} (h : IS l s i Y G W a) : SRep ⟨W, G, [], fun _ => False, W⟩ ⟨W, G⟩ (fun _ _ _ => False) 53 (stI (lsI l s i Y)).sl a :=
  SRep.anew h.size h.nd _ (by simp only [List.forall_mem_cons]; exact ⟨h.y, h.s2, h.s8, h.s9, h.s10, by simp⟩)
theorem IS.srep7 {l : List Spn} {s : Spn} {i Y : Nat} {G : Nat → Prop} {W : World} {a : Act} (h : IS l s i Y G W a) {u v : Int} (h7 : RV ⟨W, G⟩ (fun _ _ _ => False) (.rptr [.int .i64 u, .int .i64 v]) (a.tmps.getD 7 Go.undef)) :
    SRep ⟨W, G, [], fun _ => False, W⟩ ⟨W, G⟩ (fun _ _ _ => False) 53 (stI (lsM l s i Y u v)).sl a :=
  SRep.anew h.size h.nd _ (by simp only [List.forall_mem_cons]; exact ⟨h.y, h.s2, h7, h.s8, h.s9, h.s10, by simp⟩)
theorem at_I (l : List Spn) (s : Spn) (i Y : Nat) : At (lsI l s i Y) [] [(5, 0), (6, 0), (7, 0)] (stI (lsI l s i Y)) := ⟨by simp [mks], rfl, rfl⟩
theorem at_M (l : List Spn) (s : Spn) (i Y : Nat) (u v : Int) : At (lsM l s i Y u v) [] [] (stI (lsM l s i Y u v)) := ⟨by simp [mks], rfl, rfl⟩
abbrev G4 (G : Nat → Prop) (W W4 : World) : Nat → Prop := fun b => G b ∨ (W.heap.size ≤ b ∧ b < W4.heap.size)
theorem onto {G : Nat → Prop} {W W4 W' : World} {ro4 : RO} {σ4 : Map} {hp : Hp} {gn : Nat → Nat} (hh : HRep ⟨W, G, [], fun _ => False, W⟩ W4 ro4 σ4 hp gn) (hk : ∀ b, G4 G W W4 b → W'.heap[b]? = W4.heap[b]?) :
    ∀ b, ro4.F b → G4 G W W4 b ∧ W'.heap[b]? = ro4.w.heap[b]? := fun b hb => by
  have h1 := hh.fr b hb
  have hg : G4 G W W4 b := (hh.sub b hb).imp id fun h => ⟨h, h1.1⟩
  exact ⟨hg, (hk b hg).trans h1.2⟩
theorem onto_lt {G : Nat → Prop} {W W4 W' : World} {ro4 : RO} {σ4 : Map} {hp : Hp} {gn : Nat → Nat} (hh : HRep ⟨W, G, [], fun _ => False, W⟩ W4 ro4 σ4 hp gn) (hG : ∀ b, G b → b < W.heap.size) (hk : ∀ b, G4 G W W4 b → W'.heap[b]? = W4.heap[b]?) : ∀ b, G4 G W W4 b → b < W'.heap.size := fun b hb => by
  have h4 : b < W4.heap.size := by
    rcases hb with h | h
    · exact Nat.lt_of_lt_of_le (hG b h) hh.below.size
    · exact h.2
  have := hk b hb
  rw [Array.getElem?_eq_getElem h4] at this
  exact (Array.getElem?_eq_some_iff.1 this).1
theorem IS.next {l : List Spn} {s : Spn} {i Y : Nat} {G : Nat → Prop} {W W4 W' : World} {ro4 : RO} {σ4 : Map} {st : St} {a a' : Act} (hG : ∀ b, G b → b < W.heap.size) (hh : HRep ⟨W, G, [], fun _ => False, W⟩ W4 ro4 σ4 st.hp st.gn) (hs : SRep ⟨W, G, [], fun _ => False, W⟩ ro4 σ4 53 st.sl a)
    (hk : ∀ b, G4 G W W4 b → W'.heap[b]? = W4.heap[b]?) (h0 : st.sl 0 = .yld Y) (h2 : st.sl 2 = .rptr [.int .i64 s.a, .int .i64 s.b]) (h8 : st.sl 8 = .osl (prows l)) (h9 : st.sl 9 = .int .i64 l.length) (h10 : st.sl 10 = .int .i64 i)
    (hz : a'.tmps.size = 53) (hd : a'.defers = []) (hsame : ∀ d, d < 35 → a'.tmps.getD d Go.undef = a.tmps.getD d Go.undef) : IS l s i Y (G4 G W W4) W' a' := by
  have ho := onto hh hk
  refine ⟨onto_lt hh hG hk, hz, hd, ?_, ?_, ?_, ?_, ?_⟩
  · rw [hsame 0 (by omega)]; have := hs.at_ 0; rw [h0] at this; exact this.yld_inv
  · rw [hsame 2 (by omega)]; have := hs.at_ 2; rw [h2] at this; exact this.rptr_on ho
  · rw [hsame 8 (by omega)]; have := hs.at_ 8; rw [h8] at this; exact this.free_on rfl ho
  · rw [hsame 9 (by omega)]; have := hs.at_ 9; rw [h9] at this; exact this.free_on rfl ho
  · rw [hsame 10 (by omega)]; have := hs.at_ 10; rw [h10] at this; exact this.free_on rfl ho
theorem puts_same (a : Act) {x y z : Nat} (u v w : Value) (hx : 35 ≤ x) (hy : 35 ≤ y) (hz : 35 ≤ z) : ∀ d, d < 35 → (((a.put (some x) u).put (some y) v).put (some z) w).tmps.getD d Go.undef = a.tmps.getD d Go.undef := fun d hd => by
  simp only [Act.put, Array.getD_eq_getD_getElem?]
  rw [Array.getElem?_setIfInBounds_ne (by omega), Array.getElem?_setIfInBounds_ne (by omega), Array.getElem?_setIfInBounds_ne (by omega)]
section
variable {w : World} {F : Nat → Prop} {l : List Spn} {s : Spn} {Y : Nat} {J : Nat → (Nat → Prop) → World → Prop} {Jx : World → Prop} {QB : Exit → Act → World → Prop}
structure Prom (P : Program) (outs : List (List AV)) (Y : Nat) (J : Nat → (Nat → Prop) → World → Prop) (Jx : World → Prop) : Prop where
  st : ∀ i G W W', J i G W → Below W.heap.size W W' → J i (fun b => G b ∨ (W.heap.size ≤ b ∧ b < W'.heap.size)) W'
  round : ∀ i G W x xs, J i G W → outs[i]? = some x → RFs ⟨W, G⟩ x xs → Yields1 P Y xs W fun e W' => ∃ b, e = .returned (.bool b) ∧ keeps G W W' ∧ (if b = true then J (i + 1) G W' else Jx W')
theorem rf_out {ro ro' : RO} {σ : Map} {u v : Int} {b : Bool} {x : Value} (h : RV ro σ (.agg [.int .i64 u, .int .i64 v]) x) : RFs ro' [.agg [.int .i64 u, .int .i64 v], .bool b] #[x, .bool b] := by
  refine ⟨rfl, fun j a y h1 h2 => ?_⟩
  match j, h1, h2 with
  | 0, h1, h2 => cases h1; cases h2; exact (h.ofFree rfl).flat rfl
  | 1, h1, h2 => cases h1; cases h2; exact .bool b
  | j + 2, h1, h2 => simp at h1
def Stops (QB : Exit → Act → World → Prop) (Jx : World → Prop) : Prop := ∀ a W, a.defers = [] → Jx W → QB .ret a W
theorem second (hl : l.length ≤ 9223372036854775806) (hp : Prom Try.prog (outsP l s) Y J Jx) {i : Nat} (hi : i < l.length) {QX : Exit → Act → World → Prop} (hx : Stops QX Jx) {G : Nat → Prop} {W : World} {a : Act} {c : Nat} {u v : Int}
    (h : IS l s i Y G W a) (h7 : RV ⟨W, G⟩ (fun _ _ _ => False) (.rptr [.int .i64 u, .int .i64 v]) (a.tmps.getD 7 Go.undef)) (hJ : J c G W)
    (ho : u < v → (outsP l s)[c]? = some [.agg [.int .i64 u, .int .i64 v], .bool false])
    (hQ : ∀ G' W' a', IS l s i Y G' W' a' → J (c + if u < v then 1 else 0) G' W' → QX .normal a' W') :
    wpF Try.prog [.region 5 O5 false, .cond (.tmp 51) .ret .skip] QX a W := by
  by_cases huv : u < v
  · rw [if_pos huv] at hQ
    refine itQ_to l i s.a s.b u v Y (fun _ hg => ?_) (fun hn _ => absurd huv hn)
    rw [p5] at hg
    obtain ⟨st', Gs, ha, k0, hev⟩ := hg _ (at_M l s i Y u v)
    have hex : exec cfg k0 (.region 5 (O5.extract 0 8) false) (stI (lsM l s i Y u v)) = some (.normal, st') := hev k0 (Nat.le_refl _)
    have hsl := ha.sl
    simp only [List.map_cons, List.map_nil, List.cons.injEq] at hsl
    obtain ⟨q0, q2, q8, q9, q10, q46, q47, q48, _⟩ := hsl
    refine yield_region prog_ok ext_ok R3c.mixed d5 (Nat.le_refl 53) nd5 z5 gu5 o5_5 o5_8 o5_9 o5_10 (by omega) hex q46 q47 (w0 := ⟨W, G, [], fun _ => False, W⟩) (HRep.start h.lt) (h.srep7 h7) ?_
    rintro a4 W4 ⟨ro4, σ4, e4, g4, s4⟩
    have hJ4 := hp.st _ _ _ _ hJ g4.below
    have hv48 := s4.at_ 48
    rw [q48] at hv48
    obtain ⟨fn, tmps, assign, body, hy, hr⟩ := hp.round c _ W4 _ #[a4.tmps.getD 48 Go.undef, .bool false] hJ4 (ho huv) (rf_out hv48)
    refine ⟨fn, tmps, assign, body, hy, hr.mono fun e W' he => ?_⟩
    obtain ⟨b, rfl, hk, hb⟩ := he
    refine ⟨b, rfl, ?_⟩
    have hz : (((a4.put (some 49) (.bool b)).put (some 50) (.bool (!b))).put (some 51) (.bool (!b))).tmps.size = 53 := by simp [Act.put, s4.size]
    have hd : (((a4.put (some 49) (.bool b)).put (some 50) (.bool (!b))).put (some 51) (.bool (!b))).defers = [] := s4.nodef
    have hev51 : (((a4.put (some 49) (.bool b)).put (some 50) (.bool (!b))).put (some 51) (.bool (!b))).eval (.tmp 51) = .bool (!b) := by
      simp [Act.put, Act.eval, Array.getD_eq_getD_getElem?, Array.getElem?_setIfInBounds_self_of_lt (show 51 < ((a4.tmps.setIfInBounds 49 (.bool b)).setIfInBounds 50 (.bool (!b))).size by simp [s4.size])]
    cases b with
    | true =>
      have hb : J (c + 1) (G4 G W W4) W' := hb
      exact wp_cond_false hev51 (wp_skip (hQ _ W' _ (IS.next h.lt g4 s4 hk q0 q2 q8 q9 q10 hz hd (puts_same _ _ _ _ (by omega) (by omega) (by omega))) hb))
    | false =>
      have hb : Jx W' := hb
      exact wp_cond_true hev51 (wp_ret (hx _ W' hd hb))
  · rw [if_neg huv] at hQ
    refine itM_to l i s.a s.b u v Y huv (fun hg => ?_)
    have := wpF_goto (rest := []) (Q := QX) prog_ok ext_ok R3c.mixed (Nat.le_refl 53) hg (by rw [ix_m]; exact st_5) (at_M l s i Y u v) (w0 := ⟨W, G, [], fun _ => False, W⟩) (HRep.start h.lt) (h.srep7 h7) (fun s4 Gs a4 W4 ha haft => ?_)
    · rw [ix_m, List.append_nil] at this; exact this
    · obtain ⟨ro4, σ4, e4, g4, s4'⟩ := haft
      have hsl := ha.sl
      simp only [List.map_cons, List.map_nil, List.cons.injEq] at hsl
      obtain ⟨q0, q2, q8, q9, q10, _⟩ := hsl
      exact hQ _ W4 a4 (IS.next h.lt g4 s4' (fun _ _ => rfl) q0 q2 q8 q9 q10 s4'.size s4'.nodef (fun _ _ => rfl)) (hp.st _ _ _ _ hJ g4.below)
theorem first (hl : l.length ≤ 9223372036854775806) (hp : Prom Try.prog (outsP l s) Y J Jx) {i : Nat} (hi : i < l.length) {QX : Exit → Act → World → Prop} (hx : Stops QX Jx) {G : Nat → Prop} {W : World} {a : Act}
    (h : IS l s i Y G W a) (hJ : J (cntP l s i) G W)
    (hQ : ∀ G' W' a', IS l s i Y G' W' a' → J (cntP l s (i + 1)) G' W' → QX .normal a' W') :
    wpF Try.prog (flatS IX) QX a W := by
  rw [ix_flat]
  refine itB_to l i s.a s.b Y hl hi (fun hg => ?_)
  refine wpF_goto prog_ok ext_ok R3c.mixed (Nat.le_refl 53) hg st_B (at_I l s i Y) (w0 := ⟨W, G, [], fun _ => False, W⟩) (HRep.start h.lt) h.srep (fun s2 Gs a2 W2 ha haft => ?_)
  obtain ⟨ro2, σ2, e2, g2, s2'⟩ := haft
  have hsl := ha.sl
  have hhp := ha.hp
  simp only [List.map_cons, List.map_nil, List.cons.injEq] at hsl hhp
  obtain ⟨q0, q2, q6, q7, q8, q9, q10, _⟩ := hsl
  obtain ⟨b6, b7, _⟩ := hhp
  show wpF Try.prog _ QX a2 W2
  have key : ∀ (W4 W' : World) (ro4 : RO) (σ4 : Map) (st : St) (a4 a' : Act), HRep ⟨W, G, [], fun _ => False, W⟩ W4 ro4 σ4 st.hp st.gn → SRep ⟨W, G, [], fun _ => False, W⟩ ro4 σ4 53 st.sl a4 → (∀ b, G4 G W W4 b → W'.heap[b]? = W4.heap[b]?) →
      st.sl 0 = .yld Y → st.sl 2 = .rptr [.int .i64 s.a, .int .i64 s.b] → st.sl 7 = .ptr 7 0 0 0 → st.sl 8 = .osl (prows l) → st.sl 9 = .int .i64 l.length → st.sl 10 = .int .i64 i →
      st.hp 7 0 = some ⟨[.agg [.int .i64 (rgt s (pth l i)), .int .i64 (pth l i).b]], false⟩ → a'.tmps.size = 53 → a'.defers = [] → (∀ d, d < 35 → a'.tmps.getD d Go.undef = a4.tmps.getD d Go.undef) →
      J (cntP l s i + if (pth l i).a < lft s (pth l i) then 1 else 0) (G4 G W W4) W' → wpF Try.prog [.region 5 O5 false, .cond (.tmp 51) .ret .skip] QX a' W' := by
    intro W4 W' ro4 σ4 st a4 a' g4 s4 hk r0 r2 r7 r8 r9 r10 rb hz hd hsame hJ4
    have hI := IS.next h.lt g4 s4 hk r0 r2 r8 r9 r10 hz hd hsame
    have h7 : RV ⟨W', G4 G W W4⟩ (fun _ _ _ => False) (.rptr [.int .i64 (rgt s (pth l i)), .int .i64 (pth l i).b]) (a'.tmps.getD 7 Go.undef) := by
      rw [hsame 7 (by omega)]
      have hr7 := s4.at_ 7
      rw [r7] at hr7
      have hc := caps_rep g4 (F := G4 G W W4) (fun b hb => (onto g4 hk b hb).1) (caps := [.ptr 7 0 0 0]) (pr := [(.rptr [.int .i64 (rgt s (pth l i)), .int .i64 (pth l i).b], (7, 0))]) (vs := #[a4.tmps.getD 7 Go.undef])
        (by simp [cptV, rb, AV.cells, AV.free]) (fun b hb => ?_) ⟨rfl, fun j u v h1 h2 => ?_⟩
      · exact (hc.2 0 _ _ rfl rfl).rptr_on (fun b hb => ⟨hb, hk b hb⟩)
      · obtain ⟨s', g', B, sz, N, hm, hB, hσ⟩ := hb
        obtain ⟨rfl, rfl⟩ : s' = 7 ∧ g' = 0 := by simpa using hm
        rw [rb] at hB
        cases hB
        obtain ⟨lc', hl', hblk⟩ := g4.blk _ _ _ rb
        obtain rfl := g4.fn _ _ _ _ hl' hσ
        exact .inr ⟨(g4.own _ _ _ _ _ _ rb rfl hσ).2, hblk.lt⟩
      · cases j with
        | zero => cases h1; cases h2; exact hr7
        | succ j => simp at h1
    refine second hl hp hi hx hI h7 hJ4 (fun huv => ?_) (fun G' W'' a'' hI' hJ' => hQ G' W'' a'' hI' ?_)
    · by_cases hf : (pth l i).a < lft s (pth l i)
      · rw [if_pos hf, outs_at hi s (by unfold cutO; rw [if_pos hf, if_pos huv]; simp)]
        unfold cutO; rw [if_pos hf, if_pos huv]; rfl
      · rw [if_neg hf, outs_at hi s (by unfold cutO; rw [if_neg hf, if_pos huv]; simp)]
        unfold cutO; rw [if_neg hf, if_pos huv]; rfl
    · have e : cntP l s (i + 1) = cntP l s i + (if (pth l i).a < lft s (pth l i) then 1 else 0) + (if rgt s (pth l i) < (pth l i).b then 1 else 0) := by
        rw [cnt_succ hi]
        unfold cutO
        by_cases h1 : (pth l i).a < lft s (pth l i) <;> by_cases h2 : rgt s (pth l i) < (pth l i).b <;> simp [h1, h2]
      rw [e]; exact hJ'
  by_cases hf : (pth l i).a < lft s (pth l i)
  · refine itP_to l i s.a s.b (pth l i).a (lft s (pth l i)) (rgt s (pth l i)) (pth l i).b Y (fun _ hg => ?_) (fun hn _ => absurd hf hn)
    rw [p4] at hg
    obtain ⟨st', Gs', ha', k0, hev⟩ := hg s2 ⟨by simp only [List.map_cons, List.map_nil, q0, q2, q6, q7, q8, q9, q10], by simp only [List.map_cons, List.map_nil]; rw [b6, b7]; rfl, rfl⟩
    have hex : exec cfg k0 (.region 4 (O4.extract 0 8) false) s2 = some (.normal, st') := hev k0 (Nat.le_refl _)
    have hsl := ha'.sl
    have hhp := ha'.hp
    simp only [List.map_cons, List.map_nil, List.cons.injEq] at hsl hhp
    obtain ⟨r0, r2, r7, r8, r9, r10, r35, r36, r37, _⟩ := hsl
    obtain ⟨rb, _⟩ := hhp
    refine yield_region prog_ok ext_ok R3c.mixed d4 (Nat.le_refl 53) nd4 z4 gu4 o4_5 o4_8 o4_9 o4_10 (by omega) hex r35 r36 (w0 := ⟨W, G, [], fun _ => False, W⟩) g2 s2' ?_
    rintro a4 W4 ⟨ro4, σ4, e4, g4, s4⟩
    have hJ4 := hp.st _ _ _ _ hJ g4.below
    have hv37 := s4.at_ 37
    rw [r37] at hv37
    obtain ⟨fn, tmps, assign, body, hy, hr⟩ := hp.round (cntP l s i) _ W4 _ #[a4.tmps.getD 37 Go.undef, .bool true] hJ4 (by
      have := outs_at hi s (j := 0) (by unfold cutO; rw [if_pos hf]; simp)
      rw [Nat.add_zero] at this
      rw [this]
      unfold cutO; rw [if_pos hf]; rfl) (rf_out hv37)
    refine ⟨fn, tmps, assign, body, hy, hr.mono fun e W' he => ?_⟩
    obtain ⟨b, rfl, hk, hb⟩ := he
    refine ⟨b, rfl, ?_⟩
    have hz : (((a4.put (some 38) (.bool b)).put (some 39) (.bool (!b))).put (some 40) (.bool (!b))).tmps.size = 53 := by simp [Act.put, s4.size]
    have hd : (((a4.put (some 38) (.bool b)).put (some 39) (.bool (!b))).put (some 40) (.bool (!b))).defers = [] := s4.nodef
    have hev40 : (((a4.put (some 38) (.bool b)).put (some 39) (.bool (!b))).put (some 40) (.bool (!b))).eval (.tmp 40) = .bool (!b) := by
      simp [Act.put, Act.eval, Array.getD_eq_getD_getElem?, Array.getElem?_setIfInBounds_self_of_lt (show 40 < ((a4.tmps.setIfInBounds 38 (.bool b)).setIfInBounds 39 (.bool (!b))).size by simp [s4.size])]
    cases b with
    | true =>
      have hb : J (cntP l s i + 1) (G4 G W W4) W' := hb
      exact wp_cond_false hev40 (wp_skip (key W4 W' ro4 σ4 st' a4 _ g4 s4 hk r0 r2 r7 r8 r9 r10 rb hz hd (puts_same _ _ _ _ (by omega) (by omega) (by omega)) (by rw [if_pos hf]; exact hb)))
    | false =>
      have hb : Jx W' := hb
      exact wp_cond_true hev40 (wp_ret (hx _ W' hd hb))
  · refine itN_to l i s.a s.b (pth l i).a (lft s (pth l i)) (rgt s (pth l i)) (pth l i).b Y hf (fun hg => ?_)
    have := wpF_goto (rest := [.region 5 O5 false, .cond (.tmp 51) .ret .skip]) (Q := QX) prog_ok ext_ok R3c.mixed (Nat.le_refl 53) hg (by rw [ix_n]; exact st_4) (st := s2) ⟨by simp only [List.map_cons, List.map_nil, q0, q2, q6, q7, q8, q9, q10], by simp only [List.map_cons, List.map_nil]; rw [b6, b7]; rfl, rfl⟩
      (w0 := ⟨W, G, [], fun _ => False, W⟩) g2 s2' (fun s4 Gs a4 W4 ha' haft => ?_)
    · rw [ix_n] at this; exact this
    · obtain ⟨ro4, σ4, e4, g4, s4'⟩ := haft
      have hsl := ha'.sl
      have hhp := ha'.hp
      simp only [List.map_cons, List.map_nil, List.cons.injEq] at hsl hhp
      obtain ⟨r0, r2, r7, r8, r9, r10, _⟩ := hsl
      obtain ⟨rb, _⟩ := hhp
      exact key W4 W4 ro4 σ4 s4 a4 a4 g4 s4' (fun _ _ => rfl) r0 r2 r7 r8 r9 r10 rb s4'.size s4'.nodef (fun _ _ => rfl) (by rw [if_neg hf]; exact hp.st _ _ _ _ hJ g4.below)
theorem allR (hl : l.length ≤ 9223372036854775806) (hp : Prom Try.prog (outsP l s) Y J Jx) {Q : Exit → Act → World → Prop} (hx : Stops Q Jx) (hQ : ∀ G W a, a.defers = [] → J (outsP l s).length G W → Q (.exit 0) a W) :
    ∀ (k i : Nat) (G : Nat → Prop) (W : World) (a : Act), i + k = l.length → IS l s i Y G W a → J (cntP l s i) G W → Code.rounds Try.prog IL Q (k + 1) a W := by
  intro k
  induction k with
  | zero =>
    intro i G W a hik h hJ
    obtain rfl : i = l.length := by omega
    refine itH_to l l.length s.a s.b Y hl (fun hn _ => absurd hn (by omega)) (fun _ hg => ?_)
    refine wp_flat (Q := Exit.then (Code.rounds Try.prog IL Q 0) Q) ?_
    rw [il_flat]
    refine wpF_goto prog_ok ext_ok R3c.mixed (Nat.le_refl 53) hg st_H (at_I l s l.length Y) (w0 := ⟨W, G, [], fun _ => False, W⟩) (HRep.start h.lt) h.srep (fun s2 Gs a2 W2 ha haft => ?_)
    obtain ⟨ro2, σ2, e2, g2, s2'⟩ := haft
    have hc : cntP l s l.length = (outsP l s).length := by unfold cntP; rw [List.take_length]
    rw [hc] at hJ
    exact hQ _ W2 a2 s2'.nodef (hp.st _ _ _ _ hJ g2.below)
  | succ k ih =>
    intro i G W a hik h hJ
    have hi : i < l.length := by omega
    refine itH_to l i s.a s.b Y hl (fun _ hg => ?_) (fun hn _ => absurd (by omega) hn)
    refine wp_flat (Q := Exit.then (Code.rounds Try.prog IL Q (k + 1)) Q) ?_
    rw [il_flat]
    refine wpF_goto prog_ok ext_ok R3c.mixed (Nat.le_refl 53) hg st_H (at_I l s i Y) (w0 := ⟨W, G, [], fun _ => False, W⟩) (HRep.start h.lt) h.srep (fun s2 Gs a2 W2 ha haft => ?_)
    obtain ⟨ro2, σ2, e2, g2, s2'⟩ := haft
    have hsl := ha.sl
    simp only [List.map_cons, List.map_nil, List.cons.injEq] at hsl
    obtain ⟨q0, q2, q8, q9, q10, _⟩ := hsl
    have hI := IS.next h.lt g2 s2' (fun _ _ => rfl) q0 q2 q8 q9 q10 s2'.size s2'.nodef (fun _ _ => rfl)
    have hJ2 := hp.st _ _ _ _ hJ g2.below
    refine wp_block (wp_flat ?_)
    refine first (QX := Exit.inBlock 1 (Exit.then (wpF Try.prog IE (Exit.then (Code.rounds Try.prog IL Q (k + 1)) Q)) (Exit.then (Code.rounds Try.prog IL Q (k + 1)) Q))) hl hp hi (fun a W hd hj => hx a W hd hj) hI hJ2 (fun G' W' a' hI' hJ' => ?_)
    show wpF Try.prog IE _ a' W'
    refine itI_to l i s.a s.b Y hl hi (fun hg3 => ?_)
    have := wpF_goto (rest := []) (Q := Exit.then (Code.rounds Try.prog IL Q (k + 1)) Q) prog_ok ext_ok R3c.mixed (Nat.le_refl 53) hg3 st_E (⟨by simp [mks], rfl, rfl⟩ : At (lsI l s i Y) [] [] (stI (lsI l s i Y))) (w0 := ⟨W', G', [], fun _ => False, W'⟩) (HRep.start hI'.lt) hI'.srep (fun s4 Gs a4 W4 ha4 haft => ?_)
    · rw [List.append_nil] at this; exact this
    · obtain ⟨ro4, σ4, e4, g4, s4'⟩ := haft
      have hsl := ha4.sl
      simp only [List.map_cons, List.map_nil, List.cons.injEq] at hsl
      obtain ⟨q0, q2, q8, q9, q10, _⟩ := hsl
      have e10 : IntKind.i64.wrap ((i : Int) + 1) = ((i + 1 : Nat) : Int) := w_succ (by omega)
      rw [e10] at q10
      exact ih (i + 1) _ W4 a4 (by omega) (IS.next hI'.lt g4 s4' (fun _ _ => rfl) q0 q2 q8 q9 q10 s4'.size s4'.nodef (fun _ _ => rfl)) (hp.st _ _ _ _ hJ' g4.below)
theorem parts_itr (l : List Spn) (s : Spn) (hl : l.length ≤ 9223372036854775806) : ItrOk Try.prog 102 [.rptr [.osl (prows l)], .rptr [.int .i64 s.a, .int .i64 s.b]] (outsP l s) := by
  intro w F vals Y J Jx hF hrv hst hsx hround h0
  have hp : Prom Try.prog (outsP l s) Y J Jx := ⟨hst, hround⟩
  obtain ⟨v1, v2, rfl⟩ : ∃ v1 v2, vals = #[v1, v2] := by
    have h1 := hrv.1
    obtain ⟨vl⟩ := vals
    match vl, h1 with
    | [v1, v2], _ => exact ⟨v1, v2, rfl⟩
  have htm : (#[Value.func (.yield Y) #[] #[]] ++ #[v1, v2] ++ Array.replicate (53 - (#[Value.func (.yield Y) #[] #[]] ++ #[v1, v2]).size) Go.undef).size = 53 := by simp
  have hg0 : ((#[Value.func (.yield Y) #[] #[]] ++ #[v1, v2] ++ Array.replicate (53 - (#[Value.func (.yield Y) #[] #[]] ++ #[v1, v2]).size) Go.undef).getD 0 Go.undef) = .func (.yield Y) #[] #[] := by simp [Array.getD_eq_getD_getElem?]
  have hg1 : ((#[Value.func (.yield Y) #[] #[]] ++ #[v1, v2] ++ Array.replicate (53 - (#[Value.func (.yield Y) #[] #[]] ++ #[v1, v2]).size) Go.undef).getD 1 Go.undef) = v1 := by simp [Array.getD_eq_getD_getElem?]
  have hg2 : ((#[Value.func (.yield Y) #[] #[]] ++ #[v1, v2] ++ Array.replicate (53 - (#[Value.func (.yield Y) #[] #[]] ++ #[v1, v2]).size) Go.undef).getD 2 Go.undef) = v2 := by simp [Array.getD_eq_getD_getElem?]
  refine calls_of_wp itf_fn itf_body (wp_flat ?_)
  rw [itf_flat, itf_n]
  generalize (#[Value.func (.yield Y) #[] #[]] ++ #[v1, v2] ++ Array.replicate (53 - (#[Value.func (.yield Y) #[] #[]] ++ #[v1, v2]).size) Go.undef) = tm at *
  have hr1 := hrv.2 0 _ v1 rfl rfl
  have hr2 := hrv.2 1 _ v2 rfl rfl
  refine it0_to l s.a s.b Y hl (fun hg => ?_)
  have hsr : SRep ⟨w, F, [], fun _ => False, w⟩ ⟨w, F⟩ (fun _ _ _ => False) 53 (stI [(0, .yld Y), (1, .rptr [.osl (prows l)]), (2, .rptr [.int .i64 s.a, .int .i64 s.b])]).sl { tmps := tm, defers := [] } :=
    SRep.anew htm rfl _ (by simp only [List.forall_mem_cons, hg0, hg1, hg2]; exact ⟨.yld Y, hr1, hr2, by simp⟩)
  refine wpF_goto prog_ok ext_ok R3c.mixed (Nat.le_refl 53) hg st_A (⟨by simp [mks], rfl, rfl⟩ : At _ [] [] (stI [(0, .yld Y), (1, .rptr [.osl (prows l)]), (2, .rptr [.int .i64 s.a, .int .i64 s.b])])) (w0 := ⟨w, F, [], fun _ => False, w⟩) (HRep.start hF) hsr (fun s2 Gs a2 W2 ha haft => ?_)
  obtain ⟨ro2, σ2, e2, g2, s2'⟩ := haft
  have hsl := ha.sl
  simp only [List.map_cons, List.map_nil, List.cons.injEq] at hsl
  obtain ⟨q0, q2, q8, q9, q10, _⟩ := hsl
  rw [prows_len] at q9
  have hI : IS l s 0 Y (G4 F w W2) W2 a2 := IS.next hF g2 s2' (fun _ _ => rfl) q0 q2 q8 q9 q10 s2'.size s2'.nodef (fun _ _ => rfl)
  refine wp_block (wp_loop_rounds (l.length + 1) ?_)
  have res : ∀ (a : Act) (W : World), (results (fnOf 102) a.tmps).run Try.prog W = .ok (.tuple #[]) W := fun a W => by
    unfold results
    rw [itf_res]
    simp
  refine allR hl hp (fun a W hd hj => ?_) (fun G W a hd hj => ?_) l.length 0 _ W2 a2 (by omega) hI (hst _ _ _ _ h0 g2.below)
  · exact ⟨hd, .tuple #[], res a W, .tuple #[], rfl, .inr hj⟩
  · exact ⟨hd, .tuple #[], res a W, .tuple #[], rfl, .inl ⟨G, hj⟩⟩
end
end Vai.L04c
