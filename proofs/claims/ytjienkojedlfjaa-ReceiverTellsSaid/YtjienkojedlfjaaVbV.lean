import Derived.Test.YtjienkojedlfjaaVbW
set_option linter.unusedSectionVars false
namespace Vai
open Go
set_option linter.unusedVariables false
set_option linter.unusedSimpArgs false
@[simp] theorem geti_int (k : IntKind) (n : Int) : (AV.int k n).geti = n := rfl
@[simp] theorem getb_bool (b : Bool) : (AV.bool b).getb = b := rfl
@[simp] theorem getl_osl (l : List AV) : (AV.osl l).getl = l := rfl
@[simp] theorem gets_str (l : ByteArray) : (AV.str l).gets = l := rfl
@[simp] theorem getc_agg (l : List AV) : (AV.agg l).getc = l := rfl
@[simp] theorem gett_tup (l : List AV) : (AV.tup l).gett = l := rfl
@[simp] theorem getf_fn (f : FuncId) (a l : List AV) : (AV.fn f a l).getf = l := rfl
@[simp] theorem sln_sl (e s g lo n : Nat) : (AV.sl e s g lo n).sln = n := rfl
@[simp] theorem ok1_int (k k' : IntKind) (n : Int) : ok1 (.int k) (.int k' n) = decide (k = k') := rfl
@[simp] theorem ok1_bool (b : Bool) : ok1 .bool (.bool b) = true := rfl
@[simp] theorem ok1_sl (l : List AV) : ok1 .sl (.osl l) = true := rfl
@[simp] theorem ok1_str (l : ByteArray) : ok1 .str (.str l) = true := rfl
@[simp] theorem ok1_raw (x : AV) : ok1 .raw x = true := by unfold ok1; split <;> simp_all
@[simp] theorem okL_nil : okL [] [] = true := rfl
@[simp] theorem okL_cons (k : Kd) (ks : List Kd) (c : AV) (cs : List AV) : okL (k :: ks) (c :: cs) = (ok1 k c && okL ks cs) := rfl
@[simp] theorem fit_one (k : Kd) (x : AV) : Vw.fit (.one k) x = ok1 k x := rfl
@[simp] theorem fit_agg (ks : List Kd) (cs : List AV) : Vw.fit (.agg ks) (.agg cs) = okL ks cs := rfl
@[simp] theorem fitA_one (v : Vw) (x : AV) : fitA [v] x = v.fit x := rfl
@[simp] theorem fitA_tup (v w : Vw) (vs : List Vw) (xs : List AV) : fitA (v :: w :: vs) (.tup xs) = fitR (v :: w :: vs) xs := rfl
@[simp] theorem fitA_nil : fitA [] (.tup []) = true := rfl
@[simp] theorem fitR_nil : fitR [] [] = true := rfl
@[simp] theorem fitR_cons (v : Vw) (vs : List Vw) (x : AV) (xs : List AV) : fitR (v :: vs) (x :: xs) = (v.fit x && fitR vs xs) := rfl
@[simp] theorem ci_agg (cs : List AV) (i : Nat) : ci (.agg cs) i = (cs.getD i .undef).geti := rfl
@[simp] theorem cb_agg (cs : List AV) (i : Nat) : cb (.agg cs) i = (cs.getD i .undef).getb := rfl
@[simp] theorem cl_agg (cs : List AV) (i : Nat) : cl (.agg cs) i = (cs.getD i .undef).getl := rfl
@[simp] theorem ti_tup (cs : List AV) (i : Nat) : ti (.tup cs) i = (cs.getD i .undef).geti := rfl
@[simp] theorem tb_tup (cs : List AV) (i : Nat) : tb (.tup cs) i = (cs.getD i .undef).getb := rfl
@[simp] theorem tl_tup (cs : List AV) (i : Nat) : tl (.tup cs) i = (cs.getD i .undef).getl := rfl
theorem w64 {n : Int} (h : -9223372036854775808 ≤ n) (h2 : n ≤ 9223372036854775807) : IntKind.wrap .i64 n = n := by rw [IntKind.wrap_i64]; omega
theorem gLen_of {n by_ : Nat} (h : n * by_ ≤ 140737488355328) (h2 : n ≤ 140737488355328) : gLen n by_ = true := decide_eq_true ⟨h, h2⟩
theorem gRow_map {α : Type} {z : Nat} {f : α → AV} (h : ∀ x, (f x).ok = true ∧ (f x).cells.length = z) (l : List α) : gRow z (l.map f) = true := List.all_eq_true.2 fun x hx => by
  obtain ⟨y, _, rfl⟩ := List.mem_map.1 hx
  rw [(h y).1, (h y).2]; simp
theorem gCel_map {α : Type} {z : Nat} {f : α → AV} (h : ∀ x, (f x).cells.length = z) (l : List α) : gCel z (l.map f) = true := List.all_eq_true.2 fun x hx => by
  obtain ⟨y, _, rfl⟩ := List.mem_map.1 hx
  rw [h y]; simp
theorem gFree_map {α : Type} {z : Nat} {f : α → AV} (h : ∀ x, (f x).free = true ∧ (f x).cells.length = z) (l : List α) : gFree z (l.map f) = true := List.all_eq_true.2 fun x hx => by
  obtain ⟨y, _, rfl⟩ := List.mem_map.1 hx
  rw [(h y).1, (h y).2]; simp
theorem gNo_map {α : Type} {f : α → AV} (h : ∀ x, (f x).free = true) (l : List α) : gNo (l.map f) = true := List.all_eq_true.2 fun x hx => by
  obtain ⟨y, _, rfl⟩ := List.mem_map.1 hx
  exact h y
theorem bif_and (b c : Bool) (l : List (Option CB)) : (bif b then some (AV.bool c, l) else some (AV.bool false, l)) = some (AV.bool (b && c), l) := by cases b <;> rfl
theorem bif_nand (b c : Bool) (l : List (Option CB)) : (bif b then some (AV.bool false, l) else some (AV.bool c, l)) = some (AV.bool (!b && c), l) := by cases b <;> rfl
theorem some_bool {b c : Bool} (l : List (Option CB)) (h : b = c) : (some (AV.bool b, l) : Option Res) = some (AV.bool c, l) := by rw [h]
end Vai
