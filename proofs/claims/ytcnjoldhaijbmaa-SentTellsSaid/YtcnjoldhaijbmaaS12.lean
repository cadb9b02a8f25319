/- Laws 12 and 13: parts as plain records. -/
import Derived.Test.YtcnjoldhaijbmaaB
namespace Vai.L12
open Go Go.Proofs Vai Vai.R2
set_option maxRecDepth 100000
set_option linter.unusedVariables false
set_option linter.unusedSimpArgs false

structure Snt where
  seq : Int
  len : Int
  dsn : Int
  at_ : Int
  tries : Int
  came : Bool
  lost : Bool
  total : Int
  last : Int

instance : Inhabited Snt := ⟨⟨0, 0, 0, 0, 0, false, false, 0, 0⟩⟩

def Snt.av (x : Snt) : AV := .agg [.int .i64 x.seq, .int .i64 x.len, .int .i64 x.dsn, .int .i64 x.at_, .int .i64 x.tries, .bool x.came, .bool x.lost, .int .i64 x.total, .int .i64 x.last]

def inW (n : Int) : Prop := -9223372036854775808 ≤ n ∧ n ≤ 9223372036854775807
structure Snt.Ok (x : Snt) : Prop where
  seq : -9223372036854775808 ≤ x.seq ∧ x.seq ≤ 9223372036854775807
  len : -9223372036854775808 ≤ x.len ∧ x.len ≤ 9223372036854775807
  dsn : -9223372036854775808 ≤ x.dsn ∧ x.dsn ≤ 9223372036854775807
  at_ : -9223372036854775808 ≤ x.at_ ∧ x.at_ ≤ 9223372036854775807
  tries : -9223372036854775808 ≤ x.tries ∧ x.tries ≤ 9223372036854775807
  total : -9223372036854775808 ≤ x.total ∧ x.total ≤ 9223372036854775807
  last : -9223372036854775808 ≤ x.last ∧ x.last ≤ 9223372036854775807

/-- The n-th part. -/
def nth (l : List Snt) (n : Nat) : Snt := l.getD n default

def rows (l : List Snt) : List AV := l.map Snt.av
theorem rows_len (l : List Snt) : (rows l).length = l.length := List.length_map _
theorem el_s (l : List Snt) (n : Nat) (hi : n < l.length) : (rows l)[Int.toNat (n : Int)]? = some (Snt.av (nth l n)) := by
  show (rows l)[n]? = _
  unfold rows nth
  rw [List.getElem?_map, List.getElem?_eq_getElem hi, List.getD_eq_getElem?_getD, List.getElem?_eq_getElem hi]
  rfl

theorem rows_ok (l : List Snt) : ((rows l).all fun x => x.ok && x.cells.length = 9) = true := List.all_eq_true.2 fun x hx => by
  obtain ⟨y, _, rfl⟩ := List.mem_map.1 hx; rfl
theorem rows_free (l : List Snt) : ((rows l).all fun x => x.free && x.cells.length = 9) = true := List.all_eq_true.2 fun x hx => by
  obtain ⟨y, _, rfl⟩ := List.mem_map.1 hx; rfl
theorem rows_one (l : List Snt) : ((rows l).all fun x => decide (x.cells.length = 9)) = true := List.all_eq_true.2 fun x hx => by
  obtain ⟨y, _, rfl⟩ := List.mem_map.1 hx; rfl

abbrev shSnt : Sh := .parts [.int .i64, .int .i64, .int .i64, .int .i64, .int .i64, .bool, .bool, .int .i64, .int .i64]
theorem sh30 : shOf Try.prog 4 30 = some shSnt := by kernel_rfl
theorem sh24 : shOf Try.prog 4 24 = some (.slice shSnt true) := by kernel_rfl

theorem hasSnt {l : List AV} (h : Has shSnt l) : ∃ x : Snt, l = x.av.cells ∧ x.Ok := by
  obtain ⟨a, r, rfl, h0, h⟩ := hasCons h
  obtain ⟨b, r, rfl, h1, h⟩ := hasCons h
  obtain ⟨c, r, rfl, h2, h⟩ := hasCons h
  obtain ⟨d, r, rfl, h3, h⟩ := hasCons h
  obtain ⟨e, r, rfl, h4, h⟩ := hasCons h
  obtain ⟨f, r, rfl, h5, h⟩ := hasCons h
  obtain ⟨g, r, rfl, h6, h⟩ := hasCons h
  obtain ⟨i, r, rfl, h7, h⟩ := hasCons h
  obtain ⟨j, r, rfl, h8, h⟩ := hasCons h
  obtain rfl := hasNil h
  obtain ⟨n0, rfl, w0⟩ := hasI64 h0
  obtain ⟨n1, rfl, w1⟩ := hasI64 h1
  obtain ⟨n2, rfl, w2⟩ := hasI64 h2
  obtain ⟨n3, rfl, w3⟩ := hasI64 h3
  obtain ⟨n4, rfl, w4⟩ := hasI64 h4
  obtain ⟨m5, rfl⟩ := hasBool h5
  obtain ⟨m6, rfl⟩ := hasBool h6
  obtain ⟨n7, rfl, w7⟩ := hasI64 h7
  obtain ⟨n8, rfl, w8⟩ := hasI64 h8
  exact ⟨⟨n0, n1, n2, n3, n4, m5, m6, n7, n8⟩, rfl, ⟨w0, w1, w2, w3, w4, w7, w8⟩⟩

theorem hasSnts {l : List AV} (h : Has (.slice shSnt true) l) : ∃ q : List Snt, l = [.osl (rows q)] ∧ q.length ≤ 9223372036854775807 ∧ ∀ x ∈ q, x.Ok := by
  obtain ⟨xs, rfl, hl, hx⟩ := hasSl h
  have key : ∀ (ys : List AV), (∀ x ∈ ys, x = mk true x.cells ∧ Has shSnt x.cells) → ∃ q : List Snt, ys = rows q ∧ ∀ x ∈ q, x.Ok := by
    intro ys
    induction ys with
    | nil => exact fun _ => ⟨[], rfl, fun x hx => by cases hx⟩
    | cons y ys ih =>
      intro hy
      obtain ⟨q, rfl, hq⟩ := ih fun x hx => hy x (List.mem_cons_of_mem _ hx)
      obtain ⟨e, hh⟩ := hy y (List.mem_cons_self ..)
      obtain ⟨s, hs, hok⟩ := hasSnt hh
      refine ⟨s :: q, ?_, fun x hx => ?_⟩
      · rw [hs] at e; rw [e]; rfl
      · rcases List.mem_cons.1 hx with rfl | hx
        · exact hok
        · exact hq x hx
  obtain ⟨q, rfl, hq⟩ := key xs hx
  exact ⟨q, rfl, by rw [← rows_len]; exact hl, hq⟩
end Vai.L12
