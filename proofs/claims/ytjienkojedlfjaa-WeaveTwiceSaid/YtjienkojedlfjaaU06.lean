/- WeaveTwice: the calls, by case. -/
import Derived.Test.YtjienkojedlfjaaT06
namespace Vai.L06
open Go Go.Proofs Vai Vai.R3 Vai.L04
set_option maxRecDepth 100000
set_option linter.unusedVariables false
set_option linter.unusedSimpArgs false

structure Good (base cap end_ at_ : Int) (b bs : List AV) (l : List Spn) : Prop where
  hb : IsB b
  hbs : IsB bs
  hl : l.length ≤ 9223372036854775806
  hbl : b.length ≤ 140737488355
  hbsl : bs.length ≤ 140737488355
  k : putK base b l cap end_ at_ bs = 0
theorem Good.tw {base cap end_ at_ : Int} {b bs : List AV} {l : List Spn} (g : Good base cap end_ at_ b bs l) : TwB base cap end_ at_ b bs bs l (putW base b l cap end_ at_ bs) := twice_B g.hb g.hbs g.hbs g.hbsl rfl g.k
theorem tw_put (base cap end_ at_ : Int) (b bs : List AV) (l : List Spn) (g : Good base cap end_ at_ b bs l) :
    Ans cfg 15 [.agg [.int .i64 base, .osl b, .osl (prows l), .int .i64 cap, .int .i64 end_], .int .i64 at_, .osl bs]
      (.tup [.agg [.int .i64 (putW base b l cap end_ at_ bs).base, .osl (putW base b l cap end_ at_ bs).b, .osl (prows (putW base b l cap end_ at_ bs).l), .int .i64 (putW base b l cap end_ at_ bs).cap, .int .i64 (putW base b l cap end_ at_ bs).end_], .int .i64 (putM base b l cap end_ at_ bs), .int .i64 0]) :=
  (pput_ok base cap end_ at_ b bs l g.hb g.hbs g.hl g.hbl g.hbsl).to rfl (by rw [g.k])
theorem tw_put2 (base cap end_ at_ : Int) (b bs other : List AV) (l : List Spn) (g : Good base cap end_ at_ b bs l) (ho : IsB other) (he : other.length = bs.length) :
    Ans cfg 15 [.agg [.int .i64 (putW base b l cap end_ at_ bs).base, .osl (putW base b l cap end_ at_ bs).b, .osl (prows (putW base b l cap end_ at_ bs).l), .int .i64 (putW base b l cap end_ at_ bs).cap, .int .i64 (putW base b l cap end_ at_ bs).end_], .int .i64 at_, .osl other]
      (.tup [.agg [.int .i64 (putW base b l cap end_ at_ bs).base, .osl (putW base b l cap end_ at_ bs).b, .osl (prows (putW base b l cap end_ at_ bs).l), .int .i64 (putW base b l cap end_ at_ bs).cap, .int .i64 (putW base b l cap end_ at_ bs).end_], .int .i64 0, .int .i64 0]) := by
  have t := twice_B (at_ := at_) (end_ := end_) g.hb g.hbs ho g.hbsl he g.k
  obtain ⟨p1, p2, p3⟩ := putW_b (base := base) (cap := cap) (end_ := end_) (at_ := at_) g.hb g.hbs g.hbl g.hbsl g.hl
  have h := pput_ok (putW base b l cap end_ at_ bs).base (putW base b l cap end_ at_ bs).cap (putW base b l cap end_ at_ bs).end_ at_ (putW base b l cap end_ at_ bs).b other (putW base b l cap end_ at_ bs).l p1 ho p3 p2 (by rw [he]; exact g.hbsl)
  rw [t.k2, t.m2, t.same] at h
  exact h
theorem tw_same (base cap end_ at_ : Int) (b bs : List AV) (l : List Spn) (g : Good base cap end_ at_ b bs l) :
    Ans cfg 16 [.agg [.int .i64 (putW base b l cap end_ at_ bs).base, .osl (putW base b l cap end_ at_ bs).b, .osl (prows (putW base b l cap end_ at_ bs).l), .int .i64 (putW base b l cap end_ at_ bs).cap, .int .i64 (putW base b l cap end_ at_ bs).end_], .agg [.int .i64 (putW base b l cap end_ at_ bs).base, .osl (putW base b l cap end_ at_ bs).b, .osl (prows (putW base b l cap end_ at_ bs).l), .int .i64 (putW base b l cap end_ at_ bs).cap, .int .i64 (putW base b l cap end_ at_ bs).end_]] (.bool true) := by
  obtain ⟨p1, p2, p3⟩ := putW_b (base := base) (cap := cap) (end_ := end_) (at_ := at_) g.hb g.hbs g.hbl g.hbsl g.hl
  refine (wsam_ok _ _ _ _ _ _ _ _ _ _ p1 p1 (by omega) (by omega) p3 p3).to rfl ?_
  rw [wsamP_eq.2 rfl]
theorem tw_may (base cap end_ at_ : Int) (b bs : List AV) (l : List Spn) (g : Good base cap end_ at_ b bs l) :
    Ans cfg 17 [.agg [.int .i64 (putW base b l cap end_ at_ bs).base, .osl (putW base b l cap end_ at_ bs).b, .osl (prows (putW base b l cap end_ at_ bs).l), .int .i64 (putW base b l cap end_ at_ bs).cap, .int .i64 (putW base b l cap end_ at_ bs).end_]] (.bool true) := by
  obtain ⟨p1, p2, p3⟩ := putW_b (base := base) (cap := cap) (end_ := end_) (at_ := at_) g.hb g.hbs g.hbl g.hbsl g.hl
  refine (wm_ok _ _ _ _ _ p1 p3 (by omega)).to rfl ?_
  rw [g.tw.may]
theorem tw_edge (base cap end_ at_ : Int) (b bs : List AV) (l : List Spn) (g : Good base cap end_ at_ b bs l) :
    Ans cfg 18 [.agg [.int .i64 (putW base b l cap end_ at_ bs).base, .osl (putW base b l cap end_ at_ bs).b, .osl (prows (putW base b l cap end_ at_ bs).l), .int .i64 (putW base b l cap end_ at_ bs).cap, .int .i64 (putW base b l cap end_ at_ bs).end_]] (.int .i64 (edgeW base cap end_ b l)) := by
  obtain ⟨p1, p2, p3⟩ := putW_b (base := base) (cap := cap) (end_ := end_) (at_ := at_) g.hb g.hbs g.hbl g.hbsl g.hl
  refine (pedge_ok _ _ _ _ _ p1 p3 p2).to rfl ?_
  rw [g.tw.edge]
def readyU (base cap end_ at_ : Int) (b bs : List AV) (l : List Spn) : Int := readyP (putW base b l cap end_ at_ bs).base (putW base b l cap end_ at_ bs).cap (putW base b l cap end_ at_ bs).end_ (putW base b l cap end_ at_ bs).b (putW base b l cap end_ at_ bs).l
theorem tw_ready (base cap end_ at_ : Int) (b bs : List AV) (l : List Spn) (g : Good base cap end_ at_ b bs l) :
    Ans cfg 19 [.agg [.int .i64 (putW base b l cap end_ at_ bs).base, .osl (putW base b l cap end_ at_ bs).b, .osl (prows (putW base b l cap end_ at_ bs).l), .int .i64 (putW base b l cap end_ at_ bs).cap, .int .i64 (putW base b l cap end_ at_ bs).end_]] (.int .i64 (readyU base cap end_ at_ b bs l)) := by
  obtain ⟨p1, p2, p3⟩ := putW_b (base := base) (cap := cap) (end_ := end_) (at_ := at_) g.hb g.hbs g.hbl g.hbsl g.hl
  exact pready_ok _ _ _ _ _ p1 p3 p2
/-- What may not be put. -/
theorem tw_bad (base cap end_ at_ : Int) (b bs : List AV) (l : List Spn) (hb : IsB b) (hbs : IsB bs) (hl : l.length ≤ 9223372036854775806) (hbl : b.length ≤ 140737488355) (hbsl : bs.length ≤ 140737488355) (k : putK base b l cap end_ at_ bs ≠ 0) :
    Ans cfg 15 [.agg [.int .i64 base, .osl b, .osl (prows l), .int .i64 cap, .int .i64 end_], .int .i64 at_, .osl bs]
      (.tup [.agg [.int .i64 0, .osl [], .osl (prows []), .int .i64 0, .int .i64 0], .int .i64 0, .int .i64 (putK base b l cap end_ at_ bs)]) := by
  refine (pput_ok base cap end_ at_ b bs l hb hbs hl hbl hbsl).to rfl ?_
  have e1 : putW base b l cap end_ at_ bs = Wv.none := by unfold putW; rw [if_pos k]
  have e2 : putM base b l cap end_ at_ bs = 0 := by unfold putM; rw [if_pos k]
  rw [e1, e2]; rfl
theorem tw_bad2 (at_ : Int) (other : List AV) (hbs : IsB other) (hbsl : other.length ≤ 140737488355) :
    Ans cfg 15 [.agg [.int .i64 0, .osl [], .osl (prows []), .int .i64 0, .int .i64 0], .int .i64 at_, .osl other]
      (.tup [.agg [.int .i64 (putW 0 [] [] 0 0 at_ other).base, .osl (putW 0 [] [] 0 0 at_ other).b, .osl (prows (putW 0 [] [] 0 0 at_ other).l), .int .i64 (putW 0 [] [] 0 0 at_ other).cap, .int .i64 (putW 0 [] [] 0 0 at_ other).end_], .int .i64 0, .int .i64 (putK 0 [] [] 0 0 at_ other)]) :=
  (pput_ok 0 0 0 at_ [] other [] IsB.nil hbs (by simp) (by simp) hbsl).to rfl (by rw [none_M])

/-! ### The shapes -/
abbrev shWv : Sh := .parts [.int .i64, .slice (.int .u8) false, .slice shSpn true, .int .i64, .int .i64]
theorem hasWv {l : List AV} (h : Has shWv l) : ∃ base b q cap end_, l = [.int .i64 base, .osl b, .osl (prows q), .int .i64 cap, .int .i64 end_] ∧ IsB b ∧ b.length ≤ 9223372036854775807 ∧ q.length ≤ 9223372036854775807 := by
  obtain ⟨a, r, rfl, h0, h⟩ := hasCons h
  obtain ⟨b, r, rfl, h1, h⟩ := hasCons h
  obtain ⟨c, r, rfl, h2, h⟩ := hasCons h
  obtain ⟨d, r, rfl, h3, h⟩ := hasCons h
  obtain ⟨e, r, rfl, h4, h⟩ := hasCons h
  obtain rfl := hasNil h
  obtain ⟨base, rfl, w0⟩ := hasI64 h0
  obtain ⟨xs, rfl, hl, hx⟩ := hasBytes h1
  obtain ⟨q, rfl, hq, _⟩ := hasSpns h2
  obtain ⟨cap, rfl, w2⟩ := hasI64 h3
  obtain ⟨end_, rfl, w3⟩ := hasI64 h4
  exact ⟨base, xs, q, cap, end_, rfl, hx, hl, hq⟩
theorem sh_wv : shOf Try.prog 4 25 = some shWv := by kernel_rfl
theorem sh_bytes : shOf Try.prog 4 22 = some (.slice (.int .u8) false) := by kernel_rfl
end Vai.L06
